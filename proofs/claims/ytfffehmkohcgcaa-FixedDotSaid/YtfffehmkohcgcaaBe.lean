/- Texts LawA LawB LawC LawD, in this order. -/
import Derived.Test.YtfffehmkohcgcaaBd
namespace Go.Proofs.Ytfffehmkohcgcaa
open Go.RowKit Nt

theorem limbs_single {x : Nat} (h0 : 0 < x) (h : x < 4294967296) : limbs x = [x] := by
  rw [limbs_pos h0, Nat.mod_eq_of_lt h, Nat.div_eq_of_lt h, limbs_zero]

theorem same_single {x y : Nat} (h0 : 0 < x) (h : x < 4294967296) (he : x = y) : same (limbs x) [y] = true := by
  rw [limbs_single h0 h, he]; simp [same]

/-- A literal slice behind further new blocks. -/
theorem Sl.alloc {w : World} {v : Value} {xs : List Nat} (h : Sl w v xs) (o : Obj) : Sl (w.alloc o) v xs := h.below ((Below.refl _ _).alloc (Nat.le_refl _) o)

abbrev b1 (x : Int) : Obj := .cells #[.int .u32 x] 99
abbrev b2 (x y : Int) : Obj := .cells #[.int .u32 x, .int .u32 y] 99
abbrev b3 (x y z : Int) : Obj := .cells #[.int .u32 x, .int .u32 y, .int .u32 z] 99

theorem below2 {w w' : World} {o p : Obj} (h : Below ((w.alloc o).alloc p).heap.size ((w.alloc o).alloc p) w') : Below w.heap.size w w' :=
  (((Below.refl _ _).alloc (Nat.le_refl _) o).alloc (by simp) p).trans (h.mono (by simp; omega))
theorem below1 {w w' : World} {o : Obj} (h : Below (w.alloc o).heap.size (w.alloc o) w') : Below w.heap.size w w' :=
  ((Below.refl _ _).alloc (Nat.le_refl _) o).trans (h.mono (by simp))

theorem sub_ex (w : World) : Calls Try.prog 81 #[.slice (some ⟨w.heap.size, 0, none⟩) 2 2, .slice (some ⟨w.heap.size + 1, 0, none⟩) 1 1]
   ((w.alloc (b2 0 1)).alloc (b1 1)) (Ret w (NumE 4294967295 0)) := by
  have hA := (sl_two w 99 0 1 (by decide) (by decide)).alloc (b1 1)
  have hB := sl_one (w.alloc (b2 0 1)) 99 1 (by decide)
  rw [World.size_alloc] at hB
  refine (sub_any _ _ _ _ _ hA hB (by decide)).mono ?_
  rintro e w' ⟨v, rfl, hn, hb⟩
  exact ⟨v, rfl, hn, below2 hb⟩

theorem dm_ex (w : World) : Calls Try.prog 79 #[.slice (some ⟨w.heap.size, 0, none⟩) 3 3, .slice (some ⟨w.heap.size + 1, 0, none⟩) 2 2]
   ((w.alloc (b3 0 0 1)).alloc (b2 1 1)) (Ret w (Num2E 4294967295 1 0)) := by
  have hA := (sl_three w 99 0 0 1 (by decide) (by decide) (by decide)).alloc (b2 1 1)
  have hB := sl_two (w.alloc (b3 0 0 1)) 99 1 1 (by decide) (by decide)
  rw [World.size_alloc] at hB
  refine (divmod_any _ _ _ _ _ hA hB (by decide)).mono ?_
  rintro e w' ⟨v, rfl, hn, hb⟩
  rw [show val [Int.toNat 0, Int.toNat 0, Int.toNat 1] / val [Int.toNat 1, Int.toNat 1] = 4294967295 by decide,
    show dmR (val [Int.toNat 0, Int.toNat 0, Int.toNat 1]) (val [Int.toNat 1, Int.toNat 1]) = 1 by decide,
    show dmE (val [Int.toNat 1, Int.toNat 1]) = 0 by decide] at hn
  exact ⟨v, rfl, hn, below2 hb⟩

theorem of12_ex (w : World) : Calls Try.prog 78 #[.int .u64 12] w (Ret w (Num 12)) := of_any 12 w (by decide)
theorem of18_ex (w : World) : Calls Try.prog 78 #[.int .u64 18] w (Ret w (Num 18)) := of_any 18 w (by decide)

theorem gcd_ex (u v : Value) (w : World) (hu : Num 12 w u) (hv : Num 18 w v) : Calls Try.prog 89 #[u, v] w (Ret w (Num 6)) := by
  have h12 : limbs 12 = [12] := limbs_single (by decide) (by decide)
  have h18 : limbs 18 = [18] := limbs_single (by decide) (by decide)
  unfold Num at hu hv
  rw [h12] at hu
  rw [h18] at hv
  refine (gcd_any _ _ _ _ _ hu hv (by decide) (by decide)).mono ?_
  rintro e w' ⟨v, rfl, hn, hb⟩
  have he : Nat.gcd (val [12]) (val [18]) = 6 := by decide
  rw [he] at hn
  exact ⟨v, rfl, hn, hb⟩

theorem same_ex (x : Int) (n : Nat) (v : Value) (w : World) (hx : 0 < x ∧ x < 4294967296) (he : n = x.toNat) (h : Num n w v) :
    Calls Try.prog 76 #[v, .slice (some ⟨w.heap.size, 0, none⟩) 1 1] (w.alloc (b1 x)) (Ret w (Val (.bool true))) := by
  have hB := sl_one w 99 x (by omega)
  refine (same_any _ _ _ _ _ (Sl.alloc h _) hB).mono ?_
  rintro e w' ⟨v, rfl, hn, hb⟩
  rw [same_single (by omega) (by omega) he] at hn
  exact ⟨v, rfl, hn, below1 hb⟩

theorem bits_ex (w : World) : Calls Try.prog 83 #[.slice (some ⟨w.heap.size, 0, none⟩) 2 2]
   (w.alloc (b2 0 1)) (Ret w (Val (.int .i64 33))) := by
  have hB := sl_two w 99 0 1 (by decide) (by decide)
  refine (bits_any _ _ _ hB (by decide)).mono ?_
  rintro e w' ⟨v, rfl, hn, hb⟩
  rw [show blen (val [Int.toNat 0, Int.toNat 1]) = 33 by decide +kernel] at hn
  exact ⟨v, rfl, hn, below1 hb⟩

def Nil (_ : World) (v : Value) : Prop := ∃ a c, v = .slice a 0 c

theorem make_ex (w : World) : Calls Try.prog 87 #[.slice (some ⟨w.heap.size, 0, none⟩) 2 2]
   (w.alloc (b2 0 0)) (Ret w Nil) := by
  have hB := sl_two w 99 0 0 (by decide) (by decide)
  refine (make_any _ _ _ hB).mono ?_
  rintro e w' ⟨v, rfl, hn, hb⟩
  unfold Num at hn
  rw [show val [Int.toNat 0, Int.toNat 0] = 0 by decide, limbs_zero] at hn
  obtain ⟨ad, n, cap, rfl, hn, -⟩ := hn
  have hn0 : n = 0 := by simpa using hn.symm
  subst hn0
  exact ⟨_, rfl, ⟨_, _, rfl⟩, below1 hb⟩

end Go.Proofs.Ytfffehmkohcgcaa
namespace Go.Proofs.Ytfffehmkohcgcaa
open Go.RowKit Nt

/-- A number in any form, of at most L limbs. -/
def Is (n L : Nat) (w : World) (v : Value) : Prop := ∃ xs, Sl w v xs ∧ val xs = n ∧ xs.length ≤ L
/-- A number in its canonical form, of at most L limbs. -/
def Can (n L : Nat) (w : World) (v : Value) : Prop := Num n w v ∧ sz n ≤ L
def CanE (n L : Nat) (err : Int) (w : World) (v : Value) : Prop := ∃ a, v = .tuple #[a, .int .i64 err] ∧ Can n L w a
def Can2E (n m L M : Nat) (err : Int) (w : World) (v : Value) : Prop := ∃ a b, v = .tuple #[a, b, .int .i64 err] ∧ Can n L w a ∧ Can m M w b

theorem Is.below {n L : Nat} {w w' : World} {v : Value} (h : Is n L w v) (hb : Below w.heap.size w w') : Is n L w' v :=
  let ⟨xs, h1, h2, h3⟩ := h; ⟨xs, h1.below hb, h2, h3⟩
theorem Can.below {n L : Nat} {w w' : World} {v : Value} (h : Can n L w v) (hb : Below w.heap.size w w') : Can n L w' v := ⟨Sl.below h.1 hb, h.2⟩
theorem Can.is {n L : Nat} {w : World} {v : Value} (h : Can n L w v) : Is n L w v := ⟨limbs n, h.1, val_limbs n, h.2⟩
theorem Can.mono {n L M : Nat} {w : World} {v : Value} (h : Can n L w v) (hl : L ≤ M) : Can n M w v := ⟨h.1, Nat.le_trans h.2 hl⟩
theorem Is.mono {n L M : Nat} {w : World} {v : Value} (h : Is n L w v) (hl : L ≤ M) : Is n M w v := let ⟨xs, h1, h2, h3⟩ := h; ⟨xs, h1, h2, Nat.le_trans h3 hl⟩
theorem Is.sz_le {n L : Nat} {w : World} {v : Value} (h : Is n L w v) : sz n ≤ L := by
  obtain ⟨xs, ⟨_, _, _, _, _, _, _, hl, _⟩, rfl, h3⟩ := h
  exact Nat.le_trans (sz_val hl) h3

theorem make_is {a L : Nat} {u : Value} {w : World} (h : Is a L w u) : Calls Try.prog 87 #[u] w (Ret w (Can a L)) := by
  have hs := h.sz_le
  obtain ⟨xs, h, rfl, hl⟩ := h
  refine (make_any _ _ _ h).mono ?_
  rintro e w' ⟨v, rfl, hn, hb⟩
  exact ⟨v, rfl, ⟨hn, hs⟩, hb⟩
theorem rmake_is {a L : Nat} {u : Value} {w : World} (h : Is a L w u) : Calls Try.prog 97 #[u] w (Ret w (Can a L)) := by
  have hs := h.sz_le
  obtain ⟨xs, h, rfl, hl⟩ := h
  refine (rmake_any _ _ _ h).mono ?_
  rintro e w' ⟨v, rfl, hn, hb⟩
  exact ⟨v, rfl, ⟨hn, hs⟩, hb⟩
theorem add_is {a b L M : Nat} {u v : Value} {w : World} (h : Is a L w u) (h' : Is b M w v) (hL : L ≤ 4294967296) (hM : M ≤ 4294967296) :
    Calls Try.prog 80 #[u, v] w (Ret w (Can (a + b) (max L M + 1))) := by
  have hs := h.sz_le
  have hs' := h'.sz_le
  obtain ⟨xs, h, rfl, hl⟩ := h
  obtain ⟨ys, h', rfl, hl'⟩ := h'
  refine (add_any _ _ _ _ _ h h' (by omega) (by omega)).mono ?_
  rintro e w' ⟨v, rfl, hn, hb⟩
  exact ⟨v, rfl, ⟨hn, Nat.le_trans (sz_add _ _) (by omega)⟩, hb⟩
theorem radd_is {a b L M : Nat} {u v : Value} {w : World} (h : Is a L w u) (h' : Is b M w v) (hL : L ≤ 4294967296) (hM : M ≤ 4294967296) :
    Calls Try.prog 98 #[u, v] w (Ret w (Can (a + b) (max L M + 1))) := by
  have hs := h.sz_le
  have hs' := h'.sz_le
  obtain ⟨xs, h, rfl, hl⟩ := h
  obtain ⟨ys, h', rfl, hl'⟩ := h'
  refine (radd_any _ _ _ _ _ h h' (by omega) (by omega)).mono ?_
  rintro e w' ⟨v, rfl, hn, hb⟩
  exact ⟨v, rfl, ⟨hn, Nat.le_trans (sz_add _ _) (by omega)⟩, hb⟩
theorem mul_is {a b L M : Nat} {u v : Value} {w : World} (h : Is a L w u) (h' : Is b M w v) (hL : L ≤ 4294967296) (hM : M ≤ 4294967296) :
    Calls Try.prog 63 #[u, v] w (Ret w (Can (a * b) (L + M))) := by
  have hs := h.sz_le
  have hs' := h'.sz_le
  obtain ⟨xs, h, rfl, hl⟩ := h
  obtain ⟨ys, h', rfl, hl'⟩ := h'
  refine (mul_any _ _ _ _ _ h h' (by omega) (by omega)).mono ?_
  rintro e w' ⟨v, rfl, hn, hb⟩
  exact ⟨v, rfl, ⟨hn, Nat.le_trans (sz_mul _ _) (by omega)⟩, hb⟩
theorem rmul_is {a b L M : Nat} {u v : Value} {w : World} (h : Is a L w u) (h' : Is b M w v) (hL : L ≤ 4294967296) (hM : M ≤ 4294967296) :
    Calls Try.prog 68 #[u, v] w (Ret w (Can (a * b) (L + M))) := by
  have hs := h.sz_le
  have hs' := h'.sz_le
  obtain ⟨xs, h, rfl, hl⟩ := h
  obtain ⟨ys, h', rfl, hl'⟩ := h'
  refine (rmul_any _ _ _ _ _ h h' (by omega) (by omega)).mono ?_
  rintro e w' ⟨v, rfl, hn, hb⟩
  exact ⟨v, rfl, ⟨hn, Nat.le_trans (sz_mul _ _) (by omega)⟩, hb⟩
theorem sub_is {a b L M : Nat} {u v : Value} {w : World} (h : Is a L w u) (h' : Is b M w v) (hL : L ≤ 4294967296) :
    Calls Try.prog 81 #[u, v] w (Ret w (CanE (a - b) L (subErr a b))) := by
  have hs := h.sz_le
  obtain ⟨xs, h, rfl, hl⟩ := h
  obtain ⟨ys, h', rfl, hl'⟩ := h'
  refine (sub_any _ _ _ _ _ h h' (by omega)).mono ?_
  rintro e w' ⟨v, rfl, ⟨d, rfl, hn⟩, hb⟩
  exact ⟨_, rfl, ⟨_, rfl, hn, Nat.le_trans (sz_sub _ _) hs⟩, hb⟩
theorem rsub_is {a b L M : Nat} {u v : Value} {w : World} (h : Is a L w u) (h' : Is b M w v) (hL : L ≤ 4294967296) :
    Calls Try.prog 99 #[u, v] w (Ret w (CanE (a - b) L (subErr a b))) := by
  have hs := h.sz_le
  obtain ⟨xs, h, rfl, hl⟩ := h
  obtain ⟨ys, h', rfl, hl'⟩ := h'
  refine (rsub_any _ _ _ _ _ h h' (by omega)).mono ?_
  rintro e w' ⟨v, rfl, ⟨d, rfl, hn⟩, hb⟩
  exact ⟨_, rfl, ⟨_, rfl, hn, Nat.le_trans (sz_sub _ _) hs⟩, hb⟩
theorem dmR_le (a b : Nat) : dmR a b ≤ a := by unfold dmR; split; omega; exact Nat.mod_le _ _
theorem divmod_is {a b L M : Nat} {u v : Value} {w : World} (h : Is a L w u) (h' : Is b M w v) (hL : L ≤ 4294967296) :
    Calls Try.prog 79 #[u, v] w (Ret w (Can2E (a / b) (dmR a b) L L (dmE b))) := by
  have hs := h.sz_le
  obtain ⟨xs, h, rfl, hl⟩ := h
  obtain ⟨ys, h', rfl, hl'⟩ := h'
  refine (divmod_any _ _ _ _ _ h h' (by omega)).mono ?_
  rintro e w' ⟨v, rfl, ⟨q, r, rfl, hn, hm⟩, hb⟩
  exact ⟨_, rfl, ⟨_, _, rfl, ⟨hn, Nat.le_trans (sz_div _ _) hs⟩, hm, Nat.le_trans (sz_mono (dmR_le _ _)) hs⟩, hb⟩
theorem cmp_is {a b L M : Nat} {u v : Value} {w : World} (k : Int) (h : Is a L w u) (h' : Is b M w v) (hk : cmpN a b = k) :
    Calls Try.prog 86 #[u, v] w (Ret w (Val (.int .i64 k))) := by
  obtain ⟨xs, h, rfl, hl⟩ := h
  obtain ⟨ys, h', rfl, hl'⟩ := h'
  rw [← hk]
  exact cmp_any _ _ _ _ _ h h'
theorem rcmp_is {a b L M : Nat} {u v : Value} {w : World} (k : Int) (h : Is a L w u) (h' : Is b M w v) (hk : cmpN a b = k) :
    Calls Try.prog 114 #[u, v] w (Ret w (Val (.int .i64 k))) := by
  obtain ⟨xs, h, rfl, hl⟩ := h
  obtain ⟨ys, h', rfl, hl'⟩ := h'
  rw [← hk]
  exact rcmp_any _ _ _ _ _ h h'
theorem gcd_is {a b L M : Nat} {u v : Value} {w : World} (h : Is a L w u) (h' : Is b M w v) (hL : L ≤ 4294967296) (hM : M ≤ 4294967296) :
    Calls Try.prog 89 #[u, v] w (Ret w (Num (Nat.gcd a b))) := by
  obtain ⟨xs, h, rfl, hl⟩ := h
  obtain ⟨ys, h', rfl, hl'⟩ := h'
  exact gcd_any _ _ _ _ _ h h' (by omega) (by omega)
theorem rgcd_is {a b L M : Nat} {u v : Value} {w : World} (h : Is a L w u) (h' : Is b M w v) (hL : L ≤ 2147483648) (hM : M ≤ 2147483648) :
    Calls Try.prog 94 #[u, v] w (Ret w (Num (Nat.gcd a b))) := by
  obtain ⟨xs, h, rfl, hl⟩ := h
  obtain ⟨ys, h', rfl, hl'⟩ := h'
  exact rgcd_any _ _ _ _ _ h h' (by omega) (by omega)
theorem same_can {a b L M : Nat} {u v : Value} {w : World} (h : Can a L w u) (h' : Can b M w v) (he : a = b) :
    Calls Try.prog 76 #[u, v] w (Ret w (Val (.bool true))) := by
  subst he
  have := same_any _ _ _ _ _ h.1 h'.1
  rwa [show same (limbs a) (limbs a) = true by simp [same]] at this
/-- A slice that came in, of at most 12 limbs (or any bound up to 2^40), reads as a number. -/
theorem wf_u32 {n : Int} (h : (Lit.int .u32 n).wf = true) : 0 ≤ n ∧ n < 4294967296 := by
  simp [Lit.wf, IntKind.min, IntKind.max, IntKind.signed, IntKind.bits] at h
  omega

theorem is_of_row {a : Option Addr} {n c : Nat} {zs : List Int} {w : World} (hn : n ≤ 1099511627776)
    (h : (a = none ∧ n = 0 ∧ c = 0 ∧ zs = []) ∨
      ∃ x, a = some x ∧ n ≤ c ∧ c ≤ maxLen ∧ zs.length = c ∧ (∀ i, i < zs.length → w.cell? (x.add i) = some (.int .u32 (zs.getD i 0))) ∧ ∀ n ∈ zs, (Lit.int .u32 n).wf = true) :
    ∃ xs, Sl w (.slice a n c) xs ∧ xs.length = n := by
  rcases h with ⟨rfl, rfl, rfl, -⟩ | ⟨x, rfl, hnc, -, hl, hc, hw⟩
  · exact ⟨[], ⟨_, _, _, rfl, rfl, Nat.le_refl _, hn, lims_nil, fun h => absurd h (by decide)⟩, rfl⟩
  · have hlen : ((zs.take n).map Int.toNat).length = n := by simp; omega
    refine ⟨(zs.take n).map Int.toNat, ⟨_, _, _, rfl, hlen, hnc, hn, ?_, ?_⟩, hlen⟩
    · intro y hy
      obtain ⟨z, hz, rfl⟩ := List.mem_map.1 hy
      have := wf_u32 (hw z (List.mem_of_mem_take hz))
      omega
    · intro h0
      have c0 := hc 0 (by omega)
      rw [show x.add 0 = x by rfl] at c0
      obtain ⟨bl, off, spot⟩ := x
      have hs : spot = none := by
        unfold World.cell? at c0
        split at c0
        · split at c0
          · cases c0
          · next h => simpa using h
        · cases c0
      subst hs
      refine ⟨bl, off, rfl, ?_, ?_⟩
      · by_cases hb : bl < w.heap.size
        · exact hb
        · exfalso
          unfold World.cell? at c0
          rw [show w.heap[bl]? = none by simpa using hb] at c0
          cases c0
      · intro i hi
        have hci := hc i (by omega)
        have hg : zs.getD i 0 ∈ zs := by
          rw [List.getD_eq_getElem?_getD, List.getElem?_eq_getElem (by omega)]
          exact List.getElem_mem _
        have hwz := wf_u32 (hw _ hg)
        have he : ((((zs.take n).map Int.toNat).getD i 0 : Nat) : Int) = zs.getD i 0 := by
          have : ((zs.take n).map Int.toNat).getD i 0 = (zs.getD i 0).toNat := by
            simp [List.getD, hi, List.getElem?_map]
            cases zs[i]? <;> rfl
          rw [this]; omega
        rw [he, ← hci]
        congr 1
        unfold Addr.add
        split
        · next h => subst h; rfl
        · rfl

/-- A slice that came in: it reads as limbs where it is not too long. -/
def Row (w : World) (v : Value) (n : Nat) : Prop := n ≤ 1099511627776 → ∃ xs, Sl w v xs ∧ xs.length = n
theorem Row.is {w : World} {v : Value} {n : Nat} (h : Row w v n) (L : Nat) (hn : n ≤ L) (hL : L ≤ 1099511627776) : ∃ X, Is X L w v := by
  obtain ⟨xs, h1, h2⟩ := h (by omega)
  exact ⟨_, xs, h1, rfl, by omega⟩
theorem ret_post {w : World} {e : Ending} {w' : World} (h : Ret w (Val (.bool true)) e w') : e = .returned (.bool true) ∧ Below w.heap.size w w' := by
  obtain ⟨v, rfl, rfl, hb⟩ := h
  exact ⟨rfl, hb⟩
end Go.Proofs.Ytfffehmkohcgcaa
namespace Go.Proofs.Ytfffehmkohcgcaa
open Go.RowKit Nt

theorem sub_is2 {a b L M : Nat} {u v : Value} {w : World} {e : Int} (he : subErr a b = e) (h : Is a L w u) (h' : Is b M w v) (hL : L ≤ 4294967296) :
    Calls Try.prog 81 #[u, v] w (Ret w (CanE (a - b) L e)) := by rw [← he]; exact sub_is h h' hL
theorem rsub_is2 {a b L M : Nat} {u v : Value} {w : World} {e : Int} (he : subErr a b = e) (h : Is a L w u) (h' : Is b M w v) (hL : L ≤ 4294967296) :
    Calls Try.prog 99 #[u, v] w (Ret w (CanE (a - b) L e)) := by rw [← he]; exact rsub_is h h' hL

end Go.Proofs.Ytfffehmkohcgcaa
namespace Go.Proofs.Ytfffehmkohcgcaa
open Go.RowKit Nt

theorem divmod_pos {a b L M : Nat} {u v : Value} {w : World} (hb : 0 < b) (h : Is a L w u) (h' : Is b M w v) (hL : L ≤ 4294967296) :
    Calls Try.prog 79 #[u, v] w (Ret w (Can2E (a / b) (a % b) L L 0)) := by
  have := divmod_is h h' hL
  rwa [dmR_pos hb, dmE_pos hb] at this
theorem nil_of_zero {w : World} {v : Value} {L : Nat} (h : Can 0 L w v) : ∃ a c, v = .slice a 0 c := by
  obtain ⟨⟨ad, n, cap, rfl, hn, -⟩, -⟩ := h
  rw [limbs_zero] at hn
  have hn0 : n = 0 := by simpa using hn.symm
  subst hn0
  exact ⟨_, _, rfl⟩
def Nil2 (_ : World) (v : Value) : Prop := ∃ a c a' c', v = .tuple #[.slice a 0 c, .slice a' 0 c', .int .i64 3]
theorem divmod_zero {a b L M : Nat} {u v : Value} {w : World} (hb : b = 0) (h : Is a L w u) (h' : Is b M w v) (hL : L ≤ 4294967296) :
    Calls Try.prog 79 #[u, v] w (Ret w Nil2) := by
  subst hb
  have := divmod_is h h' hL
  rw [Nat.div_zero, show dmR a 0 = 0 from rfl, show dmE 0 = 3 from rfl] at this
  refine this.mono ?_
  rintro e w' ⟨v, rfl, ⟨q, r, rfl, hq, hr⟩, hb⟩
  obtain ⟨a1, c1, rfl⟩ := nil_of_zero hq
  obtain ⟨a2, c2, rfl⟩ := nil_of_zero hr
  exact ⟨_, rfl, ⟨_, _, _, _, rfl⟩, hb⟩
theorem rmake_nil {a L : Nat} {u : Value} {w : World} (ha : a = 0) (h : Is a L w u) : Calls Try.prog 97 #[u] w (Ret w Nil) := by
  subst ha
  refine (rmake_is h).mono ?_
  rintro e w' ⟨v, rfl, hn, hb⟩
  exact ⟨_, rfl, nil_of_zero hn, hb⟩
def Some (_ : World) (v : Value) : Prop := ∃ a n c, v = .slice a n c ∧ 0 < n
theorem rmake_pos {a L : Nat} {u : Value} {w : World} (ha : 0 < a) (h : Is a L w u) : Calls Try.prog 97 #[u] w (Ret w Some) := by
  refine (rmake_is h).mono ?_
  rintro e w' ⟨v, rfl, ⟨⟨ad, n, cap, rfl, hn, -⟩, -⟩, hb⟩
  have := sz_pos ha
  unfold sz at this
  exact ⟨_, rfl, ⟨_, _, _, rfl, by omega⟩, hb⟩
theorem gcd_le (a b : Nat) : Nat.gcd a b ≤ max a b := by
  rcases Nat.eq_zero_or_pos a with rfl | h
  · simp
  · have := Nat.gcd_le_left b h
    omega
theorem sz_gcd {a b L M : Nat} (ha : sz a ≤ L) (hb : sz b ≤ M) : sz (Nat.gcd a b) ≤ max L M := by
  have h := sz_mono (gcd_le a b)
  rcases Nat.le_total a b with hab | hab
  · rw [Nat.max_eq_right hab] at h; omega
  · rw [Nat.max_eq_left hab] at h; omega
theorem gcd_can {a b L M : Nat} {u v : Value} {w : World} (h : Is a L w u) (h' : Is b M w v) (hL : L ≤ 2147483648) (hM : M ≤ 2147483648) :
    Calls Try.prog 89 #[u, v] w (Ret w (Can (Nat.gcd a b) (max L M))) := by
  have hs := sz_gcd h.sz_le h'.sz_le
  refine (gcd_is h h' (by omega) (by omega)).mono ?_
  rintro e w' ⟨v, rfl, hn, hb⟩
  exact ⟨_, rfl, ⟨hn, hs⟩, hb⟩
theorem rgcd_can {a b L M : Nat} {u v : Value} {w : World} (h : Is a L w u) (h' : Is b M w v) (hL : L ≤ 2147483648) (hM : M ≤ 2147483648) :
    Calls Try.prog 94 #[u, v] w (Ret w (Can (Nat.gcd a b) (max L M))) := by
  have hs := sz_gcd h.sz_le h'.sz_le
  refine (rgcd_is h h' hL hM).mono ?_
  rintro e w' ⟨v, rfl, hn, hb⟩
  exact ⟨_, rfl, ⟨hn, hs⟩, hb⟩
theorem rmake_one (x : Int) (hx : 0 ≤ x ∧ x < 4294967296) (w : World) : Calls Try.prog 97 #[.slice (some ⟨w.heap.size, 0, none⟩) 1 1] (w.alloc (b1 x)) (Ret w (Can x.toNat 1)) := by
  have hB := sl_one w 99 x hx
  have hs : Is x.toNat 1 (w.alloc (b1 x)) (.slice (some ⟨w.heap.size, 0, none⟩) 1 1) := ⟨_, hB, by simp [val], by simp⟩
  refine (rmake_is hs).mono ?_
  rintro e w' ⟨v, rfl, hn, hb⟩
  exact ⟨_, rfl, hn, below1 hb⟩

theorem sz_pow {m : Nat} (h : m ≤ 300) : sz (2 ^ m) ≤ 10 := by
  apply sz_le
  calc 2 ^ m ≤ 2 ^ 300 := Nat.pow_le_pow_right (by decide) h
    _ < 4294967296 ^ 10 := by decide +kernel
theorem shr_good {a L m : Nat} {u : Value} {w : World} (hm : m ≤ 300) (h : Is a L w u) (hL : L ≤ 4294967296) :
    Calls Try.prog 105 #[u, .int .i64 (m : Int)] w (Ret w (CanE (a / 2 ^ m) L 0)) := by
  have hs := h.sz_le
  obtain ⟨xs, h, rfl, hl⟩ := h
  have := shr_any _ _ (m : Int) _ h (by omega)
  rw [shiftErr_yes (by omega), shrN_yes (by omega)] at this
  refine this.mono ?_
  rintro e w' ⟨v, rfl, ⟨d, rfl, hn⟩, hb⟩
  exact ⟨_, rfl, ⟨_, rfl, hn, Nat.le_trans (sz_div _ _) hs⟩, hb⟩
theorem shr_bad {a L : Nat} {k : Int} {u : Value} {w : World} (hk : k < 0 ∨ 1048576 < k) (h : Is a L w u) (hL : L ≤ 4294967296) :
    Calls Try.prog 105 #[u, .int .i64 k] w (Ret w (CanE 0 0 2)) := by
  obtain ⟨xs, h, rfl, hl⟩ := h
  have := shr_any _ _ k _ h (by omega)
  rw [shiftErr_no hk, shrN_no hk] at this
  refine this.mono ?_
  rintro e w' ⟨v, rfl, ⟨d, rfl, hn⟩, hb⟩
  exact ⟨_, rfl, ⟨_, rfl, hn, by rw [sz_zero]; exact Nat.le_refl _⟩, hb⟩
theorem make_sl {xs : List Nat} {L : Nat} {u : Value} {w : World} (h : Sl w u xs) (hL : xs.length ≤ L) : Calls Try.prog 87 #[u] w (Ret w (Can (val xs) L)) := make_is ⟨xs, h, rfl, hL⟩
theorem rmake_sl {xs : List Nat} {L : Nat} {u : Value} {w : World} (h : Sl w u xs) (hL : xs.length ≤ L) : Calls Try.prog 97 #[u] w (Ret w (Can (val xs) L)) := rmake_is ⟨xs, h, rfl, hL⟩
theorem uint_sl {xs : List Nat} {B : Bool} {U : Int} {u : Value} {w : World} (hU : ((uintN (val xs) : Nat) : Int) = U) (hB : uintB (val xs) = B) (h : Sl w u xs) :
    Calls Try.prog 65 #[u] w (Ret w (Val (.tuple #[.int .u64 U, .bool B]))) := by rw [← hB, ← hU]; exact uint_any _ _ _ h
theorem ruint_sl {xs : List Nat} {B : Bool} {U : Int} {u : Value} {w : World} (hU : ((uintN (val xs) : Nat) : Int) = U) (hB : uintB (val xs) = B) (h : Sl w u xs) :
    Calls Try.prog 111 #[u] w (Ret w (Val (.tuple #[.int .u64 U, .bool B]))) := by rw [← hB, ← hU]; exact ruint_any _ _ _ h
theorem bits_sl {xs : List Nat} {U : Int} {u : Value} {w : World} (hU : ((blen (val xs) : Nat) : Int) = U) (h : Sl w u xs) (hL : xs.length ≤ 40) :
    Calls Try.prog 83 #[u] w (Ret w (Val (.int .i64 U))) := by rw [← hU]; exact bits_any _ _ _ h (by omega)
theorem rbits_sl {xs : List Nat} {U : Int} {u : Value} {w : World} (hU : ((blen (val xs) : Nat) : Int) = U) (h : Sl w u xs) (hL : xs.length ≤ 40) :
    Calls Try.prog 112 #[u] w (Ret w (Val (.int .i64 U))) := by rw [← hU]; exact rbits_any _ _ _ h (by omega)
theorem of_can {x : Nat} {w : World} (hx : x < 18446744073709551616) : Calls Try.prog 78 #[.int .u64 (x : Int)] w (Ret w (Can x 2)) := by
  refine (of_any x w hx).mono ?_
  rintro e w' ⟨v, rfl, hn, hb⟩
  exact ⟨_, rfl, ⟨hn, sz_le (by simpa using hx)⟩, hb⟩
theorem rof_can {x : Nat} {w : World} (hx : x < 18446744073709551616) : Calls Try.prog 75 #[.int .u64 (x : Int)] w (Ret w (Can x 2)) := by
  refine (rof_any x w hx).mono ?_
  rintro e w' ⟨v, rfl, hn, hb⟩
  exact ⟨_, rfl, ⟨hn, sz_le (by simpa using hx)⟩, hb⟩
theorem uint_can {x L : Nat} {u : Value} {w : World} (hx : x < 18446744073709551616) (h : Can x L w u) :
    Calls Try.prog 65 #[u] w (Ret w (Val (.tuple #[.int .u64 (x : Int), .bool true]))) :=
  uint_sl (by rw [val_limbs]; simp [uintN, hx]) (by rw [val_limbs]; simp [uintB, hx]) h.1
end Go.Proofs.Ytfffehmkohcgcaa
