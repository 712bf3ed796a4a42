/- The contracts of packages natural and relucertref01 once more, in words that carry a bound of the length; few. -/
import Derived.Test.YtfkjhaniglmejaaLawA
namespace Go.Proofs.Ytfkjhaniglmejaa
open Go.RowKit Nt

/-- A number in any form, of at most L limbs. -/
def Is (n L : Nat) (w : World) (v : Value) : Prop := ∃ xs, Sl w v xs ∧ val xs = n ∧ xs.length ≤ L
/-- A number in its canonical form, of at most L limbs. -/
def Can (n L : Nat) (w : World) (v : Value) : Prop := Num n w v ∧ sz n ≤ L
def CanE (n L : Nat) (err : Int) (w : World) (v : Value) : Prop := ∃ a, v = .tuple #[a, .int .i64 err] ∧ Can n L w a
def Can2E (n m L M : Nat) (err : Int) (w : World) (v : Value) : Prop := ∃ a b, v = .tuple #[a, b, .int .i64 err] ∧ Can n L w a ∧ Can m M w b

theorem Is.below {n L : Nat} {w w' : World} {v : Value} (h : Is n L w v) (hb : Below w.heap.size w w') : Is n L w' v :=
  let ⟨xs, h1, h2, h3⟩ := h; ⟨xs, h1.below hb, h2, h3⟩
theorem Can.below {n L : Nat} {w w' : World} {v : Value} (h : Can n L w v) (hb : Below w.heap.size w w') : Can n L w' v := ⟨Sl.below h.1 hb, h.2⟩
theorem Can.is {n L : Nat} {w : World} {v : Value} (h : Can n L w v) : Is n L w v := ⟨limbs n, h.1, val_limbs n, h.2⟩
theorem Can.mono {n L M : Nat} {w : World} {v : Value} (h : Can n L w v) (hl : L ≤ M) : Can n M w v := ⟨h.1, Nat.le_trans h.2 hl⟩
theorem Is.mono {n L M : Nat} {w : World} {v : Value} (h : Is n L w v) (hl : L ≤ M) : Is n M w v := let ⟨xs, h1, h2, h3⟩ := h; ⟨xs, h1, h2, Nat.le_trans h3 hl⟩
theorem Is.sz_le {n L : Nat} {w : World} {v : Value} (h : Is n L w v) : sz n ≤ L := by
  obtain ⟨xs, ⟨_, _, _, _, _, _, _, hl, _⟩, rfl, h3⟩ := h
  exact Nat.le_trans (sz_val hl) h3

theorem make_is {a L : Nat} {u : Value} {w : World} (h : Is a L w u) : Calls Try.prog 77 #[u] w (Ret w (Can a L)) := by
  have hs := h.sz_le
  obtain ⟨xs, h, rfl, hl⟩ := h
  refine (make_any _ _ _ h).mono ?_
  rintro e w' ⟨v, rfl, hn, hb⟩
  exact ⟨v, rfl, ⟨hn, hs⟩, hb⟩
theorem rmake_is {a L : Nat} {u : Value} {w : World} (h : Is a L w u) : Calls Try.prog 91 #[u] w (Ret w (Can a L)) := by
  have hs := h.sz_le
  obtain ⟨xs, h, rfl, hl⟩ := h
  refine (rmake_any _ _ _ h).mono ?_
  rintro e w' ⟨v, rfl, hn, hb⟩
  exact ⟨v, rfl, ⟨hn, hs⟩, hb⟩
theorem add_is {a b L M : Nat} {u v : Value} {w : World} (h : Is a L w u) (h' : Is b M w v) (hL : L ≤ 4294967296) (hM : M ≤ 4294967296) :
    Calls Try.prog 83 #[u, v] w (Ret w (Can (a + b) (max L M + 1))) := by
  have hs := h.sz_le
  have hs' := h'.sz_le
  obtain ⟨xs, h, rfl, hl⟩ := h
  obtain ⟨ys, h', rfl, hl'⟩ := h'
  refine (add_any _ _ _ _ _ h h' (by omega) (by omega)).mono ?_
  rintro e w' ⟨v, rfl, hn, hb⟩
  exact ⟨v, rfl, ⟨hn, Nat.le_trans (sz_add _ _) (by omega)⟩, hb⟩
theorem radd_is {a b L M : Nat} {u v : Value} {w : World} (h : Is a L w u) (h' : Is b M w v) (hL : L ≤ 4294967296) (hM : M ≤ 4294967296) :
    Calls Try.prog 92 #[u, v] w (Ret w (Can (a + b) (max L M + 1))) := by
  have hs := h.sz_le
  have hs' := h'.sz_le
  obtain ⟨xs, h, rfl, hl⟩ := h
  obtain ⟨ys, h', rfl, hl'⟩ := h'
  refine (radd_any _ _ _ _ _ h h' (by omega) (by omega)).mono ?_
  rintro e w' ⟨v, rfl, hn, hb⟩
  exact ⟨v, rfl, ⟨hn, Nat.le_trans (sz_add _ _) (by omega)⟩, hb⟩
theorem mul_is {a b L M : Nat} {u v : Value} {w : World} (h : Is a L w u) (h' : Is b M w v) (hL : L ≤ 4294967296) (hM : M ≤ 4294967296) :
    Calls Try.prog 58 #[u, v] w (Ret w (Can (a * b) (L + M))) := by
  have hs := h.sz_le
  have hs' := h'.sz_le
  obtain ⟨xs, h, rfl, hl⟩ := h
  obtain ⟨ys, h', rfl, hl'⟩ := h'
  refine (mul_any _ _ _ _ _ h h' (by omega) (by omega)).mono ?_
  rintro e w' ⟨v, rfl, hn, hb⟩
  exact ⟨v, rfl, ⟨hn, Nat.le_trans (sz_mul _ _) (by omega)⟩, hb⟩
theorem rmul_is {a b L M : Nat} {u v : Value} {w : World} (h : Is a L w u) (h' : Is b M w v) (hL : L ≤ 4294967296) (hM : M ≤ 4294967296) :
    Calls Try.prog 60 #[u, v] w (Ret w (Can (a * b) (L + M))) := by
  have hs := h.sz_le
  have hs' := h'.sz_le
  obtain ⟨xs, h, rfl, hl⟩ := h
  obtain ⟨ys, h', rfl, hl'⟩ := h'
  refine (rmul_any _ _ _ _ _ h h' (by omega) (by omega)).mono ?_
  rintro e w' ⟨v, rfl, hn, hb⟩
  exact ⟨v, rfl, ⟨hn, Nat.le_trans (sz_mul _ _) (by omega)⟩, hb⟩
theorem sub_is {a b L M : Nat} {u v : Value} {w : World} (h : Is a L w u) (h' : Is b M w v) (hL : L ≤ 4294967296) :
    Calls Try.prog 84 #[u, v] w (Ret w (CanE (a - b) L (subErr a b))) := by
  have hs := h.sz_le
  obtain ⟨xs, h, rfl, hl⟩ := h
  obtain ⟨ys, h', rfl, hl'⟩ := h'
  refine (sub_any _ _ _ _ _ h h' (by omega)).mono ?_
  rintro e w' ⟨v, rfl, ⟨d, rfl, hn⟩, hb⟩
  exact ⟨_, rfl, ⟨_, rfl, hn, Nat.le_trans (sz_sub _ _) hs⟩, hb⟩
theorem rsub_is {a b L M : Nat} {u v : Value} {w : World} (h : Is a L w u) (h' : Is b M w v) (hL : L ≤ 4294967296) :
    Calls Try.prog 93 #[u, v] w (Ret w (CanE (a - b) L (subErr a b))) := by
  have hs := h.sz_le
  obtain ⟨xs, h, rfl, hl⟩ := h
  obtain ⟨ys, h', rfl, hl'⟩ := h'
  refine (rsub_any _ _ _ _ _ h h' (by omega)).mono ?_
  rintro e w' ⟨v, rfl, ⟨d, rfl, hn⟩, hb⟩
  exact ⟨_, rfl, ⟨_, rfl, hn, Nat.le_trans (sz_sub _ _) hs⟩, hb⟩
theorem dmR_le (a b : Nat) : dmR a b ≤ a := by unfold dmR; split; omega; exact Nat.mod_le _ _
theorem divmod_is {a b L M : Nat} {u v : Value} {w : World} (h : Is a L w u) (h' : Is b M w v) (hL : L ≤ 4294967296) :
    Calls Try.prog 87 #[u, v] w (Ret w (Can2E (a / b) (dmR a b) L L (dmE b))) := by
  have hs := h.sz_le
  obtain ⟨xs, h, rfl, hl⟩ := h
  obtain ⟨ys, h', rfl, hl'⟩ := h'
  refine (divmod_any _ _ _ _ _ h h' (by omega)).mono ?_
  rintro e w' ⟨v, rfl, ⟨q, r, rfl, hn, hm⟩, hb⟩
  exact ⟨_, rfl, ⟨_, _, rfl, ⟨hn, Nat.le_trans (sz_div _ _) hs⟩, hm, Nat.le_trans (sz_mono (dmR_le _ _)) hs⟩, hb⟩
theorem cmp_is {a b L M : Nat} {u v : Value} {w : World} (k : Int) (h : Is a L w u) (h' : Is b M w v) (hk : cmpN a b = k) :
    Calls Try.prog 76 #[u, v] w (Ret w (Val (.int .i64 k))) := by
  obtain ⟨xs, h, rfl, hl⟩ := h
  obtain ⟨ys, h', rfl, hl'⟩ := h'
  rw [← hk]
  exact cmp_any _ _ _ _ _ h h'
theorem rcmp_is {a b L M : Nat} {u v : Value} {w : World} (k : Int) (h : Is a L w u) (h' : Is b M w v) (hk : cmpN a b = k) :
    Calls Try.prog 28 #[u, v] w (Ret w (Val (.int .i64 k))) := by
  obtain ⟨xs, h, rfl, hl⟩ := h
  obtain ⟨ys, h', rfl, hl'⟩ := h'
  rw [← hk]
  exact rcmp_any _ _ _ _ _ h h'
theorem gcd_is {a b L M : Nat} {u v : Value} {w : World} (h : Is a L w u) (h' : Is b M w v) (hL : L ≤ 4294967296) (hM : M ≤ 4294967296) :
    Calls Try.prog 86 #[u, v] w (Ret w (Num (Nat.gcd a b))) := by
  obtain ⟨xs, h, rfl, hl⟩ := h
  obtain ⟨ys, h', rfl, hl'⟩ := h'
  exact gcd_any _ _ _ _ _ h h' (by omega) (by omega)
theorem rgcd_is {a b L M : Nat} {u v : Value} {w : World} (h : Is a L w u) (h' : Is b M w v) (hL : L ≤ 2147483648) (hM : M ≤ 2147483648) :
    Calls Try.prog 94 #[u, v] w (Ret w (Num (Nat.gcd a b))) := by
  obtain ⟨xs, h, rfl, hl⟩ := h
  obtain ⟨ys, h', rfl, hl'⟩ := h'
  exact rgcd_any _ _ _ _ _ h h' (by omega) (by omega)
theorem same_can {a b L M : Nat} {u v : Value} {w : World} (h : Can a L w u) (h' : Can b M w v) (he : a = b) :
    Calls Try.prog 47 #[u, v] w (Ret w (Val (.bool true))) := by
  subst he
  have := same_any _ _ _ _ _ h.1 h'.1
  rwa [show same (limbs a) (limbs a) = true by simp [same]] at this
theorem valid_can {a L : Nat} {u : Value} {w : World} (h : Can a L w u) : Calls Try.prog 75 #[u] w (Ret w (Val (.bool true))) := by
  have := valid_any _ _ _ h.1
  rwa [canon_limbs] at this

/-- A slice that came in, of at most 12 limbs (or any bound up to 2^40), reads as a number. -/
theorem wf_u32 {n : Int} (h : (Lit.int .u32 n).wf = true) : 0 ≤ n ∧ n < 4294967296 := by
  simp [Lit.wf, IntKind.min, IntKind.max, IntKind.signed, IntKind.bits] at h
  omega

theorem is_of_row {a : Option Addr} {n c : Nat} {zs : List Int} {w : World} (hn : n ≤ 1099511627776)
    (h : (a = none ∧ n = 0 ∧ c = 0 ∧ zs = []) ∨
      ∃ x, a = some x ∧ n ≤ c ∧ c ≤ maxLen ∧ zs.length = c ∧ (∀ i, i < zs.length → w.cell? (x.add i) = some (.int .u32 (zs.getD i 0))) ∧ ∀ n ∈ zs, (Lit.int .u32 n).wf = true) :
    ∃ xs, Sl w (.slice a n c) xs ∧ xs.length = n := by
  rcases h with ⟨rfl, rfl, rfl, -⟩ | ⟨x, rfl, hnc, -, hl, hc, hw⟩
  · exact ⟨[], ⟨_, _, _, rfl, rfl, Nat.le_refl _, hn, lims_nil, fun h => absurd h (by decide)⟩, rfl⟩
  · have hlen : ((zs.take n).map Int.toNat).length = n := by simp; omega
    refine ⟨(zs.take n).map Int.toNat, ⟨_, _, _, rfl, hlen, hnc, hn, ?_, ?_⟩, hlen⟩
    · intro y hy
      obtain ⟨z, hz, rfl⟩ := List.mem_map.1 hy
      have := wf_u32 (hw z (List.mem_of_mem_take hz))
      omega
    · intro h0
      have c0 := hc 0 (by omega)
      rw [show x.add 0 = x by rfl] at c0
      obtain ⟨bl, off, spot⟩ := x
      have hs : spot = none := by
        unfold World.cell? at c0
        split at c0
        · split at c0
          · cases c0
          · next h => simpa using h
        · cases c0
      subst hs
      refine ⟨bl, off, rfl, ?_, ?_⟩
      · by_cases hb : bl < w.heap.size
        · exact hb
        · exfalso
          unfold World.cell? at c0
          rw [show w.heap[bl]? = none by simpa using hb] at c0
          cases c0
      · intro i hi
        have hci := hc i (by omega)
        have hg : zs.getD i 0 ∈ zs := by
          rw [List.getD_eq_getElem?_getD, List.getElem?_eq_getElem (by omega)]
          exact List.getElem_mem _
        have hwz := wf_u32 (hw _ hg)
        have he : ((((zs.take n).map Int.toNat).getD i 0 : Nat) : Int) = zs.getD i 0 := by
          have : ((zs.take n).map Int.toNat).getD i 0 = (zs.getD i 0).toNat := by
            simp [List.getD, hi, List.getElem?_map]
            cases zs[i]? <;> rfl
          rw [this]; omega
        rw [he, ← hci]
        congr 1
        unfold Addr.add
        split
        · next h => subst h; rfl
        · rfl

/-- A slice that came in: it reads as limbs where it is not too long. -/
def Row (w : World) (v : Value) (n : Nat) : Prop := n ≤ 1099511627776 → ∃ xs, Sl w v xs ∧ xs.length = n
theorem Row.is {w : World} {v : Value} {n : Nat} (h : Row w v n) (L : Nat) (hn : n ≤ L) (hL : L ≤ 1099511627776) : ∃ X, Is X L w v := by
  obtain ⟨xs, h1, h2⟩ := h (by omega)
  exact ⟨_, xs, h1, rfl, by omega⟩
theorem ret_post {w : World} {e : Ending} {w' : World} (h : Ret w (Val (.bool true)) e w') : e = .returned (.bool true) ∧ Below w.heap.size w w' := by
  obtain ⟨v, rfl, rfl, hb⟩ := h
  exact ⟨rfl, hb⟩
end Go.Proofs.Ytfkjhaniglmejaa
