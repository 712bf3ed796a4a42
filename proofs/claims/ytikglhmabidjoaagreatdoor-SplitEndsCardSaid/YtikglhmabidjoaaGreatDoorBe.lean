/- Texts LawA LawB LawC LawD, in this order. -/
import Derived.Test.YtikglhmabidjoaaGreatDoorBd
namespace Go.Proofs.YtikglhmabidjoaaGreatDoor
open Go.RowKit Nt
theorem limbs_single {x : Nat} (h0 : 0 < x) (h : x < 4294967296) : limbs x = [x] := by
  rw [limbs_pos h0, Nat.mod_eq_of_lt h, Nat.div_eq_of_lt h, limbs_zero]
theorem Sl.alloc {w : World} {v : Value} {xs : List Nat} (h : Sl w v xs) (o : Obj) : Sl (w.alloc o) v xs := h.below ((Below.refl _ _).alloc (Nat.le_refl _) o)
abbrev b1 (x : Int) : Obj := .cells #[.int .u32 x] 156
abbrev b2 (x y : Int) : Obj := .cells #[.int .u32 x, .int .u32 y] 156
abbrev b3 (x y z : Int) : Obj := .cells #[.int .u32 x, .int .u32 y, .int .u32 z] 156
theorem below1 {w w' : World} {o : Obj} (h : Below (w.alloc o).heap.size (w.alloc o) w') : Below w.heap.size w w' :=
  ((Below.refl _ _).alloc (Nat.le_refl _) o).trans (h.mono (by simp))
def Nil (_ : World) (v : Value) : Prop := ∃ a c, v = .slice a 0 c
end Go.Proofs.YtikglhmabidjoaaGreatDoor
namespace Go.Proofs.YtikglhmabidjoaaGreatDoor
open Go.RowKit Nt
def Is (n L : Nat) (w : World) (v : Value) : Prop := ∃ xs, Sl w v xs ∧ val xs = n ∧ xs.length ≤ L
def Can (n L : Nat) (w : World) (v : Value) : Prop := Num n w v ∧ sz n ≤ L
def CanE (n L : Nat) (err : Int) (w : World) (v : Value) : Prop := ∃ a, v = .tuple #[a, .int .i64 err] ∧ Can n L w a
def Can2E (n m L M : Nat) (err : Int) (w : World) (v : Value) : Prop := ∃ a b, v = .tuple #[a, b, .int .i64 err] ∧ Can n L w a ∧ Can m M w b
theorem Is.below {n L : Nat} {w w' : World} {v : Value} (h : Is n L w v) (hb : Below w.heap.size w w') : Is n L w' v :=
  let ⟨xs, h1, h2, h3⟩ := h; ⟨xs, h1.below hb, h2, h3⟩
theorem Can.below {n L : Nat} {w w' : World} {v : Value} (h : Can n L w v) (hb : Below w.heap.size w w') : Can n L w' v := ⟨Sl.below h.1 hb, h.2⟩
theorem Can.is {n L : Nat} {w : World} {v : Value} (h : Can n L w v) : Is n L w v := ⟨limbs n, h.1, val_limbs n, h.2⟩
theorem Can.mono {n L M : Nat} {w : World} {v : Value} (h : Can n L w v) (hl : L ≤ M) : Can n M w v := ⟨h.1, Nat.le_trans h.2 hl⟩
theorem Is.mono {n L M : Nat} {w : World} {v : Value} (h : Is n L w v) (hl : L ≤ M) : Is n M w v := let ⟨xs, h1, h2, h3⟩ := h; ⟨xs, h1, h2, Nat.le_trans h3 hl⟩
theorem Is.sz_le {n L : Nat} {w : World} {v : Value} (h : Is n L w v) : sz n ≤ L := by
  obtain ⟨xs, ⟨_, _, _, _, _, _, _, hl, _⟩, rfl, h3⟩ := h
  exact Nat.le_trans (sz_val hl) h3
theorem make_is {a L : Nat} {u : Value} {w : World} (h : Is a L w u) : Calls Tryz.prog 174 #[u] w (Ret w (Can a L)) := by
  have hs := h.sz_le
  obtain ⟨xs, h, rfl, hl⟩ := h
  refine (make_any _ _ _ h).mono ?_
  rintro e w' ⟨v, rfl, hn, hb⟩
  exact ⟨v, rfl, ⟨hn, hs⟩, hb⟩
theorem rmake_is {a L : Nat} {u : Value} {w : World} (h : Is a L w u) : Calls Tryz.prog 146 #[u] w (Ret w (Can a L)) := by
  have hs := h.sz_le
  obtain ⟨xs, h, rfl, hl⟩ := h
  refine (rmake_any _ _ _ h).mono ?_
  rintro e w' ⟨v, rfl, hn, hb⟩
  exact ⟨v, rfl, ⟨hn, hs⟩, hb⟩
theorem add_is {a b L M : Nat} {u v : Value} {w : World} (h : Is a L w u) (h' : Is b M w v) (hL : L ≤ 4294967296) (hM : M ≤ 4294967296) :
    Calls Tryz.prog 180 #[u, v] w (Ret w (Can (a + b) (max L M + 1))) := by
  have hs := h.sz_le
  have hs' := h'.sz_le
  obtain ⟨xs, h, rfl, hl⟩ := h
  obtain ⟨ys, h', rfl, hl'⟩ := h'
  refine (add_any _ _ _ _ _ h h' (by omega) (by omega)).mono ?_
  rintro e w' ⟨v, rfl, hn, hb⟩
  exact ⟨v, rfl, ⟨hn, Nat.le_trans (sz_add _ _) (by omega)⟩, hb⟩
theorem radd_is {a b L M : Nat} {u v : Value} {w : World} (h : Is a L w u) (h' : Is b M w v) (hL : L ≤ 4294967296) (hM : M ≤ 4294967296) :
    Calls Tryz.prog 147 #[u, v] w (Ret w (Can (a + b) (max L M + 1))) := by
  have hs := h.sz_le
  have hs' := h'.sz_le
  obtain ⟨xs, h, rfl, hl⟩ := h
  obtain ⟨ys, h', rfl, hl'⟩ := h'
  refine (radd_any _ _ _ _ _ h h' (by omega) (by omega)).mono ?_
  rintro e w' ⟨v, rfl, hn, hb⟩
  exact ⟨v, rfl, ⟨hn, Nat.le_trans (sz_add _ _) (by omega)⟩, hb⟩
theorem mul_is {a b L M : Nat} {u v : Value} {w : World} (h : Is a L w u) (h' : Is b M w v) (hL : L ≤ 4294967296) (hM : M ≤ 4294967296) :
    Calls Tryz.prog 133 #[u, v] w (Ret w (Can (a * b) (L + M))) := by
  have hs := h.sz_le
  have hs' := h'.sz_le
  obtain ⟨xs, h, rfl, hl⟩ := h
  obtain ⟨ys, h', rfl, hl'⟩ := h'
  refine (mul_any _ _ _ _ _ h h' (by omega) (by omega)).mono ?_
  rintro e w' ⟨v, rfl, hn, hb⟩
  exact ⟨v, rfl, ⟨hn, Nat.le_trans (sz_mul _ _) (by omega)⟩, hb⟩
theorem rmul_is {a b L M : Nat} {u v : Value} {w : World} (h : Is a L w u) (h' : Is b M w v) (hL : L ≤ 4294967296) (hM : M ≤ 4294967296) :
    Calls Tryz.prog 97 #[u, v] w (Ret w (Can (a * b) (L + M))) := by
  have hs := h.sz_le
  have hs' := h'.sz_le
  obtain ⟨xs, h, rfl, hl⟩ := h
  obtain ⟨ys, h', rfl, hl'⟩ := h'
  refine (rmul_any _ _ _ _ _ h h' (by omega) (by omega)).mono ?_
  rintro e w' ⟨v, rfl, hn, hb⟩
  exact ⟨v, rfl, ⟨hn, Nat.le_trans (sz_mul _ _) (by omega)⟩, hb⟩
theorem sub_is {a b L M : Nat} {u v : Value} {w : World} (h : Is a L w u) (h' : Is b M w v) (hL : L ≤ 4294967296) :
    Calls Tryz.prog 181 #[u, v] w (Ret w (CanE (a - b) L (subErr a b))) := by
  have hs := h.sz_le
  obtain ⟨xs, h, rfl, hl⟩ := h
  obtain ⟨ys, h', rfl, hl'⟩ := h'
  refine (sub_any _ _ _ _ _ h h' (by omega)).mono ?_
  rintro e w' ⟨v, rfl, ⟨d, rfl, hn⟩, hb⟩
  exact ⟨_, rfl, ⟨_, rfl, hn, Nat.le_trans (sz_sub _ _) hs⟩, hb⟩
theorem rsub_is {a b L M : Nat} {u v : Value} {w : World} (h : Is a L w u) (h' : Is b M w v) (hL : L ≤ 4294967296) :
    Calls Tryz.prog 148 #[u, v] w (Ret w (CanE (a - b) L (subErr a b))) := by
  have hs := h.sz_le
  obtain ⟨xs, h, rfl, hl⟩ := h
  obtain ⟨ys, h', rfl, hl'⟩ := h'
  refine (rsub_any _ _ _ _ _ h h' (by omega)).mono ?_
  rintro e w' ⟨v, rfl, ⟨d, rfl, hn⟩, hb⟩
  exact ⟨_, rfl, ⟨_, rfl, hn, Nat.le_trans (sz_sub _ _) hs⟩, hb⟩
theorem dmR_le (a b : Nat) : dmR a b ≤ a := by unfold dmR; split; omega; exact Nat.mod_le _ _
theorem divmod_is {a b L M : Nat} {u v : Value} {w : World} (h : Is a L w u) (h' : Is b M w v) (hL : L ≤ 4294967296) :
    Calls Tryz.prog 177 #[u, v] w (Ret w (Can2E (a / b) (dmR a b) L L (dmE b))) := by
  have hs := h.sz_le
  obtain ⟨xs, h, rfl, hl⟩ := h
  obtain ⟨ys, h', rfl, hl'⟩ := h'
  refine (divmod_any _ _ _ _ _ h h' (by omega)).mono ?_
  rintro e w' ⟨v, rfl, ⟨q, r, rfl, hn, hm⟩, hb⟩
  exact ⟨_, rfl, ⟨_, _, rfl, ⟨hn, Nat.le_trans (sz_div _ _) hs⟩, hm, Nat.le_trans (sz_mono (dmR_le _ _)) hs⟩, hb⟩
theorem cmp_is {a b L M : Nat} {u v : Value} {w : World} (k : Int) (h : Is a L w u) (h' : Is b M w v) (hk : cmpN a b = k) :
    Calls Tryz.prog 165 #[u, v] w (Ret w (Val (.int .i64 k))) := by
  obtain ⟨xs, h, rfl, hl⟩ := h
  obtain ⟨ys, h', rfl, hl'⟩ := h'
  rw [← hk]
  exact cmp_any _ _ _ _ _ h h'
theorem gcd_is {a b L M : Nat} {u v : Value} {w : World} (h : Is a L w u) (h' : Is b M w v) (hL : L ≤ 4294967296) (hM : M ≤ 4294967296) :
    Calls Tryz.prog 176 #[u, v] w (Ret w (Num (Nat.gcd a b))) := by
  obtain ⟨xs, h, rfl, hl⟩ := h
  obtain ⟨ys, h', rfl, hl'⟩ := h'
  exact gcd_any _ _ _ _ _ h h' (by omega) (by omega)
theorem rgcd_is {a b L M : Nat} {u v : Value} {w : World} (h : Is a L w u) (h' : Is b M w v) (hL : L ≤ 2147483648) (hM : M ≤ 2147483648) :
    Calls Tryz.prog 149 #[u, v] w (Ret w (Num (Nat.gcd a b))) := by
  obtain ⟨xs, h, rfl, hl⟩ := h
  obtain ⟨ys, h', rfl, hl'⟩ := h'
  exact rgcd_any _ _ _ _ _ h h' (by omega) (by omega)
def Row (w : World) (v : Value) (n : Nat) : Prop := n ≤ 1099511627776 → ∃ xs, Sl w v xs ∧ xs.length = n
theorem Row.is {w : World} {v : Value} {n : Nat} (h : Row w v n) (L : Nat) (hn : n ≤ L) (hL : L ≤ 1099511627776) : ∃ X, Is X L w v := by
  obtain ⟨xs, h1, h2⟩ := h (by omega)
  exact ⟨_, xs, h1, rfl, by omega⟩
end Go.Proofs.YtikglhmabidjoaaGreatDoor
namespace Go.Proofs.YtikglhmabidjoaaGreatDoor
open Go.RowKit Nt
theorem sub_is2 {a b L M : Nat} {u v : Value} {w : World} {e : Int} (he : subErr a b = e) (h : Is a L w u) (h' : Is b M w v) (hL : L ≤ 4294967296) :
    Calls Tryz.prog 181 #[u, v] w (Ret w (CanE (a - b) L e)) := by rw [← he]; exact sub_is h h' hL
theorem rsub_is2 {a b L M : Nat} {u v : Value} {w : World} {e : Int} (he : subErr a b = e) (h : Is a L w u) (h' : Is b M w v) (hL : L ≤ 4294967296) :
    Calls Tryz.prog 148 #[u, v] w (Ret w (CanE (a - b) L e)) := by rw [← he]; exact rsub_is h h' hL
end Go.Proofs.YtikglhmabidjoaaGreatDoor
namespace Go.Proofs.YtikglhmabidjoaaGreatDoor
open Go.RowKit Nt
theorem divmod_pos {a b L M : Nat} {u v : Value} {w : World} (hb : 0 < b) (h : Is a L w u) (h' : Is b M w v) (hL : L ≤ 4294967296) :
    Calls Tryz.prog 177 #[u, v] w (Ret w (Can2E (a / b) (a % b) L L 0)) := by
  have := divmod_is h h' hL
  rwa [dmR_pos hb, dmE_pos hb] at this
def Nil2 (_ : World) (v : Value) : Prop := ∃ a c a' c', v = .tuple #[.slice a 0 c, .slice a' 0 c', .int .i64 3]
def Some (_ : World) (v : Value) : Prop := ∃ a n c, v = .slice a n c ∧ 0 < n
theorem gcd_le (a b : Nat) : Nat.gcd a b ≤ max a b := by
  rcases Nat.eq_zero_or_pos a with rfl | h
  · simp
  · have := Nat.gcd_le_left b h
    omega
theorem sz_gcd {a b L M : Nat} (ha : sz a ≤ L) (hb : sz b ≤ M) : sz (Nat.gcd a b) ≤ max L M := by
  have h := sz_mono (gcd_le a b)
  rcases Nat.le_total a b with hab | hab
  · rw [Nat.max_eq_right hab] at h; omega
  · rw [Nat.max_eq_left hab] at h; omega
theorem gcd_can {a b L M : Nat} {u v : Value} {w : World} (h : Is a L w u) (h' : Is b M w v) (hL : L ≤ 2147483648) (hM : M ≤ 2147483648) :
    Calls Tryz.prog 176 #[u, v] w (Ret w (Can (Nat.gcd a b) (max L M))) := by
  have hs := sz_gcd h.sz_le h'.sz_le
  refine (gcd_is h h' (by omega) (by omega)).mono ?_
  rintro e w' ⟨v, rfl, hn, hb⟩
  exact ⟨_, rfl, ⟨hn, hs⟩, hb⟩
theorem rgcd_can {a b L M : Nat} {u v : Value} {w : World} (h : Is a L w u) (h' : Is b M w v) (hL : L ≤ 2147483648) (hM : M ≤ 2147483648) :
    Calls Tryz.prog 149 #[u, v] w (Ret w (Can (Nat.gcd a b) (max L M))) := by
  have hs := sz_gcd h.sz_le h'.sz_le
  refine (rgcd_is h h' hL hM).mono ?_
  rintro e w' ⟨v, rfl, hn, hb⟩
  exact ⟨_, rfl, ⟨hn, hs⟩, hb⟩
theorem valid_sl {xs : List Nat} {B : Bool} {u : Value} {w : World} (hB : canon xs = B) (h : Sl w u xs) : Calls Tryz.prog 164 #[u] w (Ret w (Val (.bool B))) := by rw [← hB]; exact valid_any _ _ _ h
theorem of_can {x : Nat} {w : World} (hx : x < 18446744073709551616) : Calls Tryz.prog 182 #[.int .u64 (x : Int)] w (Ret w (Can x 2)) := by
  refine (of_any x w hx).mono ?_
  rintro e w' ⟨v, rfl, hn, hb⟩
  exact ⟨_, rfl, ⟨hn, sz_le (by simpa using hx)⟩, hb⟩
theorem rof_can {x : Nat} {w : World} (hx : x < 18446744073709551616) : Calls Tryz.prog 109 #[.int .u64 (x : Int)] w (Ret w (Can x 2)) := by
  refine (rof_any x w hx).mono ?_
  rintro e w' ⟨v, rfl, hn, hb⟩
  exact ⟨_, rfl, ⟨hn, sz_le (by simpa using hx)⟩, hb⟩
end Go.Proofs.YtikglhmabidjoaaGreatDoor
