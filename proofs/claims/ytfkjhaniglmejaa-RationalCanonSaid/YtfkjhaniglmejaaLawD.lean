/- More contracts in the form that the laws of division, shift, gcd and Make need. -/
import Derived.Test.YtfkjhaniglmejaaLawC
namespace Go.Proofs.Ytfkjhaniglmejaa
open Go.RowKit Nt

theorem divmod_pos {a b L M : Nat} {u v : Value} {w : World} (hb : 0 < b) (h : Is a L w u) (h' : Is b M w v) (hL : L ≤ 4294967296) :
    Calls Try.prog 87 #[u, v] w (Ret w (Can2E (a / b) (a % b) L L 0)) := by
  have := divmod_is h h' hL
  rwa [dmR_pos hb, dmE_pos hb] at this
theorem nil_of_zero {w : World} {v : Value} {L : Nat} (h : Can 0 L w v) : ∃ a c, v = .slice a 0 c := by
  obtain ⟨⟨ad, n, cap, rfl, hn, -⟩, -⟩ := h
  rw [limbs_zero] at hn
  have hn0 : n = 0 := by simpa using hn.symm
  subst hn0
  exact ⟨_, _, rfl⟩
def Nil2 (_ : World) (v : Value) : Prop := ∃ a c a' c', v = .tuple #[.slice a 0 c, .slice a' 0 c', .int .i64 3]
theorem divmod_zero {a b L M : Nat} {u v : Value} {w : World} (hb : b = 0) (h : Is a L w u) (h' : Is b M w v) (hL : L ≤ 4294967296) :
    Calls Try.prog 87 #[u, v] w (Ret w Nil2) := by
  subst hb
  have := divmod_is h h' hL
  rw [Nat.div_zero, show dmR a 0 = 0 from rfl, show dmE 0 = 3 from rfl] at this
  refine this.mono ?_
  rintro e w' ⟨v, rfl, ⟨q, r, rfl, hq, hr⟩, hb⟩
  obtain ⟨a1, c1, rfl⟩ := nil_of_zero hq
  obtain ⟨a2, c2, rfl⟩ := nil_of_zero hr
  exact ⟨_, rfl, ⟨_, _, _, _, rfl⟩, hb⟩
theorem rmake_nil {a L : Nat} {u : Value} {w : World} (ha : a = 0) (h : Is a L w u) : Calls Try.prog 91 #[u] w (Ret w Nil) := by
  subst ha
  refine (rmake_is h).mono ?_
  rintro e w' ⟨v, rfl, hn, hb⟩
  exact ⟨_, rfl, nil_of_zero hn, hb⟩
def Some (_ : World) (v : Value) : Prop := ∃ a n c, v = .slice a n c ∧ 0 < n
theorem rmake_pos {a L : Nat} {u : Value} {w : World} (ha : 0 < a) (h : Is a L w u) : Calls Try.prog 91 #[u] w (Ret w Some) := by
  refine (rmake_is h).mono ?_
  rintro e w' ⟨v, rfl, ⟨⟨ad, n, cap, rfl, hn, -⟩, -⟩, hb⟩
  have := sz_pos ha
  unfold sz at this
  exact ⟨_, rfl, ⟨_, _, _, rfl, by omega⟩, hb⟩
theorem gcd_le (a b : Nat) : Nat.gcd a b ≤ max a b := by
  rcases Nat.eq_zero_or_pos a with rfl | h
  · simp
  · have := Nat.gcd_le_left b h
    omega
theorem sz_gcd {a b L M : Nat} (ha : sz a ≤ L) (hb : sz b ≤ M) : sz (Nat.gcd a b) ≤ max L M := by
  have h := sz_mono (gcd_le a b)
  rcases Nat.le_total a b with hab | hab
  · rw [Nat.max_eq_right hab] at h; omega
  · rw [Nat.max_eq_left hab] at h; omega
theorem gcd_can {a b L M : Nat} {u v : Value} {w : World} (h : Is a L w u) (h' : Is b M w v) (hL : L ≤ 2147483648) (hM : M ≤ 2147483648) :
    Calls Try.prog 86 #[u, v] w (Ret w (Can (Nat.gcd a b) (max L M))) := by
  have hs := sz_gcd h.sz_le h'.sz_le
  refine (gcd_is h h' (by omega) (by omega)).mono ?_
  rintro e w' ⟨v, rfl, hn, hb⟩
  exact ⟨_, rfl, ⟨hn, hs⟩, hb⟩
theorem rgcd_can {a b L M : Nat} {u v : Value} {w : World} (h : Is a L w u) (h' : Is b M w v) (hL : L ≤ 2147483648) (hM : M ≤ 2147483648) :
    Calls Try.prog 94 #[u, v] w (Ret w (Can (Nat.gcd a b) (max L M))) := by
  have hs := sz_gcd h.sz_le h'.sz_le
  refine (rgcd_is h h' hL hM).mono ?_
  rintro e w' ⟨v, rfl, hn, hb⟩
  exact ⟨_, rfl, ⟨hn, hs⟩, hb⟩
theorem rmake_one (x : Int) (hx : 0 ≤ x ∧ x < 4294967296) (w : World) : Calls Try.prog 91 #[.slice (some ⟨w.heap.size, 0, none⟩) 1 1] (w.alloc (b1 x)) (Ret w (Can x.toNat 1)) := by
  have hB := sl_one w 64 x hx
  have hs : Is x.toNat 1 (w.alloc (b1 x)) (.slice (some ⟨w.heap.size, 0, none⟩) 1 1) := ⟨_, hB, by simp [val], by simp⟩
  refine (rmake_is hs).mono ?_
  rintro e w' ⟨v, rfl, hn, hb⟩
  exact ⟨_, rfl, hn, below1 hb⟩

theorem sz_pow {m : Nat} (h : m ≤ 300) : sz (2 ^ m) ≤ 10 := by
  apply sz_le
  calc 2 ^ m ≤ 2 ^ 300 := Nat.pow_le_pow_right (by decide) h
    _ < 4294967296 ^ 10 := by decide +kernel
theorem shr_good {a L m : Nat} {u : Value} {w : World} (hm : m ≤ 300) (h : Is a L w u) (hL : L ≤ 4294967296) :
    Calls Try.prog 106 #[u, .int .i64 (m : Int)] w (Ret w (CanE (a / 2 ^ m) L 0)) := by
  have hs := h.sz_le
  obtain ⟨xs, h, rfl, hl⟩ := h
  have := shr_any _ _ (m : Int) _ h (by omega)
  rw [shiftErr_yes (by omega), shrN_yes (by omega)] at this
  refine this.mono ?_
  rintro e w' ⟨v, rfl, ⟨d, rfl, hn⟩, hb⟩
  exact ⟨_, rfl, ⟨_, rfl, hn, Nat.le_trans (sz_div _ _) hs⟩, hb⟩
theorem shr_bad {a L : Nat} {k : Int} {u : Value} {w : World} (hk : k < 0 ∨ 1048576 < k) (h : Is a L w u) (hL : L ≤ 4294967296) :
    Calls Try.prog 106 #[u, .int .i64 k] w (Ret w (CanE 0 0 2)) := by
  obtain ⟨xs, h, rfl, hl⟩ := h
  have := shr_any _ _ k _ h (by omega)
  rw [shiftErr_no hk, shrN_no hk] at this
  refine this.mono ?_
  rintro e w' ⟨v, rfl, ⟨d, rfl, hn⟩, hb⟩
  exact ⟨_, rfl, ⟨_, rfl, hn, by rw [sz_zero]; exact Nat.le_refl _⟩, hb⟩
theorem make_sl {xs : List Nat} {L : Nat} {u : Value} {w : World} (h : Sl w u xs) (hL : xs.length ≤ L) : Calls Try.prog 77 #[u] w (Ret w (Can (val xs) L)) := make_is ⟨xs, h, rfl, hL⟩
theorem rmake_sl {xs : List Nat} {L : Nat} {u : Value} {w : World} (h : Sl w u xs) (hL : xs.length ≤ L) : Calls Try.prog 91 #[u] w (Ret w (Can (val xs) L)) := rmake_is ⟨xs, h, rfl, hL⟩
theorem valid_sl {xs : List Nat} {B : Bool} {u : Value} {w : World} (hB : canon xs = B) (h : Sl w u xs) : Calls Try.prog 75 #[u] w (Ret w (Val (.bool B))) := by rw [← hB]; exact valid_any _ _ _ h
theorem rvalid_sl {xs : List Nat} {B : Bool} {u : Value} {w : World} (hB : canon xs = B) (h : Sl w u xs) : Calls Try.prog 66 #[u] w (Ret w (Val (.bool B))) := by rw [← hB]; exact rvalid_any _ _ _ h
theorem uint_sl {xs : List Nat} {B : Bool} {U : Int} {u : Value} {w : World} (hU : ((uintN (val xs) : Nat) : Int) = U) (hB : uintB (val xs) = B) (h : Sl w u xs) :
    Calls Try.prog 100 #[u] w (Ret w (Val (.tuple #[.int .u64 U, .bool B]))) := by rw [← hB, ← hU]; exact uint_any _ _ _ h
theorem ruint_sl {xs : List Nat} {B : Bool} {U : Int} {u : Value} {w : World} (hU : ((uintN (val xs) : Nat) : Int) = U) (hB : uintB (val xs) = B) (h : Sl w u xs) :
    Calls Try.prog 108 #[u] w (Ret w (Val (.tuple #[.int .u64 U, .bool B]))) := by rw [← hB, ← hU]; exact ruint_any _ _ _ h
theorem bits_sl {xs : List Nat} {U : Int} {u : Value} {w : World} (hU : ((blen (val xs) : Nat) : Int) = U) (h : Sl w u xs) (hL : xs.length ≤ 40) :
    Calls Try.prog 89 #[u] w (Ret w (Val (.int .i64 U))) := by rw [← hU]; exact bits_any _ _ _ h (by omega)
theorem rbits_sl {xs : List Nat} {U : Int} {u : Value} {w : World} (hU : ((blen (val xs) : Nat) : Int) = U) (h : Sl w u xs) (hL : xs.length ≤ 40) :
    Calls Try.prog 109 #[u] w (Ret w (Val (.int .i64 U))) := by rw [← hU]; exact rbits_any _ _ _ h (by omega)
theorem of_can {x : Nat} {w : World} (hx : x < 18446744073709551616) : Calls Try.prog 96 #[.int .u64 (x : Int)] w (Ret w (Can x 2)) := by
  refine (of_any x w hx).mono ?_
  rintro e w' ⟨v, rfl, hn, hb⟩
  exact ⟨_, rfl, ⟨hn, sz_le (by simpa using hx)⟩, hb⟩
theorem rof_can {x : Nat} {w : World} (hx : x < 18446744073709551616) : Calls Try.prog 80 #[.int .u64 (x : Int)] w (Ret w (Can x 2)) := by
  refine (rof_any x w hx).mono ?_
  rintro e w' ⟨v, rfl, hn, hb⟩
  exact ⟨_, rfl, ⟨hn, sz_le (by simpa using hx)⟩, hb⟩
theorem uint_can {x L : Nat} {u : Value} {w : World} (hx : x < 18446744073709551616) (h : Can x L w u) :
    Calls Try.prog 100 #[u] w (Ret w (Val (.tuple #[.int .u64 (x : Int), .bool true]))) :=
  uint_sl (by rw [val_limbs]; simp [uintN, hx]) (by rw [val_limbs]; simp [uintB, hx]) h.1
end Go.Proofs.Ytfkjhaniglmejaa
