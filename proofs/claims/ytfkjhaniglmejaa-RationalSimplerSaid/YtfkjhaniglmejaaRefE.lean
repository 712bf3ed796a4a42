/- Walks over the reference of package natural, sixth part: DivMod. -/
import Derived.Test.YtfkjhaniglmejaaRefD
import Derived.Test.YtfkjhaniglmejaaNumG
namespace Go.Proofs.Ytfkjhaniglmejaa
open Go.RowKit Nt

set_option maxHeartbeats 1000000 in
theorem rdiv_zero (v v' : Value) (xs ys : List Nat) (w : World) (h : Sl w v xs) (h' : Sl w v' ys) (h0 : val ys = 0) :
    Calls Try.prog 95 #[v, v'] w (Ret w (Num2E 0 0 3)) := by
  have hy : uintN (val ys) = 0 ∧ uintB (val ys) = true := by rw [h0]; exact ⟨rfl, rfl⟩
  obtain ⟨hy1, hy2⟩ := hy
  go_enter Try.func95, Try.ntmps95
  go_wp2_with fail
  refine (ruint_any _ xs _ h).mono ?_
  rintro e w1 ⟨v1, rfl, h1, hb1⟩
  unfold UintP at h1
  subst h1
  have h'1 := h'.below hb1
  go_wp2_with fail
  refine (ruint_any _ ys _ h'1).mono ?_
  rintro e w2 ⟨v2, rfl, h2, hb2⟩
  unfold UintP at h2
  subst h2
  rw [hy1, hy2]
  have HB := hb1.trans (hb2.mono hb1.size)
  clear hb1 hb2 hy1 hy2 h0 h h' h'1
  go_wp2
  go_ret3
  exact ⟨_, rfl, ⟨_, _, rfl, by rw [limbs_zero]; exact Sl.nil _, by rw [limbs_zero]; exact Sl.nil _⟩, HB⟩

theorem rof_ret (x : Nat) (z : Int) (hz : z = (x : Int)) (w : World) (h : x < 18446744073709551616) : Calls Try.prog 80 #[.int .u64 z] w (Ret w (Num x)) := by
  subst hz; exact rof_any x w h

set_option maxRecDepth 100000 in
set_option maxHeartbeats 1000000 in
theorem rdiv_small (v v' : Value) (xs ys : List Nat) (w : World) (h : Sl w v xs) (h' : Sl w v' ys) (h0 : 0 < val ys) (hx : val xs < 18446744073709551616) (hy : val ys < 18446744073709551616) :
    Calls Try.prog 95 #[v, v'] w (Ret w (Num2E (val xs / val ys) (val xs % val ys) 0)) := by
  have hx12 : uintN (val xs) = val xs ∧ uintB (val xs) = true := by simp [uintN, uintB, hx]
  have hy12 : uintN (val ys) = val ys ∧ uintB (val ys) = true := by simp [uintN, uintB, hy]
  obtain ⟨hx1, hx2⟩ := hx12
  obtain ⟨hy1, hy2⟩ := hy12
  go_enter Try.func95, Try.ntmps95
  go_wp2_with fail
  refine (ruint_any _ xs _ h).mono ?_
  rintro e w1 ⟨v1, rfl, h1, hb1⟩
  unfold UintP at h1
  subst h1
  have h'1 := h'.below hb1
  go_wp2_with fail
  refine (ruint_any _ ys _ h'1).mono ?_
  rintro e w2 ⟨v2, rfl, h2, hb2⟩
  unfold UintP at h2
  subst h2
  rw [hy1, hy2]
  have HB := Lib.hid (hb1.trans (hb2.mono hb1.size))
  clear hb1 hb2 hy1 hy2 hx1 hx2 h h' h'1
  generalize val xs = x at *
  generalize val ys = y at *
  have hne : ((y : Int) == 0) = false := by simp; omega
  have HR := Lib.hid (Nat.lt_of_le_of_lt (Nat.div_le_self x y) hx)
  have HM := Lib.hid (Nat.lt_trans (Nat.mod_lt x h0) hy)
  have Hn := Lib.hid (show (Try.f80.name == "runtime.NumGoroutine") = false from by kernel_rfl)
  obtain ⟨q, hq⟩ : ∃ q, q = x / y := ⟨_, rfl⟩
  obtain ⟨r, hr⟩ : ∃ r, r = x % y := ⟨_, rfl⟩
  rw [← hq] at HR
  rw [← hr] at HM
  have w1 : IntKind.u64.wrap ((x : Int) / (y : Int)) = (q : Int) := by
    have e : (x : Int) / (y : Int) = ((x / y : Nat) : Int) := by simp
    have := HR.out
    rw [e, ← hq, wrap_u64]; omega
  have w2 : (x : Int).tmod (y : Int) = (r : Int) := by rw [hr, Int.tmod_eq_emod_of_nonneg (by omega)]; simp
  have Hq := Lib.hid hq
  have Hr := Lib.hid hr
  have hyne : ¬ y = 0 := by omega
  clear h0 hq hr hx hy
  go_wp2_with fail
  go_region_law (first
    | (refine step_is 80 rfl ?_; refine step_call1 rfl 80 (.tmp 35) _ rfl Try.func80 Hn.out rfl rfl (rof_any q _ HR.out) ?_; intro v3 w3 h3 hb3)
    | (refine step_is 80 rfl ?_; refine step_call1 rfl 80 (.tmp 39) _ rfl Try.func80 Hn.out rfl rfl (rof_any r _ HM.out) ?_; intro v4 w4 h4 hb4))
  all_goals
    have h3' := h3.below hb4
    have HB2 := HB.out.trans (((Below.refl _ _).drew.trans hb3).mono HB.out.size)
    have HB3 := HB2.trans (hb4.mono HB2.size)
    rw [Hq.out] at h3'
    unfold Num at h4
    rw [Hr.out] at h4
    clear hb3 hb4 h3 HB2 w1 w2
    go_wp2
    go_ret3
    exact ⟨_, rfl, ⟨_, _, rfl, h3', h4⟩, HB3⟩

theorem rshl_one (v : Value) (xs : List Nat) (w : World) (h : Sl w v xs) (hxl : xs.length ≤ 4294967296) :
    Calls Try.prog 110 #[v, .int .i64 1] w (Ret w (Num (val xs * 2))) := rshl_any v xs 1 w h hxl (by decide)

theorem and_one (x : Nat) (h : x < 4294967296) : bits .and .u32 (x : Int) 1 = ((x % 2 : Nat) : Int) := by
  have := u32_and_nat x 1 h (by decide)
  rw [Nat.and_one_is_mod] at this
  exact this

theorem cmp_ge {a b : Nat} (h : b ≤ a) : decide (0 ≤ cmpN a b) = true := by
  rcases Nat.lt_or_ge b a with h' | h'
  · rw [cmpN_gt h']; decide
  · rw [cmpN_eq (by omega)]; decide
theorem cmp_nge {a b : Nat} (h : a < b) : decide (0 ≤ cmpN a b) = false := by rw [cmpN_lt h]; decide

end Go.Proofs.Ytfkjhaniglmejaa
