/- The integer layer, first part: words, Make, Neg, Of. -/
import Derived.Test.YtfkjhaniglmejaaInt0
namespace Go.Proofs.Ytfkjhaniglmejaa
open Go.RowKit Nt

def iv (neg : Bool) (m : Nat) : Int := if neg then -(m : Int) else m
/-- A canonical api.Int. -/
def CI (z : Int) (w : World) (v : Value) : Prop := ∃ s, v = .agg #[.bool (decide (z < 0)), s] ∧ Num z.natAbs w s

theorem CI.below {z : Int} {w w' : World} {v : Value} (h : CI z w v) (hb : Below w.heap.size w w') : CI z w' v :=
  let ⟨s, h1, h2⟩ := h; ⟨s, h1, Sl.below h2 hb⟩
theorem iv_abs (neg : Bool) (m : Nat) : (iv neg m).natAbs = m := by unfold iv; split <;> omega
theorem iv_lt (neg : Bool) (m : Nat) : decide (iv neg m < 0) = (neg && decide (0 < m)) := by
  unfold iv; cases neg <;> simp

set_option maxRecDepth 100000 in
theorem imake_any (neg : Bool) (v : Value) (xs : List Nat) (w : World) (h : Sl w v xs) : Calls Try.prog 82 #[.bool neg, v] w (Ret w (CI (iv neg (val xs)))) := by
  have H := Lib.hid h
  clear h
  go_enter Try.func82, Try.ntmps82
  go_wp2_with fail
  refine (make_any _ _ _ (H.out.below ((Below.refl _ _).alloc (Nat.le_refl _) _))).mono ?_
  rintro e w1 ⟨v1, rfl, h1, hb⟩
  obtain ⟨c0, c1, f0, f1⟩ := box_kept hb
  have hB := Lib.hid (below1 hb)
  have hlt : w.heap.size < w1.heap.size := Nat.lt_of_lt_of_le (by simp) hb.size
  clear hb
  have H1 := Lib.hid h1
  obtain ⟨ad, n, cap, rfl, hn, -⟩ := h1
  have hz : decide (iv neg (val xs) < 0) = (neg && decide (0 < n)) := by
    rw [iv_lt, ← hn]
    have := @sz_eq_zero (val xs)
    unfold sz at this
    congr 1
    simp only [decide_eq_decide]
    omega
  have fin : ∀ u : Bool, u = (neg && decide (0 < n)) → Ret w (CI (iv neg (val xs))) (.returned (.agg #[.bool u, .slice ad n cap])) ((w1.setCell ⟨w.heap.size, 0, none⟩ (.bool u)).setCell ⟨w.heap.size, 1, none⟩ (.slice ad n cap)) := by
    rintro u rfl
    refine ⟨_, rfl, ⟨_, by rw [hz], ?_⟩, below_box hB.out (Nat.le_refl _)⟩
    rw [iv_abs]
    exact Sl.box H1.out c0 c1
  cases neg
  · obtain ⟨k0, k1⟩ := box_set (x' := .bool false) (y' := .slice ad n cap) c0 c1
    go_wp2
    refine bodyPost_ret (ret_int rfl _ _ w.heap.size _ _ rfl k0 k1) rfl ?_
    exact fin false rfl
  · by_cases h0 : 0 < n
    · have d0 : decide ((0 : Int) < n) = true := by simpa using h0
      obtain ⟨k0, k1⟩ := box_set (x' := .bool true) (y' := .slice ad n cap) c0 c1
      go_wp2
      refine bodyPost_ret (ret_int rfl _ _ w.heap.size _ _ rfl k0 k1) rfl ?_
      exact fin true (by simp [h0])
    · have d0 : decide ((0 : Int) < n) = false := by simpa using h0
      obtain ⟨k0, k1⟩ := box_set (x' := .bool false) (y' := .slice ad n cap) c0 c1
      go_wp2
      refine bodyPost_ret (ret_int rfl _ _ w.heap.size _ _ rfl k0 k1) rfl ?_
      exact fin false (by simp [h0])
end Go.Proofs.Ytfkjhaniglmejaa
