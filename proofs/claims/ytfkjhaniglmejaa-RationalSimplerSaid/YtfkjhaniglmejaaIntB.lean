/- The integer layer: ref02.Make, and Neg of both. -/
import Derived.Test.YtfkjhaniglmejaaIntA
namespace Go.Proofs.Ytfkjhaniglmejaa
open Go.RowKit Nt

set_option maxRecDepth 100000 in
theorem rimake_any (neg : Bool) (v : Value) (xs : List Nat) (w : World) (h : Sl w v xs) : Calls Try.prog 79 #[.bool neg, v] w (Ret w (CI (iv neg (val xs)))) := by
  have H := Lib.hid h
  clear h
  go_enter Try.func79, Try.ntmps79
  go_wp2_with fail
  refine (rmake_any _ _ _ (H.out.below ((Below.refl _ _).alloc (Nat.le_refl _) _))).mono ?_
  rintro e w1 ⟨v1, rfl, h1, hb⟩
  obtain ⟨c0, c1, f0, f1⟩ := box_kept hb
  have hB := Lib.hid (below1 hb)
  have hlt : w.heap.size < w1.heap.size := Nat.lt_of_lt_of_le (by simp) hb.size
  clear hb
  have H1 := Lib.hid h1
  obtain ⟨ad, n, cap, rfl, hn, -⟩ := h1
  have hz : decide (iv neg (val xs) < 0) = (neg && decide (0 < n)) := by
    rw [iv_lt, ← hn]
    have := @sz_eq_zero (val xs)
    unfold sz at this
    congr 1
    simp only [decide_eq_decide]
    omega
  have fin : ∀ u : Bool, u = (neg && decide (0 < n)) → Ret w (CI (iv neg (val xs))) (.returned (.agg #[.bool u, .slice ad n cap])) ((w1.setCell ⟨w.heap.size, 0, none⟩ (.bool u)).setCell ⟨w.heap.size, 1, none⟩ (.slice ad n cap)) := by
    rintro u rfl
    refine ⟨_, rfl, ⟨_, by rw [hz], ?_⟩, below_box hB.out (Nat.le_refl _)⟩
    rw [iv_abs]
    exact Sl.box H1.out c0 c1
  cases neg
  · obtain ⟨k0, k1⟩ := box_set (x' := .bool false) (y' := .slice ad n cap) c0 c1
    go_wp2
    refine bodyPost_ret (ret_int rfl _ _ w.heap.size _ _ rfl k0 k1) rfl ?_
    exact fin false rfl
  · by_cases h0 : 0 < n
    · have d0 : decide ((0 : Int) < n) = true := by simpa using h0
      obtain ⟨k0, k1⟩ := box_set (x' := .bool true) (y' := .slice ad n cap) c0 c1
      go_wp2
      refine bodyPost_ret (ret_int rfl _ _ w.heap.size _ _ rfl k0 k1) rfl ?_
      exact fin true (by simp [h0])
    · have d0 : decide ((0 : Int) < n) = false := by simpa using h0
      obtain ⟨k0, k1⟩ := box_set (x' := .bool false) (y' := .slice ad n cap) c0 c1
      go_wp2
      refine bodyPost_ret (ret_int rfl _ _ w.heap.size _ _ rfl k0 k1) rfl ?_
      exact fin false (by simp [h0])

/-- An api.Int in any form, of at most L limbs, that stands for z. -/
def AI (z : Int) (L : Nat) (w : World) (v : Value) : Prop := ∃ neg s m, v = .agg #[.bool neg, s] ∧ Is m L w s ∧ iv neg m = z
/-- A canonical api.Int of at most L limbs. -/
def CL (z : Int) (L : Nat) (w : World) (v : Value) : Prop := CI z w v ∧ sz z.natAbs ≤ L
theorem AI.below {z : Int} {L : Nat} {w w' : World} {v : Value} (h : AI z L w v) (hb : Below w.heap.size w w') : AI z L w' v :=
  let ⟨neg, s, m, h1, h2, h3⟩ := h; ⟨neg, s, m, h1, h2.below hb, h3⟩
theorem CL.below {z : Int} {L : Nat} {w w' : World} {v : Value} (h : CL z L w v) (hb : Below w.heap.size w w') : CL z L w' v := ⟨h.1.below hb, h.2⟩
theorem CL.ai {z : Int} {L : Nat} {w : World} {v : Value} (h : CL z L w v) : AI z L w v := by
  obtain ⟨⟨s, h1, h2⟩, h3⟩ := h
  refine ⟨_, s, z.natAbs, h1, ⟨_, h2, val_limbs _, h3⟩, ?_⟩
  unfold iv
  by_cases hz : z < 0 <;> simp [hz] <;> omega
theorem CL.mono {z : Int} {L M : Nat} {w : World} {v : Value} (h : CL z L w v) (hl : L ≤ M) : CL z M w v := ⟨h.1, Nat.le_trans h.2 hl⟩

theorem imake_ai {neg : Bool} {m L : Nat} {s : Value} {w : World} (h : Is m L w s) : Calls Try.prog 82 #[.bool neg, s] w (Ret w (CL (iv neg m) L)) := by
  have hs := h.sz_le
  obtain ⟨xs, h, rfl, hl⟩ := h
  refine (imake_any _ _ _ _ h).mono ?_
  rintro e w' ⟨v, rfl, hn, hb⟩
  exact ⟨v, rfl, ⟨hn, by rw [iv_abs]; exact hs⟩, hb⟩
theorem rimake_ai {neg : Bool} {m L : Nat} {s : Value} {w : World} (h : Is m L w s) : Calls Try.prog 79 #[.bool neg, s] w (Ret w (CL (iv neg m) L)) := by
  have hs := h.sz_le
  obtain ⟨xs, h, rfl, hl⟩ := h
  refine (rimake_any _ _ _ _ h).mono ?_
  rintro e w' ⟨v, rfl, hn, hb⟩
  exact ⟨v, rfl, ⟨hn, by rw [iv_abs]; exact hs⟩, hb⟩
theorem iv_not (neg : Bool) (m : Nat) : iv (!neg) m = - iv neg m := by cases neg <;> simp [iv]

end Go.Proofs.Ytfkjhaniglmejaa
