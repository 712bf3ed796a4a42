/- Layer 3: RationalAdd and RationalMul. Printed by ratd.py. -/
import Derived.Test.YtfkjhaniglmejaaShelR
namespace Go.Proofs.Ytfkjhaniglmejaa
open Go.RowKit Nt
set_option linter.unusedVariables false

theorem q_add_sub (a b : Rat) : a + b - b = a := by grind
theorem q_dist (a b c : Rat) : a * (b + c) = a * b + a * c := by grind
theorem q_mul_div {a b : Rat} (h : b ≠ 0) : a * b / b = a := by rw [Rat.div_def, Rat.mul_assoc, Rat.mul_inv_cancel _ h, Rat.mul_one]
theorem num_zero {q : Rat} (h : q = 0) : q.num.sign = 0 := by rw [h]; rfl

set_option maxRecDepth 100000 in
set_option maxHeartbeats 4000000 in
theorem lradd_no0 {ba : Bool} {sa ta : Option Addr} {na ca ma ea : Nat} {bb : Bool} {sb tb : Option Addr} {nb cb mb eb : Nat} {bc : Bool} {sc tc : Option Addr} {nc cc mc ec : Nat}  {w : World}  (hno : 3 < na ∨ 3 < ma) :
    Calls Try.prog 3 #[.agg #[.bool ba, .slice sa na ca, .slice ta ma ea], .agg #[.bool bb, .slice sb nb cb, .slice tb mb eb], .agg #[.bool bc, .slice sc nc cc, .slice tc mc ec]] w (Ret w (Val (.bool true))) := by
  have Hno := Lib.hid hno
  clear hno
  go_enter Try.func3, Try.ntmps3
  have HB := Lib.hid (Below.refl w.heap.size w)
  go_wp2_with fail
  obtain ⟨W1, hW⟩ : ∃ W1, W1 = (World.alloc (World.alloc (World.alloc w (.cells #[.bool ba, .slice sa na ca, .slice ta ma ea] 25)) (.cells #[.bool bb, .slice sb nb cb, .slice tb mb eb] 25)) (.cells #[.bool bc, .slice sc nc cc, .slice tc mc ec] 25)) := ⟨_, rfl⟩
  rw [← hW]
  obtain ⟨xa0, xb0, xc0, hk, hb⟩ := boxes_3 _ _ _ _ _ _ _ hW
  clear hW
  have Ga0 := Lib.hid (show w.heap.size ≤ w.heap.size from Nat.le_trans HB.out.size (by omega))
  have Gb0 := Lib.hid (show w.heap.size ≤ w.heap.size + 1 from Nat.le_trans HB.out.size (by omega))
  have Gc0 := Lib.hid (show w.heap.size ≤ w.heap.size + 1 + 1 from Nat.le_trans HB.out.size (by omega))
  have Xa0 := Lib.hid xa0
  have Xb0 := Lib.hid xb0
  have Xc0 := Lib.hid xc0
  have HB := Lib.hid (below_call HB.out hb)
  clear hk hb xa0 xb0 xc0
  refine Calls.mono (awake3) ?_
  rintro e w2 ⟨v2, rfl, rfl, hb⟩
  have Xa0 := Lib.hid (Box.pcall hb Xa0.out)
  have Xb0 := Lib.hid (Box.pcall hb Xb0.out)
  have Xc0 := Lib.hid (Box.pcall hb Xc0.out)
  have HB := Lib.hid (below_call HB.out hb)
  clear hb
  obtain ⟨ca00, ca01, ca02, fa00, fa01, fa02⟩ := Xa0.out.c3
  have la0 := Xa0.out.lt
  obtain ⟨cb00, cb01, cb02, fb00, fb01, fb02⟩ := Xb0.out.c3
  have lb0 := Xb0.out.lt
  obtain ⟨cc00, cc01, cc02, fc00, fc01, fc02⟩ := Xc0.out.c3
  have lc0 := Xc0.out.lt
  go_wp2_with fail
  clear ca00 ca01 ca02 fa00 fa01 fa02 la0 cb00 cb01 cb02 fb00 fb01 fb02 lb0 cc00 cc01 cc02 fc00 fc01 fc02 lc0
  refine Calls.mono (few3_no Hno.out) ?_
  rintro e w3 ⟨v3, rfl, rfl, hb⟩
  have Xa0 := Lib.hid (Box.pcall hb Xa0.out)
  have Xb0 := Lib.hid (Box.pcall hb Xb0.out)
  have Xc0 := Lib.hid (Box.pcall hb Xc0.out)
  have HB := Lib.hid (below_call HB.out hb)
  clear hb
  obtain ⟨ca00, ca01, ca02, fa00, fa01, fa02⟩ := Xa0.out.c3
  have la0 := Xa0.out.lt
  obtain ⟨cb00, cb01, cb02, fb00, fb01, fb02⟩ := Xb0.out.c3
  have lb0 := Xb0.out.lt
  obtain ⟨cc00, cc01, cc02, fc00, fc01, fc02⟩ := Xc0.out.c3
  have lc0 := Xc0.out.lt
  go_wp2
  clear ca00 ca01 ca02 fa00 fa01 fa02 la0 cb00 cb01 cb02 fb00 fb01 fb02 lb0 cc00 cc01 cc02 fc00 fc01 fc02 lc0
  go_ret
  exact ⟨_, rfl, rfl, HB.out⟩


set_option maxRecDepth 100000 in
set_option maxHeartbeats 4000000 in
theorem lradd_no1 {ba : Bool} {sa ta : Option Addr} {na ca ma ea : Nat} {bb : Bool} {sb tb : Option Addr} {nb cb mb eb : Nat} {bc : Bool} {sc tc : Option Addr} {nc cc mc ec : Nat}  {w : World} (hfa : na ≤ 3) (hga : ma ≤ 3) (hno : 3 < nb ∨ 3 < mb) :
    Calls Try.prog 3 #[.agg #[.bool ba, .slice sa na ca, .slice ta ma ea], .agg #[.bool bb, .slice sb nb cb, .slice tb mb eb], .agg #[.bool bc, .slice sc nc cc, .slice tc mc ec]] w (Ret w (Val (.bool true))) := by
  have Hfa := Lib.hid hfa
  have Hga := Lib.hid hga
  have Hno := Lib.hid hno
  clear hfa hga hno
  go_enter Try.func3, Try.ntmps3
  have HB := Lib.hid (Below.refl w.heap.size w)
  go_wp2_with fail
  obtain ⟨W1, hW⟩ : ∃ W1, W1 = (World.alloc (World.alloc (World.alloc w (.cells #[.bool ba, .slice sa na ca, .slice ta ma ea] 25)) (.cells #[.bool bb, .slice sb nb cb, .slice tb mb eb] 25)) (.cells #[.bool bc, .slice sc nc cc, .slice tc mc ec] 25)) := ⟨_, rfl⟩
  rw [← hW]
  obtain ⟨xa0, xb0, xc0, hk, hb⟩ := boxes_3 _ _ _ _ _ _ _ hW
  clear hW
  have Ga0 := Lib.hid (show w.heap.size ≤ w.heap.size from Nat.le_trans HB.out.size (by omega))
  have Gb0 := Lib.hid (show w.heap.size ≤ w.heap.size + 1 from Nat.le_trans HB.out.size (by omega))
  have Gc0 := Lib.hid (show w.heap.size ≤ w.heap.size + 1 + 1 from Nat.le_trans HB.out.size (by omega))
  have Xa0 := Lib.hid xa0
  have Xb0 := Lib.hid xb0
  have Xc0 := Lib.hid xc0
  have HB := Lib.hid (below_call HB.out hb)
  clear hk hb xa0 xb0 xc0
  refine Calls.mono (awake3) ?_
  rintro e w2 ⟨v2, rfl, rfl, hb⟩
  have Xa0 := Lib.hid (Box.pcall hb Xa0.out)
  have Xb0 := Lib.hid (Box.pcall hb Xb0.out)
  have Xc0 := Lib.hid (Box.pcall hb Xc0.out)
  have HB := Lib.hid (below_call HB.out hb)
  clear hb
  obtain ⟨ca00, ca01, ca02, fa00, fa01, fa02⟩ := Xa0.out.c3
  have la0 := Xa0.out.lt
  obtain ⟨cb00, cb01, cb02, fb00, fb01, fb02⟩ := Xb0.out.c3
  have lb0 := Xb0.out.lt
  obtain ⟨cc00, cc01, cc02, fc00, fc01, fc02⟩ := Xc0.out.c3
  have lc0 := Xc0.out.lt
  go_wp2_with fail
  clear ca00 ca01 ca02 fa00 fa01 fa02 la0 cb00 cb01 cb02 fb00 fb01 fb02 lb0 cc00 cc01 cc02 fc00 fc01 fc02 lc0
  refine Calls.mono (few3_yes Hfa.out Hga.out) ?_
  rintro e w3 ⟨v3, rfl, rfl, hb⟩
  have Xa0 := Lib.hid (Box.pcall hb Xa0.out)
  have Xb0 := Lib.hid (Box.pcall hb Xb0.out)
  have Xc0 := Lib.hid (Box.pcall hb Xc0.out)
  have HB := Lib.hid (below_call HB.out hb)
  clear hb
  obtain ⟨ca00, ca01, ca02, fa00, fa01, fa02⟩ := Xa0.out.c3
  have la0 := Xa0.out.lt
  obtain ⟨cb00, cb01, cb02, fb00, fb01, fb02⟩ := Xb0.out.c3
  have lb0 := Xb0.out.lt
  obtain ⟨cc00, cc01, cc02, fc00, fc01, fc02⟩ := Xc0.out.c3
  have lc0 := Xc0.out.lt
  go_wp2_with fail
  clear ca00 ca01 ca02 fa00 fa01 fa02 la0 cb00 cb01 cb02 fb00 fb01 fb02 lb0 cc00 cc01 cc02 fc00 fc01 fc02 lc0
  refine Calls.mono (few3_no Hno.out) ?_
  rintro e w4 ⟨v4, rfl, rfl, hb⟩
  have Xa0 := Lib.hid (Box.pcall hb Xa0.out)
  have Xb0 := Lib.hid (Box.pcall hb Xb0.out)
  have Xc0 := Lib.hid (Box.pcall hb Xc0.out)
  have HB := Lib.hid (below_call HB.out hb)
  clear hb
  obtain ⟨ca00, ca01, ca02, fa00, fa01, fa02⟩ := Xa0.out.c3
  have la0 := Xa0.out.lt
  obtain ⟨cb00, cb01, cb02, fb00, fb01, fb02⟩ := Xb0.out.c3
  have lb0 := Xb0.out.lt
  obtain ⟨cc00, cc01, cc02, fc00, fc01, fc02⟩ := Xc0.out.c3
  have lc0 := Xc0.out.lt
  go_wp2
  clear ca00 ca01 ca02 fa00 fa01 fa02 la0 cb00 cb01 cb02 fb00 fb01 fb02 lb0 cc00 cc01 cc02 fc00 fc01 fc02 lc0
  go_ret
  exact ⟨_, rfl, rfl, HB.out⟩


set_option maxRecDepth 100000 in
set_option maxHeartbeats 4000000 in
theorem lradd_no2 {ba : Bool} {sa ta : Option Addr} {na ca ma ea : Nat} {bb : Bool} {sb tb : Option Addr} {nb cb mb eb : Nat} {bc : Bool} {sc tc : Option Addr} {nc cc mc ec : Nat}  {w : World} (hfa : na ≤ 3) (hga : ma ≤ 3) (hfb : nb ≤ 3) (hgb : mb ≤ 3) (hno : 3 < nc ∨ 3 < mc) :
    Calls Try.prog 3 #[.agg #[.bool ba, .slice sa na ca, .slice ta ma ea], .agg #[.bool bb, .slice sb nb cb, .slice tb mb eb], .agg #[.bool bc, .slice sc nc cc, .slice tc mc ec]] w (Ret w (Val (.bool true))) := by
  have Hfa := Lib.hid hfa
  have Hga := Lib.hid hga
  have Hfb := Lib.hid hfb
  have Hgb := Lib.hid hgb
  have Hno := Lib.hid hno
  clear hfa hga hfb hgb hno
  go_enter Try.func3, Try.ntmps3
  have HB := Lib.hid (Below.refl w.heap.size w)
  go_wp2_with fail
  obtain ⟨W1, hW⟩ : ∃ W1, W1 = (World.alloc (World.alloc (World.alloc w (.cells #[.bool ba, .slice sa na ca, .slice ta ma ea] 25)) (.cells #[.bool bb, .slice sb nb cb, .slice tb mb eb] 25)) (.cells #[.bool bc, .slice sc nc cc, .slice tc mc ec] 25)) := ⟨_, rfl⟩
  rw [← hW]
  obtain ⟨xa0, xb0, xc0, hk, hb⟩ := boxes_3 _ _ _ _ _ _ _ hW
  clear hW
  have Ga0 := Lib.hid (show w.heap.size ≤ w.heap.size from Nat.le_trans HB.out.size (by omega))
  have Gb0 := Lib.hid (show w.heap.size ≤ w.heap.size + 1 from Nat.le_trans HB.out.size (by omega))
  have Gc0 := Lib.hid (show w.heap.size ≤ w.heap.size + 1 + 1 from Nat.le_trans HB.out.size (by omega))
  have Xa0 := Lib.hid xa0
  have Xb0 := Lib.hid xb0
  have Xc0 := Lib.hid xc0
  have HB := Lib.hid (below_call HB.out hb)
  clear hk hb xa0 xb0 xc0
  refine Calls.mono (awake3) ?_
  rintro e w2 ⟨v2, rfl, rfl, hb⟩
  have Xa0 := Lib.hid (Box.pcall hb Xa0.out)
  have Xb0 := Lib.hid (Box.pcall hb Xb0.out)
  have Xc0 := Lib.hid (Box.pcall hb Xc0.out)
  have HB := Lib.hid (below_call HB.out hb)
  clear hb
  obtain ⟨ca00, ca01, ca02, fa00, fa01, fa02⟩ := Xa0.out.c3
  have la0 := Xa0.out.lt
  obtain ⟨cb00, cb01, cb02, fb00, fb01, fb02⟩ := Xb0.out.c3
  have lb0 := Xb0.out.lt
  obtain ⟨cc00, cc01, cc02, fc00, fc01, fc02⟩ := Xc0.out.c3
  have lc0 := Xc0.out.lt
  go_wp2_with fail
  clear ca00 ca01 ca02 fa00 fa01 fa02 la0 cb00 cb01 cb02 fb00 fb01 fb02 lb0 cc00 cc01 cc02 fc00 fc01 fc02 lc0
  refine Calls.mono (few3_yes Hfa.out Hga.out) ?_
  rintro e w3 ⟨v3, rfl, rfl, hb⟩
  have Xa0 := Lib.hid (Box.pcall hb Xa0.out)
  have Xb0 := Lib.hid (Box.pcall hb Xb0.out)
  have Xc0 := Lib.hid (Box.pcall hb Xc0.out)
  have HB := Lib.hid (below_call HB.out hb)
  clear hb
  obtain ⟨ca00, ca01, ca02, fa00, fa01, fa02⟩ := Xa0.out.c3
  have la0 := Xa0.out.lt
  obtain ⟨cb00, cb01, cb02, fb00, fb01, fb02⟩ := Xb0.out.c3
  have lb0 := Xb0.out.lt
  obtain ⟨cc00, cc01, cc02, fc00, fc01, fc02⟩ := Xc0.out.c3
  have lc0 := Xc0.out.lt
  go_wp2_with fail
  clear ca00 ca01 ca02 fa00 fa01 fa02 la0 cb00 cb01 cb02 fb00 fb01 fb02 lb0 cc00 cc01 cc02 fc00 fc01 fc02 lc0
  refine Calls.mono (few3_yes Hfb.out Hgb.out) ?_
  rintro e w4 ⟨v4, rfl, rfl, hb⟩
  have Xa0 := Lib.hid (Box.pcall hb Xa0.out)
  have Xb0 := Lib.hid (Box.pcall hb Xb0.out)
  have Xc0 := Lib.hid (Box.pcall hb Xc0.out)
  have HB := Lib.hid (below_call HB.out hb)
  clear hb
  obtain ⟨ca00, ca01, ca02, fa00, fa01, fa02⟩ := Xa0.out.c3
  have la0 := Xa0.out.lt
  obtain ⟨cb00, cb01, cb02, fb00, fb01, fb02⟩ := Xb0.out.c3
  have lb0 := Xb0.out.lt
  obtain ⟨cc00, cc01, cc02, fc00, fc01, fc02⟩ := Xc0.out.c3
  have lc0 := Xc0.out.lt
  go_wp2_with fail
  clear ca00 ca01 ca02 fa00 fa01 fa02 la0 cb00 cb01 cb02 fb00 fb01 fb02 lb0 cc00 cc01 cc02 fc00 fc01 fc02 lc0
  refine Calls.mono (few3_no Hno.out) ?_
  rintro e w5 ⟨v5, rfl, rfl, hb⟩
  have Xa0 := Lib.hid (Box.pcall hb Xa0.out)
  have Xb0 := Lib.hid (Box.pcall hb Xb0.out)
  have Xc0 := Lib.hid (Box.pcall hb Xc0.out)
  have HB := Lib.hid (below_call HB.out hb)
  clear hb
  obtain ⟨ca00, ca01, ca02, fa00, fa01, fa02⟩ := Xa0.out.c3
  have la0 := Xa0.out.lt
  obtain ⟨cb00, cb01, cb02, fb00, fb01, fb02⟩ := Xb0.out.c3
  have lb0 := Xb0.out.lt
  obtain ⟨cc00, cc01, cc02, fc00, fc01, fc02⟩ := Xc0.out.c3
  have lc0 := Xc0.out.lt
  go_wp2
  clear ca00 ca01 ca02 fa00 fa01 fa02 la0 cb00 cb01 cb02 fb00 fb01 fb02 lb0 cc00 cc01 cc02 fc00 fc01 fc02 lc0
  go_ret
  exact ⟨_, rfl, rfl, HB.out⟩


set_option maxRecDepth 100000 in
set_option maxHeartbeats 4000000 in
theorem lradd_yes {qa : Rat} {ba : Bool} {sa ta : Option Addr} {na ca ma ea : Nat} {qb : Rat} {bb : Bool} {sb tb : Option Addr} {nb cb mb eb : Nat} {qc : Rat} {bc : Bool} {sc tc : Option Addr} {nc cc mc ec : Nat}  {w : World}  (ha : AR qa 3 w (.agg #[.bool ba, .slice sa na ca, .slice ta ma ea])) (hfa : na ≤ 3) (hga : ma ≤ 3) (hb : AR qb 3 w (.agg #[.bool bb, .slice sb nb cb, .slice tb mb eb])) (hfb : nb ≤ 3) (hgb : mb ≤ 3) (hc : AR qc 3 w (.agg #[.bool bc, .slice sc nc cc, .slice tc mc ec])) (hfc : nc ≤ 3) (hgc : mc ≤ 3) :
    Calls Try.prog 3 #[.agg #[.bool ba, .slice sa na ca, .slice ta ma ea], .agg #[.bool bb, .slice sb nb cb, .slice tb mb eb], .agg #[.bool bc, .slice sc nc cc, .slice tc mc ec]] w (Ret w (Val (.bool true))) := by
  have Ha := Lib.hid ha
  have Hb := Lib.hid hb
  have Hc := Lib.hid hc
  have Hfa := Lib.hid hfa
  have Hga := Lib.hid hga
  have Hfb := Lib.hid hfb
  have Hgb := Lib.hid hgb
  have Hfc := Lib.hid hfc
  have Hgc := Lib.hid hgc
  clear ha hb hc hfa hga hfb hgb hfc hgc
  go_enter Try.func3, Try.ntmps3
  have HB := Lib.hid (Below.refl w.heap.size w)
  go_wp2_with fail
  obtain ⟨W1, hW⟩ : ∃ W1, W1 = (World.alloc (World.alloc (World.alloc w (.cells #[.bool ba, .slice sa na ca, .slice ta ma ea] 25)) (.cells #[.bool bb, .slice sb nb cb, .slice tb mb eb] 25)) (.cells #[.bool bc, .slice sc nc cc, .slice tc mc ec] 25)) := ⟨_, rfl⟩
  rw [← hW]
  obtain ⟨xa0, xb0, xc0, hk, hb⟩ := boxes_3 _ _ _ _ _ _ _ hW
  clear hW
  have Ha := Lib.hid (AR.keep Ha.out hk)
  have Hb := Lib.hid (AR.keep Hb.out hk)
  have Hc := Lib.hid (AR.keep Hc.out hk)
  have Ga0 := Lib.hid (show w.heap.size ≤ w.heap.size from Nat.le_trans HB.out.size (by omega))
  have Gb0 := Lib.hid (show w.heap.size ≤ w.heap.size + 1 from Nat.le_trans HB.out.size (by omega))
  have Gc0 := Lib.hid (show w.heap.size ≤ w.heap.size + 1 + 1 from Nat.le_trans HB.out.size (by omega))
  have Xa0 := Lib.hid xa0
  have Xb0 := Lib.hid xb0
  have Xc0 := Lib.hid xc0
  have HB := Lib.hid (below_call HB.out hb)
  clear hk hb xa0 xb0 xc0
  refine Calls.mono (awake3) ?_
  rintro e w2 ⟨v2, rfl, rfl, hb⟩
  have Ha := Lib.hid (AR.keep Ha.out (Keep.call hb))
  have Hb := Lib.hid (AR.keep Hb.out (Keep.call hb))
  have Hc := Lib.hid (AR.keep Hc.out (Keep.call hb))
  have Xa0 := Lib.hid (Box.pcall hb Xa0.out)
  have Xb0 := Lib.hid (Box.pcall hb Xb0.out)
  have Xc0 := Lib.hid (Box.pcall hb Xc0.out)
  have HB := Lib.hid (below_call HB.out hb)
  clear hb
  obtain ⟨ca00, ca01, ca02, fa00, fa01, fa02⟩ := Xa0.out.c3
  have la0 := Xa0.out.lt
  obtain ⟨cb00, cb01, cb02, fb00, fb01, fb02⟩ := Xb0.out.c3
  have lb0 := Xb0.out.lt
  obtain ⟨cc00, cc01, cc02, fc00, fc01, fc02⟩ := Xc0.out.c3
  have lc0 := Xc0.out.lt
  go_wp2_with fail
  clear ca00 ca01 ca02 fa00 fa01 fa02 la0 cb00 cb01 cb02 fb00 fb01 fb02 lb0 cc00 cc01 cc02 fc00 fc01 fc02 lc0
  refine Calls.mono (few3_yes Hfa.out Hga.out) ?_
  rintro e w3 ⟨v3, rfl, rfl, hb⟩
  have Ha := Lib.hid (AR.keep Ha.out (Keep.call hb))
  have Hb := Lib.hid (AR.keep Hb.out (Keep.call hb))
  have Hc := Lib.hid (AR.keep Hc.out (Keep.call hb))
  have Xa0 := Lib.hid (Box.pcall hb Xa0.out)
  have Xb0 := Lib.hid (Box.pcall hb Xb0.out)
  have Xc0 := Lib.hid (Box.pcall hb Xc0.out)
  have HB := Lib.hid (below_call HB.out hb)
  clear hb
  obtain ⟨ca00, ca01, ca02, fa00, fa01, fa02⟩ := Xa0.out.c3
  have la0 := Xa0.out.lt
  obtain ⟨cb00, cb01, cb02, fb00, fb01, fb02⟩ := Xb0.out.c3
  have lb0 := Xb0.out.lt
  obtain ⟨cc00, cc01, cc02, fc00, fc01, fc02⟩ := Xc0.out.c3
  have lc0 := Xc0.out.lt
  go_wp2_with fail
  clear ca00 ca01 ca02 fa00 fa01 fa02 la0 cb00 cb01 cb02 fb00 fb01 fb02 lb0 cc00 cc01 cc02 fc00 fc01 fc02 lc0
  refine Calls.mono (few3_yes Hfb.out Hgb.out) ?_
  rintro e w4 ⟨v4, rfl, rfl, hb⟩
  have Ha := Lib.hid (AR.keep Ha.out (Keep.call hb))
  have Hb := Lib.hid (AR.keep Hb.out (Keep.call hb))
  have Hc := Lib.hid (AR.keep Hc.out (Keep.call hb))
  have Xa0 := Lib.hid (Box.pcall hb Xa0.out)
  have Xb0 := Lib.hid (Box.pcall hb Xb0.out)
  have Xc0 := Lib.hid (Box.pcall hb Xc0.out)
  have HB := Lib.hid (below_call HB.out hb)
  clear hb
  obtain ⟨ca00, ca01, ca02, fa00, fa01, fa02⟩ := Xa0.out.c3
  have la0 := Xa0.out.lt
  obtain ⟨cb00, cb01, cb02, fb00, fb01, fb02⟩ := Xb0.out.c3
  have lb0 := Xb0.out.lt
  obtain ⟨cc00, cc01, cc02, fc00, fc01, fc02⟩ := Xc0.out.c3
  have lc0 := Xc0.out.lt
  go_wp2_with fail
  clear ca00 ca01 ca02 fa00 fa01 fa02 la0 cb00 cb01 cb02 fb00 fb01 fb02 lb0 cc00 cc01 cc02 fc00 fc01 fc02 lc0
  refine Calls.mono (few3_yes Hfc.out Hgc.out) ?_
  rintro e w5 ⟨v5, rfl, rfl, hb⟩
  have Ha := Lib.hid (AR.keep Ha.out (Keep.call hb))
  have Hb := Lib.hid (AR.keep Hb.out (Keep.call hb))
  have Hc := Lib.hid (AR.keep Hc.out (Keep.call hb))
  have Xa0 := Lib.hid (Box.pcall hb Xa0.out)
  have Xb0 := Lib.hid (Box.pcall hb Xb0.out)
  have Xc0 := Lib.hid (Box.pcall hb Xc0.out)
  have HB := Lib.hid (below_call HB.out hb)
  clear hb
  obtain ⟨ca00, ca01, ca02, fa00, fa01, fa02⟩ := Xa0.out.c3
  have la0 := Xa0.out.lt
  obtain ⟨cb00, cb01, cb02, fb00, fb01, fb02⟩ := Xb0.out.c3
  have lb0 := Xb0.out.lt
  obtain ⟨cc00, cc01, cc02, fc00, fc01, fc02⟩ := Xc0.out.c3
  have lc0 := Xc0.out.lt
  go_wp2_with fail
  clear ca00 ca01 ca02 fa00 fa01 fa02 la0 cb00 cb01 cb02 fb00 fb01 fb02 lb0 cc00 cc01 cc02 fc00 fc01 fc02 lc0
  (first | (have hcall := radd_ar Ha.out Hb.out (by decide) (by decide); refine Calls.mono hcall ?_; clear hcall) | refine Calls.mono (radd_ar Ha.out Hb.out (by decide) (by decide)) ?_)
  rintro e w6 ⟨v6, rfl, hv1, hb⟩
  obtain ⟨v1_b, v1_a, v1_n, v1_c, v1_d, v1_m, v1_e, rfl⟩ := hv1.litb
  have Ha := Lib.hid (AR.keep Ha.out (Keep.call hb))
  have Hb := Lib.hid (AR.keep Hb.out (Keep.call hb))
  have Hc := Lib.hid (AR.keep Hc.out (Keep.call hb))
  have Xa0 := Lib.hid (Box.pcall hb Xa0.out)
  have Xb0 := Lib.hid (Box.pcall hb Xb0.out)
  have Xc0 := Lib.hid (Box.pcall hb Xc0.out)
  have HB := Lib.hid (below_call HB.out hb)
  have Hv1 := Lib.hid hv1
  clear hb hv1
  obtain ⟨ca00, ca01, ca02, fa00, fa01, fa02⟩ := Xa0.out.c3
  have la0 := Xa0.out.lt
  obtain ⟨cb00, cb01, cb02, fb00, fb01, fb02⟩ := Xb0.out.c3
  have lb0 := Xb0.out.lt
  obtain ⟨cc00, cc01, cc02, fc00, fc01, fc02⟩ := Xc0.out.c3
  have lc0 := Xc0.out.lt
  go_wp2_with fail
  clear ca00 ca01 ca02 fa00 fa01 fa02 la0 cb00 cb01 cb02 fb00 fb01 fb02 lb0 cc00 cc01 cc02 fc00 fc01 fc02 lc0
  obtain ⟨W7, hW⟩ : ∃ W7, W7 = (World.alloc w6 (.cells #[.bool v1_b, .slice v1_a v1_n v1_c, .slice v1_d v1_m v1_e] 25)) := ⟨_, rfl⟩
  rw [← hW]
  obtain ⟨xd0, hk, hb⟩ := boxes_1 _ _ _ hW
  clear hW
  have Ha := Lib.hid (AR.keep Ha.out hk)
  have Hb := Lib.hid (AR.keep Hb.out hk)
  have Hc := Lib.hid (AR.keep Hc.out hk)
  have Hv1 := Lib.hid (CR.keep Hv1.out hk)
  have Na0d0 := Lib.hid (show w.heap.size ≠ w6.heap.size from Nat.ne_of_lt (Nat.lt_of_lt_of_le Xa0.out.lt (by omega)))
  have Nb0d0 := Lib.hid (show w.heap.size + 1 ≠ w6.heap.size from Nat.ne_of_lt (Nat.lt_of_lt_of_le Xb0.out.lt (by omega)))
  have Nc0d0 := Lib.hid (show w.heap.size + 1 + 1 ≠ w6.heap.size from Nat.ne_of_lt (Nat.lt_of_lt_of_le Xc0.out.lt (by omega)))
  have Gd0 := Lib.hid (show w.heap.size ≤ w6.heap.size from Nat.le_trans HB.out.size (by omega))
  have Xa0 := Lib.hid (Box.pcall hb Xa0.out)
  have Xb0 := Lib.hid (Box.pcall hb Xb0.out)
  have Xc0 := Lib.hid (Box.pcall hb Xc0.out)
  have Xd0 := Lib.hid xd0
  have HB := Lib.hid (below_call HB.out hb)
  clear hk hb xd0
  have Ha := Lib.hid (AR.keep Ha.out (Keep.drew W7))
  have Hb := Lib.hid (AR.keep Hb.out (Keep.drew W7))
  have Hc := Lib.hid (AR.keep Hc.out (Keep.drew W7))
  have Hv1 := Lib.hid (CR.keep Hv1.out (Keep.drew W7))
  have Xa0 := Lib.hid (Box.drew Xa0.out)
  have Xb0 := Lib.hid (Box.drew Xb0.out)
  have Xc0 := Lib.hid (Box.drew Xc0.out)
  have Xd0 := Lib.hid (Box.drew Xd0.out)
  have HB := Lib.hid (Below.drew HB.out)
  refine wp_region_float [] [] (by kernel_rfl) (by kernel_rfl) 67 (by kernel_rfl) Flok.nil ?_
  intro ok
  have Hok := Lib.hid ok
  clear ok
  have HG := Lib.hid (Below.refl (W7.drew).heap.size (W7.drew))
  refine good_pureX 0 (some 26) (Go.Op.load 25 (Go.Operand.tmp 7)) (none) (.agg #[.bool v1_b, .slice v1_a v1_n v1_c, .slice v1_d v1_m v1_e]) (by kernel_rfl) (by kernel_rfl) (by kernel_rfl) (fun _ _ _ h => h) (fun w' hw' => ?_) ?_
  · obtain ⟨cd00, cd01, cd02, fd00, fd01, fd02⟩ := (Box.se hw' Xd0.out notin0).c3
    first | (go_simp; done) | (go_simp; simp_all; done) | (go_simp; rfl)
  simp only [Act.put, List.setIfInBounds_toArray, List.set_cons_zero, List.set_cons_succ]
  refine good_pureX 1 (some 27) (Go.Op.load 25 (Go.Operand.tmp 3)) (none) (.agg #[.bool ba, .slice sa na ca, .slice ta ma ea]) (by kernel_rfl) (by kernel_rfl) (by kernel_rfl) (fun _ _ _ h => h) (fun w' hw' => ?_) ?_
  · obtain ⟨ca00, ca01, ca02, fa00, fa01, fa02⟩ := (Box.se hw' Xa0.out notin0).c3
    first | (go_simp; done) | (go_simp; simp_all; done) | (go_simp; rfl)
  simp only [Act.put, List.setIfInBounds_toArray, List.set_cons_zero, List.set_cons_succ]
  refine good_pureX 2 (some 28) (Go.Op.load 25 (Go.Operand.tmp 4)) (none) (.agg #[.bool bb, .slice sb nb cb, .slice tb mb eb]) (by kernel_rfl) (by kernel_rfl) (by kernel_rfl) (fun _ _ _ h => h) (fun w' hw' => ?_) ?_
  · obtain ⟨cb00, cb01, cb02, fb00, fb01, fb02⟩ := (Box.se hw' Xb0.out notin0).c3
    first | (go_simp; done) | (go_simp; simp_all; done) | (go_simp; rfl)
  simp only [Act.put, List.setIfInBounds_toArray, List.set_cons_zero, List.set_cons_succ]
  refine good_callX 3 16 (some 29) #[Go.Operand.tmp 27, Go.Operand.tmp 28] #[25, 25] (none) #[.agg #[.bool ba, .slice sa na ca, .slice ta ma ea], .agg #[.bool bb, .slice sb nb cb, .slice tb mb eb]] (by kernel_rfl) Hok.out (by kernel_rfl) (by kernel_rfl) (by kernel_rfl) (by kernel_rfl) rfl rfl rfl (by kernel_rfl) (fun w8 hb => ?_)
  have HG := Lib.hid (below_call HG.out hb)
  clear hb
  (first | (have hcall := zadd_ar (AR.keep Ha.out (Keep.call HG.out)) (AR.keep Hb.out (Keep.call HG.out)) (by decide) (by decide); refine Calls.mono hcall ?_; clear hcall) | refine Calls.mono (zadd_ar (AR.keep Ha.out (Keep.call HG.out)) (AR.keep Hb.out (Keep.call HG.out)) (by decide) (by decide)) ?_)
  rintro e w9 ⟨v9, rfl, hv2, hb⟩
  obtain ⟨v2_b, v2_a, v2_n, v2_c, v2_d, v2_m, v2_e, rfl⟩ := hv2.litb
  refine ⟨_, rfl, ?_, hb⟩
  have HG := Lib.hid (below_call HG.out hb)
  have Hv2 := Lib.hid hv2
  clear hb hv2
  simp only [Act.put, List.setIfInBounds_toArray, List.set_cons_zero, List.set_cons_succ]
  refine good_callX 4 15 (some 30) #[Go.Operand.tmp 26, Go.Operand.tmp 29] #[25, 25] (none) #[.agg #[.bool v1_b, .slice v1_a v1_n v1_c, .slice v1_d v1_m v1_e], .agg #[.bool v2_b, .slice v2_a v2_n v2_c, .slice v2_d v2_m v2_e]] (by kernel_rfl) Hok.out (by kernel_rfl) (by kernel_rfl) (by kernel_rfl) (by kernel_rfl) rfl rfl rfl (by kernel_rfl) (fun w10 hb => ?_)
  have Hv2 := Lib.hid (CR.keep Hv2.out (Keep.call hb))
  have HG := Lib.hid (below_call HG.out hb)
  clear hb
  (first | (have hcall := zsame_cr (CR.keep Hv1.out (Keep.call HG.out)) Hv2.out (rfl); refine Calls.mono hcall ?_; clear hcall) | refine Calls.mono (zsame_cr (CR.keep Hv1.out (Keep.call HG.out)) Hv2.out (rfl)) ?_)
  rintro e w11 ⟨v11, rfl, rfl, hb⟩
  refine ⟨_, rfl, ?_, hb⟩
  have HG := Lib.hid (below_call HG.out hb)
  clear hb
  simp only [Act.put, List.setIfInBounds_toArray, List.set_cons_zero, List.set_cons_succ]
  refine good_pureX 5 (some 31) (Go.Op.unOp Go.UnOp.not 4 (Go.Operand.tmp 30)) (none) (.bool false) (by kernel_rfl) (by kernel_rfl) (by kernel_rfl) (fun _ _ _ h => h) (fun w' hw' => ?_) ?_
  · first | (go_simp; done) | (go_simp; simp_all; done) | (go_simp; rfl)
  simp only [Act.put, List.setIfInBounds_toArray, List.set_cons_zero, List.set_cons_succ]
  refine good_pureX 6 (some 32) (Go.Op.move (Go.Operand.tmp 31)) (none) (.bool false) (by kernel_rfl) (by kernel_rfl) (by kernel_rfl) (fun _ _ _ h => h) (fun w' hw' => ?_) ?_
  · first | (go_simp; done) | (go_simp; simp_all; done) | (go_simp; rfl)
  simp only [Act.put, List.setIfInBounds_toArray, List.set_cons_zero, List.set_cons_succ]
  refine good_pureX 7 (some 33) (Go.Op.load 25 (Go.Operand.tmp 3)) (some (6, false)) (.agg #[.bool ba, .slice sa na ca, .slice ta ma ea]) (by kernel_rfl) (by kernel_rfl) (by kernel_rfl) (fun _ _ _ h => h) (fun w' hw' => ?_) ?_
  · obtain ⟨ca00, ca01, ca02, fa00, fa01, fa02⟩ := (Box.se hw' Xa0.out notin0).c3
    first | (go_simp; done) | (go_simp; simp_all; done) | (go_simp; rfl)
  simp only [Act.put, List.setIfInBounds_toArray, List.set_cons_zero, List.set_cons_succ]
  refine good_pureX 8 (some 34) (Go.Op.load 25 (Go.Operand.tmp 4)) (some (6, false)) (.agg #[.bool bb, .slice sb nb cb, .slice tb mb eb]) (by kernel_rfl) (by kernel_rfl) (by kernel_rfl) (fun _ _ _ h => h) (fun w' hw' => ?_) ?_
  · obtain ⟨cb00, cb01, cb02, fb00, fb01, fb02⟩ := (Box.se hw' Xb0.out notin0).c3
    first | (go_simp; done) | (go_simp; simp_all; done) | (go_simp; rfl)
  simp only [Act.put, List.setIfInBounds_toArray, List.set_cons_zero, List.set_cons_succ]
  refine good_pureX 10 (some 36) (Go.Op.load 25 (Go.Operand.tmp 3)) (some (6, false)) (.agg #[.bool ba, .slice sa na ca, .slice ta ma ea]) (by kernel_rfl) (by kernel_rfl) (by kernel_rfl) (fun _ _ _ h => h) (fun w' hw' => ?_) ?_
  · obtain ⟨ca00, ca01, ca02, fa00, fa01, fa02⟩ := (Box.se hw' Xa0.out notin0).c3
    first | (go_simp; done) | (go_simp; simp_all; done) | (go_simp; rfl)
  simp only [Act.put, List.setIfInBounds_toArray, List.set_cons_zero, List.set_cons_succ]
  refine good_pureX 11 (some 37) (Go.Op.load 25 (Go.Operand.tmp 4)) (some (6, false)) (.agg #[.bool bb, .slice sb nb cb, .slice tb mb eb]) (by kernel_rfl) (by kernel_rfl) (by kernel_rfl) (fun _ _ _ h => h) (fun w' hw' => ?_) ?_
  · obtain ⟨cb00, cb01, cb02, fb00, fb01, fb02⟩ := (Box.se hw' Xb0.out notin0).c3
    first | (go_simp; done) | (go_simp; simp_all; done) | (go_simp; rfl)
  simp only [Act.put, List.setIfInBounds_toArray, List.set_cons_zero, List.set_cons_succ]
  refine good_callX 9 17 (some 35) #[Go.Operand.tmp 33, Go.Operand.tmp 34] #[25, 25] (some (6, false)) #[.agg #[.bool ba, .slice sa na ca, .slice ta ma ea], .agg #[.bool bb, .slice sb nb cb, .slice tb mb eb]] (by kernel_rfl) Hok.out (by kernel_rfl) (by kernel_rfl) (by kernel_rfl) (by kernel_rfl) rfl rfl rfl (by kernel_rfl) (fun w12 hb => ?_)
  have HG := Lib.hid (below_call HG.out hb)
  clear hb
  (first | (have hcall := rsub_ar (AR.keep Ha.out (Keep.call HG.out)) (AR.keep Hb.out (Keep.call HG.out)) (by decide) (by decide); refine Calls.mono hcall ?_; clear hcall) | refine Calls.mono (rsub_ar (AR.keep Ha.out (Keep.call HG.out)) (AR.keep Hb.out (Keep.call HG.out)) (by decide) (by decide)) ?_)
  rintro e w13 ⟨v13, rfl, hv3, hb⟩
  obtain ⟨v3_b, v3_a, v3_n, v3_c, v3_d, v3_m, v3_e, rfl⟩ := hv3.litb
  refine ⟨_, rfl, ?_, hb⟩
  have HG := Lib.hid (below_call HG.out hb)
  have Hv3 := Lib.hid hv3
  clear hb hv3
  simp only [Act.put, List.setIfInBounds_toArray, List.set_cons_zero, List.set_cons_succ]
  refine good_callX 12 18 (some 38) #[Go.Operand.tmp 36, Go.Operand.tmp 37] #[25, 25] (some (6, false)) #[.agg #[.bool ba, .slice sa na ca, .slice ta ma ea], .agg #[.bool bb, .slice sb nb cb, .slice tb mb eb]] (by kernel_rfl) Hok.out (by kernel_rfl) (by kernel_rfl) (by kernel_rfl) (by kernel_rfl) rfl rfl rfl (by kernel_rfl) (fun w14 hb => ?_)
  have Hv3 := Lib.hid (CR.keep Hv3.out (Keep.call hb))
  have HG := Lib.hid (below_call HG.out hb)
  clear hb
  (first | (have hcall := zsub_ar (AR.keep Ha.out (Keep.call HG.out)) (AR.keep Hb.out (Keep.call HG.out)) (by decide) (by decide); refine Calls.mono hcall ?_; clear hcall) | refine Calls.mono (zsub_ar (AR.keep Ha.out (Keep.call HG.out)) (AR.keep Hb.out (Keep.call HG.out)) (by decide) (by decide)) ?_)
  rintro e w15 ⟨v15, rfl, hv4, hb⟩
  obtain ⟨v4_b, v4_a, v4_n, v4_c, v4_d, v4_m, v4_e, rfl⟩ := hv4.litb
  refine ⟨_, rfl, ?_, hb⟩
  have Hv3 := Lib.hid (CR.keep Hv3.out (Keep.call hb))
  have HG := Lib.hid (below_call HG.out hb)
  have Hv4 := Lib.hid hv4
  clear hb hv4
  simp only [Act.put, List.setIfInBounds_toArray, List.set_cons_zero, List.set_cons_succ]
  refine good_callX 13 15 (some 39) #[Go.Operand.tmp 35, Go.Operand.tmp 38] #[25, 25] (some (6, false)) #[.agg #[.bool v3_b, .slice v3_a v3_n v3_c, .slice v3_d v3_m v3_e], .agg #[.bool v4_b, .slice v4_a v4_n v4_c, .slice v4_d v4_m v4_e]] (by kernel_rfl) Hok.out (by kernel_rfl) (by kernel_rfl) (by kernel_rfl) (by kernel_rfl) rfl rfl rfl (by kernel_rfl) (fun w16 hb => ?_)
  have Hv3 := Lib.hid (CR.keep Hv3.out (Keep.call hb))
  have Hv4 := Lib.hid (CR.keep Hv4.out (Keep.call hb))
  have HG := Lib.hid (below_call HG.out hb)
  clear hb
  (first | (have hcall := zsame_cr Hv3.out Hv4.out (rfl); refine Calls.mono hcall ?_; clear hcall) | refine Calls.mono (zsame_cr Hv3.out Hv4.out (rfl)) ?_)
  rintro e w17 ⟨v17, rfl, rfl, hb⟩
  refine ⟨_, rfl, ?_, hb⟩
  have HG := Lib.hid (below_call HG.out hb)
  clear hb
  simp only [Act.put, List.setIfInBounds_toArray, List.set_cons_zero, List.set_cons_succ]
  refine good_pureX 14 (some 40) (Go.Op.unOp Go.UnOp.not 4 (Go.Operand.tmp 39)) (some (6, false)) (.bool false) (by kernel_rfl) (by kernel_rfl) (by kernel_rfl) (fun _ _ _ h => h) (fun w' hw' => ?_) ?_
  · first | (go_simp; done) | (go_simp; simp_all; done) | (go_simp; rfl)
  simp only [Act.put, List.setIfInBounds_toArray, List.set_cons_zero, List.set_cons_succ]
  refine good_pureX 15 (some 41) (Go.Op.pick (Go.Operand.tmp 32) (Go.Operand.const (Go.Value.bool true)) (Go.Operand.tmp 40)) (none) (.bool false) (by kernel_rfl) (by kernel_rfl) (by kernel_rfl) (fun _ _ _ h => h) (fun w' hw' => ?_) ?_
  · first | (go_simp; done) | (go_simp; simp_all; done) | (go_simp; rfl)
  simp only [Act.put, List.setIfInBounds_toArray, List.set_cons_zero, List.set_cons_succ]
  refine good_pureX 16 (some 42) (Go.Op.move (Go.Operand.tmp 41)) (none) (.bool false) (by kernel_rfl) (by kernel_rfl) (by kernel_rfl) (fun _ _ _ h => h) (fun w' hw' => ?_) ?_
  · first | (go_simp; done) | (go_simp; simp_all; done) | (go_simp; rfl)
  simp only [Act.put, List.setIfInBounds_toArray, List.set_cons_zero, List.set_cons_succ]
  refine good_pureX 17 (some 43) (Go.Op.load 25 (Go.Operand.tmp 7)) (some (16, false)) (.agg #[.bool v1_b, .slice v1_a v1_n v1_c, .slice v1_d v1_m v1_e]) (by kernel_rfl) (by kernel_rfl) (by kernel_rfl) (fun _ _ _ h => h) (fun w' hw' => ?_) ?_
  · obtain ⟨cd00, cd01, cd02, fd00, fd01, fd02⟩ := (Box.se hw' Xd0.out notin0).c3
    first | (go_simp; done) | (go_simp; simp_all; done) | (go_simp; rfl)
  simp only [Act.put, List.setIfInBounds_toArray, List.set_cons_zero, List.set_cons_succ]
  refine good_pureX 18 (some 44) (Go.Op.load 25 (Go.Operand.tmp 4)) (some (16, false)) (.agg #[.bool bb, .slice sb nb cb, .slice tb mb eb]) (by kernel_rfl) (by kernel_rfl) (by kernel_rfl) (fun _ _ _ h => h) (fun w' hw' => ?_) ?_
  · obtain ⟨cb00, cb01, cb02, fb00, fb01, fb02⟩ := (Box.se hw' Xb0.out notin0).c3
    first | (go_simp; done) | (go_simp; simp_all; done) | (go_simp; rfl)
  simp only [Act.put, List.setIfInBounds_toArray, List.set_cons_zero, List.set_cons_succ]
  refine good_pureX 19 (some 45) (Go.Op.load 25 (Go.Operand.tmp 3)) (some (16, false)) (.agg #[.bool ba, .slice sa na ca, .slice ta ma ea]) (by kernel_rfl) (by kernel_rfl) (by kernel_rfl) (fun _ _ _ h => h) (fun w' hw' => ?_) ?_
  · obtain ⟨ca00, ca01, ca02, fa00, fa01, fa02⟩ := (Box.se hw' Xa0.out notin0).c3
    first | (go_simp; done) | (go_simp; simp_all; done) | (go_simp; rfl)
  simp only [Act.put, List.setIfInBounds_toArray, List.set_cons_zero, List.set_cons_succ]
  refine good_callX 20 14 (some 46) #[Go.Operand.tmp 44, Go.Operand.tmp 45] #[25, 25] (some (16, false)) #[.agg #[.bool bb, .slice sb nb cb, .slice tb mb eb], .agg #[.bool ba, .slice sa na ca, .slice ta ma ea]] (by kernel_rfl) Hok.out (by kernel_rfl) (by kernel_rfl) (by kernel_rfl) (by kernel_rfl) rfl rfl rfl (by kernel_rfl) (fun w18 hb => ?_)
  have HG := Lib.hid (below_call HG.out hb)
  clear hb
  (first | (have hcall := radd_ar (AR.keep Hb.out (Keep.call HG.out)) (AR.keep Ha.out (Keep.call HG.out)) (by decide) (by decide); refine Calls.mono hcall ?_; clear hcall) | refine Calls.mono (radd_ar (AR.keep Hb.out (Keep.call HG.out)) (AR.keep Ha.out (Keep.call HG.out)) (by decide) (by decide)) ?_)
  rintro e w19 ⟨v19, rfl, hv5, hb⟩
  obtain ⟨v5_b, v5_a, v5_n, v5_c, v5_d, v5_m, v5_e, rfl⟩ := hv5.litb
  refine ⟨_, rfl, ?_, hb⟩
  have HG := Lib.hid (below_call HG.out hb)
  have Hv5 := Lib.hid hv5
  clear hb hv5
  simp only [Act.put, List.setIfInBounds_toArray, List.set_cons_zero, List.set_cons_succ]
  refine good_callX 21 15 (some 47) #[Go.Operand.tmp 43, Go.Operand.tmp 46] #[25, 25] (some (16, false)) #[.agg #[.bool v1_b, .slice v1_a v1_n v1_c, .slice v1_d v1_m v1_e], .agg #[.bool v5_b, .slice v5_a v5_n v5_c, .slice v5_d v5_m v5_e]] (by kernel_rfl) Hok.out (by kernel_rfl) (by kernel_rfl) (by kernel_rfl) (by kernel_rfl) rfl rfl rfl (by kernel_rfl) (fun w20 hb => ?_)
  have Hv5 := Lib.hid (CR.keep Hv5.out (Keep.call hb))
  have HG := Lib.hid (below_call HG.out hb)
  clear hb
  refine Calls.mono (zsame_cr (CR.keep Hv1.out (Keep.call HG.out)) Hv5.out (Rat.add_comm _ _)) ?_
  rintro e w21 ⟨v21, rfl, rfl, hb⟩
  refine ⟨_, rfl, ?_, hb⟩
  have HG := Lib.hid (below_call HG.out hb)
  clear hb
  simp only [Act.put, List.setIfInBounds_toArray, List.set_cons_zero, List.set_cons_succ]
  refine good_pureX 22 (some 48) (Go.Op.unOp Go.UnOp.not 4 (Go.Operand.tmp 47)) (some (16, false)) (.bool false) (by kernel_rfl) (by kernel_rfl) (by kernel_rfl) (fun _ _ _ h => h) (fun w' hw' => ?_) ?_
  · first | (go_simp; done) | (go_simp; simp_all; done) | (go_simp; rfl)
  simp only [Act.put, List.setIfInBounds_toArray, List.set_cons_zero, List.set_cons_succ]
  refine good_pureX 23 (some 49) (Go.Op.pick (Go.Operand.tmp 42) (Go.Operand.const (Go.Value.bool true)) (Go.Operand.tmp 48)) (none) (.bool false) (by kernel_rfl) (by kernel_rfl) (by kernel_rfl) (fun _ _ _ h => h) (fun w' hw' => ?_) ?_
  · first | (go_simp; done) | (go_simp; simp_all; done) | (go_simp; rfl)
  simp only [Act.put, List.setIfInBounds_toArray, List.set_cons_zero, List.set_cons_succ]
  refine good_end0 0 (by kernel_rfl) (fun _ w22 hb => ?_)
  have HG := Lib.hid (below_call HG.out hb)
  clear hb
  have Ha := Lib.hid (AR.keep Ha.out (Keep.call HG.out))
  have Hb := Lib.hid (AR.keep Hb.out (Keep.call HG.out))
  have Hc := Lib.hid (AR.keep Hc.out (Keep.call HG.out))
  have Hv1 := Lib.hid (CR.keep Hv1.out (Keep.call HG.out))
  have Xa0 := Lib.hid (Box.pcall HG.out Xa0.out)
  have Xb0 := Lib.hid (Box.pcall HG.out Xb0.out)
  have Xc0 := Lib.hid (Box.pcall HG.out Xc0.out)
  have Xd0 := Lib.hid (Box.pcall HG.out Xd0.out)
  have HB := Lib.hid (below_call HB.out HG.out)
  have HS := Lib.hid (SE.of (E := []) HG.out)
  refine wpAnyH_done (by kernel_rfl) ?_ _
  clear HG HS Hok 
  obtain ⟨ca00, ca01, ca02, fa00, fa01, fa02⟩ := Xa0.out.c3
  have la0 := Xa0.out.lt
  obtain ⟨cb00, cb01, cb02, fb00, fb01, fb02⟩ := Xb0.out.c3
  have lb0 := Xb0.out.lt
  obtain ⟨cc00, cc01, cc02, fc00, fc01, fc02⟩ := Xc0.out.c3
  have lc0 := Xc0.out.lt
  obtain ⟨cd00, cd01, cd02, fd00, fd01, fd02⟩ := Xd0.out.c3
  have ld0 := Xd0.out.lt
  go_wp2_with fail
  clear ca00 ca01 ca02 fa00 fa01 fa02 la0 cb00 cb01 cb02 fb00 fb01 fb02 lb0 cc00 cc01 cc02 fc00 fc01 fc02 lc0 cd00 cd01 cd02 fd00 fd01 fd02 ld0
  have Ha := Lib.hid (AR.keep Ha.out (Keep.drew w22))
  have Hb := Lib.hid (AR.keep Hb.out (Keep.drew w22))
  have Hc := Lib.hid (AR.keep Hc.out (Keep.drew w22))
  have Hv1 := Lib.hid (CR.keep Hv1.out (Keep.drew w22))
  have Xa0 := Lib.hid (Box.drew Xa0.out)
  have Xb0 := Lib.hid (Box.drew Xb0.out)
  have Xc0 := Lib.hid (Box.drew Xc0.out)
  have Xd0 := Lib.hid (Box.drew Xd0.out)
  have HB := Lib.hid (Below.drew HB.out)
  refine wp_region_float [] [] (by kernel_rfl) (by kernel_rfl) 67 (by kernel_rfl) Flok.nil ?_
  intro ok
  have Hok := Lib.hid ok
  clear ok
  have HG := Lib.hid (Below.refl (w22.drew).heap.size (w22.drew))
  refine good_pureX 0 (some 50) (Go.Op.load 25 (Go.Operand.tmp 7)) (none) (.agg #[.bool v1_b, .slice v1_a v1_n v1_c, .slice v1_d v1_m v1_e]) (by kernel_rfl) (by kernel_rfl) (by kernel_rfl) (fun _ _ _ h => h) (fun w' hw' => ?_) ?_
  · obtain ⟨cd00, cd01, cd02, fd00, fd01, fd02⟩ := (Box.se hw' Xd0.out notin0).c3
    first | (go_simp; done) | (go_simp; simp_all; done) | (go_simp; rfl)
  simp only [Act.put, List.setIfInBounds_toArray, List.set_cons_zero, List.set_cons_succ]
  refine good_pureX 1 (some 51) (Go.Op.load 25 (Go.Operand.tmp 5)) (none) (.agg #[.bool bc, .slice sc nc cc, .slice tc mc ec]) (by kernel_rfl) (by kernel_rfl) (by kernel_rfl) (fun _ _ _ h => h) (fun w' hw' => ?_) ?_
  · obtain ⟨cc00, cc01, cc02, fc00, fc01, fc02⟩ := (Box.se hw' Xc0.out notin0).c3
    first | (go_simp; done) | (go_simp; simp_all; done) | (go_simp; rfl)
  simp only [Act.put, List.setIfInBounds_toArray, List.set_cons_zero, List.set_cons_succ]
  refine good_pureX 3 (some 53) (Go.Op.load 25 (Go.Operand.tmp 3)) (none) (.agg #[.bool ba, .slice sa na ca, .slice ta ma ea]) (by kernel_rfl) (by kernel_rfl) (by kernel_rfl) (fun _ _ _ h => h) (fun w' hw' => ?_) ?_
  · obtain ⟨ca00, ca01, ca02, fa00, fa01, fa02⟩ := (Box.se hw' Xa0.out notin0).c3
    first | (go_simp; done) | (go_simp; simp_all; done) | (go_simp; rfl)
  simp only [Act.put, List.setIfInBounds_toArray, List.set_cons_zero, List.set_cons_succ]
  refine good_pureX 4 (some 54) (Go.Op.load 25 (Go.Operand.tmp 4)) (none) (.agg #[.bool bb, .slice sb nb cb, .slice tb mb eb]) (by kernel_rfl) (by kernel_rfl) (by kernel_rfl) (fun _ _ _ h => h) (fun w' hw' => ?_) ?_
  · obtain ⟨cb00, cb01, cb02, fb00, fb01, fb02⟩ := (Box.se hw' Xb0.out notin0).c3
    first | (go_simp; done) | (go_simp; simp_all; done) | (go_simp; rfl)
  simp only [Act.put, List.setIfInBounds_toArray, List.set_cons_zero, List.set_cons_succ]
  refine good_pureX 5 (some 55) (Go.Op.load 25 (Go.Operand.tmp 5)) (none) (.agg #[.bool bc, .slice sc nc cc, .slice tc mc ec]) (by kernel_rfl) (by kernel_rfl) (by kernel_rfl) (fun _ _ _ h => h) (fun w' hw' => ?_) ?_
  · obtain ⟨cc00, cc01, cc02, fc00, fc01, fc02⟩ := (Box.se hw' Xc0.out notin0).c3
    first | (go_simp; done) | (go_simp; simp_all; done) | (go_simp; rfl)
  simp only [Act.put, List.setIfInBounds_toArray, List.set_cons_zero, List.set_cons_succ]
  refine good_callX 2 14 (some 52) #[Go.Operand.tmp 50, Go.Operand.tmp 51] #[25, 25] (none) #[.agg #[.bool v1_b, .slice v1_a v1_n v1_c, .slice v1_d v1_m v1_e], .agg #[.bool bc, .slice sc nc cc, .slice tc mc ec]] (by kernel_rfl) Hok.out (by kernel_rfl) (by kernel_rfl) (by kernel_rfl) (by kernel_rfl) rfl rfl rfl (by kernel_rfl) (fun w23 hb => ?_)
  have HG := Lib.hid (below_call HG.out hb)
  clear hb
  (first | (have hcall := radd_ar (CR.keep Hv1.out (Keep.call HG.out)).ar (AR.keep Hc.out (Keep.call HG.out)) (by decide) (by decide); refine Calls.mono hcall ?_; clear hcall) | refine Calls.mono (radd_ar (CR.keep Hv1.out (Keep.call HG.out)).ar (AR.keep Hc.out (Keep.call HG.out)) (by decide) (by decide)) ?_)
  rintro e w24 ⟨v24, rfl, hu1, hb⟩
  obtain ⟨u1_b, u1_a, u1_n, u1_c, u1_d, u1_m, u1_e, rfl⟩ := hu1.litb
  refine ⟨_, rfl, ?_, hb⟩
  have HG := Lib.hid (below_call HG.out hb)
  have Hu1 := Lib.hid hu1
  clear hb hu1
  simp only [Act.put, List.setIfInBounds_toArray, List.set_cons_zero, List.set_cons_succ]
  refine good_callX 6 14 (some 56) #[Go.Operand.tmp 54, Go.Operand.tmp 55] #[25, 25] (none) #[.agg #[.bool bb, .slice sb nb cb, .slice tb mb eb], .agg #[.bool bc, .slice sc nc cc, .slice tc mc ec]] (by kernel_rfl) Hok.out (by kernel_rfl) (by kernel_rfl) (by kernel_rfl) (by kernel_rfl) rfl rfl rfl (by kernel_rfl) (fun w25 hb => ?_)
  have Hu1 := Lib.hid (CR.keep Hu1.out (Keep.call hb))
  have HG := Lib.hid (below_call HG.out hb)
  clear hb
  (first | (have hcall := radd_ar (AR.keep Hb.out (Keep.call HG.out)) (AR.keep Hc.out (Keep.call HG.out)) (by decide) (by decide); refine Calls.mono hcall ?_; clear hcall) | refine Calls.mono (radd_ar (AR.keep Hb.out (Keep.call HG.out)) (AR.keep Hc.out (Keep.call HG.out)) (by decide) (by decide)) ?_)
  rintro e w26 ⟨v26, rfl, hu2, hb⟩
  obtain ⟨u2_b, u2_a, u2_n, u2_c, u2_d, u2_m, u2_e, rfl⟩ := hu2.litb
  refine ⟨_, rfl, ?_, hb⟩
  have Hu1 := Lib.hid (CR.keep Hu1.out (Keep.call hb))
  have HG := Lib.hid (below_call HG.out hb)
  have Hu2 := Lib.hid hu2
  clear hb hu2
  simp only [Act.put, List.setIfInBounds_toArray, List.set_cons_zero, List.set_cons_succ]
  refine good_callX 7 14 (some 57) #[Go.Operand.tmp 53, Go.Operand.tmp 56] #[25, 25] (none) #[.agg #[.bool ba, .slice sa na ca, .slice ta ma ea], .agg #[.bool u2_b, .slice u2_a u2_n u2_c, .slice u2_d u2_m u2_e]] (by kernel_rfl) Hok.out (by kernel_rfl) (by kernel_rfl) (by kernel_rfl) (by kernel_rfl) rfl rfl rfl (by kernel_rfl) (fun w27 hb => ?_)
  have Hu1 := Lib.hid (CR.keep Hu1.out (Keep.call hb))
  have Hu2 := Lib.hid (CR.keep Hu2.out (Keep.call hb))
  have HG := Lib.hid (below_call HG.out hb)
  clear hb
  (first | (have hcall := radd_ar (AR.keep Ha.out (Keep.call HG.out)) Hu2.out.ar (by decide) (by decide); refine Calls.mono hcall ?_; clear hcall) | refine Calls.mono (radd_ar (AR.keep Ha.out (Keep.call HG.out)) Hu2.out.ar (by decide) (by decide)) ?_)
  rintro e w28 ⟨v28, rfl, hu3, hb⟩
  obtain ⟨u3_b, u3_a, u3_n, u3_c, u3_d, u3_m, u3_e, rfl⟩ := hu3.litb
  refine ⟨_, rfl, ?_, hb⟩
  have Hu1 := Lib.hid (CR.keep Hu1.out (Keep.call hb))
  have HG := Lib.hid (below_call HG.out hb)
  have Hu3 := Lib.hid hu3
  clear hb hu3
  simp only [Act.put, List.setIfInBounds_toArray, List.set_cons_zero, List.set_cons_succ]
  refine good_callX 8 15 (some 58) #[Go.Operand.tmp 52, Go.Operand.tmp 57] #[25, 25] (none) #[.agg #[.bool u1_b, .slice u1_a u1_n u1_c, .slice u1_d u1_m u1_e], .agg #[.bool u3_b, .slice u3_a u3_n u3_c, .slice u3_d u3_m u3_e]] (by kernel_rfl) Hok.out (by kernel_rfl) (by kernel_rfl) (by kernel_rfl) (by kernel_rfl) rfl rfl rfl (by kernel_rfl) (fun w29 hb => ?_)
  have Hu1 := Lib.hid (CR.keep Hu1.out (Keep.call hb))
  have Hu3 := Lib.hid (CR.keep Hu3.out (Keep.call hb))
  have HG := Lib.hid (below_call HG.out hb)
  clear hb
  refine Calls.mono (zsame_cr Hu1.out Hu3.out (Rat.add_assoc _ _ _)) ?_
  rintro e w30 ⟨v30, rfl, rfl, hb⟩
  refine ⟨_, rfl, ?_, hb⟩
  have HG := Lib.hid (below_call HG.out hb)
  clear hb
  simp only [Act.put, List.setIfInBounds_toArray, List.set_cons_zero, List.set_cons_succ]
  refine good_pureX 9 (some 59) (Go.Op.move (Go.Operand.tmp 58)) (none) (.bool true) (by kernel_rfl) (by kernel_rfl) (by kernel_rfl) (fun _ _ _ h => h) (fun w' hw' => ?_) ?_
  · first | (go_simp; done) | (go_simp; simp_all; done) | (go_simp; rfl)
  simp only [Act.put, List.setIfInBounds_toArray, List.set_cons_zero, List.set_cons_succ]
  refine good_pureX 10 (some 60) (Go.Op.load 25 (Go.Operand.tmp 7)) (some (9, true)) (.agg #[.bool v1_b, .slice v1_a v1_n v1_c, .slice v1_d v1_m v1_e]) (by kernel_rfl) (by kernel_rfl) (by kernel_rfl) (fun _ _ _ h => h) (fun w' hw' => ?_) ?_
  · obtain ⟨cd00, cd01, cd02, fd00, fd01, fd02⟩ := (Box.se hw' Xd0.out notin0).c3
    first | (go_simp; done) | (go_simp; simp_all; done) | (go_simp; rfl)
  simp only [Act.put, List.setIfInBounds_toArray, List.set_cons_zero, List.set_cons_succ]
  refine good_pureX 11 (some 61) (Go.Op.load 25 (Go.Operand.tmp 4)) (some (9, true)) (.agg #[.bool bb, .slice sb nb cb, .slice tb mb eb]) (by kernel_rfl) (by kernel_rfl) (by kernel_rfl) (fun _ _ _ h => h) (fun w' hw' => ?_) ?_
  · obtain ⟨cb00, cb01, cb02, fb00, fb01, fb02⟩ := (Box.se hw' Xb0.out notin0).c3
    first | (go_simp; done) | (go_simp; simp_all; done) | (go_simp; rfl)
  simp only [Act.put, List.setIfInBounds_toArray, List.set_cons_zero, List.set_cons_succ]
  refine good_pureX 13 (some 63) (Go.Op.load 25 (Go.Operand.tmp 3)) (some (9, true)) (.agg #[.bool ba, .slice sa na ca, .slice ta ma ea]) (by kernel_rfl) (by kernel_rfl) (by kernel_rfl) (fun _ _ _ h => h) (fun w' hw' => ?_) ?_
  · obtain ⟨ca00, ca01, ca02, fa00, fa01, fa02⟩ := (Box.se hw' Xa0.out notin0).c3
    first | (go_simp; done) | (go_simp; simp_all; done) | (go_simp; rfl)
  simp only [Act.put, List.setIfInBounds_toArray, List.set_cons_zero, List.set_cons_succ]
  refine good_callX 12 17 (some 62) #[Go.Operand.tmp 60, Go.Operand.tmp 61] #[25, 25] (some (9, true)) #[.agg #[.bool v1_b, .slice v1_a v1_n v1_c, .slice v1_d v1_m v1_e], .agg #[.bool bb, .slice sb nb cb, .slice tb mb eb]] (by kernel_rfl) Hok.out (by kernel_rfl) (by kernel_rfl) (by kernel_rfl) (by kernel_rfl) rfl rfl rfl (by kernel_rfl) (fun w31 hb => ?_)
  have HG := Lib.hid (below_call HG.out hb)
  clear hb
  (first | (have hcall := rsub_ar (CR.keep Hv1.out (Keep.call HG.out)).ar (AR.keep Hb.out (Keep.call HG.out)) (by decide) (by decide); refine Calls.mono hcall ?_; clear hcall) | refine Calls.mono (rsub_ar (CR.keep Hv1.out (Keep.call HG.out)).ar (AR.keep Hb.out (Keep.call HG.out)) (by decide) (by decide)) ?_)
  rintro e w32 ⟨v32, rfl, hu4, hb⟩
  obtain ⟨u4_b, u4_a, u4_n, u4_c, u4_d, u4_m, u4_e, rfl⟩ := hu4.litb
  refine ⟨_, rfl, ?_, hb⟩
  have HG := Lib.hid (below_call HG.out hb)
  have Hu4 := Lib.hid hu4
  clear hb hu4
  simp only [Act.put, List.setIfInBounds_toArray, List.set_cons_zero, List.set_cons_succ]
  refine good_callX 14 19 (some 64) #[Go.Operand.tmp 63] #[25] (some (9, true)) #[.agg #[.bool ba, .slice sa na ca, .slice ta ma ea]] (by kernel_rfl) Hok.out (by kernel_rfl) (by kernel_rfl) (by kernel_rfl) (by kernel_rfl) rfl rfl rfl (by kernel_rfl) (fun w33 hb => ?_)
  have Hu4 := Lib.hid (CR.keep Hu4.out (Keep.call hb))
  have HG := Lib.hid (below_call HG.out hb)
  clear hb
  (first | (have hcall := zcanon_ar (AR.keep Ha.out (Keep.call HG.out)) (by decide); refine Calls.mono hcall ?_; clear hcall) | refine Calls.mono (zcanon_ar (AR.keep Ha.out (Keep.call HG.out)) (by decide)) ?_)
  rintro e w34 ⟨v34, rfl, hu5, hb⟩
  obtain ⟨u5_b, u5_a, u5_n, u5_c, u5_d, u5_m, u5_e, rfl⟩ := hu5.litb
  refine ⟨_, rfl, ?_, hb⟩
  have Hu4 := Lib.hid (CR.keep Hu4.out (Keep.call hb))
  have HG := Lib.hid (below_call HG.out hb)
  have Hu5 := Lib.hid hu5
  clear hb hu5
  simp only [Act.put, List.setIfInBounds_toArray, List.set_cons_zero, List.set_cons_succ]
  refine good_callX 15 15 (some 65) #[Go.Operand.tmp 62, Go.Operand.tmp 64] #[25, 25] (some (9, true)) #[.agg #[.bool u4_b, .slice u4_a u4_n u4_c, .slice u4_d u4_m u4_e], .agg #[.bool u5_b, .slice u5_a u5_n u5_c, .slice u5_d u5_m u5_e]] (by kernel_rfl) Hok.out (by kernel_rfl) (by kernel_rfl) (by kernel_rfl) (by kernel_rfl) rfl rfl rfl (by kernel_rfl) (fun w35 hb => ?_)
  have Hu4 := Lib.hid (CR.keep Hu4.out (Keep.call hb))
  have Hu5 := Lib.hid (CR.keep Hu5.out (Keep.call hb))
  have HG := Lib.hid (below_call HG.out hb)
  clear hb
  refine Calls.mono (zsame_cr Hu4.out Hu5.out (q_add_sub _ _)) ?_
  rintro e w36 ⟨v36, rfl, rfl, hb⟩
  refine ⟨_, rfl, ?_, hb⟩
  have HG := Lib.hid (below_call HG.out hb)
  clear hb
  simp only [Act.put, List.setIfInBounds_toArray, List.set_cons_zero, List.set_cons_succ]
  refine good_pureX 16 (some 66) (Go.Op.pick (Go.Operand.tmp 59) (Go.Operand.tmp 65) (Go.Operand.const (Go.Value.bool false))) (none) (.bool true) (by kernel_rfl) (by kernel_rfl) (by kernel_rfl) (fun _ _ _ h => h) (fun w' hw' => ?_) ?_
  · first | (go_simp; done) | (go_simp; simp_all; done) | (go_simp; rfl)
  simp only [Act.put, List.setIfInBounds_toArray, List.set_cons_zero, List.set_cons_succ]
  refine good_pureX 17 (some 6) (Go.Op.assign (Go.Operand.tmp 66)) (none) (.bool true) (by kernel_rfl) (by kernel_rfl) (by kernel_rfl) (fun _ _ _ h => h) (fun w' hw' => ?_) ?_
  · first | (go_simp; done) | (go_simp; simp_all; done) | (go_simp; rfl)
  simp only [Act.put, List.setIfInBounds_toArray, List.set_cons_zero, List.set_cons_succ]
  refine good_end0 0 (by kernel_rfl) (fun _ w37 hb => ?_)
  have HG := Lib.hid (below_call HG.out hb)
  clear hb
  have Xa0 := Lib.hid (Box.pcall HG.out Xa0.out)
  have Xb0 := Lib.hid (Box.pcall HG.out Xb0.out)
  have Xc0 := Lib.hid (Box.pcall HG.out Xc0.out)
  have Xd0 := Lib.hid (Box.pcall HG.out Xd0.out)
  have HB := Lib.hid (below_call HB.out HG.out)
  have HS := Lib.hid (SE.of (E := []) HG.out)
  refine wpAnyH_done (by kernel_rfl) ?_ _
  clear HG HS Hok 
  obtain ⟨ca00, ca01, ca02, fa00, fa01, fa02⟩ := Xa0.out.c3
  have la0 := Xa0.out.lt
  obtain ⟨cb00, cb01, cb02, fb00, fb01, fb02⟩ := Xb0.out.c3
  have lb0 := Xb0.out.lt
  obtain ⟨cc00, cc01, cc02, fc00, fc01, fc02⟩ := Xc0.out.c3
  have lc0 := Xc0.out.lt
  obtain ⟨cd00, cd01, cd02, fd00, fd01, fd02⟩ := Xd0.out.c3
  have ld0 := Xd0.out.lt
  go_wp2
  clear ca00 ca01 ca02 fa00 fa01 fa02 la0 cb00 cb01 cb02 fb00 fb01 fb02 lb0 cc00 cc01 cc02 fc00 fc01 fc02 lc0 cd00 cd01 cd02 fd00 fd01 fd02 ld0
  go_ret
  exact ⟨_, rfl, rfl, HB.out⟩


set_option maxRecDepth 100000 in
set_option maxHeartbeats 4000000 in
theorem lrmul_no0 {ba : Bool} {sa ta : Option Addr} {na ca ma ea : Nat} {bb : Bool} {sb tb : Option Addr} {nb cb mb eb : Nat} {bc : Bool} {sc tc : Option Addr} {nc cc mc ec : Nat}  {w : World}  (hno : 3 < na ∨ 3 < ma) :
    Calls Try.prog 8 #[.agg #[.bool ba, .slice sa na ca, .slice ta ma ea], .agg #[.bool bb, .slice sb nb cb, .slice tb mb eb], .agg #[.bool bc, .slice sc nc cc, .slice tc mc ec]] w (Ret w (Val (.bool true))) := by
  have Hno := Lib.hid hno
  clear hno
  go_enter Try.func8, Try.ntmps8
  have HB := Lib.hid (Below.refl w.heap.size w)
  go_wp2_with fail
  obtain ⟨W1, hW⟩ : ∃ W1, W1 = (World.alloc (World.alloc (World.alloc w (.cells #[.bool ba, .slice sa na ca, .slice ta ma ea] 25)) (.cells #[.bool bb, .slice sb nb cb, .slice tb mb eb] 25)) (.cells #[.bool bc, .slice sc nc cc, .slice tc mc ec] 25)) := ⟨_, rfl⟩
  rw [← hW]
  obtain ⟨xa0, xb0, xc0, hk, hb⟩ := boxes_3 _ _ _ _ _ _ _ hW
  clear hW
  have Ga0 := Lib.hid (show w.heap.size ≤ w.heap.size from Nat.le_trans HB.out.size (by omega))
  have Gb0 := Lib.hid (show w.heap.size ≤ w.heap.size + 1 from Nat.le_trans HB.out.size (by omega))
  have Gc0 := Lib.hid (show w.heap.size ≤ w.heap.size + 1 + 1 from Nat.le_trans HB.out.size (by omega))
  have Xa0 := Lib.hid xa0
  have Xb0 := Lib.hid xb0
  have Xc0 := Lib.hid xc0
  have HB := Lib.hid (below_call HB.out hb)
  clear hk hb xa0 xb0 xc0
  refine Calls.mono (awake3) ?_
  rintro e w2 ⟨v2, rfl, rfl, hb⟩
  have Xa0 := Lib.hid (Box.pcall hb Xa0.out)
  have Xb0 := Lib.hid (Box.pcall hb Xb0.out)
  have Xc0 := Lib.hid (Box.pcall hb Xc0.out)
  have HB := Lib.hid (below_call HB.out hb)
  clear hb
  obtain ⟨ca00, ca01, ca02, fa00, fa01, fa02⟩ := Xa0.out.c3
  have la0 := Xa0.out.lt
  obtain ⟨cb00, cb01, cb02, fb00, fb01, fb02⟩ := Xb0.out.c3
  have lb0 := Xb0.out.lt
  obtain ⟨cc00, cc01, cc02, fc00, fc01, fc02⟩ := Xc0.out.c3
  have lc0 := Xc0.out.lt
  go_wp2_with fail
  clear ca00 ca01 ca02 fa00 fa01 fa02 la0 cb00 cb01 cb02 fb00 fb01 fb02 lb0 cc00 cc01 cc02 fc00 fc01 fc02 lc0
  refine Calls.mono (few3_no Hno.out) ?_
  rintro e w3 ⟨v3, rfl, rfl, hb⟩
  have Xa0 := Lib.hid (Box.pcall hb Xa0.out)
  have Xb0 := Lib.hid (Box.pcall hb Xb0.out)
  have Xc0 := Lib.hid (Box.pcall hb Xc0.out)
  have HB := Lib.hid (below_call HB.out hb)
  clear hb
  obtain ⟨ca00, ca01, ca02, fa00, fa01, fa02⟩ := Xa0.out.c3
  have la0 := Xa0.out.lt
  obtain ⟨cb00, cb01, cb02, fb00, fb01, fb02⟩ := Xb0.out.c3
  have lb0 := Xb0.out.lt
  obtain ⟨cc00, cc01, cc02, fc00, fc01, fc02⟩ := Xc0.out.c3
  have lc0 := Xc0.out.lt
  go_wp2
  clear ca00 ca01 ca02 fa00 fa01 fa02 la0 cb00 cb01 cb02 fb00 fb01 fb02 lb0 cc00 cc01 cc02 fc00 fc01 fc02 lc0
  go_ret
  exact ⟨_, rfl, rfl, HB.out⟩


set_option maxRecDepth 100000 in
set_option maxHeartbeats 4000000 in
theorem lrmul_no1 {ba : Bool} {sa ta : Option Addr} {na ca ma ea : Nat} {bb : Bool} {sb tb : Option Addr} {nb cb mb eb : Nat} {bc : Bool} {sc tc : Option Addr} {nc cc mc ec : Nat}  {w : World} (hfa : na ≤ 3) (hga : ma ≤ 3) (hno : 3 < nb ∨ 3 < mb) :
    Calls Try.prog 8 #[.agg #[.bool ba, .slice sa na ca, .slice ta ma ea], .agg #[.bool bb, .slice sb nb cb, .slice tb mb eb], .agg #[.bool bc, .slice sc nc cc, .slice tc mc ec]] w (Ret w (Val (.bool true))) := by
  have Hfa := Lib.hid hfa
  have Hga := Lib.hid hga
  have Hno := Lib.hid hno
  clear hfa hga hno
  go_enter Try.func8, Try.ntmps8
  have HB := Lib.hid (Below.refl w.heap.size w)
  go_wp2_with fail
  obtain ⟨W1, hW⟩ : ∃ W1, W1 = (World.alloc (World.alloc (World.alloc w (.cells #[.bool ba, .slice sa na ca, .slice ta ma ea] 25)) (.cells #[.bool bb, .slice sb nb cb, .slice tb mb eb] 25)) (.cells #[.bool bc, .slice sc nc cc, .slice tc mc ec] 25)) := ⟨_, rfl⟩
  rw [← hW]
  obtain ⟨xa0, xb0, xc0, hk, hb⟩ := boxes_3 _ _ _ _ _ _ _ hW
  clear hW
  have Ga0 := Lib.hid (show w.heap.size ≤ w.heap.size from Nat.le_trans HB.out.size (by omega))
  have Gb0 := Lib.hid (show w.heap.size ≤ w.heap.size + 1 from Nat.le_trans HB.out.size (by omega))
  have Gc0 := Lib.hid (show w.heap.size ≤ w.heap.size + 1 + 1 from Nat.le_trans HB.out.size (by omega))
  have Xa0 := Lib.hid xa0
  have Xb0 := Lib.hid xb0
  have Xc0 := Lib.hid xc0
  have HB := Lib.hid (below_call HB.out hb)
  clear hk hb xa0 xb0 xc0
  refine Calls.mono (awake3) ?_
  rintro e w2 ⟨v2, rfl, rfl, hb⟩
  have Xa0 := Lib.hid (Box.pcall hb Xa0.out)
  have Xb0 := Lib.hid (Box.pcall hb Xb0.out)
  have Xc0 := Lib.hid (Box.pcall hb Xc0.out)
  have HB := Lib.hid (below_call HB.out hb)
  clear hb
  obtain ⟨ca00, ca01, ca02, fa00, fa01, fa02⟩ := Xa0.out.c3
  have la0 := Xa0.out.lt
  obtain ⟨cb00, cb01, cb02, fb00, fb01, fb02⟩ := Xb0.out.c3
  have lb0 := Xb0.out.lt
  obtain ⟨cc00, cc01, cc02, fc00, fc01, fc02⟩ := Xc0.out.c3
  have lc0 := Xc0.out.lt
  go_wp2_with fail
  clear ca00 ca01 ca02 fa00 fa01 fa02 la0 cb00 cb01 cb02 fb00 fb01 fb02 lb0 cc00 cc01 cc02 fc00 fc01 fc02 lc0
  refine Calls.mono (few3_yes Hfa.out Hga.out) ?_
  rintro e w3 ⟨v3, rfl, rfl, hb⟩
  have Xa0 := Lib.hid (Box.pcall hb Xa0.out)
  have Xb0 := Lib.hid (Box.pcall hb Xb0.out)
  have Xc0 := Lib.hid (Box.pcall hb Xc0.out)
  have HB := Lib.hid (below_call HB.out hb)
  clear hb
  obtain ⟨ca00, ca01, ca02, fa00, fa01, fa02⟩ := Xa0.out.c3
  have la0 := Xa0.out.lt
  obtain ⟨cb00, cb01, cb02, fb00, fb01, fb02⟩ := Xb0.out.c3
  have lb0 := Xb0.out.lt
  obtain ⟨cc00, cc01, cc02, fc00, fc01, fc02⟩ := Xc0.out.c3
  have lc0 := Xc0.out.lt
  go_wp2_with fail
  clear ca00 ca01 ca02 fa00 fa01 fa02 la0 cb00 cb01 cb02 fb00 fb01 fb02 lb0 cc00 cc01 cc02 fc00 fc01 fc02 lc0
  refine Calls.mono (few3_no Hno.out) ?_
  rintro e w4 ⟨v4, rfl, rfl, hb⟩
  have Xa0 := Lib.hid (Box.pcall hb Xa0.out)
  have Xb0 := Lib.hid (Box.pcall hb Xb0.out)
  have Xc0 := Lib.hid (Box.pcall hb Xc0.out)
  have HB := Lib.hid (below_call HB.out hb)
  clear hb
  obtain ⟨ca00, ca01, ca02, fa00, fa01, fa02⟩ := Xa0.out.c3
  have la0 := Xa0.out.lt
  obtain ⟨cb00, cb01, cb02, fb00, fb01, fb02⟩ := Xb0.out.c3
  have lb0 := Xb0.out.lt
  obtain ⟨cc00, cc01, cc02, fc00, fc01, fc02⟩ := Xc0.out.c3
  have lc0 := Xc0.out.lt
  go_wp2
  clear ca00 ca01 ca02 fa00 fa01 fa02 la0 cb00 cb01 cb02 fb00 fb01 fb02 lb0 cc00 cc01 cc02 fc00 fc01 fc02 lc0
  go_ret
  exact ⟨_, rfl, rfl, HB.out⟩


set_option maxRecDepth 100000 in
set_option maxHeartbeats 4000000 in
theorem lrmul_no2 {ba : Bool} {sa ta : Option Addr} {na ca ma ea : Nat} {bb : Bool} {sb tb : Option Addr} {nb cb mb eb : Nat} {bc : Bool} {sc tc : Option Addr} {nc cc mc ec : Nat}  {w : World} (hfa : na ≤ 3) (hga : ma ≤ 3) (hfb : nb ≤ 3) (hgb : mb ≤ 3) (hno : 3 < nc ∨ 3 < mc) :
    Calls Try.prog 8 #[.agg #[.bool ba, .slice sa na ca, .slice ta ma ea], .agg #[.bool bb, .slice sb nb cb, .slice tb mb eb], .agg #[.bool bc, .slice sc nc cc, .slice tc mc ec]] w (Ret w (Val (.bool true))) := by
  have Hfa := Lib.hid hfa
  have Hga := Lib.hid hga
  have Hfb := Lib.hid hfb
  have Hgb := Lib.hid hgb
  have Hno := Lib.hid hno
  clear hfa hga hfb hgb hno
  go_enter Try.func8, Try.ntmps8
  have HB := Lib.hid (Below.refl w.heap.size w)
  go_wp2_with fail
  obtain ⟨W1, hW⟩ : ∃ W1, W1 = (World.alloc (World.alloc (World.alloc w (.cells #[.bool ba, .slice sa na ca, .slice ta ma ea] 25)) (.cells #[.bool bb, .slice sb nb cb, .slice tb mb eb] 25)) (.cells #[.bool bc, .slice sc nc cc, .slice tc mc ec] 25)) := ⟨_, rfl⟩
  rw [← hW]
  obtain ⟨xa0, xb0, xc0, hk, hb⟩ := boxes_3 _ _ _ _ _ _ _ hW
  clear hW
  have Ga0 := Lib.hid (show w.heap.size ≤ w.heap.size from Nat.le_trans HB.out.size (by omega))
  have Gb0 := Lib.hid (show w.heap.size ≤ w.heap.size + 1 from Nat.le_trans HB.out.size (by omega))
  have Gc0 := Lib.hid (show w.heap.size ≤ w.heap.size + 1 + 1 from Nat.le_trans HB.out.size (by omega))
  have Xa0 := Lib.hid xa0
  have Xb0 := Lib.hid xb0
  have Xc0 := Lib.hid xc0
  have HB := Lib.hid (below_call HB.out hb)
  clear hk hb xa0 xb0 xc0
  refine Calls.mono (awake3) ?_
  rintro e w2 ⟨v2, rfl, rfl, hb⟩
  have Xa0 := Lib.hid (Box.pcall hb Xa0.out)
  have Xb0 := Lib.hid (Box.pcall hb Xb0.out)
  have Xc0 := Lib.hid (Box.pcall hb Xc0.out)
  have HB := Lib.hid (below_call HB.out hb)
  clear hb
  obtain ⟨ca00, ca01, ca02, fa00, fa01, fa02⟩ := Xa0.out.c3
  have la0 := Xa0.out.lt
  obtain ⟨cb00, cb01, cb02, fb00, fb01, fb02⟩ := Xb0.out.c3
  have lb0 := Xb0.out.lt
  obtain ⟨cc00, cc01, cc02, fc00, fc01, fc02⟩ := Xc0.out.c3
  have lc0 := Xc0.out.lt
  go_wp2_with fail
  clear ca00 ca01 ca02 fa00 fa01 fa02 la0 cb00 cb01 cb02 fb00 fb01 fb02 lb0 cc00 cc01 cc02 fc00 fc01 fc02 lc0
  refine Calls.mono (few3_yes Hfa.out Hga.out) ?_
  rintro e w3 ⟨v3, rfl, rfl, hb⟩
  have Xa0 := Lib.hid (Box.pcall hb Xa0.out)
  have Xb0 := Lib.hid (Box.pcall hb Xb0.out)
  have Xc0 := Lib.hid (Box.pcall hb Xc0.out)
  have HB := Lib.hid (below_call HB.out hb)
  clear hb
  obtain ⟨ca00, ca01, ca02, fa00, fa01, fa02⟩ := Xa0.out.c3
  have la0 := Xa0.out.lt
  obtain ⟨cb00, cb01, cb02, fb00, fb01, fb02⟩ := Xb0.out.c3
  have lb0 := Xb0.out.lt
  obtain ⟨cc00, cc01, cc02, fc00, fc01, fc02⟩ := Xc0.out.c3
  have lc0 := Xc0.out.lt
  go_wp2_with fail
  clear ca00 ca01 ca02 fa00 fa01 fa02 la0 cb00 cb01 cb02 fb00 fb01 fb02 lb0 cc00 cc01 cc02 fc00 fc01 fc02 lc0
  refine Calls.mono (few3_yes Hfb.out Hgb.out) ?_
  rintro e w4 ⟨v4, rfl, rfl, hb⟩
  have Xa0 := Lib.hid (Box.pcall hb Xa0.out)
  have Xb0 := Lib.hid (Box.pcall hb Xb0.out)
  have Xc0 := Lib.hid (Box.pcall hb Xc0.out)
  have HB := Lib.hid (below_call HB.out hb)
  clear hb
  obtain ⟨ca00, ca01, ca02, fa00, fa01, fa02⟩ := Xa0.out.c3
  have la0 := Xa0.out.lt
  obtain ⟨cb00, cb01, cb02, fb00, fb01, fb02⟩ := Xb0.out.c3
  have lb0 := Xb0.out.lt
  obtain ⟨cc00, cc01, cc02, fc00, fc01, fc02⟩ := Xc0.out.c3
  have lc0 := Xc0.out.lt
  go_wp2_with fail
  clear ca00 ca01 ca02 fa00 fa01 fa02 la0 cb00 cb01 cb02 fb00 fb01 fb02 lb0 cc00 cc01 cc02 fc00 fc01 fc02 lc0
  refine Calls.mono (few3_no Hno.out) ?_
  rintro e w5 ⟨v5, rfl, rfl, hb⟩
  have Xa0 := Lib.hid (Box.pcall hb Xa0.out)
  have Xb0 := Lib.hid (Box.pcall hb Xb0.out)
  have Xc0 := Lib.hid (Box.pcall hb Xc0.out)
  have HB := Lib.hid (below_call HB.out hb)
  clear hb
  obtain ⟨ca00, ca01, ca02, fa00, fa01, fa02⟩ := Xa0.out.c3
  have la0 := Xa0.out.lt
  obtain ⟨cb00, cb01, cb02, fb00, fb01, fb02⟩ := Xb0.out.c3
  have lb0 := Xb0.out.lt
  obtain ⟨cc00, cc01, cc02, fc00, fc01, fc02⟩ := Xc0.out.c3
  have lc0 := Xc0.out.lt
  go_wp2
  clear ca00 ca01 ca02 fa00 fa01 fa02 la0 cb00 cb01 cb02 fb00 fb01 fb02 lb0 cc00 cc01 cc02 fc00 fc01 fc02 lc0
  go_ret
  exact ⟨_, rfl, rfl, HB.out⟩


set_option maxRecDepth 100000 in
set_option maxHeartbeats 4000000 in
theorem lrmul_z {qa : Rat} {ba : Bool} {sa ta : Option Addr} {na ca ma ea : Nat} {qb : Rat} {bb : Bool} {sb tb : Option Addr} {nb cb mb eb : Nat} {qc : Rat} {bc : Bool} {sc tc : Option Addr} {nc cc mc ec : Nat}  {w : World} (hz : qb = 0) (ha : AR qa 3 w (.agg #[.bool ba, .slice sa na ca, .slice ta ma ea])) (hfa : na ≤ 3) (hga : ma ≤ 3) (hb : AR qb 3 w (.agg #[.bool bb, .slice sb nb cb, .slice tb mb eb])) (hfb : nb ≤ 3) (hgb : mb ≤ 3) (hc : AR qc 3 w (.agg #[.bool bc, .slice sc nc cc, .slice tc mc ec])) (hfc : nc ≤ 3) (hgc : mc ≤ 3) :
    Calls Try.prog 8 #[.agg #[.bool ba, .slice sa na ca, .slice ta ma ea], .agg #[.bool bb, .slice sb nb cb, .slice tb mb eb], .agg #[.bool bc, .slice sc nc cc, .slice tc mc ec]] w (Ret w (Val (.bool true))) := by
  have Ha := Lib.hid ha
  have Hb := Lib.hid hb
  have Hc := Lib.hid hc
  have Hz := Lib.hid hz
  have Hfa := Lib.hid hfa
  have Hga := Lib.hid hga
  have Hfb := Lib.hid hfb
  have Hgb := Lib.hid hgb
  have Hfc := Lib.hid hfc
  have Hgc := Lib.hid hgc
  clear ha hb hc hz hfa hga hfb hgb hfc hgc
  go_enter Try.func8, Try.ntmps8
  have HB := Lib.hid (Below.refl w.heap.size w)
  go_wp2_with fail
  obtain ⟨W1, hW⟩ : ∃ W1, W1 = (World.alloc (World.alloc (World.alloc w (.cells #[.bool ba, .slice sa na ca, .slice ta ma ea] 25)) (.cells #[.bool bb, .slice sb nb cb, .slice tb mb eb] 25)) (.cells #[.bool bc, .slice sc nc cc, .slice tc mc ec] 25)) := ⟨_, rfl⟩
  rw [← hW]
  obtain ⟨xa0, xb0, xc0, hk, hb⟩ := boxes_3 _ _ _ _ _ _ _ hW
  clear hW
  have Ha := Lib.hid (AR.keep Ha.out hk)
  have Hb := Lib.hid (AR.keep Hb.out hk)
  have Hc := Lib.hid (AR.keep Hc.out hk)
  have Ga0 := Lib.hid (show w.heap.size ≤ w.heap.size from Nat.le_trans HB.out.size (by omega))
  have Gb0 := Lib.hid (show w.heap.size ≤ w.heap.size + 1 from Nat.le_trans HB.out.size (by omega))
  have Gc0 := Lib.hid (show w.heap.size ≤ w.heap.size + 1 + 1 from Nat.le_trans HB.out.size (by omega))
  have Xa0 := Lib.hid xa0
  have Xb0 := Lib.hid xb0
  have Xc0 := Lib.hid xc0
  have HB := Lib.hid (below_call HB.out hb)
  clear hk hb xa0 xb0 xc0
  refine Calls.mono (awake3) ?_
  rintro e w2 ⟨v2, rfl, rfl, hb⟩
  have Ha := Lib.hid (AR.keep Ha.out (Keep.call hb))
  have Hb := Lib.hid (AR.keep Hb.out (Keep.call hb))
  have Hc := Lib.hid (AR.keep Hc.out (Keep.call hb))
  have Xa0 := Lib.hid (Box.pcall hb Xa0.out)
  have Xb0 := Lib.hid (Box.pcall hb Xb0.out)
  have Xc0 := Lib.hid (Box.pcall hb Xc0.out)
  have HB := Lib.hid (below_call HB.out hb)
  clear hb
  obtain ⟨ca00, ca01, ca02, fa00, fa01, fa02⟩ := Xa0.out.c3
  have la0 := Xa0.out.lt
  obtain ⟨cb00, cb01, cb02, fb00, fb01, fb02⟩ := Xb0.out.c3
  have lb0 := Xb0.out.lt
  obtain ⟨cc00, cc01, cc02, fc00, fc01, fc02⟩ := Xc0.out.c3
  have lc0 := Xc0.out.lt
  go_wp2_with fail
  clear ca00 ca01 ca02 fa00 fa01 fa02 la0 cb00 cb01 cb02 fb00 fb01 fb02 lb0 cc00 cc01 cc02 fc00 fc01 fc02 lc0
  refine Calls.mono (few3_yes Hfa.out Hga.out) ?_
  rintro e w3 ⟨v3, rfl, rfl, hb⟩
  have Ha := Lib.hid (AR.keep Ha.out (Keep.call hb))
  have Hb := Lib.hid (AR.keep Hb.out (Keep.call hb))
  have Hc := Lib.hid (AR.keep Hc.out (Keep.call hb))
  have Xa0 := Lib.hid (Box.pcall hb Xa0.out)
  have Xb0 := Lib.hid (Box.pcall hb Xb0.out)
  have Xc0 := Lib.hid (Box.pcall hb Xc0.out)
  have HB := Lib.hid (below_call HB.out hb)
  clear hb
  obtain ⟨ca00, ca01, ca02, fa00, fa01, fa02⟩ := Xa0.out.c3
  have la0 := Xa0.out.lt
  obtain ⟨cb00, cb01, cb02, fb00, fb01, fb02⟩ := Xb0.out.c3
  have lb0 := Xb0.out.lt
  obtain ⟨cc00, cc01, cc02, fc00, fc01, fc02⟩ := Xc0.out.c3
  have lc0 := Xc0.out.lt
  go_wp2_with fail
  clear ca00 ca01 ca02 fa00 fa01 fa02 la0 cb00 cb01 cb02 fb00 fb01 fb02 lb0 cc00 cc01 cc02 fc00 fc01 fc02 lc0
  refine Calls.mono (few3_yes Hfb.out Hgb.out) ?_
  rintro e w4 ⟨v4, rfl, rfl, hb⟩
  have Ha := Lib.hid (AR.keep Ha.out (Keep.call hb))
  have Hb := Lib.hid (AR.keep Hb.out (Keep.call hb))
  have Hc := Lib.hid (AR.keep Hc.out (Keep.call hb))
  have Xa0 := Lib.hid (Box.pcall hb Xa0.out)
  have Xb0 := Lib.hid (Box.pcall hb Xb0.out)
  have Xc0 := Lib.hid (Box.pcall hb Xc0.out)
  have HB := Lib.hid (below_call HB.out hb)
  clear hb
  obtain ⟨ca00, ca01, ca02, fa00, fa01, fa02⟩ := Xa0.out.c3
  have la0 := Xa0.out.lt
  obtain ⟨cb00, cb01, cb02, fb00, fb01, fb02⟩ := Xb0.out.c3
  have lb0 := Xb0.out.lt
  obtain ⟨cc00, cc01, cc02, fc00, fc01, fc02⟩ := Xc0.out.c3
  have lc0 := Xc0.out.lt
  go_wp2_with fail
  clear ca00 ca01 ca02 fa00 fa01 fa02 la0 cb00 cb01 cb02 fb00 fb01 fb02 lb0 cc00 cc01 cc02 fc00 fc01 fc02 lc0
  refine Calls.mono (few3_yes Hfc.out Hgc.out) ?_
  rintro e w5 ⟨v5, rfl, rfl, hb⟩
  have Ha := Lib.hid (AR.keep Ha.out (Keep.call hb))
  have Hb := Lib.hid (AR.keep Hb.out (Keep.call hb))
  have Hc := Lib.hid (AR.keep Hc.out (Keep.call hb))
  have Xa0 := Lib.hid (Box.pcall hb Xa0.out)
  have Xb0 := Lib.hid (Box.pcall hb Xb0.out)
  have Xc0 := Lib.hid (Box.pcall hb Xc0.out)
  have HB := Lib.hid (below_call HB.out hb)
  clear hb
  obtain ⟨ca00, ca01, ca02, fa00, fa01, fa02⟩ := Xa0.out.c3
  have la0 := Xa0.out.lt
  obtain ⟨cb00, cb01, cb02, fb00, fb01, fb02⟩ := Xb0.out.c3
  have lb0 := Xb0.out.lt
  obtain ⟨cc00, cc01, cc02, fc00, fc01, fc02⟩ := Xc0.out.c3
  have lc0 := Xc0.out.lt
  go_wp2_with fail
  clear ca00 ca01 ca02 fa00 fa01 fa02 la0 cb00 cb01 cb02 fb00 fb01 fb02 lb0 cc00 cc01 cc02 fc00 fc01 fc02 lc0
  (first | (have hcall := rmul_ar Ha.out Hb.out (by decide) (by decide); refine Calls.mono hcall ?_; clear hcall) | refine Calls.mono (rmul_ar Ha.out Hb.out (by decide) (by decide)) ?_)
  rintro e w6 ⟨v6, rfl, hv1, hb⟩
  obtain ⟨v1_b, v1_a, v1_n, v1_c, v1_d, v1_m, v1_e, rfl⟩ := hv1.litb
  have Ha := Lib.hid (AR.keep Ha.out (Keep.call hb))
  have Hb := Lib.hid (AR.keep Hb.out (Keep.call hb))
  have Hc := Lib.hid (AR.keep Hc.out (Keep.call hb))
  have Xa0 := Lib.hid (Box.pcall hb Xa0.out)
  have Xb0 := Lib.hid (Box.pcall hb Xb0.out)
  have Xc0 := Lib.hid (Box.pcall hb Xc0.out)
  have HB := Lib.hid (below_call HB.out hb)
  have Hv1 := Lib.hid hv1
  clear hb hv1
  obtain ⟨ca00, ca01, ca02, fa00, fa01, fa02⟩ := Xa0.out.c3
  have la0 := Xa0.out.lt
  obtain ⟨cb00, cb01, cb02, fb00, fb01, fb02⟩ := Xb0.out.c3
  have lb0 := Xb0.out.lt
  obtain ⟨cc00, cc01, cc02, fc00, fc01, fc02⟩ := Xc0.out.c3
  have lc0 := Xc0.out.lt
  go_wp2_with fail
  clear ca00 ca01 ca02 fa00 fa01 fa02 la0 cb00 cb01 cb02 fb00 fb01 fb02 lb0 cc00 cc01 cc02 fc00 fc01 fc02 lc0
  obtain ⟨W7, hW⟩ : ∃ W7, W7 = (World.alloc w6 (.cells #[.bool v1_b, .slice v1_a v1_n v1_c, .slice v1_d v1_m v1_e] 25)) := ⟨_, rfl⟩
  rw [← hW]
  obtain ⟨xd0, hk, hb⟩ := boxes_1 _ _ _ hW
  clear hW
  have Ha := Lib.hid (AR.keep Ha.out hk)
  have Hb := Lib.hid (AR.keep Hb.out hk)
  have Hc := Lib.hid (AR.keep Hc.out hk)
  have Hv1 := Lib.hid (CR.keep Hv1.out hk)
  have Na0d0 := Lib.hid (show w.heap.size ≠ w6.heap.size from Nat.ne_of_lt (Nat.lt_of_lt_of_le Xa0.out.lt (by omega)))
  have Nb0d0 := Lib.hid (show w.heap.size + 1 ≠ w6.heap.size from Nat.ne_of_lt (Nat.lt_of_lt_of_le Xb0.out.lt (by omega)))
  have Nc0d0 := Lib.hid (show w.heap.size + 1 + 1 ≠ w6.heap.size from Nat.ne_of_lt (Nat.lt_of_lt_of_le Xc0.out.lt (by omega)))
  have Gd0 := Lib.hid (show w.heap.size ≤ w6.heap.size from Nat.le_trans HB.out.size (by omega))
  have Xa0 := Lib.hid (Box.pcall hb Xa0.out)
  have Xb0 := Lib.hid (Box.pcall hb Xb0.out)
  have Xc0 := Lib.hid (Box.pcall hb Xc0.out)
  have Xd0 := Lib.hid xd0
  have HB := Lib.hid (below_call HB.out hb)
  clear hk hb xd0
  have Ha := Lib.hid (AR.keep Ha.out (Keep.drew W7))
  have Hb := Lib.hid (AR.keep Hb.out (Keep.drew W7))
  have Hc := Lib.hid (AR.keep Hc.out (Keep.drew W7))
  have Hv1 := Lib.hid (CR.keep Hv1.out (Keep.drew W7))
  have Xa0 := Lib.hid (Box.drew Xa0.out)
  have Xb0 := Lib.hid (Box.drew Xb0.out)
  have Xc0 := Lib.hid (Box.drew Xc0.out)
  have Xd0 := Lib.hid (Box.drew Xd0.out)
  have HB := Lib.hid (Below.drew HB.out)
  refine wp_region_float [] [] (by kernel_rfl) (by kernel_rfl) 90 (by kernel_rfl) Flok.nil ?_
  intro ok
  have Hok := Lib.hid ok
  clear ok
  have HG := Lib.hid (Below.refl (W7.drew).heap.size (W7.drew))
  refine good_pureX 0 (some 28) (Go.Op.load 25 (Go.Operand.tmp 7)) (none) (.agg #[.bool v1_b, .slice v1_a v1_n v1_c, .slice v1_d v1_m v1_e]) (by kernel_rfl) (by kernel_rfl) (by kernel_rfl) (fun _ _ _ h => h) (fun w' hw' => ?_) ?_
  · obtain ⟨cd00, cd01, cd02, fd00, fd01, fd02⟩ := (Box.se hw' Xd0.out notin0).c3
    first | (go_simp; done) | (go_simp; simp_all; done) | (go_simp; rfl)
  simp only [Act.put, List.setIfInBounds_toArray, List.set_cons_zero, List.set_cons_succ]
  refine good_pureX 1 (some 29) (Go.Op.load 25 (Go.Operand.tmp 3)) (none) (.agg #[.bool ba, .slice sa na ca, .slice ta ma ea]) (by kernel_rfl) (by kernel_rfl) (by kernel_rfl) (fun _ _ _ h => h) (fun w' hw' => ?_) ?_
  · obtain ⟨ca00, ca01, ca02, fa00, fa01, fa02⟩ := (Box.se hw' Xa0.out notin0).c3
    first | (go_simp; done) | (go_simp; simp_all; done) | (go_simp; rfl)
  simp only [Act.put, List.setIfInBounds_toArray, List.set_cons_zero, List.set_cons_succ]
  refine good_pureX 2 (some 30) (Go.Op.load 25 (Go.Operand.tmp 4)) (none) (.agg #[.bool bb, .slice sb nb cb, .slice tb mb eb]) (by kernel_rfl) (by kernel_rfl) (by kernel_rfl) (fun _ _ _ h => h) (fun w' hw' => ?_) ?_
  · obtain ⟨cb00, cb01, cb02, fb00, fb01, fb02⟩ := (Box.se hw' Xb0.out notin0).c3
    first | (go_simp; done) | (go_simp; simp_all; done) | (go_simp; rfl)
  simp only [Act.put, List.setIfInBounds_toArray, List.set_cons_zero, List.set_cons_succ]
  refine good_callX 3 34 (some 31) #[Go.Operand.tmp 29, Go.Operand.tmp 30] #[25, 25] (none) #[.agg #[.bool ba, .slice sa na ca, .slice ta ma ea], .agg #[.bool bb, .slice sb nb cb, .slice tb mb eb]] (by kernel_rfl) Hok.out (by kernel_rfl) (by kernel_rfl) (by kernel_rfl) (by kernel_rfl) rfl rfl rfl (by kernel_rfl) (fun w8 hb => ?_)
  have HG := Lib.hid (below_call HG.out hb)
  clear hb
  (first | (have hcall := zmul_ar (AR.keep Ha.out (Keep.call HG.out)) (AR.keep Hb.out (Keep.call HG.out)) (by decide) (by decide); refine Calls.mono hcall ?_; clear hcall) | refine Calls.mono (zmul_ar (AR.keep Ha.out (Keep.call HG.out)) (AR.keep Hb.out (Keep.call HG.out)) (by decide) (by decide)) ?_)
  rintro e w9 ⟨v9, rfl, hv2, hb⟩
  obtain ⟨v2_b, v2_a, v2_n, v2_c, v2_d, v2_m, v2_e, rfl⟩ := hv2.litb
  refine ⟨_, rfl, ?_, hb⟩
  have HG := Lib.hid (below_call HG.out hb)
  have Hv2 := Lib.hid hv2
  clear hb hv2
  simp only [Act.put, List.setIfInBounds_toArray, List.set_cons_zero, List.set_cons_succ]
  refine good_callX 4 15 (some 32) #[Go.Operand.tmp 28, Go.Operand.tmp 31] #[25, 25] (none) #[.agg #[.bool v1_b, .slice v1_a v1_n v1_c, .slice v1_d v1_m v1_e], .agg #[.bool v2_b, .slice v2_a v2_n v2_c, .slice v2_d v2_m v2_e]] (by kernel_rfl) Hok.out (by kernel_rfl) (by kernel_rfl) (by kernel_rfl) (by kernel_rfl) rfl rfl rfl (by kernel_rfl) (fun w10 hb => ?_)
  have Hv2 := Lib.hid (CR.keep Hv2.out (Keep.call hb))
  have HG := Lib.hid (below_call HG.out hb)
  clear hb
  (first | (have hcall := zsame_cr (CR.keep Hv1.out (Keep.call HG.out)) Hv2.out (rfl); refine Calls.mono hcall ?_; clear hcall) | refine Calls.mono (zsame_cr (CR.keep Hv1.out (Keep.call HG.out)) Hv2.out (rfl)) ?_)
  rintro e w11 ⟨v11, rfl, rfl, hb⟩
  refine ⟨_, rfl, ?_, hb⟩
  have HG := Lib.hid (below_call HG.out hb)
  clear hb
  simp only [Act.put, List.setIfInBounds_toArray, List.set_cons_zero, List.set_cons_succ]
  refine good_pureX 5 (some 33) (Go.Op.unOp Go.UnOp.not 4 (Go.Operand.tmp 32)) (none) (.bool false) (by kernel_rfl) (by kernel_rfl) (by kernel_rfl) (fun _ _ _ h => h) (fun w' hw' => ?_) ?_
  · first | (go_simp; done) | (go_simp; simp_all; done) | (go_simp; rfl)
  simp only [Act.put, List.setIfInBounds_toArray, List.set_cons_zero, List.set_cons_succ]
  refine good_pureX 6 (some 34) (Go.Op.move (Go.Operand.tmp 33)) (none) (.bool false) (by kernel_rfl) (by kernel_rfl) (by kernel_rfl) (fun _ _ _ h => h) (fun w' hw' => ?_) ?_
  · first | (go_simp; done) | (go_simp; simp_all; done) | (go_simp; rfl)
  simp only [Act.put, List.setIfInBounds_toArray, List.set_cons_zero, List.set_cons_succ]
  refine good_pureX 7 (some 35) (Go.Op.load 25 (Go.Operand.tmp 7)) (some (6, false)) (.agg #[.bool v1_b, .slice v1_a v1_n v1_c, .slice v1_d v1_m v1_e]) (by kernel_rfl) (by kernel_rfl) (by kernel_rfl) (fun _ _ _ h => h) (fun w' hw' => ?_) ?_
  · obtain ⟨cd00, cd01, cd02, fd00, fd01, fd02⟩ := (Box.se hw' Xd0.out notin0).c3
    first | (go_simp; done) | (go_simp; simp_all; done) | (go_simp; rfl)
  simp only [Act.put, List.setIfInBounds_toArray, List.set_cons_zero, List.set_cons_succ]
  refine good_pureX 8 (some 36) (Go.Op.load 25 (Go.Operand.tmp 4)) (some (6, false)) (.agg #[.bool bb, .slice sb nb cb, .slice tb mb eb]) (by kernel_rfl) (by kernel_rfl) (by kernel_rfl) (fun _ _ _ h => h) (fun w' hw' => ?_) ?_
  · obtain ⟨cb00, cb01, cb02, fb00, fb01, fb02⟩ := (Box.se hw' Xb0.out notin0).c3
    first | (go_simp; done) | (go_simp; simp_all; done) | (go_simp; rfl)
  simp only [Act.put, List.setIfInBounds_toArray, List.set_cons_zero, List.set_cons_succ]
  refine good_pureX 9 (some 37) (Go.Op.load 25 (Go.Operand.tmp 3)) (some (6, false)) (.agg #[.bool ba, .slice sa na ca, .slice ta ma ea]) (by kernel_rfl) (by kernel_rfl) (by kernel_rfl) (fun _ _ _ h => h) (fun w' hw' => ?_) ?_
  · obtain ⟨ca00, ca01, ca02, fa00, fa01, fa02⟩ := (Box.se hw' Xa0.out notin0).c3
    first | (go_simp; done) | (go_simp; simp_all; done) | (go_simp; rfl)
  simp only [Act.put, List.setIfInBounds_toArray, List.set_cons_zero, List.set_cons_succ]
  refine good_callX 10 33 (some 38) #[Go.Operand.tmp 36, Go.Operand.tmp 37] #[25, 25] (some (6, false)) #[.agg #[.bool bb, .slice sb nb cb, .slice tb mb eb], .agg #[.bool ba, .slice sa na ca, .slice ta ma ea]] (by kernel_rfl) Hok.out (by kernel_rfl) (by kernel_rfl) (by kernel_rfl) (by kernel_rfl) rfl rfl rfl (by kernel_rfl) (fun w12 hb => ?_)
  have HG := Lib.hid (below_call HG.out hb)
  clear hb
  (first | (have hcall := rmul_ar (AR.keep Hb.out (Keep.call HG.out)) (AR.keep Ha.out (Keep.call HG.out)) (by decide) (by decide); refine Calls.mono hcall ?_; clear hcall) | refine Calls.mono (rmul_ar (AR.keep Hb.out (Keep.call HG.out)) (AR.keep Ha.out (Keep.call HG.out)) (by decide) (by decide)) ?_)
  rintro e w13 ⟨v13, rfl, hv3, hb⟩
  obtain ⟨v3_b, v3_a, v3_n, v3_c, v3_d, v3_m, v3_e, rfl⟩ := hv3.litb
  refine ⟨_, rfl, ?_, hb⟩
  have HG := Lib.hid (below_call HG.out hb)
  have Hv3 := Lib.hid hv3
  clear hb hv3
  simp only [Act.put, List.setIfInBounds_toArray, List.set_cons_zero, List.set_cons_succ]
  refine good_callX 11 15 (some 39) #[Go.Operand.tmp 35, Go.Operand.tmp 38] #[25, 25] (some (6, false)) #[.agg #[.bool v1_b, .slice v1_a v1_n v1_c, .slice v1_d v1_m v1_e], .agg #[.bool v3_b, .slice v3_a v3_n v3_c, .slice v3_d v3_m v3_e]] (by kernel_rfl) Hok.out (by kernel_rfl) (by kernel_rfl) (by kernel_rfl) (by kernel_rfl) rfl rfl rfl (by kernel_rfl) (fun w14 hb => ?_)
  have Hv3 := Lib.hid (CR.keep Hv3.out (Keep.call hb))
  have HG := Lib.hid (below_call HG.out hb)
  clear hb
  refine Calls.mono (zsame_cr (CR.keep Hv1.out (Keep.call HG.out)) Hv3.out (Rat.mul_comm _ _)) ?_
  rintro e w15 ⟨v15, rfl, rfl, hb⟩
  refine ⟨_, rfl, ?_, hb⟩
  have HG := Lib.hid (below_call HG.out hb)
  clear hb
  simp only [Act.put, List.setIfInBounds_toArray, List.set_cons_zero, List.set_cons_succ]
  refine good_pureX 12 (some 40) (Go.Op.unOp Go.UnOp.not 4 (Go.Operand.tmp 39)) (some (6, false)) (.bool false) (by kernel_rfl) (by kernel_rfl) (by kernel_rfl) (fun _ _ _ h => h) (fun w' hw' => ?_) ?_
  · first | (go_simp; done) | (go_simp; simp_all; done) | (go_simp; rfl)
  simp only [Act.put, List.setIfInBounds_toArray, List.set_cons_zero, List.set_cons_succ]
  refine good_pureX 13 (some 41) (Go.Op.pick (Go.Operand.tmp 34) (Go.Operand.const (Go.Value.bool true)) (Go.Operand.tmp 40)) (none) (.bool false) (by kernel_rfl) (by kernel_rfl) (by kernel_rfl) (fun _ _ _ h => h) (fun w' hw' => ?_) ?_
  · first | (go_simp; done) | (go_simp; simp_all; done) | (go_simp; rfl)
  simp only [Act.put, List.setIfInBounds_toArray, List.set_cons_zero, List.set_cons_succ]
  refine good_pureX 14 (some 42) (Go.Op.move (Go.Operand.tmp 41)) (none) (.bool false) (by kernel_rfl) (by kernel_rfl) (by kernel_rfl) (fun _ _ _ h => h) (fun w' hw' => ?_) ?_
  · first | (go_simp; done) | (go_simp; simp_all; done) | (go_simp; rfl)
  simp only [Act.put, List.setIfInBounds_toArray, List.set_cons_zero, List.set_cons_succ]
  refine good_pureX 15 (some 43) (Go.Op.load 25 (Go.Operand.tmp 7)) (some (14, false)) (.agg #[.bool v1_b, .slice v1_a v1_n v1_c, .slice v1_d v1_m v1_e]) (by kernel_rfl) (by kernel_rfl) (by kernel_rfl) (fun _ _ _ h => h) (fun w' hw' => ?_) ?_
  · obtain ⟨cd00, cd01, cd02, fd00, fd01, fd02⟩ := (Box.se hw' Xd0.out notin0).c3
    first | (go_simp; done) | (go_simp; simp_all; done) | (go_simp; rfl)
  simp only [Act.put, List.setIfInBounds_toArray, List.set_cons_zero, List.set_cons_succ]
  refine good_pureX 16 (some 44) (Go.Op.load 25 (Go.Operand.tmp 5)) (some (14, false)) (.agg #[.bool bc, .slice sc nc cc, .slice tc mc ec]) (by kernel_rfl) (by kernel_rfl) (by kernel_rfl) (fun _ _ _ h => h) (fun w' hw' => ?_) ?_
  · obtain ⟨cc00, cc01, cc02, fc00, fc01, fc02⟩ := (Box.se hw' Xc0.out notin0).c3
    first | (go_simp; done) | (go_simp; simp_all; done) | (go_simp; rfl)
  simp only [Act.put, List.setIfInBounds_toArray, List.set_cons_zero, List.set_cons_succ]
  refine good_pureX 18 (some 46) (Go.Op.load 25 (Go.Operand.tmp 3)) (some (14, false)) (.agg #[.bool ba, .slice sa na ca, .slice ta ma ea]) (by kernel_rfl) (by kernel_rfl) (by kernel_rfl) (fun _ _ _ h => h) (fun w' hw' => ?_) ?_
  · obtain ⟨ca00, ca01, ca02, fa00, fa01, fa02⟩ := (Box.se hw' Xa0.out notin0).c3
    first | (go_simp; done) | (go_simp; simp_all; done) | (go_simp; rfl)
  simp only [Act.put, List.setIfInBounds_toArray, List.set_cons_zero, List.set_cons_succ]
  refine good_pureX 19 (some 47) (Go.Op.load 25 (Go.Operand.tmp 4)) (some (14, false)) (.agg #[.bool bb, .slice sb nb cb, .slice tb mb eb]) (by kernel_rfl) (by kernel_rfl) (by kernel_rfl) (fun _ _ _ h => h) (fun w' hw' => ?_) ?_
  · obtain ⟨cb00, cb01, cb02, fb00, fb01, fb02⟩ := (Box.se hw' Xb0.out notin0).c3
    first | (go_simp; done) | (go_simp; simp_all; done) | (go_simp; rfl)
  simp only [Act.put, List.setIfInBounds_toArray, List.set_cons_zero, List.set_cons_succ]
  refine good_pureX 20 (some 48) (Go.Op.load 25 (Go.Operand.tmp 5)) (some (14, false)) (.agg #[.bool bc, .slice sc nc cc, .slice tc mc ec]) (by kernel_rfl) (by kernel_rfl) (by kernel_rfl) (fun _ _ _ h => h) (fun w' hw' => ?_) ?_
  · obtain ⟨cc00, cc01, cc02, fc00, fc01, fc02⟩ := (Box.se hw' Xc0.out notin0).c3
    first | (go_simp; done) | (go_simp; simp_all; done) | (go_simp; rfl)
  simp only [Act.put, List.setIfInBounds_toArray, List.set_cons_zero, List.set_cons_succ]
  refine good_callX 17 33 (some 45) #[Go.Operand.tmp 43, Go.Operand.tmp 44] #[25, 25] (some (14, false)) #[.agg #[.bool v1_b, .slice v1_a v1_n v1_c, .slice v1_d v1_m v1_e], .agg #[.bool bc, .slice sc nc cc, .slice tc mc ec]] (by kernel_rfl) Hok.out (by kernel_rfl) (by kernel_rfl) (by kernel_rfl) (by kernel_rfl) rfl rfl rfl (by kernel_rfl) (fun w16 hb => ?_)
  have HG := Lib.hid (below_call HG.out hb)
  clear hb
  (first | (have hcall := rmul_ar (CR.keep Hv1.out (Keep.call HG.out)).ar (AR.keep Hc.out (Keep.call HG.out)) (by decide) (by decide); refine Calls.mono hcall ?_; clear hcall) | refine Calls.mono (rmul_ar (CR.keep Hv1.out (Keep.call HG.out)).ar (AR.keep Hc.out (Keep.call HG.out)) (by decide) (by decide)) ?_)
  rintro e w17 ⟨v17, rfl, hu1, hb⟩
  obtain ⟨u1_b, u1_a, u1_n, u1_c, u1_d, u1_m, u1_e, rfl⟩ := hu1.litb
  refine ⟨_, rfl, ?_, hb⟩
  have HG := Lib.hid (below_call HG.out hb)
  have Hu1 := Lib.hid hu1
  clear hb hu1
  simp only [Act.put, List.setIfInBounds_toArray, List.set_cons_zero, List.set_cons_succ]
  refine good_callX 21 33 (some 49) #[Go.Operand.tmp 47, Go.Operand.tmp 48] #[25, 25] (some (14, false)) #[.agg #[.bool bb, .slice sb nb cb, .slice tb mb eb], .agg #[.bool bc, .slice sc nc cc, .slice tc mc ec]] (by kernel_rfl) Hok.out (by kernel_rfl) (by kernel_rfl) (by kernel_rfl) (by kernel_rfl) rfl rfl rfl (by kernel_rfl) (fun w18 hb => ?_)
  have Hu1 := Lib.hid (CR.keep Hu1.out (Keep.call hb))
  have HG := Lib.hid (below_call HG.out hb)
  clear hb
  (first | (have hcall := rmul_ar (AR.keep Hb.out (Keep.call HG.out)) (AR.keep Hc.out (Keep.call HG.out)) (by decide) (by decide); refine Calls.mono hcall ?_; clear hcall) | refine Calls.mono (rmul_ar (AR.keep Hb.out (Keep.call HG.out)) (AR.keep Hc.out (Keep.call HG.out)) (by decide) (by decide)) ?_)
  rintro e w19 ⟨v19, rfl, hu2, hb⟩
  obtain ⟨u2_b, u2_a, u2_n, u2_c, u2_d, u2_m, u2_e, rfl⟩ := hu2.litb
  refine ⟨_, rfl, ?_, hb⟩
  have Hu1 := Lib.hid (CR.keep Hu1.out (Keep.call hb))
  have HG := Lib.hid (below_call HG.out hb)
  have Hu2 := Lib.hid hu2
  clear hb hu2
  simp only [Act.put, List.setIfInBounds_toArray, List.set_cons_zero, List.set_cons_succ]
  refine good_callX 22 33 (some 50) #[Go.Operand.tmp 46, Go.Operand.tmp 49] #[25, 25] (some (14, false)) #[.agg #[.bool ba, .slice sa na ca, .slice ta ma ea], .agg #[.bool u2_b, .slice u2_a u2_n u2_c, .slice u2_d u2_m u2_e]] (by kernel_rfl) Hok.out (by kernel_rfl) (by kernel_rfl) (by kernel_rfl) (by kernel_rfl) rfl rfl rfl (by kernel_rfl) (fun w20 hb => ?_)
  have Hu1 := Lib.hid (CR.keep Hu1.out (Keep.call hb))
  have Hu2 := Lib.hid (CR.keep Hu2.out (Keep.call hb))
  have HG := Lib.hid (below_call HG.out hb)
  clear hb
  (first | (have hcall := rmul_ar (AR.keep Ha.out (Keep.call HG.out)) Hu2.out.ar (by decide) (by decide); refine Calls.mono hcall ?_; clear hcall) | refine Calls.mono (rmul_ar (AR.keep Ha.out (Keep.call HG.out)) Hu2.out.ar (by decide) (by decide)) ?_)
  rintro e w21 ⟨v21, rfl, hu3, hb⟩
  obtain ⟨u3_b, u3_a, u3_n, u3_c, u3_d, u3_m, u3_e, rfl⟩ := hu3.litb
  refine ⟨_, rfl, ?_, hb⟩
  have Hu1 := Lib.hid (CR.keep Hu1.out (Keep.call hb))
  have HG := Lib.hid (below_call HG.out hb)
  have Hu3 := Lib.hid hu3
  clear hb hu3
  simp only [Act.put, List.setIfInBounds_toArray, List.set_cons_zero, List.set_cons_succ]
  refine good_callX 23 15 (some 51) #[Go.Operand.tmp 45, Go.Operand.tmp 50] #[25, 25] (some (14, false)) #[.agg #[.bool u1_b, .slice u1_a u1_n u1_c, .slice u1_d u1_m u1_e], .agg #[.bool u3_b, .slice u3_a u3_n u3_c, .slice u3_d u3_m u3_e]] (by kernel_rfl) Hok.out (by kernel_rfl) (by kernel_rfl) (by kernel_rfl) (by kernel_rfl) rfl rfl rfl (by kernel_rfl) (fun w22 hb => ?_)
  have Hu1 := Lib.hid (CR.keep Hu1.out (Keep.call hb))
  have Hu3 := Lib.hid (CR.keep Hu3.out (Keep.call hb))
  have HG := Lib.hid (below_call HG.out hb)
  clear hb
  refine Calls.mono (zsame_cr Hu1.out Hu3.out (Rat.mul_assoc _ _ _)) ?_
  rintro e w23 ⟨v23, rfl, rfl, hb⟩
  refine ⟨_, rfl, ?_, hb⟩
  have HG := Lib.hid (below_call HG.out hb)
  clear hb
  simp only [Act.put, List.setIfInBounds_toArray, List.set_cons_zero, List.set_cons_succ]
  refine good_pureX 24 (some 52) (Go.Op.unOp Go.UnOp.not 4 (Go.Operand.tmp 51)) (some (14, false)) (.bool false) (by kernel_rfl) (by kernel_rfl) (by kernel_rfl) (fun _ _ _ h => h) (fun w' hw' => ?_) ?_
  · first | (go_simp; done) | (go_simp; simp_all; done) | (go_simp; rfl)
  simp only [Act.put, List.setIfInBounds_toArray, List.set_cons_zero, List.set_cons_succ]
  refine good_pureX 25 (some 53) (Go.Op.pick (Go.Operand.tmp 42) (Go.Operand.const (Go.Value.bool true)) (Go.Operand.tmp 52)) (none) (.bool false) (by kernel_rfl) (by kernel_rfl) (by kernel_rfl) (fun _ _ _ h => h) (fun w' hw' => ?_) ?_
  · first | (go_simp; done) | (go_simp; simp_all; done) | (go_simp; rfl)
  simp only [Act.put, List.setIfInBounds_toArray, List.set_cons_zero, List.set_cons_succ]
  refine good_end0 0 (by kernel_rfl) (fun _ w24 hb => ?_)
  have HG := Lib.hid (below_call HG.out hb)
  clear hb
  have Ha := Lib.hid (AR.keep Ha.out (Keep.call HG.out))
  have Hb := Lib.hid (AR.keep Hb.out (Keep.call HG.out))
  have Hc := Lib.hid (AR.keep Hc.out (Keep.call HG.out))
  have Hv1 := Lib.hid (CR.keep Hv1.out (Keep.call HG.out))
  have Xa0 := Lib.hid (Box.pcall HG.out Xa0.out)
  have Xb0 := Lib.hid (Box.pcall HG.out Xb0.out)
  have Xc0 := Lib.hid (Box.pcall HG.out Xc0.out)
  have Xd0 := Lib.hid (Box.pcall HG.out Xd0.out)
  have HB := Lib.hid (below_call HB.out HG.out)
  have HS := Lib.hid (SE.of (E := []) HG.out)
  refine wpAnyH_done (by kernel_rfl) ?_ _
  clear HG HS Hok 
  obtain ⟨ca00, ca01, ca02, fa00, fa01, fa02⟩ := Xa0.out.c3
  have la0 := Xa0.out.lt
  obtain ⟨cb00, cb01, cb02, fb00, fb01, fb02⟩ := Xb0.out.c3
  have lb0 := Xb0.out.lt
  obtain ⟨cc00, cc01, cc02, fc00, fc01, fc02⟩ := Xc0.out.c3
  have lc0 := Xc0.out.lt
  obtain ⟨cd00, cd01, cd02, fd00, fd01, fd02⟩ := Xd0.out.c3
  have ld0 := Xd0.out.lt
  go_wp2_with fail
  clear ca00 ca01 ca02 fa00 fa01 fa02 la0 cb00 cb01 cb02 fb00 fb01 fb02 lb0 cc00 cc01 cc02 fc00 fc01 fc02 lc0 cd00 cd01 cd02 fd00 fd01 fd02 ld0
  have Ha := Lib.hid (AR.keep Ha.out (Keep.drew w24))
  have Hb := Lib.hid (AR.keep Hb.out (Keep.drew w24))
  have Hc := Lib.hid (AR.keep Hc.out (Keep.drew w24))
  have Hv1 := Lib.hid (CR.keep Hv1.out (Keep.drew w24))
  have Xa0 := Lib.hid (Box.drew Xa0.out)
  have Xb0 := Lib.hid (Box.drew Xb0.out)
  have Xc0 := Lib.hid (Box.drew Xc0.out)
  have Xd0 := Lib.hid (Box.drew Xd0.out)
  have HB := Lib.hid (Below.drew HB.out)
  refine wp_region_float [] [] (by kernel_rfl) (by kernel_rfl) 90 (by kernel_rfl) Flok.nil ?_
  intro ok
  have Hok := Lib.hid ok
  clear ok
  have HG := Lib.hid (Below.refl (w24.drew).heap.size (w24.drew))
  refine good_pureX 0 (some 54) (Go.Op.load 25 (Go.Operand.tmp 3)) (none) (.agg #[.bool ba, .slice sa na ca, .slice ta ma ea]) (by kernel_rfl) (by kernel_rfl) (by kernel_rfl) (fun _ _ _ h => h) (fun w' hw' => ?_) ?_
  · obtain ⟨ca00, ca01, ca02, fa00, fa01, fa02⟩ := (Box.se hw' Xa0.out notin0).c3
    first | (go_simp; done) | (go_simp; simp_all; done) | (go_simp; rfl)
  simp only [Act.put, List.setIfInBounds_toArray, List.set_cons_zero, List.set_cons_succ]
  refine good_pureX 1 (some 55) (Go.Op.load 25 (Go.Operand.tmp 4)) (none) (.agg #[.bool bb, .slice sb nb cb, .slice tb mb eb]) (by kernel_rfl) (by kernel_rfl) (by kernel_rfl) (fun _ _ _ h => h) (fun w' hw' => ?_) ?_
  · obtain ⟨cb00, cb01, cb02, fb00, fb01, fb02⟩ := (Box.se hw' Xb0.out notin0).c3
    first | (go_simp; done) | (go_simp; simp_all; done) | (go_simp; rfl)
  simp only [Act.put, List.setIfInBounds_toArray, List.set_cons_zero, List.set_cons_succ]
  refine good_pureX 2 (some 56) (Go.Op.load 25 (Go.Operand.tmp 5)) (none) (.agg #[.bool bc, .slice sc nc cc, .slice tc mc ec]) (by kernel_rfl) (by kernel_rfl) (by kernel_rfl) (fun _ _ _ h => h) (fun w' hw' => ?_) ?_
  · obtain ⟨cc00, cc01, cc02, fc00, fc01, fc02⟩ := (Box.se hw' Xc0.out notin0).c3
    first | (go_simp; done) | (go_simp; simp_all; done) | (go_simp; rfl)
  simp only [Act.put, List.setIfInBounds_toArray, List.set_cons_zero, List.set_cons_succ]
  refine good_pureX 5 (some 59) (Go.Op.load 25 (Go.Operand.tmp 7)) (none) (.agg #[.bool v1_b, .slice v1_a v1_n v1_c, .slice v1_d v1_m v1_e]) (by kernel_rfl) (by kernel_rfl) (by kernel_rfl) (fun _ _ _ h => h) (fun w' hw' => ?_) ?_
  · obtain ⟨cd00, cd01, cd02, fd00, fd01, fd02⟩ := (Box.se hw' Xd0.out notin0).c3
    first | (go_simp; done) | (go_simp; simp_all; done) | (go_simp; rfl)
  simp only [Act.put, List.setIfInBounds_toArray, List.set_cons_zero, List.set_cons_succ]
  refine good_pureX 6 (some 60) (Go.Op.load 25 (Go.Operand.tmp 3)) (none) (.agg #[.bool ba, .slice sa na ca, .slice ta ma ea]) (by kernel_rfl) (by kernel_rfl) (by kernel_rfl) (fun _ _ _ h => h) (fun w' hw' => ?_) ?_
  · obtain ⟨ca00, ca01, ca02, fa00, fa01, fa02⟩ := (Box.se hw' Xa0.out notin0).c3
    first | (go_simp; done) | (go_simp; simp_all; done) | (go_simp; rfl)
  simp only [Act.put, List.setIfInBounds_toArray, List.set_cons_zero, List.set_cons_succ]
  refine good_pureX 7 (some 61) (Go.Op.load 25 (Go.Operand.tmp 5)) (none) (.agg #[.bool bc, .slice sc nc cc, .slice tc mc ec]) (by kernel_rfl) (by kernel_rfl) (by kernel_rfl) (fun _ _ _ h => h) (fun w' hw' => ?_) ?_
  · obtain ⟨cc00, cc01, cc02, fc00, fc01, fc02⟩ := (Box.se hw' Xc0.out notin0).c3
    first | (go_simp; done) | (go_simp; simp_all; done) | (go_simp; rfl)
  simp only [Act.put, List.setIfInBounds_toArray, List.set_cons_zero, List.set_cons_succ]
  refine good_callX 3 14 (some 57) #[Go.Operand.tmp 55, Go.Operand.tmp 56] #[25, 25] (none) #[.agg #[.bool bb, .slice sb nb cb, .slice tb mb eb], .agg #[.bool bc, .slice sc nc cc, .slice tc mc ec]] (by kernel_rfl) Hok.out (by kernel_rfl) (by kernel_rfl) (by kernel_rfl) (by kernel_rfl) rfl rfl rfl (by kernel_rfl) (fun w25 hb => ?_)
  have HG := Lib.hid (below_call HG.out hb)
  clear hb
  (first | (have hcall := radd_ar (AR.keep Hb.out (Keep.call HG.out)) (AR.keep Hc.out (Keep.call HG.out)) (by decide) (by decide); refine Calls.mono hcall ?_; clear hcall) | refine Calls.mono (radd_ar (AR.keep Hb.out (Keep.call HG.out)) (AR.keep Hc.out (Keep.call HG.out)) (by decide) (by decide)) ?_)
  rintro e w26 ⟨v26, rfl, hx1, hb⟩
  obtain ⟨x1_b, x1_a, x1_n, x1_c, x1_d, x1_m, x1_e, rfl⟩ := hx1.litb
  refine ⟨_, rfl, ?_, hb⟩
  have HG := Lib.hid (below_call HG.out hb)
  have Hx1 := Lib.hid hx1
  clear hb hx1
  simp only [Act.put, List.setIfInBounds_toArray, List.set_cons_zero, List.set_cons_succ]
  refine good_callX 4 33 (some 58) #[Go.Operand.tmp 54, Go.Operand.tmp 57] #[25, 25] (none) #[.agg #[.bool ba, .slice sa na ca, .slice ta ma ea], .agg #[.bool x1_b, .slice x1_a x1_n x1_c, .slice x1_d x1_m x1_e]] (by kernel_rfl) Hok.out (by kernel_rfl) (by kernel_rfl) (by kernel_rfl) (by kernel_rfl) rfl rfl rfl (by kernel_rfl) (fun w27 hb => ?_)
  have Hx1 := Lib.hid (CR.keep Hx1.out (Keep.call hb))
  have HG := Lib.hid (below_call HG.out hb)
  clear hb
  (first | (have hcall := rmul_ar (AR.keep Ha.out (Keep.call HG.out)) Hx1.out.ar (by decide) (by decide); refine Calls.mono hcall ?_; clear hcall) | refine Calls.mono (rmul_ar (AR.keep Ha.out (Keep.call HG.out)) Hx1.out.ar (by decide) (by decide)) ?_)
  rintro e w28 ⟨v28, rfl, hx2, hb⟩
  obtain ⟨x2_b, x2_a, x2_n, x2_c, x2_d, x2_m, x2_e, rfl⟩ := hx2.litb
  refine ⟨_, rfl, ?_, hb⟩
  have HG := Lib.hid (below_call HG.out hb)
  have Hx2 := Lib.hid hx2
  clear hb hx2
  simp only [Act.put, List.setIfInBounds_toArray, List.set_cons_zero, List.set_cons_succ]
  refine good_callX 8 33 (some 62) #[Go.Operand.tmp 60, Go.Operand.tmp 61] #[25, 25] (none) #[.agg #[.bool ba, .slice sa na ca, .slice ta ma ea], .agg #[.bool bc, .slice sc nc cc, .slice tc mc ec]] (by kernel_rfl) Hok.out (by kernel_rfl) (by kernel_rfl) (by kernel_rfl) (by kernel_rfl) rfl rfl rfl (by kernel_rfl) (fun w29 hb => ?_)
  have Hx2 := Lib.hid (CR.keep Hx2.out (Keep.call hb))
  have HG := Lib.hid (below_call HG.out hb)
  clear hb
  (first | (have hcall := rmul_ar (AR.keep Ha.out (Keep.call HG.out)) (AR.keep Hc.out (Keep.call HG.out)) (by decide) (by decide); refine Calls.mono hcall ?_; clear hcall) | refine Calls.mono (rmul_ar (AR.keep Ha.out (Keep.call HG.out)) (AR.keep Hc.out (Keep.call HG.out)) (by decide) (by decide)) ?_)
  rintro e w30 ⟨v30, rfl, hx3, hb⟩
  obtain ⟨x3_b, x3_a, x3_n, x3_c, x3_d, x3_m, x3_e, rfl⟩ := hx3.litb
  refine ⟨_, rfl, ?_, hb⟩
  have Hx2 := Lib.hid (CR.keep Hx2.out (Keep.call hb))
  have HG := Lib.hid (below_call HG.out hb)
  have Hx3 := Lib.hid hx3
  clear hb hx3
  simp only [Act.put, List.setIfInBounds_toArray, List.set_cons_zero, List.set_cons_succ]
  refine good_callX 9 14 (some 63) #[Go.Operand.tmp 59, Go.Operand.tmp 62] #[25, 25] (none) #[.agg #[.bool v1_b, .slice v1_a v1_n v1_c, .slice v1_d v1_m v1_e], .agg #[.bool x3_b, .slice x3_a x3_n x3_c, .slice x3_d x3_m x3_e]] (by kernel_rfl) Hok.out (by kernel_rfl) (by kernel_rfl) (by kernel_rfl) (by kernel_rfl) rfl rfl rfl (by kernel_rfl) (fun w31 hb => ?_)
  have Hx2 := Lib.hid (CR.keep Hx2.out (Keep.call hb))
  have Hx3 := Lib.hid (CR.keep Hx3.out (Keep.call hb))
  have HG := Lib.hid (below_call HG.out hb)
  clear hb
  (first | (have hcall := radd_ar (CR.keep Hv1.out (Keep.call HG.out)).ar Hx3.out.ar (by decide) (by decide); refine Calls.mono hcall ?_; clear hcall) | refine Calls.mono (radd_ar (CR.keep Hv1.out (Keep.call HG.out)).ar Hx3.out.ar (by decide) (by decide)) ?_)
  rintro e w32 ⟨v32, rfl, hx4, hb⟩
  obtain ⟨x4_b, x4_a, x4_n, x4_c, x4_d, x4_m, x4_e, rfl⟩ := hx4.litb
  refine ⟨_, rfl, ?_, hb⟩
  have Hx2 := Lib.hid (CR.keep Hx2.out (Keep.call hb))
  have HG := Lib.hid (below_call HG.out hb)
  have Hx4 := Lib.hid hx4
  clear hb hx4
  simp only [Act.put, List.setIfInBounds_toArray, List.set_cons_zero, List.set_cons_succ]
  refine good_callX 10 15 (some 64) #[Go.Operand.tmp 58, Go.Operand.tmp 63] #[25, 25] (none) #[.agg #[.bool x2_b, .slice x2_a x2_n x2_c, .slice x2_d x2_m x2_e], .agg #[.bool x4_b, .slice x4_a x4_n x4_c, .slice x4_d x4_m x4_e]] (by kernel_rfl) Hok.out (by kernel_rfl) (by kernel_rfl) (by kernel_rfl) (by kernel_rfl) rfl rfl rfl (by kernel_rfl) (fun w33 hb => ?_)
  have Hx2 := Lib.hid (CR.keep Hx2.out (Keep.call hb))
  have Hx4 := Lib.hid (CR.keep Hx4.out (Keep.call hb))
  have HG := Lib.hid (below_call HG.out hb)
  clear hb
  refine Calls.mono (zsame_cr Hx2.out Hx4.out (q_dist _ _ _)) ?_
  rintro e w34 ⟨v34, rfl, rfl, hb⟩
  refine ⟨_, rfl, ?_, hb⟩
  have HG := Lib.hid (below_call HG.out hb)
  clear hb
  simp only [Act.put, List.setIfInBounds_toArray, List.set_cons_zero, List.set_cons_succ]
  refine good_pureX 11 (some 65) (Go.Op.unOp Go.UnOp.not 4 (Go.Operand.tmp 64)) (none) (.bool false) (by kernel_rfl) (by kernel_rfl) (by kernel_rfl) (fun _ _ _ h => h) (fun w' hw' => ?_) ?_
  · first | (go_simp; done) | (go_simp; simp_all; done) | (go_simp; rfl)
  simp only [Act.put, List.setIfInBounds_toArray, List.set_cons_zero, List.set_cons_succ]
  refine good_end0 0 (by kernel_rfl) (fun _ w35 hb => ?_)
  have HG := Lib.hid (below_call HG.out hb)
  clear hb
  have Hb := Lib.hid (AR.keep Hb.out (Keep.call HG.out))
  have Hv1 := Lib.hid (CR.keep Hv1.out (Keep.call HG.out))
  have Xa0 := Lib.hid (Box.pcall HG.out Xa0.out)
  have Xb0 := Lib.hid (Box.pcall HG.out Xb0.out)
  have Xc0 := Lib.hid (Box.pcall HG.out Xc0.out)
  have Xd0 := Lib.hid (Box.pcall HG.out Xd0.out)
  have HB := Lib.hid (below_call HB.out HG.out)
  have HS := Lib.hid (SE.of (E := []) HG.out)
  refine wpAnyH_done (by kernel_rfl) ?_ _
  clear HG HS Hok 
  obtain ⟨ca00, ca01, ca02, fa00, fa01, fa02⟩ := Xa0.out.c3
  have la0 := Xa0.out.lt
  obtain ⟨cb00, cb01, cb02, fb00, fb01, fb02⟩ := Xb0.out.c3
  have lb0 := Xb0.out.lt
  obtain ⟨cc00, cc01, cc02, fc00, fc01, fc02⟩ := Xc0.out.c3
  have lc0 := Xc0.out.lt
  obtain ⟨cd00, cd01, cd02, fd00, fd01, fd02⟩ := Xd0.out.c3
  have ld0 := Xd0.out.lt
  go_wp2_with fail
  clear ca00 ca01 ca02 fa00 fa01 fa02 la0 cb00 cb01 cb02 fb00 fb01 fb02 lb0 cc00 cc01 cc02 fc00 fc01 fc02 lc0 cd00 cd01 cd02 fd00 fd01 fd02 ld0
  (first | (have hcall := qdiv_zero Hz.out Hv1.out.ar Hb.out (by decide) (by decide); refine Calls.mono hcall ?_; clear hcall) | refine Calls.mono (qdiv_zero Hz.out Hv1.out.ar Hb.out (by decide) (by decide)) ?_)
  rintro e w36 ⟨v36, rfl, rfl, hb⟩
  have Hb := Lib.hid (AR.keep Hb.out (Keep.call hb))
  have Xa0 := Lib.hid (Box.pcall hb Xa0.out)
  have Xb0 := Lib.hid (Box.pcall hb Xb0.out)
  have Xc0 := Lib.hid (Box.pcall hb Xc0.out)
  have Xd0 := Lib.hid (Box.pcall hb Xd0.out)
  have HB := Lib.hid (below_call HB.out hb)
  clear hb
  obtain ⟨ca00, ca01, ca02, fa00, fa01, fa02⟩ := Xa0.out.c3
  have la0 := Xa0.out.lt
  obtain ⟨cb00, cb01, cb02, fb00, fb01, fb02⟩ := Xb0.out.c3
  have lb0 := Xb0.out.lt
  obtain ⟨cc00, cc01, cc02, fc00, fc01, fc02⟩ := Xc0.out.c3
  have lc0 := Xc0.out.lt
  obtain ⟨cd00, cd01, cd02, fd00, fd01, fd02⟩ := Xd0.out.c3
  have ld0 := Xd0.out.lt
  go_wp2_with fail
  clear ca00 ca01 ca02 fa00 fa01 fa02 la0 cb00 cb01 cb02 fb00 fb01 fb02 lb0 cc00 cc01 cc02 fc00 fc01 fc02 lc0 cd00 cd01 cd02 fd00 fd01 fd02 ld0
  obtain ⟨W37, hW⟩ : ∃ W37, W37 = (World.alloc w36 (.cells #[.bool false, .slice none 0 0, .slice none 0 0] 25)) := ⟨_, rfl⟩
  rw [← hW]
  obtain ⟨xe0, hk, hb⟩ := boxes_1 _ _ _ hW
  clear hW
  have Hb := Lib.hid (AR.keep Hb.out hk)
  have Na0e0 := Lib.hid (show w.heap.size ≠ w36.heap.size from Nat.ne_of_lt (Nat.lt_of_lt_of_le Xa0.out.lt (by omega)))
  have Nb0e0 := Lib.hid (show w.heap.size + 1 ≠ w36.heap.size from Nat.ne_of_lt (Nat.lt_of_lt_of_le Xb0.out.lt (by omega)))
  have Nc0e0 := Lib.hid (show w.heap.size + 1 + 1 ≠ w36.heap.size from Nat.ne_of_lt (Nat.lt_of_lt_of_le Xc0.out.lt (by omega)))
  have Nd0e0 := Lib.hid (show w6.heap.size ≠ w36.heap.size from Nat.ne_of_lt (Nat.lt_of_lt_of_le Xd0.out.lt (by omega)))
  have Ge0 := Lib.hid (show w.heap.size ≤ w36.heap.size from Nat.le_trans HB.out.size (by omega))
  have Xa0 := Lib.hid (Box.pcall hb Xa0.out)
  have Xb0 := Lib.hid (Box.pcall hb Xb0.out)
  have Xc0 := Lib.hid (Box.pcall hb Xc0.out)
  have Xd0 := Lib.hid (Box.pcall hb Xd0.out)
  have Xe0 := Lib.hid xe0
  have HB := Lib.hid (below_call HB.out hb)
  clear hk hb xe0
  (first | (have hcall := zsign_ar 0 Hb.out (num_zero Hz.out); refine Calls.mono hcall ?_; clear hcall) | refine Calls.mono (zsign_ar 0 Hb.out (num_zero Hz.out)) ?_)
  rintro e w38 ⟨v38, rfl, rfl, hb⟩
  have Xa0 := Lib.hid (Box.pcall hb Xa0.out)
  have Xb0 := Lib.hid (Box.pcall hb Xb0.out)
  have Xc0 := Lib.hid (Box.pcall hb Xc0.out)
  have Xd0 := Lib.hid (Box.pcall hb Xd0.out)
  have Xe0 := Lib.hid (Box.pcall hb Xe0.out)
  have HB := Lib.hid (below_call HB.out hb)
  clear hb
  obtain ⟨ca00, ca01, ca02, fa00, fa01, fa02⟩ := Xa0.out.c3
  have la0 := Xa0.out.lt
  obtain ⟨cb00, cb01, cb02, fb00, fb01, fb02⟩ := Xb0.out.c3
  have lb0 := Xb0.out.lt
  obtain ⟨cc00, cc01, cc02, fc00, fc01, fc02⟩ := Xc0.out.c3
  have lc0 := Xc0.out.lt
  obtain ⟨cd00, cd01, cd02, fd00, fd01, fd02⟩ := Xd0.out.c3
  have ld0 := Xd0.out.lt
  obtain ⟨ce00, ce01, ce02, fe00, fe01, fe02⟩ := Xe0.out.c3
  have le0 := Xe0.out.lt
  go_wp2_with fail
  clear ca00 ca01 ca02 fa00 fa01 fa02 la0 cb00 cb01 cb02 fb00 fb01 fb02 lb0 cc00 cc01 cc02 fc00 fc01 fc02 lc0 cd00 cd01 cd02 fd00 fd01 fd02 ld0 ce00 ce01 ce02 fe00 fe01 fe02 le0
  refine Calls.mono (zsame_cr (CR.zero _) (CR.zero _) rfl) ?_
  rintro e w39 ⟨v39, rfl, rfl, hb⟩
  have Xa0 := Lib.hid (Box.pcall hb Xa0.out)
  have Xb0 := Lib.hid (Box.pcall hb Xb0.out)
  have Xc0 := Lib.hid (Box.pcall hb Xc0.out)
  have Xd0 := Lib.hid (Box.pcall hb Xd0.out)
  have Xe0 := Lib.hid (Box.pcall hb Xe0.out)
  have HB := Lib.hid (below_call HB.out hb)
  clear hb
  obtain ⟨ca00, ca01, ca02, fa00, fa01, fa02⟩ := Xa0.out.c3
  have la0 := Xa0.out.lt
  obtain ⟨cb00, cb01, cb02, fb00, fb01, fb02⟩ := Xb0.out.c3
  have lb0 := Xb0.out.lt
  obtain ⟨cc00, cc01, cc02, fc00, fc01, fc02⟩ := Xc0.out.c3
  have lc0 := Xc0.out.lt
  obtain ⟨cd00, cd01, cd02, fd00, fd01, fd02⟩ := Xd0.out.c3
  have ld0 := Xd0.out.lt
  obtain ⟨ce00, ce01, ce02, fe00, fe01, fe02⟩ := Xe0.out.c3
  have le0 := Xe0.out.lt
  go_wp2
  clear ca00 ca01 ca02 fa00 fa01 fa02 la0 cb00 cb01 cb02 fb00 fb01 fb02 lb0 cc00 cc01 cc02 fc00 fc01 fc02 lc0 cd00 cd01 cd02 fd00 fd01 fd02 ld0 ce00 ce01 ce02 fe00 fe01 fe02 le0
  go_ret
  exact ⟨_, rfl, rfl, HB.out⟩


set_option maxRecDepth 100000 in
set_option maxHeartbeats 4000000 in
theorem lrmul_y {qa : Rat} {ba : Bool} {sa ta : Option Addr} {na ca ma ea : Nat} {qb : Rat} {bb : Bool} {sb tb : Option Addr} {nb cb mb eb : Nat} {qc : Rat} {bc : Bool} {sc tc : Option Addr} {nc cc mc ec : Nat}  {w : World} (k : Int) (hk : qb.num.sign = k) (hk0 : (k == 0) = false) (hz : qb ≠ 0) (ha : AR qa 3 w (.agg #[.bool ba, .slice sa na ca, .slice ta ma ea])) (hfa : na ≤ 3) (hga : ma ≤ 3) (hb : AR qb 3 w (.agg #[.bool bb, .slice sb nb cb, .slice tb mb eb])) (hfb : nb ≤ 3) (hgb : mb ≤ 3) (hc : AR qc 3 w (.agg #[.bool bc, .slice sc nc cc, .slice tc mc ec])) (hfc : nc ≤ 3) (hgc : mc ≤ 3) :
    Calls Try.prog 8 #[.agg #[.bool ba, .slice sa na ca, .slice ta ma ea], .agg #[.bool bb, .slice sb nb cb, .slice tb mb eb], .agg #[.bool bc, .slice sc nc cc, .slice tc mc ec]] w (Ret w (Val (.bool true))) := by
  have Ha := Lib.hid ha
  have Hb := Lib.hid hb
  have Hc := Lib.hid hc
  have Hz := Lib.hid hz
  have Hk := Lib.hid hk
  have Hk0 := Lib.hid hk0
  have Hfa := Lib.hid hfa
  have Hga := Lib.hid hga
  have Hfb := Lib.hid hfb
  have Hgb := Lib.hid hgb
  have Hfc := Lib.hid hfc
  have Hgc := Lib.hid hgc
  clear ha hb hc hz hk hk0 hfa hga hfb hgb hfc hgc
  go_enter Try.func8, Try.ntmps8
  have HB := Lib.hid (Below.refl w.heap.size w)
  go_wp2_with fail
  obtain ⟨W1, hW⟩ : ∃ W1, W1 = (World.alloc (World.alloc (World.alloc w (.cells #[.bool ba, .slice sa na ca, .slice ta ma ea] 25)) (.cells #[.bool bb, .slice sb nb cb, .slice tb mb eb] 25)) (.cells #[.bool bc, .slice sc nc cc, .slice tc mc ec] 25)) := ⟨_, rfl⟩
  rw [← hW]
  obtain ⟨xa0, xb0, xc0, hk, hb⟩ := boxes_3 _ _ _ _ _ _ _ hW
  clear hW
  have Ha := Lib.hid (AR.keep Ha.out hk)
  have Hb := Lib.hid (AR.keep Hb.out hk)
  have Hc := Lib.hid (AR.keep Hc.out hk)
  have Ga0 := Lib.hid (show w.heap.size ≤ w.heap.size from Nat.le_trans HB.out.size (by omega))
  have Gb0 := Lib.hid (show w.heap.size ≤ w.heap.size + 1 from Nat.le_trans HB.out.size (by omega))
  have Gc0 := Lib.hid (show w.heap.size ≤ w.heap.size + 1 + 1 from Nat.le_trans HB.out.size (by omega))
  have Xa0 := Lib.hid xa0
  have Xb0 := Lib.hid xb0
  have Xc0 := Lib.hid xc0
  have HB := Lib.hid (below_call HB.out hb)
  clear hk hb xa0 xb0 xc0
  refine Calls.mono (awake3) ?_
  rintro e w2 ⟨v2, rfl, rfl, hb⟩
  have Ha := Lib.hid (AR.keep Ha.out (Keep.call hb))
  have Hb := Lib.hid (AR.keep Hb.out (Keep.call hb))
  have Hc := Lib.hid (AR.keep Hc.out (Keep.call hb))
  have Xa0 := Lib.hid (Box.pcall hb Xa0.out)
  have Xb0 := Lib.hid (Box.pcall hb Xb0.out)
  have Xc0 := Lib.hid (Box.pcall hb Xc0.out)
  have HB := Lib.hid (below_call HB.out hb)
  clear hb
  obtain ⟨ca00, ca01, ca02, fa00, fa01, fa02⟩ := Xa0.out.c3
  have la0 := Xa0.out.lt
  obtain ⟨cb00, cb01, cb02, fb00, fb01, fb02⟩ := Xb0.out.c3
  have lb0 := Xb0.out.lt
  obtain ⟨cc00, cc01, cc02, fc00, fc01, fc02⟩ := Xc0.out.c3
  have lc0 := Xc0.out.lt
  go_wp2_with fail
  clear ca00 ca01 ca02 fa00 fa01 fa02 la0 cb00 cb01 cb02 fb00 fb01 fb02 lb0 cc00 cc01 cc02 fc00 fc01 fc02 lc0
  refine Calls.mono (few3_yes Hfa.out Hga.out) ?_
  rintro e w3 ⟨v3, rfl, rfl, hb⟩
  have Ha := Lib.hid (AR.keep Ha.out (Keep.call hb))
  have Hb := Lib.hid (AR.keep Hb.out (Keep.call hb))
  have Hc := Lib.hid (AR.keep Hc.out (Keep.call hb))
  have Xa0 := Lib.hid (Box.pcall hb Xa0.out)
  have Xb0 := Lib.hid (Box.pcall hb Xb0.out)
  have Xc0 := Lib.hid (Box.pcall hb Xc0.out)
  have HB := Lib.hid (below_call HB.out hb)
  clear hb
  obtain ⟨ca00, ca01, ca02, fa00, fa01, fa02⟩ := Xa0.out.c3
  have la0 := Xa0.out.lt
  obtain ⟨cb00, cb01, cb02, fb00, fb01, fb02⟩ := Xb0.out.c3
  have lb0 := Xb0.out.lt
  obtain ⟨cc00, cc01, cc02, fc00, fc01, fc02⟩ := Xc0.out.c3
  have lc0 := Xc0.out.lt
  go_wp2_with fail
  clear ca00 ca01 ca02 fa00 fa01 fa02 la0 cb00 cb01 cb02 fb00 fb01 fb02 lb0 cc00 cc01 cc02 fc00 fc01 fc02 lc0
  refine Calls.mono (few3_yes Hfb.out Hgb.out) ?_
  rintro e w4 ⟨v4, rfl, rfl, hb⟩
  have Ha := Lib.hid (AR.keep Ha.out (Keep.call hb))
  have Hb := Lib.hid (AR.keep Hb.out (Keep.call hb))
  have Hc := Lib.hid (AR.keep Hc.out (Keep.call hb))
  have Xa0 := Lib.hid (Box.pcall hb Xa0.out)
  have Xb0 := Lib.hid (Box.pcall hb Xb0.out)
  have Xc0 := Lib.hid (Box.pcall hb Xc0.out)
  have HB := Lib.hid (below_call HB.out hb)
  clear hb
  obtain ⟨ca00, ca01, ca02, fa00, fa01, fa02⟩ := Xa0.out.c3
  have la0 := Xa0.out.lt
  obtain ⟨cb00, cb01, cb02, fb00, fb01, fb02⟩ := Xb0.out.c3
  have lb0 := Xb0.out.lt
  obtain ⟨cc00, cc01, cc02, fc00, fc01, fc02⟩ := Xc0.out.c3
  have lc0 := Xc0.out.lt
  go_wp2_with fail
  clear ca00 ca01 ca02 fa00 fa01 fa02 la0 cb00 cb01 cb02 fb00 fb01 fb02 lb0 cc00 cc01 cc02 fc00 fc01 fc02 lc0
  refine Calls.mono (few3_yes Hfc.out Hgc.out) ?_
  rintro e w5 ⟨v5, rfl, rfl, hb⟩
  have Ha := Lib.hid (AR.keep Ha.out (Keep.call hb))
  have Hb := Lib.hid (AR.keep Hb.out (Keep.call hb))
  have Hc := Lib.hid (AR.keep Hc.out (Keep.call hb))
  have Xa0 := Lib.hid (Box.pcall hb Xa0.out)
  have Xb0 := Lib.hid (Box.pcall hb Xb0.out)
  have Xc0 := Lib.hid (Box.pcall hb Xc0.out)
  have HB := Lib.hid (below_call HB.out hb)
  clear hb
  obtain ⟨ca00, ca01, ca02, fa00, fa01, fa02⟩ := Xa0.out.c3
  have la0 := Xa0.out.lt
  obtain ⟨cb00, cb01, cb02, fb00, fb01, fb02⟩ := Xb0.out.c3
  have lb0 := Xb0.out.lt
  obtain ⟨cc00, cc01, cc02, fc00, fc01, fc02⟩ := Xc0.out.c3
  have lc0 := Xc0.out.lt
  go_wp2_with fail
  clear ca00 ca01 ca02 fa00 fa01 fa02 la0 cb00 cb01 cb02 fb00 fb01 fb02 lb0 cc00 cc01 cc02 fc00 fc01 fc02 lc0
  (first | (have hcall := rmul_ar Ha.out Hb.out (by decide) (by decide); refine Calls.mono hcall ?_; clear hcall) | refine Calls.mono (rmul_ar Ha.out Hb.out (by decide) (by decide)) ?_)
  rintro e w6 ⟨v6, rfl, hv1, hb⟩
  obtain ⟨v1_b, v1_a, v1_n, v1_c, v1_d, v1_m, v1_e, rfl⟩ := hv1.litb
  have Ha := Lib.hid (AR.keep Ha.out (Keep.call hb))
  have Hb := Lib.hid (AR.keep Hb.out (Keep.call hb))
  have Hc := Lib.hid (AR.keep Hc.out (Keep.call hb))
  have Xa0 := Lib.hid (Box.pcall hb Xa0.out)
  have Xb0 := Lib.hid (Box.pcall hb Xb0.out)
  have Xc0 := Lib.hid (Box.pcall hb Xc0.out)
  have HB := Lib.hid (below_call HB.out hb)
  have Hv1 := Lib.hid hv1
  clear hb hv1
  obtain ⟨ca00, ca01, ca02, fa00, fa01, fa02⟩ := Xa0.out.c3
  have la0 := Xa0.out.lt
  obtain ⟨cb00, cb01, cb02, fb00, fb01, fb02⟩ := Xb0.out.c3
  have lb0 := Xb0.out.lt
  obtain ⟨cc00, cc01, cc02, fc00, fc01, fc02⟩ := Xc0.out.c3
  have lc0 := Xc0.out.lt
  go_wp2_with fail
  clear ca00 ca01 ca02 fa00 fa01 fa02 la0 cb00 cb01 cb02 fb00 fb01 fb02 lb0 cc00 cc01 cc02 fc00 fc01 fc02 lc0
  obtain ⟨W7, hW⟩ : ∃ W7, W7 = (World.alloc w6 (.cells #[.bool v1_b, .slice v1_a v1_n v1_c, .slice v1_d v1_m v1_e] 25)) := ⟨_, rfl⟩
  rw [← hW]
  obtain ⟨xd0, hk, hb⟩ := boxes_1 _ _ _ hW
  clear hW
  have Ha := Lib.hid (AR.keep Ha.out hk)
  have Hb := Lib.hid (AR.keep Hb.out hk)
  have Hc := Lib.hid (AR.keep Hc.out hk)
  have Hv1 := Lib.hid (CR.keep Hv1.out hk)
  have Na0d0 := Lib.hid (show w.heap.size ≠ w6.heap.size from Nat.ne_of_lt (Nat.lt_of_lt_of_le Xa0.out.lt (by omega)))
  have Nb0d0 := Lib.hid (show w.heap.size + 1 ≠ w6.heap.size from Nat.ne_of_lt (Nat.lt_of_lt_of_le Xb0.out.lt (by omega)))
  have Nc0d0 := Lib.hid (show w.heap.size + 1 + 1 ≠ w6.heap.size from Nat.ne_of_lt (Nat.lt_of_lt_of_le Xc0.out.lt (by omega)))
  have Gd0 := Lib.hid (show w.heap.size ≤ w6.heap.size from Nat.le_trans HB.out.size (by omega))
  have Xa0 := Lib.hid (Box.pcall hb Xa0.out)
  have Xb0 := Lib.hid (Box.pcall hb Xb0.out)
  have Xc0 := Lib.hid (Box.pcall hb Xc0.out)
  have Xd0 := Lib.hid xd0
  have HB := Lib.hid (below_call HB.out hb)
  clear hk hb xd0
  have Ha := Lib.hid (AR.keep Ha.out (Keep.drew W7))
  have Hb := Lib.hid (AR.keep Hb.out (Keep.drew W7))
  have Hc := Lib.hid (AR.keep Hc.out (Keep.drew W7))
  have Hv1 := Lib.hid (CR.keep Hv1.out (Keep.drew W7))
  have Xa0 := Lib.hid (Box.drew Xa0.out)
  have Xb0 := Lib.hid (Box.drew Xb0.out)
  have Xc0 := Lib.hid (Box.drew Xc0.out)
  have Xd0 := Lib.hid (Box.drew Xd0.out)
  have HB := Lib.hid (Below.drew HB.out)
  refine wp_region_float [] [] (by kernel_rfl) (by kernel_rfl) 90 (by kernel_rfl) Flok.nil ?_
  intro ok
  have Hok := Lib.hid ok
  clear ok
  have HG := Lib.hid (Below.refl (W7.drew).heap.size (W7.drew))
  refine good_pureX 0 (some 28) (Go.Op.load 25 (Go.Operand.tmp 7)) (none) (.agg #[.bool v1_b, .slice v1_a v1_n v1_c, .slice v1_d v1_m v1_e]) (by kernel_rfl) (by kernel_rfl) (by kernel_rfl) (fun _ _ _ h => h) (fun w' hw' => ?_) ?_
  · obtain ⟨cd00, cd01, cd02, fd00, fd01, fd02⟩ := (Box.se hw' Xd0.out notin0).c3
    first | (go_simp; done) | (go_simp; simp_all; done) | (go_simp; rfl)
  simp only [Act.put, List.setIfInBounds_toArray, List.set_cons_zero, List.set_cons_succ]
  refine good_pureX 1 (some 29) (Go.Op.load 25 (Go.Operand.tmp 3)) (none) (.agg #[.bool ba, .slice sa na ca, .slice ta ma ea]) (by kernel_rfl) (by kernel_rfl) (by kernel_rfl) (fun _ _ _ h => h) (fun w' hw' => ?_) ?_
  · obtain ⟨ca00, ca01, ca02, fa00, fa01, fa02⟩ := (Box.se hw' Xa0.out notin0).c3
    first | (go_simp; done) | (go_simp; simp_all; done) | (go_simp; rfl)
  simp only [Act.put, List.setIfInBounds_toArray, List.set_cons_zero, List.set_cons_succ]
  refine good_pureX 2 (some 30) (Go.Op.load 25 (Go.Operand.tmp 4)) (none) (.agg #[.bool bb, .slice sb nb cb, .slice tb mb eb]) (by kernel_rfl) (by kernel_rfl) (by kernel_rfl) (fun _ _ _ h => h) (fun w' hw' => ?_) ?_
  · obtain ⟨cb00, cb01, cb02, fb00, fb01, fb02⟩ := (Box.se hw' Xb0.out notin0).c3
    first | (go_simp; done) | (go_simp; simp_all; done) | (go_simp; rfl)
  simp only [Act.put, List.setIfInBounds_toArray, List.set_cons_zero, List.set_cons_succ]
  refine good_callX 3 34 (some 31) #[Go.Operand.tmp 29, Go.Operand.tmp 30] #[25, 25] (none) #[.agg #[.bool ba, .slice sa na ca, .slice ta ma ea], .agg #[.bool bb, .slice sb nb cb, .slice tb mb eb]] (by kernel_rfl) Hok.out (by kernel_rfl) (by kernel_rfl) (by kernel_rfl) (by kernel_rfl) rfl rfl rfl (by kernel_rfl) (fun w8 hb => ?_)
  have HG := Lib.hid (below_call HG.out hb)
  clear hb
  (first | (have hcall := zmul_ar (AR.keep Ha.out (Keep.call HG.out)) (AR.keep Hb.out (Keep.call HG.out)) (by decide) (by decide); refine Calls.mono hcall ?_; clear hcall) | refine Calls.mono (zmul_ar (AR.keep Ha.out (Keep.call HG.out)) (AR.keep Hb.out (Keep.call HG.out)) (by decide) (by decide)) ?_)
  rintro e w9 ⟨v9, rfl, hv2, hb⟩
  obtain ⟨v2_b, v2_a, v2_n, v2_c, v2_d, v2_m, v2_e, rfl⟩ := hv2.litb
  refine ⟨_, rfl, ?_, hb⟩
  have HG := Lib.hid (below_call HG.out hb)
  have Hv2 := Lib.hid hv2
  clear hb hv2
  simp only [Act.put, List.setIfInBounds_toArray, List.set_cons_zero, List.set_cons_succ]
  refine good_callX 4 15 (some 32) #[Go.Operand.tmp 28, Go.Operand.tmp 31] #[25, 25] (none) #[.agg #[.bool v1_b, .slice v1_a v1_n v1_c, .slice v1_d v1_m v1_e], .agg #[.bool v2_b, .slice v2_a v2_n v2_c, .slice v2_d v2_m v2_e]] (by kernel_rfl) Hok.out (by kernel_rfl) (by kernel_rfl) (by kernel_rfl) (by kernel_rfl) rfl rfl rfl (by kernel_rfl) (fun w10 hb => ?_)
  have Hv2 := Lib.hid (CR.keep Hv2.out (Keep.call hb))
  have HG := Lib.hid (below_call HG.out hb)
  clear hb
  (first | (have hcall := zsame_cr (CR.keep Hv1.out (Keep.call HG.out)) Hv2.out (rfl); refine Calls.mono hcall ?_; clear hcall) | refine Calls.mono (zsame_cr (CR.keep Hv1.out (Keep.call HG.out)) Hv2.out (rfl)) ?_)
  rintro e w11 ⟨v11, rfl, rfl, hb⟩
  refine ⟨_, rfl, ?_, hb⟩
  have HG := Lib.hid (below_call HG.out hb)
  clear hb
  simp only [Act.put, List.setIfInBounds_toArray, List.set_cons_zero, List.set_cons_succ]
  refine good_pureX 5 (some 33) (Go.Op.unOp Go.UnOp.not 4 (Go.Operand.tmp 32)) (none) (.bool false) (by kernel_rfl) (by kernel_rfl) (by kernel_rfl) (fun _ _ _ h => h) (fun w' hw' => ?_) ?_
  · first | (go_simp; done) | (go_simp; simp_all; done) | (go_simp; rfl)
  simp only [Act.put, List.setIfInBounds_toArray, List.set_cons_zero, List.set_cons_succ]
  refine good_pureX 6 (some 34) (Go.Op.move (Go.Operand.tmp 33)) (none) (.bool false) (by kernel_rfl) (by kernel_rfl) (by kernel_rfl) (fun _ _ _ h => h) (fun w' hw' => ?_) ?_
  · first | (go_simp; done) | (go_simp; simp_all; done) | (go_simp; rfl)
  simp only [Act.put, List.setIfInBounds_toArray, List.set_cons_zero, List.set_cons_succ]
  refine good_pureX 7 (some 35) (Go.Op.load 25 (Go.Operand.tmp 7)) (some (6, false)) (.agg #[.bool v1_b, .slice v1_a v1_n v1_c, .slice v1_d v1_m v1_e]) (by kernel_rfl) (by kernel_rfl) (by kernel_rfl) (fun _ _ _ h => h) (fun w' hw' => ?_) ?_
  · obtain ⟨cd00, cd01, cd02, fd00, fd01, fd02⟩ := (Box.se hw' Xd0.out notin0).c3
    first | (go_simp; done) | (go_simp; simp_all; done) | (go_simp; rfl)
  simp only [Act.put, List.setIfInBounds_toArray, List.set_cons_zero, List.set_cons_succ]
  refine good_pureX 8 (some 36) (Go.Op.load 25 (Go.Operand.tmp 4)) (some (6, false)) (.agg #[.bool bb, .slice sb nb cb, .slice tb mb eb]) (by kernel_rfl) (by kernel_rfl) (by kernel_rfl) (fun _ _ _ h => h) (fun w' hw' => ?_) ?_
  · obtain ⟨cb00, cb01, cb02, fb00, fb01, fb02⟩ := (Box.se hw' Xb0.out notin0).c3
    first | (go_simp; done) | (go_simp; simp_all; done) | (go_simp; rfl)
  simp only [Act.put, List.setIfInBounds_toArray, List.set_cons_zero, List.set_cons_succ]
  refine good_pureX 9 (some 37) (Go.Op.load 25 (Go.Operand.tmp 3)) (some (6, false)) (.agg #[.bool ba, .slice sa na ca, .slice ta ma ea]) (by kernel_rfl) (by kernel_rfl) (by kernel_rfl) (fun _ _ _ h => h) (fun w' hw' => ?_) ?_
  · obtain ⟨ca00, ca01, ca02, fa00, fa01, fa02⟩ := (Box.se hw' Xa0.out notin0).c3
    first | (go_simp; done) | (go_simp; simp_all; done) | (go_simp; rfl)
  simp only [Act.put, List.setIfInBounds_toArray, List.set_cons_zero, List.set_cons_succ]
  refine good_callX 10 33 (some 38) #[Go.Operand.tmp 36, Go.Operand.tmp 37] #[25, 25] (some (6, false)) #[.agg #[.bool bb, .slice sb nb cb, .slice tb mb eb], .agg #[.bool ba, .slice sa na ca, .slice ta ma ea]] (by kernel_rfl) Hok.out (by kernel_rfl) (by kernel_rfl) (by kernel_rfl) (by kernel_rfl) rfl rfl rfl (by kernel_rfl) (fun w12 hb => ?_)
  have HG := Lib.hid (below_call HG.out hb)
  clear hb
  (first | (have hcall := rmul_ar (AR.keep Hb.out (Keep.call HG.out)) (AR.keep Ha.out (Keep.call HG.out)) (by decide) (by decide); refine Calls.mono hcall ?_; clear hcall) | refine Calls.mono (rmul_ar (AR.keep Hb.out (Keep.call HG.out)) (AR.keep Ha.out (Keep.call HG.out)) (by decide) (by decide)) ?_)
  rintro e w13 ⟨v13, rfl, hv3, hb⟩
  obtain ⟨v3_b, v3_a, v3_n, v3_c, v3_d, v3_m, v3_e, rfl⟩ := hv3.litb
  refine ⟨_, rfl, ?_, hb⟩
  have HG := Lib.hid (below_call HG.out hb)
  have Hv3 := Lib.hid hv3
  clear hb hv3
  simp only [Act.put, List.setIfInBounds_toArray, List.set_cons_zero, List.set_cons_succ]
  refine good_callX 11 15 (some 39) #[Go.Operand.tmp 35, Go.Operand.tmp 38] #[25, 25] (some (6, false)) #[.agg #[.bool v1_b, .slice v1_a v1_n v1_c, .slice v1_d v1_m v1_e], .agg #[.bool v3_b, .slice v3_a v3_n v3_c, .slice v3_d v3_m v3_e]] (by kernel_rfl) Hok.out (by kernel_rfl) (by kernel_rfl) (by kernel_rfl) (by kernel_rfl) rfl rfl rfl (by kernel_rfl) (fun w14 hb => ?_)
  have Hv3 := Lib.hid (CR.keep Hv3.out (Keep.call hb))
  have HG := Lib.hid (below_call HG.out hb)
  clear hb
  refine Calls.mono (zsame_cr (CR.keep Hv1.out (Keep.call HG.out)) Hv3.out (Rat.mul_comm _ _)) ?_
  rintro e w15 ⟨v15, rfl, rfl, hb⟩
  refine ⟨_, rfl, ?_, hb⟩
  have HG := Lib.hid (below_call HG.out hb)
  clear hb
  simp only [Act.put, List.setIfInBounds_toArray, List.set_cons_zero, List.set_cons_succ]
  refine good_pureX 12 (some 40) (Go.Op.unOp Go.UnOp.not 4 (Go.Operand.tmp 39)) (some (6, false)) (.bool false) (by kernel_rfl) (by kernel_rfl) (by kernel_rfl) (fun _ _ _ h => h) (fun w' hw' => ?_) ?_
  · first | (go_simp; done) | (go_simp; simp_all; done) | (go_simp; rfl)
  simp only [Act.put, List.setIfInBounds_toArray, List.set_cons_zero, List.set_cons_succ]
  refine good_pureX 13 (some 41) (Go.Op.pick (Go.Operand.tmp 34) (Go.Operand.const (Go.Value.bool true)) (Go.Operand.tmp 40)) (none) (.bool false) (by kernel_rfl) (by kernel_rfl) (by kernel_rfl) (fun _ _ _ h => h) (fun w' hw' => ?_) ?_
  · first | (go_simp; done) | (go_simp; simp_all; done) | (go_simp; rfl)
  simp only [Act.put, List.setIfInBounds_toArray, List.set_cons_zero, List.set_cons_succ]
  refine good_pureX 14 (some 42) (Go.Op.move (Go.Operand.tmp 41)) (none) (.bool false) (by kernel_rfl) (by kernel_rfl) (by kernel_rfl) (fun _ _ _ h => h) (fun w' hw' => ?_) ?_
  · first | (go_simp; done) | (go_simp; simp_all; done) | (go_simp; rfl)
  simp only [Act.put, List.setIfInBounds_toArray, List.set_cons_zero, List.set_cons_succ]
  refine good_pureX 15 (some 43) (Go.Op.load 25 (Go.Operand.tmp 7)) (some (14, false)) (.agg #[.bool v1_b, .slice v1_a v1_n v1_c, .slice v1_d v1_m v1_e]) (by kernel_rfl) (by kernel_rfl) (by kernel_rfl) (fun _ _ _ h => h) (fun w' hw' => ?_) ?_
  · obtain ⟨cd00, cd01, cd02, fd00, fd01, fd02⟩ := (Box.se hw' Xd0.out notin0).c3
    first | (go_simp; done) | (go_simp; simp_all; done) | (go_simp; rfl)
  simp only [Act.put, List.setIfInBounds_toArray, List.set_cons_zero, List.set_cons_succ]
  refine good_pureX 16 (some 44) (Go.Op.load 25 (Go.Operand.tmp 5)) (some (14, false)) (.agg #[.bool bc, .slice sc nc cc, .slice tc mc ec]) (by kernel_rfl) (by kernel_rfl) (by kernel_rfl) (fun _ _ _ h => h) (fun w' hw' => ?_) ?_
  · obtain ⟨cc00, cc01, cc02, fc00, fc01, fc02⟩ := (Box.se hw' Xc0.out notin0).c3
    first | (go_simp; done) | (go_simp; simp_all; done) | (go_simp; rfl)
  simp only [Act.put, List.setIfInBounds_toArray, List.set_cons_zero, List.set_cons_succ]
  refine good_pureX 18 (some 46) (Go.Op.load 25 (Go.Operand.tmp 3)) (some (14, false)) (.agg #[.bool ba, .slice sa na ca, .slice ta ma ea]) (by kernel_rfl) (by kernel_rfl) (by kernel_rfl) (fun _ _ _ h => h) (fun w' hw' => ?_) ?_
  · obtain ⟨ca00, ca01, ca02, fa00, fa01, fa02⟩ := (Box.se hw' Xa0.out notin0).c3
    first | (go_simp; done) | (go_simp; simp_all; done) | (go_simp; rfl)
  simp only [Act.put, List.setIfInBounds_toArray, List.set_cons_zero, List.set_cons_succ]
  refine good_pureX 19 (some 47) (Go.Op.load 25 (Go.Operand.tmp 4)) (some (14, false)) (.agg #[.bool bb, .slice sb nb cb, .slice tb mb eb]) (by kernel_rfl) (by kernel_rfl) (by kernel_rfl) (fun _ _ _ h => h) (fun w' hw' => ?_) ?_
  · obtain ⟨cb00, cb01, cb02, fb00, fb01, fb02⟩ := (Box.se hw' Xb0.out notin0).c3
    first | (go_simp; done) | (go_simp; simp_all; done) | (go_simp; rfl)
  simp only [Act.put, List.setIfInBounds_toArray, List.set_cons_zero, List.set_cons_succ]
  refine good_pureX 20 (some 48) (Go.Op.load 25 (Go.Operand.tmp 5)) (some (14, false)) (.agg #[.bool bc, .slice sc nc cc, .slice tc mc ec]) (by kernel_rfl) (by kernel_rfl) (by kernel_rfl) (fun _ _ _ h => h) (fun w' hw' => ?_) ?_
  · obtain ⟨cc00, cc01, cc02, fc00, fc01, fc02⟩ := (Box.se hw' Xc0.out notin0).c3
    first | (go_simp; done) | (go_simp; simp_all; done) | (go_simp; rfl)
  simp only [Act.put, List.setIfInBounds_toArray, List.set_cons_zero, List.set_cons_succ]
  refine good_callX 17 33 (some 45) #[Go.Operand.tmp 43, Go.Operand.tmp 44] #[25, 25] (some (14, false)) #[.agg #[.bool v1_b, .slice v1_a v1_n v1_c, .slice v1_d v1_m v1_e], .agg #[.bool bc, .slice sc nc cc, .slice tc mc ec]] (by kernel_rfl) Hok.out (by kernel_rfl) (by kernel_rfl) (by kernel_rfl) (by kernel_rfl) rfl rfl rfl (by kernel_rfl) (fun w16 hb => ?_)
  have HG := Lib.hid (below_call HG.out hb)
  clear hb
  (first | (have hcall := rmul_ar (CR.keep Hv1.out (Keep.call HG.out)).ar (AR.keep Hc.out (Keep.call HG.out)) (by decide) (by decide); refine Calls.mono hcall ?_; clear hcall) | refine Calls.mono (rmul_ar (CR.keep Hv1.out (Keep.call HG.out)).ar (AR.keep Hc.out (Keep.call HG.out)) (by decide) (by decide)) ?_)
  rintro e w17 ⟨v17, rfl, hu1, hb⟩
  obtain ⟨u1_b, u1_a, u1_n, u1_c, u1_d, u1_m, u1_e, rfl⟩ := hu1.litb
  refine ⟨_, rfl, ?_, hb⟩
  have HG := Lib.hid (below_call HG.out hb)
  have Hu1 := Lib.hid hu1
  clear hb hu1
  simp only [Act.put, List.setIfInBounds_toArray, List.set_cons_zero, List.set_cons_succ]
  refine good_callX 21 33 (some 49) #[Go.Operand.tmp 47, Go.Operand.tmp 48] #[25, 25] (some (14, false)) #[.agg #[.bool bb, .slice sb nb cb, .slice tb mb eb], .agg #[.bool bc, .slice sc nc cc, .slice tc mc ec]] (by kernel_rfl) Hok.out (by kernel_rfl) (by kernel_rfl) (by kernel_rfl) (by kernel_rfl) rfl rfl rfl (by kernel_rfl) (fun w18 hb => ?_)
  have Hu1 := Lib.hid (CR.keep Hu1.out (Keep.call hb))
  have HG := Lib.hid (below_call HG.out hb)
  clear hb
  (first | (have hcall := rmul_ar (AR.keep Hb.out (Keep.call HG.out)) (AR.keep Hc.out (Keep.call HG.out)) (by decide) (by decide); refine Calls.mono hcall ?_; clear hcall) | refine Calls.mono (rmul_ar (AR.keep Hb.out (Keep.call HG.out)) (AR.keep Hc.out (Keep.call HG.out)) (by decide) (by decide)) ?_)
  rintro e w19 ⟨v19, rfl, hu2, hb⟩
  obtain ⟨u2_b, u2_a, u2_n, u2_c, u2_d, u2_m, u2_e, rfl⟩ := hu2.litb
  refine ⟨_, rfl, ?_, hb⟩
  have Hu1 := Lib.hid (CR.keep Hu1.out (Keep.call hb))
  have HG := Lib.hid (below_call HG.out hb)
  have Hu2 := Lib.hid hu2
  clear hb hu2
  simp only [Act.put, List.setIfInBounds_toArray, List.set_cons_zero, List.set_cons_succ]
  refine good_callX 22 33 (some 50) #[Go.Operand.tmp 46, Go.Operand.tmp 49] #[25, 25] (some (14, false)) #[.agg #[.bool ba, .slice sa na ca, .slice ta ma ea], .agg #[.bool u2_b, .slice u2_a u2_n u2_c, .slice u2_d u2_m u2_e]] (by kernel_rfl) Hok.out (by kernel_rfl) (by kernel_rfl) (by kernel_rfl) (by kernel_rfl) rfl rfl rfl (by kernel_rfl) (fun w20 hb => ?_)
  have Hu1 := Lib.hid (CR.keep Hu1.out (Keep.call hb))
  have Hu2 := Lib.hid (CR.keep Hu2.out (Keep.call hb))
  have HG := Lib.hid (below_call HG.out hb)
  clear hb
  (first | (have hcall := rmul_ar (AR.keep Ha.out (Keep.call HG.out)) Hu2.out.ar (by decide) (by decide); refine Calls.mono hcall ?_; clear hcall) | refine Calls.mono (rmul_ar (AR.keep Ha.out (Keep.call HG.out)) Hu2.out.ar (by decide) (by decide)) ?_)
  rintro e w21 ⟨v21, rfl, hu3, hb⟩
  obtain ⟨u3_b, u3_a, u3_n, u3_c, u3_d, u3_m, u3_e, rfl⟩ := hu3.litb
  refine ⟨_, rfl, ?_, hb⟩
  have Hu1 := Lib.hid (CR.keep Hu1.out (Keep.call hb))
  have HG := Lib.hid (below_call HG.out hb)
  have Hu3 := Lib.hid hu3
  clear hb hu3
  simp only [Act.put, List.setIfInBounds_toArray, List.set_cons_zero, List.set_cons_succ]
  refine good_callX 23 15 (some 51) #[Go.Operand.tmp 45, Go.Operand.tmp 50] #[25, 25] (some (14, false)) #[.agg #[.bool u1_b, .slice u1_a u1_n u1_c, .slice u1_d u1_m u1_e], .agg #[.bool u3_b, .slice u3_a u3_n u3_c, .slice u3_d u3_m u3_e]] (by kernel_rfl) Hok.out (by kernel_rfl) (by kernel_rfl) (by kernel_rfl) (by kernel_rfl) rfl rfl rfl (by kernel_rfl) (fun w22 hb => ?_)
  have Hu1 := Lib.hid (CR.keep Hu1.out (Keep.call hb))
  have Hu3 := Lib.hid (CR.keep Hu3.out (Keep.call hb))
  have HG := Lib.hid (below_call HG.out hb)
  clear hb
  refine Calls.mono (zsame_cr Hu1.out Hu3.out (Rat.mul_assoc _ _ _)) ?_
  rintro e w23 ⟨v23, rfl, rfl, hb⟩
  refine ⟨_, rfl, ?_, hb⟩
  have HG := Lib.hid (below_call HG.out hb)
  clear hb
  simp only [Act.put, List.setIfInBounds_toArray, List.set_cons_zero, List.set_cons_succ]
  refine good_pureX 24 (some 52) (Go.Op.unOp Go.UnOp.not 4 (Go.Operand.tmp 51)) (some (14, false)) (.bool false) (by kernel_rfl) (by kernel_rfl) (by kernel_rfl) (fun _ _ _ h => h) (fun w' hw' => ?_) ?_
  · first | (go_simp; done) | (go_simp; simp_all; done) | (go_simp; rfl)
  simp only [Act.put, List.setIfInBounds_toArray, List.set_cons_zero, List.set_cons_succ]
  refine good_pureX 25 (some 53) (Go.Op.pick (Go.Operand.tmp 42) (Go.Operand.const (Go.Value.bool true)) (Go.Operand.tmp 52)) (none) (.bool false) (by kernel_rfl) (by kernel_rfl) (by kernel_rfl) (fun _ _ _ h => h) (fun w' hw' => ?_) ?_
  · first | (go_simp; done) | (go_simp; simp_all; done) | (go_simp; rfl)
  simp only [Act.put, List.setIfInBounds_toArray, List.set_cons_zero, List.set_cons_succ]
  refine good_end0 0 (by kernel_rfl) (fun _ w24 hb => ?_)
  have HG := Lib.hid (below_call HG.out hb)
  clear hb
  have Ha := Lib.hid (AR.keep Ha.out (Keep.call HG.out))
  have Hb := Lib.hid (AR.keep Hb.out (Keep.call HG.out))
  have Hc := Lib.hid (AR.keep Hc.out (Keep.call HG.out))
  have Hv1 := Lib.hid (CR.keep Hv1.out (Keep.call HG.out))
  have Xa0 := Lib.hid (Box.pcall HG.out Xa0.out)
  have Xb0 := Lib.hid (Box.pcall HG.out Xb0.out)
  have Xc0 := Lib.hid (Box.pcall HG.out Xc0.out)
  have Xd0 := Lib.hid (Box.pcall HG.out Xd0.out)
  have HB := Lib.hid (below_call HB.out HG.out)
  have HS := Lib.hid (SE.of (E := []) HG.out)
  refine wpAnyH_done (by kernel_rfl) ?_ _
  clear HG HS Hok 
  obtain ⟨ca00, ca01, ca02, fa00, fa01, fa02⟩ := Xa0.out.c3
  have la0 := Xa0.out.lt
  obtain ⟨cb00, cb01, cb02, fb00, fb01, fb02⟩ := Xb0.out.c3
  have lb0 := Xb0.out.lt
  obtain ⟨cc00, cc01, cc02, fc00, fc01, fc02⟩ := Xc0.out.c3
  have lc0 := Xc0.out.lt
  obtain ⟨cd00, cd01, cd02, fd00, fd01, fd02⟩ := Xd0.out.c3
  have ld0 := Xd0.out.lt
  go_wp2_with fail
  clear ca00 ca01 ca02 fa00 fa01 fa02 la0 cb00 cb01 cb02 fb00 fb01 fb02 lb0 cc00 cc01 cc02 fc00 fc01 fc02 lc0 cd00 cd01 cd02 fd00 fd01 fd02 ld0
  have Ha := Lib.hid (AR.keep Ha.out (Keep.drew w24))
  have Hb := Lib.hid (AR.keep Hb.out (Keep.drew w24))
  have Hc := Lib.hid (AR.keep Hc.out (Keep.drew w24))
  have Hv1 := Lib.hid (CR.keep Hv1.out (Keep.drew w24))
  have Xa0 := Lib.hid (Box.drew Xa0.out)
  have Xb0 := Lib.hid (Box.drew Xb0.out)
  have Xc0 := Lib.hid (Box.drew Xc0.out)
  have Xd0 := Lib.hid (Box.drew Xd0.out)
  have HB := Lib.hid (Below.drew HB.out)
  refine wp_region_float [] [] (by kernel_rfl) (by kernel_rfl) 90 (by kernel_rfl) Flok.nil ?_
  intro ok
  have Hok := Lib.hid ok
  clear ok
  have HG := Lib.hid (Below.refl (w24.drew).heap.size (w24.drew))
  refine good_pureX 0 (some 54) (Go.Op.load 25 (Go.Operand.tmp 3)) (none) (.agg #[.bool ba, .slice sa na ca, .slice ta ma ea]) (by kernel_rfl) (by kernel_rfl) (by kernel_rfl) (fun _ _ _ h => h) (fun w' hw' => ?_) ?_
  · obtain ⟨ca00, ca01, ca02, fa00, fa01, fa02⟩ := (Box.se hw' Xa0.out notin0).c3
    first | (go_simp; done) | (go_simp; simp_all; done) | (go_simp; rfl)
  simp only [Act.put, List.setIfInBounds_toArray, List.set_cons_zero, List.set_cons_succ]
  refine good_pureX 1 (some 55) (Go.Op.load 25 (Go.Operand.tmp 4)) (none) (.agg #[.bool bb, .slice sb nb cb, .slice tb mb eb]) (by kernel_rfl) (by kernel_rfl) (by kernel_rfl) (fun _ _ _ h => h) (fun w' hw' => ?_) ?_
  · obtain ⟨cb00, cb01, cb02, fb00, fb01, fb02⟩ := (Box.se hw' Xb0.out notin0).c3
    first | (go_simp; done) | (go_simp; simp_all; done) | (go_simp; rfl)
  simp only [Act.put, List.setIfInBounds_toArray, List.set_cons_zero, List.set_cons_succ]
  refine good_pureX 2 (some 56) (Go.Op.load 25 (Go.Operand.tmp 5)) (none) (.agg #[.bool bc, .slice sc nc cc, .slice tc mc ec]) (by kernel_rfl) (by kernel_rfl) (by kernel_rfl) (fun _ _ _ h => h) (fun w' hw' => ?_) ?_
  · obtain ⟨cc00, cc01, cc02, fc00, fc01, fc02⟩ := (Box.se hw' Xc0.out notin0).c3
    first | (go_simp; done) | (go_simp; simp_all; done) | (go_simp; rfl)
  simp only [Act.put, List.setIfInBounds_toArray, List.set_cons_zero, List.set_cons_succ]
  refine good_pureX 5 (some 59) (Go.Op.load 25 (Go.Operand.tmp 7)) (none) (.agg #[.bool v1_b, .slice v1_a v1_n v1_c, .slice v1_d v1_m v1_e]) (by kernel_rfl) (by kernel_rfl) (by kernel_rfl) (fun _ _ _ h => h) (fun w' hw' => ?_) ?_
  · obtain ⟨cd00, cd01, cd02, fd00, fd01, fd02⟩ := (Box.se hw' Xd0.out notin0).c3
    first | (go_simp; done) | (go_simp; simp_all; done) | (go_simp; rfl)
  simp only [Act.put, List.setIfInBounds_toArray, List.set_cons_zero, List.set_cons_succ]
  refine good_pureX 6 (some 60) (Go.Op.load 25 (Go.Operand.tmp 3)) (none) (.agg #[.bool ba, .slice sa na ca, .slice ta ma ea]) (by kernel_rfl) (by kernel_rfl) (by kernel_rfl) (fun _ _ _ h => h) (fun w' hw' => ?_) ?_
  · obtain ⟨ca00, ca01, ca02, fa00, fa01, fa02⟩ := (Box.se hw' Xa0.out notin0).c3
    first | (go_simp; done) | (go_simp; simp_all; done) | (go_simp; rfl)
  simp only [Act.put, List.setIfInBounds_toArray, List.set_cons_zero, List.set_cons_succ]
  refine good_pureX 7 (some 61) (Go.Op.load 25 (Go.Operand.tmp 5)) (none) (.agg #[.bool bc, .slice sc nc cc, .slice tc mc ec]) (by kernel_rfl) (by kernel_rfl) (by kernel_rfl) (fun _ _ _ h => h) (fun w' hw' => ?_) ?_
  · obtain ⟨cc00, cc01, cc02, fc00, fc01, fc02⟩ := (Box.se hw' Xc0.out notin0).c3
    first | (go_simp; done) | (go_simp; simp_all; done) | (go_simp; rfl)
  simp only [Act.put, List.setIfInBounds_toArray, List.set_cons_zero, List.set_cons_succ]
  refine good_callX 3 14 (some 57) #[Go.Operand.tmp 55, Go.Operand.tmp 56] #[25, 25] (none) #[.agg #[.bool bb, .slice sb nb cb, .slice tb mb eb], .agg #[.bool bc, .slice sc nc cc, .slice tc mc ec]] (by kernel_rfl) Hok.out (by kernel_rfl) (by kernel_rfl) (by kernel_rfl) (by kernel_rfl) rfl rfl rfl (by kernel_rfl) (fun w25 hb => ?_)
  have HG := Lib.hid (below_call HG.out hb)
  clear hb
  (first | (have hcall := radd_ar (AR.keep Hb.out (Keep.call HG.out)) (AR.keep Hc.out (Keep.call HG.out)) (by decide) (by decide); refine Calls.mono hcall ?_; clear hcall) | refine Calls.mono (radd_ar (AR.keep Hb.out (Keep.call HG.out)) (AR.keep Hc.out (Keep.call HG.out)) (by decide) (by decide)) ?_)
  rintro e w26 ⟨v26, rfl, hx1, hb⟩
  obtain ⟨x1_b, x1_a, x1_n, x1_c, x1_d, x1_m, x1_e, rfl⟩ := hx1.litb
  refine ⟨_, rfl, ?_, hb⟩
  have HG := Lib.hid (below_call HG.out hb)
  have Hx1 := Lib.hid hx1
  clear hb hx1
  simp only [Act.put, List.setIfInBounds_toArray, List.set_cons_zero, List.set_cons_succ]
  refine good_callX 4 33 (some 58) #[Go.Operand.tmp 54, Go.Operand.tmp 57] #[25, 25] (none) #[.agg #[.bool ba, .slice sa na ca, .slice ta ma ea], .agg #[.bool x1_b, .slice x1_a x1_n x1_c, .slice x1_d x1_m x1_e]] (by kernel_rfl) Hok.out (by kernel_rfl) (by kernel_rfl) (by kernel_rfl) (by kernel_rfl) rfl rfl rfl (by kernel_rfl) (fun w27 hb => ?_)
  have Hx1 := Lib.hid (CR.keep Hx1.out (Keep.call hb))
  have HG := Lib.hid (below_call HG.out hb)
  clear hb
  (first | (have hcall := rmul_ar (AR.keep Ha.out (Keep.call HG.out)) Hx1.out.ar (by decide) (by decide); refine Calls.mono hcall ?_; clear hcall) | refine Calls.mono (rmul_ar (AR.keep Ha.out (Keep.call HG.out)) Hx1.out.ar (by decide) (by decide)) ?_)
  rintro e w28 ⟨v28, rfl, hx2, hb⟩
  obtain ⟨x2_b, x2_a, x2_n, x2_c, x2_d, x2_m, x2_e, rfl⟩ := hx2.litb
  refine ⟨_, rfl, ?_, hb⟩
  have HG := Lib.hid (below_call HG.out hb)
  have Hx2 := Lib.hid hx2
  clear hb hx2
  simp only [Act.put, List.setIfInBounds_toArray, List.set_cons_zero, List.set_cons_succ]
  refine good_callX 8 33 (some 62) #[Go.Operand.tmp 60, Go.Operand.tmp 61] #[25, 25] (none) #[.agg #[.bool ba, .slice sa na ca, .slice ta ma ea], .agg #[.bool bc, .slice sc nc cc, .slice tc mc ec]] (by kernel_rfl) Hok.out (by kernel_rfl) (by kernel_rfl) (by kernel_rfl) (by kernel_rfl) rfl rfl rfl (by kernel_rfl) (fun w29 hb => ?_)
  have Hx2 := Lib.hid (CR.keep Hx2.out (Keep.call hb))
  have HG := Lib.hid (below_call HG.out hb)
  clear hb
  (first | (have hcall := rmul_ar (AR.keep Ha.out (Keep.call HG.out)) (AR.keep Hc.out (Keep.call HG.out)) (by decide) (by decide); refine Calls.mono hcall ?_; clear hcall) | refine Calls.mono (rmul_ar (AR.keep Ha.out (Keep.call HG.out)) (AR.keep Hc.out (Keep.call HG.out)) (by decide) (by decide)) ?_)
  rintro e w30 ⟨v30, rfl, hx3, hb⟩
  obtain ⟨x3_b, x3_a, x3_n, x3_c, x3_d, x3_m, x3_e, rfl⟩ := hx3.litb
  refine ⟨_, rfl, ?_, hb⟩
  have Hx2 := Lib.hid (CR.keep Hx2.out (Keep.call hb))
  have HG := Lib.hid (below_call HG.out hb)
  have Hx3 := Lib.hid hx3
  clear hb hx3
  simp only [Act.put, List.setIfInBounds_toArray, List.set_cons_zero, List.set_cons_succ]
  refine good_callX 9 14 (some 63) #[Go.Operand.tmp 59, Go.Operand.tmp 62] #[25, 25] (none) #[.agg #[.bool v1_b, .slice v1_a v1_n v1_c, .slice v1_d v1_m v1_e], .agg #[.bool x3_b, .slice x3_a x3_n x3_c, .slice x3_d x3_m x3_e]] (by kernel_rfl) Hok.out (by kernel_rfl) (by kernel_rfl) (by kernel_rfl) (by kernel_rfl) rfl rfl rfl (by kernel_rfl) (fun w31 hb => ?_)
  have Hx2 := Lib.hid (CR.keep Hx2.out (Keep.call hb))
  have Hx3 := Lib.hid (CR.keep Hx3.out (Keep.call hb))
  have HG := Lib.hid (below_call HG.out hb)
  clear hb
  (first | (have hcall := radd_ar (CR.keep Hv1.out (Keep.call HG.out)).ar Hx3.out.ar (by decide) (by decide); refine Calls.mono hcall ?_; clear hcall) | refine Calls.mono (radd_ar (CR.keep Hv1.out (Keep.call HG.out)).ar Hx3.out.ar (by decide) (by decide)) ?_)
  rintro e w32 ⟨v32, rfl, hx4, hb⟩
  obtain ⟨x4_b, x4_a, x4_n, x4_c, x4_d, x4_m, x4_e, rfl⟩ := hx4.litb
  refine ⟨_, rfl, ?_, hb⟩
  have Hx2 := Lib.hid (CR.keep Hx2.out (Keep.call hb))
  have HG := Lib.hid (below_call HG.out hb)
  have Hx4 := Lib.hid hx4
  clear hb hx4
  simp only [Act.put, List.setIfInBounds_toArray, List.set_cons_zero, List.set_cons_succ]
  refine good_callX 10 15 (some 64) #[Go.Operand.tmp 58, Go.Operand.tmp 63] #[25, 25] (none) #[.agg #[.bool x2_b, .slice x2_a x2_n x2_c, .slice x2_d x2_m x2_e], .agg #[.bool x4_b, .slice x4_a x4_n x4_c, .slice x4_d x4_m x4_e]] (by kernel_rfl) Hok.out (by kernel_rfl) (by kernel_rfl) (by kernel_rfl) (by kernel_rfl) rfl rfl rfl (by kernel_rfl) (fun w33 hb => ?_)
  have Hx2 := Lib.hid (CR.keep Hx2.out (Keep.call hb))
  have Hx4 := Lib.hid (CR.keep Hx4.out (Keep.call hb))
  have HG := Lib.hid (below_call HG.out hb)
  clear hb
  refine Calls.mono (zsame_cr Hx2.out Hx4.out (q_dist _ _ _)) ?_
  rintro e w34 ⟨v34, rfl, rfl, hb⟩
  refine ⟨_, rfl, ?_, hb⟩
  have HG := Lib.hid (below_call HG.out hb)
  clear hb
  simp only [Act.put, List.setIfInBounds_toArray, List.set_cons_zero, List.set_cons_succ]
  refine good_pureX 11 (some 65) (Go.Op.unOp Go.UnOp.not 4 (Go.Operand.tmp 64)) (none) (.bool false) (by kernel_rfl) (by kernel_rfl) (by kernel_rfl) (fun _ _ _ h => h) (fun w' hw' => ?_) ?_
  · first | (go_simp; done) | (go_simp; simp_all; done) | (go_simp; rfl)
  simp only [Act.put, List.setIfInBounds_toArray, List.set_cons_zero, List.set_cons_succ]
  refine good_end0 0 (by kernel_rfl) (fun _ w35 hb => ?_)
  have HG := Lib.hid (below_call HG.out hb)
  clear hb
  have Ha := Lib.hid (AR.keep Ha.out (Keep.call HG.out))
  have Hb := Lib.hid (AR.keep Hb.out (Keep.call HG.out))
  have Hv1 := Lib.hid (CR.keep Hv1.out (Keep.call HG.out))
  have Xa0 := Lib.hid (Box.pcall HG.out Xa0.out)
  have Xb0 := Lib.hid (Box.pcall HG.out Xb0.out)
  have Xc0 := Lib.hid (Box.pcall HG.out Xc0.out)
  have Xd0 := Lib.hid (Box.pcall HG.out Xd0.out)
  have HB := Lib.hid (below_call HB.out HG.out)
  have HS := Lib.hid (SE.of (E := []) HG.out)
  refine wpAnyH_done (by kernel_rfl) ?_ _
  clear HG HS Hok 
  obtain ⟨ca00, ca01, ca02, fa00, fa01, fa02⟩ := Xa0.out.c3
  have la0 := Xa0.out.lt
  obtain ⟨cb00, cb01, cb02, fb00, fb01, fb02⟩ := Xb0.out.c3
  have lb0 := Xb0.out.lt
  obtain ⟨cc00, cc01, cc02, fc00, fc01, fc02⟩ := Xc0.out.c3
  have lc0 := Xc0.out.lt
  obtain ⟨cd00, cd01, cd02, fd00, fd01, fd02⟩ := Xd0.out.c3
  have ld0 := Xd0.out.lt
  go_wp2_with fail
  clear ca00 ca01 ca02 fa00 fa01 fa02 la0 cb00 cb01 cb02 fb00 fb01 fb02 lb0 cc00 cc01 cc02 fc00 fc01 fc02 lc0 cd00 cd01 cd02 fd00 fd01 fd02 ld0
  (first | (have hcall := rdiv_ar Hz.out Hv1.out.ar Hb.out (by decide) (by decide); refine Calls.mono hcall ?_; clear hcall) | refine Calls.mono (rdiv_ar Hz.out Hv1.out.ar Hb.out (by decide) (by decide)) ?_)
  rintro e w36 ⟨t36, rfl, ⟨v36, rfl, hy1⟩, hb⟩
  obtain ⟨y1_b, y1_a, y1_n, y1_c, y1_d, y1_m, y1_e, rfl⟩ := hy1.litb
  have Ha := Lib.hid (AR.keep Ha.out (Keep.call hb))
  have Hb := Lib.hid (AR.keep Hb.out (Keep.call hb))
  have Xa0 := Lib.hid (Box.pcall hb Xa0.out)
  have Xb0 := Lib.hid (Box.pcall hb Xb0.out)
  have Xc0 := Lib.hid (Box.pcall hb Xc0.out)
  have Xd0 := Lib.hid (Box.pcall hb Xd0.out)
  have HB := Lib.hid (below_call HB.out hb)
  have Hy1 := Lib.hid hy1
  clear hb hy1
  obtain ⟨ca00, ca01, ca02, fa00, fa01, fa02⟩ := Xa0.out.c3
  have la0 := Xa0.out.lt
  obtain ⟨cb00, cb01, cb02, fb00, fb01, fb02⟩ := Xb0.out.c3
  have lb0 := Xb0.out.lt
  obtain ⟨cc00, cc01, cc02, fc00, fc01, fc02⟩ := Xc0.out.c3
  have lc0 := Xc0.out.lt
  obtain ⟨cd00, cd01, cd02, fd00, fd01, fd02⟩ := Xd0.out.c3
  have ld0 := Xd0.out.lt
  go_wp2_with fail
  clear ca00 ca01 ca02 fa00 fa01 fa02 la0 cb00 cb01 cb02 fb00 fb01 fb02 lb0 cc00 cc01 cc02 fc00 fc01 fc02 lc0 cd00 cd01 cd02 fd00 fd01 fd02 ld0
  obtain ⟨W37, hW⟩ : ∃ W37, W37 = (World.alloc w36 (.cells #[.bool y1_b, .slice y1_a y1_n y1_c, .slice y1_d y1_m y1_e] 25)) := ⟨_, rfl⟩
  rw [← hW]
  obtain ⟨xe0, hk, hb⟩ := boxes_1 _ _ _ hW
  clear hW
  have Ha := Lib.hid (AR.keep Ha.out hk)
  have Hb := Lib.hid (AR.keep Hb.out hk)
  have Hy1 := Lib.hid (CR.keep Hy1.out hk)
  have Na0e0 := Lib.hid (show w.heap.size ≠ w36.heap.size from Nat.ne_of_lt (Nat.lt_of_lt_of_le Xa0.out.lt (by omega)))
  have Nb0e0 := Lib.hid (show w.heap.size + 1 ≠ w36.heap.size from Nat.ne_of_lt (Nat.lt_of_lt_of_le Xb0.out.lt (by omega)))
  have Nc0e0 := Lib.hid (show w.heap.size + 1 + 1 ≠ w36.heap.size from Nat.ne_of_lt (Nat.lt_of_lt_of_le Xc0.out.lt (by omega)))
  have Nd0e0 := Lib.hid (show w6.heap.size ≠ w36.heap.size from Nat.ne_of_lt (Nat.lt_of_lt_of_le Xd0.out.lt (by omega)))
  have Ge0 := Lib.hid (show w.heap.size ≤ w36.heap.size from Nat.le_trans HB.out.size (by omega))
  have Xa0 := Lib.hid (Box.pcall hb Xa0.out)
  have Xb0 := Lib.hid (Box.pcall hb Xb0.out)
  have Xc0 := Lib.hid (Box.pcall hb Xc0.out)
  have Xd0 := Lib.hid (Box.pcall hb Xd0.out)
  have Xe0 := Lib.hid xe0
  have HB := Lib.hid (below_call HB.out hb)
  clear hk hb xe0
  (first | (have hcall := zsign_ar k Hb.out Hk.out; refine Calls.mono hcall ?_; clear hcall) | refine Calls.mono (zsign_ar k Hb.out Hk.out) ?_)
  rintro e w38 ⟨v38, rfl, rfl, hb⟩
  have Ha := Lib.hid (AR.keep Ha.out (Keep.call hb))
  have Hy1 := Lib.hid (CR.keep Hy1.out (Keep.call hb))
  have Xa0 := Lib.hid (Box.pcall hb Xa0.out)
  have Xb0 := Lib.hid (Box.pcall hb Xb0.out)
  have Xc0 := Lib.hid (Box.pcall hb Xc0.out)
  have Xd0 := Lib.hid (Box.pcall hb Xd0.out)
  have Xe0 := Lib.hid (Box.pcall hb Xe0.out)
  have HB := Lib.hid (below_call HB.out hb)
  clear hb
  have hk0 : (k == 0) = false := Hk0.out
  obtain ⟨ca00, ca01, ca02, fa00, fa01, fa02⟩ := Xa0.out.c3
  have la0 := Xa0.out.lt
  obtain ⟨cb00, cb01, cb02, fb00, fb01, fb02⟩ := Xb0.out.c3
  have lb0 := Xb0.out.lt
  obtain ⟨cc00, cc01, cc02, fc00, fc01, fc02⟩ := Xc0.out.c3
  have lc0 := Xc0.out.lt
  obtain ⟨cd00, cd01, cd02, fd00, fd01, fd02⟩ := Xd0.out.c3
  have ld0 := Xd0.out.lt
  obtain ⟨ce00, ce01, ce02, fe00, fe01, fe02⟩ := Xe0.out.c3
  have le0 := Xe0.out.lt
  go_wp2_with fail
  clear ca00 ca01 ca02 fa00 fa01 fa02 la0 cb00 cb01 cb02 fb00 fb01 fb02 lb0 cc00 cc01 cc02 fc00 fc01 fc02 lc0 cd00 cd01 cd02 fd00 fd01 fd02 ld0 ce00 ce01 ce02 fe00 fe01 fe02 le0
  have Ha := Lib.hid (AR.keep Ha.out (Keep.drew w38))
  have Hy1 := Lib.hid (CR.keep Hy1.out (Keep.drew w38))
  have Xa0 := Lib.hid (Box.drew Xa0.out)
  have Xb0 := Lib.hid (Box.drew Xb0.out)
  have Xc0 := Lib.hid (Box.drew Xc0.out)
  have Xd0 := Lib.hid (Box.drew Xd0.out)
  have Xe0 := Lib.hid (Box.drew Xe0.out)
  have HB := Lib.hid (Below.drew HB.out)
  refine wp_region_float [] [] (by kernel_rfl) (by kernel_rfl) 90 (by kernel_rfl) Flok.nil ?_
  intro ok
  have Hok := Lib.hid ok
  clear ok
  have HG := Lib.hid (Below.refl (w38.drew).heap.size (w38.drew))
  refine good_pureX 0 (some 82) (Go.Op.move (Go.Operand.tmp 9)) (none) (.int .i64 0) (by kernel_rfl) (by kernel_rfl) (by kernel_rfl) (fun _ _ _ h => h) (fun w' hw' => ?_) ?_
  · first | (go_simp; done) | (go_simp; simp_all; done) | (go_simp; rfl)
  simp only [Act.put, List.setIfInBounds_toArray, List.set_cons_zero, List.set_cons_succ]
  refine good_pureX 1 (some 83) (Go.Op.binOp Go.BinOp.eql 39 (Go.Operand.tmp 82) (Go.Operand.const (Go.Value.int Go.IntKind.i64 0)) 39) (none) (.bool true) (by kernel_rfl) (by kernel_rfl) (by kernel_rfl) (fun _ _ _ h => h) (fun w' hw' => ?_) ?_
  · first | (go_simp; done) | (go_simp; simp_all; done) | (go_simp; rfl)
  simp only [Act.put, List.setIfInBounds_toArray, List.set_cons_zero, List.set_cons_succ]
  refine good_pureX 2 (some 84) (Go.Op.move (Go.Operand.tmp 83)) (none) (.bool true) (by kernel_rfl) (by kernel_rfl) (by kernel_rfl) (fun _ _ _ h => h) (fun w' hw' => ?_) ?_
  · first | (go_simp; done) | (go_simp; simp_all; done) | (go_simp; rfl)
  simp only [Act.put, List.setIfInBounds_toArray, List.set_cons_zero, List.set_cons_succ]
  refine good_pureX 3 (some 85) (Go.Op.load 25 (Go.Operand.tmp 8)) (some (2, true)) (.agg #[.bool y1_b, .slice y1_a y1_n y1_c, .slice y1_d y1_m y1_e]) (by kernel_rfl) (by kernel_rfl) (by kernel_rfl) (fun _ _ _ h => h) (fun w' hw' => ?_) ?_
  · obtain ⟨ce00, ce01, ce02, fe00, fe01, fe02⟩ := (Box.se hw' Xe0.out notin0).c3
    first | (go_simp; done) | (go_simp; simp_all; done) | (go_simp; rfl)
  simp only [Act.put, List.setIfInBounds_toArray, List.set_cons_zero, List.set_cons_succ]
  refine good_pureX 4 (some 86) (Go.Op.load 25 (Go.Operand.tmp 3)) (some (2, true)) (.agg #[.bool ba, .slice sa na ca, .slice ta ma ea]) (by kernel_rfl) (by kernel_rfl) (by kernel_rfl) (fun _ _ _ h => h) (fun w' hw' => ?_) ?_
  · obtain ⟨ca00, ca01, ca02, fa00, fa01, fa02⟩ := (Box.se hw' Xa0.out notin0).c3
    first | (go_simp; done) | (go_simp; simp_all; done) | (go_simp; rfl)
  simp only [Act.put, List.setIfInBounds_toArray, List.set_cons_zero, List.set_cons_succ]
  refine good_callX 5 19 (some 87) #[Go.Operand.tmp 86] #[25] (some (2, true)) #[.agg #[.bool ba, .slice sa na ca, .slice ta ma ea]] (by kernel_rfl) Hok.out (by kernel_rfl) (by kernel_rfl) (by kernel_rfl) (by kernel_rfl) rfl rfl rfl (by kernel_rfl) (fun w39 hb => ?_)
  have HG := Lib.hid (below_call HG.out hb)
  clear hb
  (first | (have hcall := zcanon_ar (AR.keep Ha.out (Keep.call HG.out)) (by decide); refine Calls.mono hcall ?_; clear hcall) | refine Calls.mono (zcanon_ar (AR.keep Ha.out (Keep.call HG.out)) (by decide)) ?_)
  rintro e w40 ⟨v40, rfl, hy2, hb⟩
  obtain ⟨y2_b, y2_a, y2_n, y2_c, y2_d, y2_m, y2_e, rfl⟩ := hy2.litb
  refine ⟨_, rfl, ?_, hb⟩
  have HG := Lib.hid (below_call HG.out hb)
  have Hy2 := Lib.hid hy2
  clear hb hy2
  simp only [Act.put, List.setIfInBounds_toArray, List.set_cons_zero, List.set_cons_succ]
  refine good_callX 6 15 (some 88) #[Go.Operand.tmp 85, Go.Operand.tmp 87] #[25, 25] (some (2, true)) #[.agg #[.bool y1_b, .slice y1_a y1_n y1_c, .slice y1_d y1_m y1_e], .agg #[.bool y2_b, .slice y2_a y2_n y2_c, .slice y2_d y2_m y2_e]] (by kernel_rfl) Hok.out (by kernel_rfl) (by kernel_rfl) (by kernel_rfl) (by kernel_rfl) rfl rfl rfl (by kernel_rfl) (fun w41 hb => ?_)
  have Hy2 := Lib.hid (CR.keep Hy2.out (Keep.call hb))
  have HG := Lib.hid (below_call HG.out hb)
  clear hb
  (first | (have hcall := zsame_cr (CR.keep Hy1.out (Keep.call HG.out)) Hy2.out (q_mul_div Hz.out); refine Calls.mono hcall ?_; clear hcall) | refine Calls.mono (zsame_cr (CR.keep Hy1.out (Keep.call HG.out)) Hy2.out (q_mul_div Hz.out)) ?_)
  rintro e w42 ⟨v42, rfl, rfl, hb⟩
  refine ⟨_, rfl, ?_, hb⟩
  have HG := Lib.hid (below_call HG.out hb)
  clear hb
  simp only [Act.put, List.setIfInBounds_toArray, List.set_cons_zero, List.set_cons_succ]
  refine good_pureX 7 (some 89) (Go.Op.pick (Go.Operand.tmp 84) (Go.Operand.tmp 88) (Go.Operand.const (Go.Value.bool false))) (none) (.bool true) (by kernel_rfl) (by kernel_rfl) (by kernel_rfl) (fun _ _ _ h => h) (fun w' hw' => ?_) ?_
  · first | (go_simp; done) | (go_simp; simp_all; done) | (go_simp; rfl)
  simp only [Act.put, List.setIfInBounds_toArray, List.set_cons_zero, List.set_cons_succ]
  refine good_pureX 8 (some 6) (Go.Op.assign (Go.Operand.tmp 89)) (none) (.bool true) (by kernel_rfl) (by kernel_rfl) (by kernel_rfl) (fun _ _ _ h => h) (fun w' hw' => ?_) ?_
  · first | (go_simp; done) | (go_simp; simp_all; done) | (go_simp; rfl)
  simp only [Act.put, List.setIfInBounds_toArray, List.set_cons_zero, List.set_cons_succ]
  refine good_end0 0 (by kernel_rfl) (fun _ w43 hb => ?_)
  have HG := Lib.hid (below_call HG.out hb)
  clear hb
  have Xa0 := Lib.hid (Box.pcall HG.out Xa0.out)
  have Xb0 := Lib.hid (Box.pcall HG.out Xb0.out)
  have Xc0 := Lib.hid (Box.pcall HG.out Xc0.out)
  have Xd0 := Lib.hid (Box.pcall HG.out Xd0.out)
  have Xe0 := Lib.hid (Box.pcall HG.out Xe0.out)
  have HB := Lib.hid (below_call HB.out HG.out)
  have HS := Lib.hid (SE.of (E := []) HG.out)
  refine wpAnyH_done (by kernel_rfl) ?_ _
  clear HG HS Hok 
  obtain ⟨ca00, ca01, ca02, fa00, fa01, fa02⟩ := Xa0.out.c3
  have la0 := Xa0.out.lt
  obtain ⟨cb00, cb01, cb02, fb00, fb01, fb02⟩ := Xb0.out.c3
  have lb0 := Xb0.out.lt
  obtain ⟨cc00, cc01, cc02, fc00, fc01, fc02⟩ := Xc0.out.c3
  have lc0 := Xc0.out.lt
  obtain ⟨cd00, cd01, cd02, fd00, fd01, fd02⟩ := Xd0.out.c3
  have ld0 := Xd0.out.lt
  obtain ⟨ce00, ce01, ce02, fe00, fe01, fe02⟩ := Xe0.out.c3
  have le0 := Xe0.out.lt
  go_wp2
  clear ca00 ca01 ca02 fa00 fa01 fa02 la0 cb00 cb01 cb02 fb00 fb01 fb02 lb0 cc00 cc01 cc02 fc00 fc01 fc02 lc0 cd00 cd01 cd02 fd00 fd01 fd02 ld0 ce00 ce01 ce02 fe00 fe01 fe02 le0
  go_ret
  exact ⟨_, rfl, rfl, HB.out⟩


theorem RationalAdd_all (ba : Bool) (sa : Option Addr) (na ca : Nat) (ta : Option Addr) (ma ea : Nat) (bb : Bool) (sb : Option Addr) (nb cb : Nat) (tb : Option Addr) (mb eb : Nat) (bc : Bool) (sc : Option Addr) (nc cc : Nat) (tc : Option Addr) (mc ec : Nat) (w : World) (ra : Row w (.slice sa na ca) na) (ua : Row w (.slice ta ma ea) ma) (rb : Row w (.slice sb nb cb) nb) (ub : Row w (.slice tb mb eb) mb) (rc : Row w (.slice sc nc cc) nc) (uc : Row w (.slice tc mc ec) mc) : Calls Try.prog 3 #[.agg #[.bool ba, .slice sa na ca, .slice ta ma ea], .agg #[.bool bb, .slice sb nb cb, .slice tb mb eb], .agg #[.bool bc, .slice sc nc cc, .slice tc mc ec]] w (Ret w (Val (.bool true))) := by
  by_cases la : 3 < na ∨ 3 < ma
  · exact lradd_no0 la
  by_cases lb : 3 < nb ∨ 3 < mb
  · exact lradd_no1 (by omega) (by omega) lb
  by_cases lc : 3 < nc ∨ 3 < mc
  · exact lradd_no2 (by omega) (by omega) (by omega) (by omega) lc
  obtain ⟨qa, ha⟩ := ra.ar (b := ba) ua 3 (by omega) (by omega) (by decide)
  obtain ⟨qb, hb⟩ := rb.ar (b := bb) ub 3 (by omega) (by omega) (by decide)
  obtain ⟨qc, hc⟩ := rc.ar (b := bc) uc 3 (by omega) (by omega) (by decide)
  exact lradd_yes ha (by omega) (by omega) hb (by omega) (by omega) hc (by omega) (by omega)

theorem RationalMul_all (ba : Bool) (sa : Option Addr) (na ca : Nat) (ta : Option Addr) (ma ea : Nat) (bb : Bool) (sb : Option Addr) (nb cb : Nat) (tb : Option Addr) (mb eb : Nat) (bc : Bool) (sc : Option Addr) (nc cc : Nat) (tc : Option Addr) (mc ec : Nat) (w : World) (ra : Row w (.slice sa na ca) na) (ua : Row w (.slice ta ma ea) ma) (rb : Row w (.slice sb nb cb) nb) (ub : Row w (.slice tb mb eb) mb) (rc : Row w (.slice sc nc cc) nc) (uc : Row w (.slice tc mc ec) mc) : Calls Try.prog 8 #[.agg #[.bool ba, .slice sa na ca, .slice ta ma ea], .agg #[.bool bb, .slice sb nb cb, .slice tb mb eb], .agg #[.bool bc, .slice sc nc cc, .slice tc mc ec]] w (Ret w (Val (.bool true))) := by
  by_cases la : 3 < na ∨ 3 < ma
  · exact lrmul_no0 la
  by_cases lb : 3 < nb ∨ 3 < mb
  · exact lrmul_no1 (by omega) (by omega) lb
  by_cases lc : 3 < nc ∨ 3 < mc
  · exact lrmul_no2 (by omega) (by omega) (by omega) (by omega) lc
  obtain ⟨qa, ha⟩ := ra.ar (b := ba) ua 3 (by omega) (by omega) (by decide)
  obtain ⟨qb, hb⟩ := rb.ar (b := bb) ub 3 (by omega) (by omega) (by decide)
  obtain ⟨qc, hc⟩ := rc.ar (b := bc) uc 3 (by omega) (by omega) (by decide)
  by_cases hz : qb = 0
  · exact lrmul_z hz ha (by omega) (by omega) hb (by omega) (by omega) hc (by omega) (by omega)
  · have h0 : (qb.num.sign == 0) = false := by simpa [Int.sign_eq_zero_iff_zero, Rat.num_eq_zero] using hz
    exact lrmul_y _ rfl h0 hz ha (by omega) (by omega) hb (by omega) (by omega) hc (by omega) (by omega)

end Go.Proofs.Ytfkjhaniglmejaa
