/- Layer 3: RationalCompare and RationalSimplest. Printed by ratd.py. -/
import Derived.Test.YtfkjhaniglmejaaShelR
namespace Go.Proofs.Ytfkjhaniglmejaa
open Go.RowKit Nt
set_option linter.unusedVariables false

theorem sgn_bd (z : Int) : -1 ≤ z.sign ∧ z.sign ≤ 1 := by
  rcases Int.lt_trichotomy z 0 with h | h | h
  · rw [Int.sign_eq_neg_one_of_neg h]; omega
  · rw [h]; simp
  · rw [Int.sign_eq_one_of_pos h]; omega
theorem cmpQ_anti (a b : Rat) : cmpQ b a = - cmpQ a b := by unfold cmpQ; rw [show b - a = -(a - b) by grind, Rat.neg_num, Int.sign_neg]
theorem cmpQ_addr {a b c : Rat} {k : Int} (h : cmpQ a b = k) : cmpQ (a + c) (b + c) = k := by rw [← h]; unfold cmpQ; rw [show a + c - (b + c) = a - b by grind]
theorem sgn_lt {q : Rat} : q.num.sign = -1 ↔ q < 0 := by
  have h1 := @sign_ge q
  have h2 := sgn_bd q.num
  constructor
  · intro h; have := mt h1.2 (by omega); grind
  · intro h; have := mt h1.1 (by grind); omega
theorem sgn_gt {q : Rat} : q.num.sign = 1 ↔ 0 < q := by
  have h1 := @sign_le q
  have h2 := sgn_bd q.num
  constructor
  · intro h; have := mt h1.2 (by omega); grind
  · intro h; have := mt h1.1 (by grind); omega
theorem rat_tri (a : Rat) : a < 0 ∨ a = 0 ∨ 0 < a := by grind
theorem sgn_mulQ (a b : Rat) : (a * b).num.sign = a.num.sign * b.num.sign := by
  rcases rat_tri a with ha | ha | ha
  all_goals rcases rat_tri b with hb | hb | hb
  all_goals first
    | (subst ha; rw [Rat.zero_mul]; simp)
    | (subst hb; rw [Rat.mul_zero]; simp)
    | (rw [sgn_lt.2 ha, sgn_lt.2 hb, sgn_gt.2 (show 0 < a * b by have := Rat.mul_pos (show 0 < -a by grind) (show 0 < -b by grind); grind)]; rfl)
    | (rw [sgn_lt.2 ha, sgn_gt.2 hb, sgn_lt.2 (show a * b < 0 by have := Rat.mul_pos (show 0 < -a by grind) hb; grind)]; rfl)
    | (rw [sgn_gt.2 ha, sgn_lt.2 hb, sgn_lt.2 (show a * b < 0 by have := Rat.mul_pos ha (show 0 < -b by grind); grind)]; rfl)
    | (rw [sgn_gt.2 ha, sgn_gt.2 hb, sgn_gt.2 (Rat.mul_pos ha hb)]; rfl)
theorem cmpQ_mulr {a b c : Rat} {k s : Int} (h : cmpQ a b = k) (hs : c.num.sign = s) : cmpQ (a * c) (b * c) = k * s := by
  rw [← h, ← hs]; unfold cmpQ; rw [show a * c - b * c = (a - b) * c by grind, sgn_mulQ]
theorem cmpQ_neg {a b : Rat} {k : Int} (h : cmpQ a b = k) : cmpQ b a = -k := by rw [cmpQ_anti, h]
theorem wrap_sgn {k s : Int} (h : -1 ≤ k) (h' : k ≤ 1) (g : -1 ≤ s) (g' : s ≤ 1) : IntKind.i64.wrap (k * s) = k * s := by
  refine IntWalk.i64_in _ ?_
  rcases (show k = -1 ∨ k = 0 ∨ k = 1 by omega) with rfl | rfl | rfl <;> omega

set_option maxRecDepth 100000 in
set_option maxHeartbeats 4000000 in
theorem lrcmp_no0 {ba : Bool} {sa ta : Option Addr} {na ca ma ea : Nat} {bb : Bool} {sb tb : Option Addr} {nb cb mb eb : Nat} {bc : Bool} {sc tc : Option Addr} {nc cc mc ec : Nat}  {w : World}  (hno : 3 < na ∨ 3 < ma) :
    Calls Try.prog 11 #[.agg #[.bool ba, .slice sa na ca, .slice ta ma ea], .agg #[.bool bb, .slice sb nb cb, .slice tb mb eb], .agg #[.bool bc, .slice sc nc cc, .slice tc mc ec]] w (Ret w (Val (.bool true))) := by
  have Hno := Lib.hid hno
  clear hno
  go_enter Try.func11, Try.ntmps11
  have HB := Lib.hid (Below.refl w.heap.size w)
  go_wp2_with fail
  obtain ⟨W1, hW⟩ : ∃ W1, W1 = (World.alloc (World.alloc (World.alloc w (.cells #[.bool ba, .slice sa na ca, .slice ta ma ea] 25)) (.cells #[.bool bb, .slice sb nb cb, .slice tb mb eb] 25)) (.cells #[.bool bc, .slice sc nc cc, .slice tc mc ec] 25)) := ⟨_, rfl⟩
  rw [← hW]
  obtain ⟨xa0, xb0, xc0, hk, hb⟩ := boxes_3 _ _ _ _ _ _ _ hW
  clear hW
  have Ga0 := Lib.hid (show w.heap.size ≤ w.heap.size from Nat.le_trans HB.out.size (by omega))
  have Gb0 := Lib.hid (show w.heap.size ≤ w.heap.size + 1 from Nat.le_trans HB.out.size (by omega))
  have Gc0 := Lib.hid (show w.heap.size ≤ w.heap.size + 1 + 1 from Nat.le_trans HB.out.size (by omega))
  have Xa0 := Lib.hid xa0
  have Xb0 := Lib.hid xb0
  have Xc0 := Lib.hid xc0
  have HB := Lib.hid (below_call HB.out hb)
  clear hk hb xa0 xb0 xc0
  refine Calls.mono (awake3) ?_
  rintro e w2 ⟨v2, rfl, rfl, hb⟩
  have Xa0 := Lib.hid (Box.pcall hb Xa0.out)
  have Xb0 := Lib.hid (Box.pcall hb Xb0.out)
  have Xc0 := Lib.hid (Box.pcall hb Xc0.out)
  have HB := Lib.hid (below_call HB.out hb)
  clear hb
  obtain ⟨ca00, ca01, ca02, fa00, fa01, fa02⟩ := Xa0.out.c3
  have la0 := Xa0.out.lt
  obtain ⟨cb00, cb01, cb02, fb00, fb01, fb02⟩ := Xb0.out.c3
  have lb0 := Xb0.out.lt
  obtain ⟨cc00, cc01, cc02, fc00, fc01, fc02⟩ := Xc0.out.c3
  have lc0 := Xc0.out.lt
  go_wp2_with fail
  clear ca00 ca01 ca02 fa00 fa01 fa02 la0 cb00 cb01 cb02 fb00 fb01 fb02 lb0 cc00 cc01 cc02 fc00 fc01 fc02 lc0
  refine Calls.mono (few3_no Hno.out) ?_
  rintro e w3 ⟨v3, rfl, rfl, hb⟩
  have Xa0 := Lib.hid (Box.pcall hb Xa0.out)
  have Xb0 := Lib.hid (Box.pcall hb Xb0.out)
  have Xc0 := Lib.hid (Box.pcall hb Xc0.out)
  have HB := Lib.hid (below_call HB.out hb)
  clear hb
  obtain ⟨ca00, ca01, ca02, fa00, fa01, fa02⟩ := Xa0.out.c3
  have la0 := Xa0.out.lt
  obtain ⟨cb00, cb01, cb02, fb00, fb01, fb02⟩ := Xb0.out.c3
  have lb0 := Xb0.out.lt
  obtain ⟨cc00, cc01, cc02, fc00, fc01, fc02⟩ := Xc0.out.c3
  have lc0 := Xc0.out.lt
  go_wp2
  clear ca00 ca01 ca02 fa00 fa01 fa02 la0 cb00 cb01 cb02 fb00 fb01 fb02 lb0 cc00 cc01 cc02 fc00 fc01 fc02 lc0
  go_ret
  exact ⟨_, rfl, rfl, HB.out⟩


set_option maxRecDepth 100000 in
set_option maxHeartbeats 4000000 in
theorem lrcmp_no1 {ba : Bool} {sa ta : Option Addr} {na ca ma ea : Nat} {bb : Bool} {sb tb : Option Addr} {nb cb mb eb : Nat} {bc : Bool} {sc tc : Option Addr} {nc cc mc ec : Nat}  {w : World} (hfa : na ≤ 3) (hga : ma ≤ 3) (hno : 3 < nb ∨ 3 < mb) :
    Calls Try.prog 11 #[.agg #[.bool ba, .slice sa na ca, .slice ta ma ea], .agg #[.bool bb, .slice sb nb cb, .slice tb mb eb], .agg #[.bool bc, .slice sc nc cc, .slice tc mc ec]] w (Ret w (Val (.bool true))) := by
  have Hfa := Lib.hid hfa
  have Hga := Lib.hid hga
  have Hno := Lib.hid hno
  clear hfa hga hno
  go_enter Try.func11, Try.ntmps11
  have HB := Lib.hid (Below.refl w.heap.size w)
  go_wp2_with fail
  obtain ⟨W1, hW⟩ : ∃ W1, W1 = (World.alloc (World.alloc (World.alloc w (.cells #[.bool ba, .slice sa na ca, .slice ta ma ea] 25)) (.cells #[.bool bb, .slice sb nb cb, .slice tb mb eb] 25)) (.cells #[.bool bc, .slice sc nc cc, .slice tc mc ec] 25)) := ⟨_, rfl⟩
  rw [← hW]
  obtain ⟨xa0, xb0, xc0, hk, hb⟩ := boxes_3 _ _ _ _ _ _ _ hW
  clear hW
  have Ga0 := Lib.hid (show w.heap.size ≤ w.heap.size from Nat.le_trans HB.out.size (by omega))
  have Gb0 := Lib.hid (show w.heap.size ≤ w.heap.size + 1 from Nat.le_trans HB.out.size (by omega))
  have Gc0 := Lib.hid (show w.heap.size ≤ w.heap.size + 1 + 1 from Nat.le_trans HB.out.size (by omega))
  have Xa0 := Lib.hid xa0
  have Xb0 := Lib.hid xb0
  have Xc0 := Lib.hid xc0
  have HB := Lib.hid (below_call HB.out hb)
  clear hk hb xa0 xb0 xc0
  refine Calls.mono (awake3) ?_
  rintro e w2 ⟨v2, rfl, rfl, hb⟩
  have Xa0 := Lib.hid (Box.pcall hb Xa0.out)
  have Xb0 := Lib.hid (Box.pcall hb Xb0.out)
  have Xc0 := Lib.hid (Box.pcall hb Xc0.out)
  have HB := Lib.hid (below_call HB.out hb)
  clear hb
  obtain ⟨ca00, ca01, ca02, fa00, fa01, fa02⟩ := Xa0.out.c3
  have la0 := Xa0.out.lt
  obtain ⟨cb00, cb01, cb02, fb00, fb01, fb02⟩ := Xb0.out.c3
  have lb0 := Xb0.out.lt
  obtain ⟨cc00, cc01, cc02, fc00, fc01, fc02⟩ := Xc0.out.c3
  have lc0 := Xc0.out.lt
  go_wp2_with fail
  clear ca00 ca01 ca02 fa00 fa01 fa02 la0 cb00 cb01 cb02 fb00 fb01 fb02 lb0 cc00 cc01 cc02 fc00 fc01 fc02 lc0
  refine Calls.mono (few3_yes Hfa.out Hga.out) ?_
  rintro e w3 ⟨v3, rfl, rfl, hb⟩
  have Xa0 := Lib.hid (Box.pcall hb Xa0.out)
  have Xb0 := Lib.hid (Box.pcall hb Xb0.out)
  have Xc0 := Lib.hid (Box.pcall hb Xc0.out)
  have HB := Lib.hid (below_call HB.out hb)
  clear hb
  obtain ⟨ca00, ca01, ca02, fa00, fa01, fa02⟩ := Xa0.out.c3
  have la0 := Xa0.out.lt
  obtain ⟨cb00, cb01, cb02, fb00, fb01, fb02⟩ := Xb0.out.c3
  have lb0 := Xb0.out.lt
  obtain ⟨cc00, cc01, cc02, fc00, fc01, fc02⟩ := Xc0.out.c3
  have lc0 := Xc0.out.lt
  go_wp2_with fail
  clear ca00 ca01 ca02 fa00 fa01 fa02 la0 cb00 cb01 cb02 fb00 fb01 fb02 lb0 cc00 cc01 cc02 fc00 fc01 fc02 lc0
  refine Calls.mono (few3_no Hno.out) ?_
  rintro e w4 ⟨v4, rfl, rfl, hb⟩
  have Xa0 := Lib.hid (Box.pcall hb Xa0.out)
  have Xb0 := Lib.hid (Box.pcall hb Xb0.out)
  have Xc0 := Lib.hid (Box.pcall hb Xc0.out)
  have HB := Lib.hid (below_call HB.out hb)
  clear hb
  obtain ⟨ca00, ca01, ca02, fa00, fa01, fa02⟩ := Xa0.out.c3
  have la0 := Xa0.out.lt
  obtain ⟨cb00, cb01, cb02, fb00, fb01, fb02⟩ := Xb0.out.c3
  have lb0 := Xb0.out.lt
  obtain ⟨cc00, cc01, cc02, fc00, fc01, fc02⟩ := Xc0.out.c3
  have lc0 := Xc0.out.lt
  go_wp2
  clear ca00 ca01 ca02 fa00 fa01 fa02 la0 cb00 cb01 cb02 fb00 fb01 fb02 lb0 cc00 cc01 cc02 fc00 fc01 fc02 lc0
  go_ret
  exact ⟨_, rfl, rfl, HB.out⟩


set_option maxRecDepth 100000 in
set_option maxHeartbeats 4000000 in
theorem lrcmp_no2 {ba : Bool} {sa ta : Option Addr} {na ca ma ea : Nat} {bb : Bool} {sb tb : Option Addr} {nb cb mb eb : Nat} {bc : Bool} {sc tc : Option Addr} {nc cc mc ec : Nat}  {w : World} (hfa : na ≤ 3) (hga : ma ≤ 3) (hfb : nb ≤ 3) (hgb : mb ≤ 3) (hno : 3 < nc ∨ 3 < mc) :
    Calls Try.prog 11 #[.agg #[.bool ba, .slice sa na ca, .slice ta ma ea], .agg #[.bool bb, .slice sb nb cb, .slice tb mb eb], .agg #[.bool bc, .slice sc nc cc, .slice tc mc ec]] w (Ret w (Val (.bool true))) := by
  have Hfa := Lib.hid hfa
  have Hga := Lib.hid hga
  have Hfb := Lib.hid hfb
  have Hgb := Lib.hid hgb
  have Hno := Lib.hid hno
  clear hfa hga hfb hgb hno
  go_enter Try.func11, Try.ntmps11
  have HB := Lib.hid (Below.refl w.heap.size w)
  go_wp2_with fail
  obtain ⟨W1, hW⟩ : ∃ W1, W1 = (World.alloc (World.alloc (World.alloc w (.cells #[.bool ba, .slice sa na ca, .slice ta ma ea] 25)) (.cells #[.bool bb, .slice sb nb cb, .slice tb mb eb] 25)) (.cells #[.bool bc, .slice sc nc cc, .slice tc mc ec] 25)) := ⟨_, rfl⟩
  rw [← hW]
  obtain ⟨xa0, xb0, xc0, hk, hb⟩ := boxes_3 _ _ _ _ _ _ _ hW
  clear hW
  have Ga0 := Lib.hid (show w.heap.size ≤ w.heap.size from Nat.le_trans HB.out.size (by omega))
  have Gb0 := Lib.hid (show w.heap.size ≤ w.heap.size + 1 from Nat.le_trans HB.out.size (by omega))
  have Gc0 := Lib.hid (show w.heap.size ≤ w.heap.size + 1 + 1 from Nat.le_trans HB.out.size (by omega))
  have Xa0 := Lib.hid xa0
  have Xb0 := Lib.hid xb0
  have Xc0 := Lib.hid xc0
  have HB := Lib.hid (below_call HB.out hb)
  clear hk hb xa0 xb0 xc0
  refine Calls.mono (awake3) ?_
  rintro e w2 ⟨v2, rfl, rfl, hb⟩
  have Xa0 := Lib.hid (Box.pcall hb Xa0.out)
  have Xb0 := Lib.hid (Box.pcall hb Xb0.out)
  have Xc0 := Lib.hid (Box.pcall hb Xc0.out)
  have HB := Lib.hid (below_call HB.out hb)
  clear hb
  obtain ⟨ca00, ca01, ca02, fa00, fa01, fa02⟩ := Xa0.out.c3
  have la0 := Xa0.out.lt
  obtain ⟨cb00, cb01, cb02, fb00, fb01, fb02⟩ := Xb0.out.c3
  have lb0 := Xb0.out.lt
  obtain ⟨cc00, cc01, cc02, fc00, fc01, fc02⟩ := Xc0.out.c3
  have lc0 := Xc0.out.lt
  go_wp2_with fail
  clear ca00 ca01 ca02 fa00 fa01 fa02 la0 cb00 cb01 cb02 fb00 fb01 fb02 lb0 cc00 cc01 cc02 fc00 fc01 fc02 lc0
  refine Calls.mono (few3_yes Hfa.out Hga.out) ?_
  rintro e w3 ⟨v3, rfl, rfl, hb⟩
  have Xa0 := Lib.hid (Box.pcall hb Xa0.out)
  have Xb0 := Lib.hid (Box.pcall hb Xb0.out)
  have Xc0 := Lib.hid (Box.pcall hb Xc0.out)
  have HB := Lib.hid (below_call HB.out hb)
  clear hb
  obtain ⟨ca00, ca01, ca02, fa00, fa01, fa02⟩ := Xa0.out.c3
  have la0 := Xa0.out.lt
  obtain ⟨cb00, cb01, cb02, fb00, fb01, fb02⟩ := Xb0.out.c3
  have lb0 := Xb0.out.lt
  obtain ⟨cc00, cc01, cc02, fc00, fc01, fc02⟩ := Xc0.out.c3
  have lc0 := Xc0.out.lt
  go_wp2_with fail
  clear ca00 ca01 ca02 fa00 fa01 fa02 la0 cb00 cb01 cb02 fb00 fb01 fb02 lb0 cc00 cc01 cc02 fc00 fc01 fc02 lc0
  refine Calls.mono (few3_yes Hfb.out Hgb.out) ?_
  rintro e w4 ⟨v4, rfl, rfl, hb⟩
  have Xa0 := Lib.hid (Box.pcall hb Xa0.out)
  have Xb0 := Lib.hid (Box.pcall hb Xb0.out)
  have Xc0 := Lib.hid (Box.pcall hb Xc0.out)
  have HB := Lib.hid (below_call HB.out hb)
  clear hb
  obtain ⟨ca00, ca01, ca02, fa00, fa01, fa02⟩ := Xa0.out.c3
  have la0 := Xa0.out.lt
  obtain ⟨cb00, cb01, cb02, fb00, fb01, fb02⟩ := Xb0.out.c3
  have lb0 := Xb0.out.lt
  obtain ⟨cc00, cc01, cc02, fc00, fc01, fc02⟩ := Xc0.out.c3
  have lc0 := Xc0.out.lt
  go_wp2_with fail
  clear ca00 ca01 ca02 fa00 fa01 fa02 la0 cb00 cb01 cb02 fb00 fb01 fb02 lb0 cc00 cc01 cc02 fc00 fc01 fc02 lc0
  refine Calls.mono (few3_no Hno.out) ?_
  rintro e w5 ⟨v5, rfl, rfl, hb⟩
  have Xa0 := Lib.hid (Box.pcall hb Xa0.out)
  have Xb0 := Lib.hid (Box.pcall hb Xb0.out)
  have Xc0 := Lib.hid (Box.pcall hb Xc0.out)
  have HB := Lib.hid (below_call HB.out hb)
  clear hb
  obtain ⟨ca00, ca01, ca02, fa00, fa01, fa02⟩ := Xa0.out.c3
  have la0 := Xa0.out.lt
  obtain ⟨cb00, cb01, cb02, fb00, fb01, fb02⟩ := Xb0.out.c3
  have lb0 := Xb0.out.lt
  obtain ⟨cc00, cc01, cc02, fc00, fc01, fc02⟩ := Xc0.out.c3
  have lc0 := Xc0.out.lt
  go_wp2
  clear ca00 ca01 ca02 fa00 fa01 fa02 la0 cb00 cb01 cb02 fb00 fb01 fb02 lb0 cc00 cc01 cc02 fc00 fc01 fc02 lc0
  go_ret
  exact ⟨_, rfl, rfl, HB.out⟩


set_option maxRecDepth 100000 in
set_option maxHeartbeats 4000000 in
theorem lrcmp_1 {qa : Rat} {ba : Bool} {sa ta : Option Addr} {na ca ma ea : Nat} {qb : Rat} {bb : Bool} {sb tb : Option Addr} {nb cb mb eb : Nat} {qc : Rat} {bc : Bool} {sc tc : Option Addr} {nc cc mc ec : Nat}  {w : World} (k s : Int) (hk : cmpQ qa qb = k) (hs : qc.num.sign = s) (h1 : -1 ≤ k) (h2 : k ≤ 1) (h3 : -1 ≤ s) (h4 : s ≤ 1) (hd1 : decide (k ≤ 0) = false) (ha : AR qa 3 w (.agg #[.bool ba, .slice sa na ca, .slice ta ma ea])) (hfa : na ≤ 3) (hga : ma ≤ 3) (hb : AR qb 3 w (.agg #[.bool bb, .slice sb nb cb, .slice tb mb eb])) (hfb : nb ≤ 3) (hgb : mb ≤ 3) (hc : AR qc 3 w (.agg #[.bool bc, .slice sc nc cc, .slice tc mc ec])) (hfc : nc ≤ 3) (hgc : mc ≤ 3) :
    Calls Try.prog 11 #[.agg #[.bool ba, .slice sa na ca, .slice ta ma ea], .agg #[.bool bb, .slice sb nb cb, .slice tb mb eb], .agg #[.bool bc, .slice sc nc cc, .slice tc mc ec]] w (Ret w (Val (.bool true))) := by
  have Ha := Lib.hid ha
  have Hb := Lib.hid hb
  have Hc := Lib.hid hc
  have Hk := Lib.hid hk
  have Hs := Lib.hid hs
  have Hfa := Lib.hid hfa
  have Hga := Lib.hid hga
  have Hfb := Lib.hid hfb
  have Hgb := Lib.hid hgb
  have Hfc := Lib.hid hfc
  have Hgc := Lib.hid hgc
  clear ha hb hc hk hs hfa hga hfb hgb hfc hgc
  have hw1 : IntKind.i64.wrap (-(-k)) = k := by rw [Int.neg_neg]; exact IntWalk.i64_in _ (by omega)
  have hw2 : IntKind.i64.wrap (k * s) = k * s := wrap_sgn h1 h2 h3 h4
  go_enter Try.func11, Try.ntmps11
  have HB := Lib.hid (Below.refl w.heap.size w)
  go_wp2_with fail
  obtain ⟨W1, hW⟩ : ∃ W1, W1 = (World.alloc (World.alloc (World.alloc w (.cells #[.bool ba, .slice sa na ca, .slice ta ma ea] 25)) (.cells #[.bool bb, .slice sb nb cb, .slice tb mb eb] 25)) (.cells #[.bool bc, .slice sc nc cc, .slice tc mc ec] 25)) := ⟨_, rfl⟩
  rw [← hW]
  obtain ⟨xa0, xb0, xc0, hk, hb⟩ := boxes_3 _ _ _ _ _ _ _ hW
  clear hW
  have Ha := Lib.hid (AR.keep Ha.out hk)
  have Hb := Lib.hid (AR.keep Hb.out hk)
  have Hc := Lib.hid (AR.keep Hc.out hk)
  have Ga0 := Lib.hid (show w.heap.size ≤ w.heap.size from Nat.le_trans HB.out.size (by omega))
  have Gb0 := Lib.hid (show w.heap.size ≤ w.heap.size + 1 from Nat.le_trans HB.out.size (by omega))
  have Gc0 := Lib.hid (show w.heap.size ≤ w.heap.size + 1 + 1 from Nat.le_trans HB.out.size (by omega))
  have Xa0 := Lib.hid xa0
  have Xb0 := Lib.hid xb0
  have Xc0 := Lib.hid xc0
  have HB := Lib.hid (below_call HB.out hb)
  clear hk hb xa0 xb0 xc0
  refine Calls.mono (awake3) ?_
  rintro e w2 ⟨v2, rfl, rfl, hb⟩
  have Ha := Lib.hid (AR.keep Ha.out (Keep.call hb))
  have Hb := Lib.hid (AR.keep Hb.out (Keep.call hb))
  have Hc := Lib.hid (AR.keep Hc.out (Keep.call hb))
  have Xa0 := Lib.hid (Box.pcall hb Xa0.out)
  have Xb0 := Lib.hid (Box.pcall hb Xb0.out)
  have Xc0 := Lib.hid (Box.pcall hb Xc0.out)
  have HB := Lib.hid (below_call HB.out hb)
  clear hb
  obtain ⟨ca00, ca01, ca02, fa00, fa01, fa02⟩ := Xa0.out.c3
  have la0 := Xa0.out.lt
  obtain ⟨cb00, cb01, cb02, fb00, fb01, fb02⟩ := Xb0.out.c3
  have lb0 := Xb0.out.lt
  obtain ⟨cc00, cc01, cc02, fc00, fc01, fc02⟩ := Xc0.out.c3
  have lc0 := Xc0.out.lt
  go_wp2_with fail
  clear ca00 ca01 ca02 fa00 fa01 fa02 la0 cb00 cb01 cb02 fb00 fb01 fb02 lb0 cc00 cc01 cc02 fc00 fc01 fc02 lc0
  refine Calls.mono (few3_yes Hfa.out Hga.out) ?_
  rintro e w3 ⟨v3, rfl, rfl, hb⟩
  have Ha := Lib.hid (AR.keep Ha.out (Keep.call hb))
  have Hb := Lib.hid (AR.keep Hb.out (Keep.call hb))
  have Hc := Lib.hid (AR.keep Hc.out (Keep.call hb))
  have Xa0 := Lib.hid (Box.pcall hb Xa0.out)
  have Xb0 := Lib.hid (Box.pcall hb Xb0.out)
  have Xc0 := Lib.hid (Box.pcall hb Xc0.out)
  have HB := Lib.hid (below_call HB.out hb)
  clear hb
  obtain ⟨ca00, ca01, ca02, fa00, fa01, fa02⟩ := Xa0.out.c3
  have la0 := Xa0.out.lt
  obtain ⟨cb00, cb01, cb02, fb00, fb01, fb02⟩ := Xb0.out.c3
  have lb0 := Xb0.out.lt
  obtain ⟨cc00, cc01, cc02, fc00, fc01, fc02⟩ := Xc0.out.c3
  have lc0 := Xc0.out.lt
  go_wp2_with fail
  clear ca00 ca01 ca02 fa00 fa01 fa02 la0 cb00 cb01 cb02 fb00 fb01 fb02 lb0 cc00 cc01 cc02 fc00 fc01 fc02 lc0
  refine Calls.mono (few3_yes Hfb.out Hgb.out) ?_
  rintro e w4 ⟨v4, rfl, rfl, hb⟩
  have Ha := Lib.hid (AR.keep Ha.out (Keep.call hb))
  have Hb := Lib.hid (AR.keep Hb.out (Keep.call hb))
  have Hc := Lib.hid (AR.keep Hc.out (Keep.call hb))
  have Xa0 := Lib.hid (Box.pcall hb Xa0.out)
  have Xb0 := Lib.hid (Box.pcall hb Xb0.out)
  have Xc0 := Lib.hid (Box.pcall hb Xc0.out)
  have HB := Lib.hid (below_call HB.out hb)
  clear hb
  obtain ⟨ca00, ca01, ca02, fa00, fa01, fa02⟩ := Xa0.out.c3
  have la0 := Xa0.out.lt
  obtain ⟨cb00, cb01, cb02, fb00, fb01, fb02⟩ := Xb0.out.c3
  have lb0 := Xb0.out.lt
  obtain ⟨cc00, cc01, cc02, fc00, fc01, fc02⟩ := Xc0.out.c3
  have lc0 := Xc0.out.lt
  go_wp2_with fail
  clear ca00 ca01 ca02 fa00 fa01 fa02 la0 cb00 cb01 cb02 fb00 fb01 fb02 lb0 cc00 cc01 cc02 fc00 fc01 fc02 lc0
  refine Calls.mono (few3_yes Hfc.out Hgc.out) ?_
  rintro e w5 ⟨v5, rfl, rfl, hb⟩
  have Ha := Lib.hid (AR.keep Ha.out (Keep.call hb))
  have Hb := Lib.hid (AR.keep Hb.out (Keep.call hb))
  have Hc := Lib.hid (AR.keep Hc.out (Keep.call hb))
  have Xa0 := Lib.hid (Box.pcall hb Xa0.out)
  have Xb0 := Lib.hid (Box.pcall hb Xb0.out)
  have Xc0 := Lib.hid (Box.pcall hb Xc0.out)
  have HB := Lib.hid (below_call HB.out hb)
  clear hb
  obtain ⟨ca00, ca01, ca02, fa00, fa01, fa02⟩ := Xa0.out.c3
  have la0 := Xa0.out.lt
  obtain ⟨cb00, cb01, cb02, fb00, fb01, fb02⟩ := Xb0.out.c3
  have lb0 := Xb0.out.lt
  obtain ⟨cc00, cc01, cc02, fc00, fc01, fc02⟩ := Xc0.out.c3
  have lc0 := Xc0.out.lt
  go_wp2_with fail
  clear ca00 ca01 ca02 fa00 fa01 fa02 la0 cb00 cb01 cb02 fb00 fb01 fb02 lb0 cc00 cc01 cc02 fc00 fc01 fc02 lc0
  (first | (have hcall := rcmp_ar k Ha.out Hb.out Hk.out (by decide) (by decide); refine Calls.mono hcall ?_; clear hcall) | refine Calls.mono (rcmp_ar k Ha.out Hb.out Hk.out (by decide) (by decide)) ?_)
  rintro e w6 ⟨v6, rfl, ⟨⟩, hb⟩
  have Ha := Lib.hid (AR.keep Ha.out (Keep.call hb))
  have Hb := Lib.hid (AR.keep Hb.out (Keep.call hb))
  have Hc := Lib.hid (AR.keep Hc.out (Keep.call hb))
  have Xa0 := Lib.hid (Box.pcall hb Xa0.out)
  have Xb0 := Lib.hid (Box.pcall hb Xb0.out)
  have Xc0 := Lib.hid (Box.pcall hb Xc0.out)
  have HB := Lib.hid (below_call HB.out hb)
  clear hb
  obtain ⟨ca00, ca01, ca02, fa00, fa01, fa02⟩ := Xa0.out.c3
  have la0 := Xa0.out.lt
  obtain ⟨cb00, cb01, cb02, fb00, fb01, fb02⟩ := Xb0.out.c3
  have lb0 := Xb0.out.lt
  obtain ⟨cc00, cc01, cc02, fc00, fc01, fc02⟩ := Xc0.out.c3
  have lc0 := Xc0.out.lt
  go_wp2_with fail
  clear ca00 ca01 ca02 fa00 fa01 fa02 la0 cb00 cb01 cb02 fb00 fb01 fb02 lb0 cc00 cc01 cc02 fc00 fc01 fc02 lc0
  (first | (have hcall := zcmp_ar k Ha.out Hb.out Hk.out (by decide) (by decide); refine Calls.mono hcall ?_; clear hcall) | refine Calls.mono (zcmp_ar k Ha.out Hb.out Hk.out (by decide) (by decide)) ?_)
  rintro e w7 ⟨v7, rfl, ⟨⟩, hb⟩
  have Ha := Lib.hid (AR.keep Ha.out (Keep.call hb))
  have Hb := Lib.hid (AR.keep Hb.out (Keep.call hb))
  have Hc := Lib.hid (AR.keep Hc.out (Keep.call hb))
  have Xa0 := Lib.hid (Box.pcall hb Xa0.out)
  have Xb0 := Lib.hid (Box.pcall hb Xb0.out)
  have Xc0 := Lib.hid (Box.pcall hb Xc0.out)
  have HB := Lib.hid (below_call HB.out hb)
  clear hb
  obtain ⟨ca00, ca01, ca02, fa00, fa01, fa02⟩ := Xa0.out.c3
  have la0 := Xa0.out.lt
  obtain ⟨cb00, cb01, cb02, fb00, fb01, fb02⟩ := Xb0.out.c3
  have lb0 := Xb0.out.lt
  obtain ⟨cc00, cc01, cc02, fc00, fc01, fc02⟩ := Xc0.out.c3
  have lc0 := Xc0.out.lt
  go_wp2_with fail
  clear ca00 ca01 ca02 fa00 fa01 fa02 la0 cb00 cb01 cb02 fb00 fb01 fb02 lb0 cc00 cc01 cc02 fc00 fc01 fc02 lc0
  (first | (have hcall := rcmp_ar (-k) Hb.out Ha.out (cmpQ_neg Hk.out) (by decide) (by decide); refine Calls.mono hcall ?_; clear hcall) | refine Calls.mono (rcmp_ar (-k) Hb.out Ha.out (cmpQ_neg Hk.out) (by decide) (by decide)) ?_)
  rintro e w8 ⟨v8, rfl, ⟨⟩, hb⟩
  have Ha := Lib.hid (AR.keep Ha.out (Keep.call hb))
  have Hb := Lib.hid (AR.keep Hb.out (Keep.call hb))
  have Hc := Lib.hid (AR.keep Hc.out (Keep.call hb))
  have Xa0 := Lib.hid (Box.pcall hb Xa0.out)
  have Xb0 := Lib.hid (Box.pcall hb Xb0.out)
  have Xc0 := Lib.hid (Box.pcall hb Xc0.out)
  have HB := Lib.hid (below_call HB.out hb)
  clear hb
  obtain ⟨ca00, ca01, ca02, fa00, fa01, fa02⟩ := Xa0.out.c3
  have la0 := Xa0.out.lt
  obtain ⟨cb00, cb01, cb02, fb00, fb01, fb02⟩ := Xb0.out.c3
  have lb0 := Xb0.out.lt
  obtain ⟨cc00, cc01, cc02, fc00, fc01, fc02⟩ := Xc0.out.c3
  have lc0 := Xc0.out.lt
  go_wp2_with fail
  clear ca00 ca01 ca02 fa00 fa01 fa02 la0 cb00 cb01 cb02 fb00 fb01 fb02 lb0 cc00 cc01 cc02 fc00 fc01 fc02 lc0
  have Ha := Lib.hid (AR.keep Ha.out (Keep.drew w8))
  have Hb := Lib.hid (AR.keep Hb.out (Keep.drew w8))
  have Hc := Lib.hid (AR.keep Hc.out (Keep.drew w8))
  have Xa0 := Lib.hid (Box.drew Xa0.out)
  have Xb0 := Lib.hid (Box.drew Xb0.out)
  have Xc0 := Lib.hid (Box.drew Xc0.out)
  have HB := Lib.hid (Below.drew HB.out)
  refine wp_region_float [] [] (by kernel_rfl) (by kernel_rfl) 96 (by kernel_rfl) Flok.nil ?_
  intro ok
  have Hok := Lib.hid ok
  clear ok
  have HG := Lib.hid (Below.refl (w8.drew).heap.size (w8.drew))
  refine good_pureX 0 (some 55) (Go.Op.load 25 (Go.Operand.tmp 3)) (none) (.agg #[.bool ba, .slice sa na ca, .slice ta ma ea]) (by kernel_rfl) (by kernel_rfl) (by kernel_rfl) (fun _ _ _ h => h) (fun w' hw' => ?_) ?_
  · obtain ⟨ca00, ca01, ca02, fa00, fa01, fa02⟩ := (Box.se hw' Xa0.out notin0).c3
    first | (go_simp; done) | (go_simp; simp_all; done) | (go_simp; rfl)
  simp only [Act.put, List.setIfInBounds_toArray, List.set_cons_zero, List.set_cons_succ]
  refine good_pureX 1 (some 56) (Go.Op.load 25 (Go.Operand.tmp 4)) (none) (.agg #[.bool bb, .slice sb nb cb, .slice tb mb eb]) (by kernel_rfl) (by kernel_rfl) (by kernel_rfl) (fun _ _ _ h => h) (fun w' hw' => ?_) ?_
  · obtain ⟨cb00, cb01, cb02, fb00, fb01, fb02⟩ := (Box.se hw' Xb0.out notin0).c3
    first | (go_simp; done) | (go_simp; simp_all; done) | (go_simp; rfl)
  simp only [Act.put, List.setIfInBounds_toArray, List.set_cons_zero, List.set_cons_succ]
  refine good_pureX 3 (some 58) (Go.Op.load 25 (Go.Operand.tmp 3)) (none) (.agg #[.bool ba, .slice sa na ca, .slice ta ma ea]) (by kernel_rfl) (by kernel_rfl) (by kernel_rfl) (fun _ _ _ h => h) (fun w' hw' => ?_) ?_
  · obtain ⟨ca00, ca01, ca02, fa00, fa01, fa02⟩ := (Box.se hw' Xa0.out notin0).c3
    first | (go_simp; done) | (go_simp; simp_all; done) | (go_simp; rfl)
  simp only [Act.put, List.setIfInBounds_toArray, List.set_cons_zero, List.set_cons_succ]
  refine good_pureX 4 (some 59) (Go.Op.load 25 (Go.Operand.tmp 4)) (none) (.agg #[.bool bb, .slice sb nb cb, .slice tb mb eb]) (by kernel_rfl) (by kernel_rfl) (by kernel_rfl) (fun _ _ _ h => h) (fun w' hw' => ?_) ?_
  · obtain ⟨cb00, cb01, cb02, fb00, fb01, fb02⟩ := (Box.se hw' Xb0.out notin0).c3
    first | (go_simp; done) | (go_simp; simp_all; done) | (go_simp; rfl)
  simp only [Act.put, List.setIfInBounds_toArray, List.set_cons_zero, List.set_cons_succ]
  refine good_callX 2 50 (some 57) #[Go.Operand.tmp 55, Go.Operand.tmp 56] #[25, 25] (none) #[.agg #[.bool ba, .slice sa na ca, .slice ta ma ea], .agg #[.bool bb, .slice sb nb cb, .slice tb mb eb]] (by kernel_rfl) Hok.out (by kernel_rfl) (by kernel_rfl) (by kernel_rfl) (by kernel_rfl) rfl rfl rfl (by kernel_rfl) (fun w9 hb => ?_)
  have HG := Lib.hid (below_call HG.out hb)
  clear hb
  (first | (have hcall := rmin_ar (AR.keep Ha.out (Keep.call HG.out)) (AR.keep Hb.out (Keep.call HG.out)) (by decide) (by decide); refine Calls.mono hcall ?_; clear hcall) | refine Calls.mono (rmin_ar (AR.keep Ha.out (Keep.call HG.out)) (AR.keep Hb.out (Keep.call HG.out)) (by decide) (by decide)) ?_)
  rintro e w10 ⟨v10, rfl, hv1, hb⟩
  obtain ⟨v1_b, v1_a, v1_n, v1_c, v1_d, v1_m, v1_e, rfl⟩ := hv1.litb
  refine ⟨_, rfl, ?_, hb⟩
  have HG := Lib.hid (below_call HG.out hb)
  have Hv1 := Lib.hid hv1
  clear hb hv1
  simp only [Act.put, List.setIfInBounds_toArray, List.set_cons_zero, List.set_cons_succ]
  refine good_callX 5 51 (some 60) #[Go.Operand.tmp 58, Go.Operand.tmp 59] #[25, 25] (none) #[.agg #[.bool ba, .slice sa na ca, .slice ta ma ea], .agg #[.bool bb, .slice sb nb cb, .slice tb mb eb]] (by kernel_rfl) Hok.out (by kernel_rfl) (by kernel_rfl) (by kernel_rfl) (by kernel_rfl) rfl rfl rfl (by kernel_rfl) (fun w11 hb => ?_)
  have Hv1 := Lib.hid (CR.keep Hv1.out (Keep.call hb))
  have HG := Lib.hid (below_call HG.out hb)
  clear hb
  (first | (have hcall := zmin_ar (AR.keep Ha.out (Keep.call HG.out)) (AR.keep Hb.out (Keep.call HG.out)) (by decide) (by decide); refine Calls.mono hcall ?_; clear hcall) | refine Calls.mono (zmin_ar (AR.keep Ha.out (Keep.call HG.out)) (AR.keep Hb.out (Keep.call HG.out)) (by decide) (by decide)) ?_)
  rintro e w12 ⟨v12, rfl, hv2, hb⟩
  obtain ⟨v2_b, v2_a, v2_n, v2_c, v2_d, v2_m, v2_e, rfl⟩ := hv2.litb
  refine ⟨_, rfl, ?_, hb⟩
  have Hv1 := Lib.hid (CR.keep Hv1.out (Keep.call hb))
  have HG := Lib.hid (below_call HG.out hb)
  have Hv2 := Lib.hid hv2
  clear hb hv2
  simp only [Act.put, List.setIfInBounds_toArray, List.set_cons_zero, List.set_cons_succ]
  refine good_callX 6 15 (some 61) #[Go.Operand.tmp 57, Go.Operand.tmp 60] #[25, 25] (none) #[.agg #[.bool v1_b, .slice v1_a v1_n v1_c, .slice v1_d v1_m v1_e], .agg #[.bool v2_b, .slice v2_a v2_n v2_c, .slice v2_d v2_m v2_e]] (by kernel_rfl) Hok.out (by kernel_rfl) (by kernel_rfl) (by kernel_rfl) (by kernel_rfl) rfl rfl rfl (by kernel_rfl) (fun w13 hb => ?_)
  have Hv1 := Lib.hid (CR.keep Hv1.out (Keep.call hb))
  have Hv2 := Lib.hid (CR.keep Hv2.out (Keep.call hb))
  have HG := Lib.hid (below_call HG.out hb)
  clear hb
  (first | (have hcall := zsame_cr Hv1.out Hv2.out (rfl); refine Calls.mono hcall ?_; clear hcall) | refine Calls.mono (zsame_cr Hv1.out Hv2.out (rfl)) ?_)
  rintro e w14 ⟨v14, rfl, rfl, hb⟩
  refine ⟨_, rfl, ?_, hb⟩
  have HG := Lib.hid (below_call HG.out hb)
  clear hb
  simp only [Act.put, List.setIfInBounds_toArray, List.set_cons_zero, List.set_cons_succ]
  refine good_pureX 7 (some 62) (Go.Op.unOp Go.UnOp.not 4 (Go.Operand.tmp 61)) (none) (.bool false) (by kernel_rfl) (by kernel_rfl) (by kernel_rfl) (fun _ _ _ h => h) (fun w' hw' => ?_) ?_
  · first | (go_simp; done) | (go_simp; simp_all; done) | (go_simp; rfl)
  simp only [Act.put, List.setIfInBounds_toArray, List.set_cons_zero, List.set_cons_succ]
  refine good_pureX 8 (some 63) (Go.Op.move (Go.Operand.tmp 62)) (none) (.bool false) (by kernel_rfl) (by kernel_rfl) (by kernel_rfl) (fun _ _ _ h => h) (fun w' hw' => ?_) ?_
  · first | (go_simp; done) | (go_simp; simp_all; done) | (go_simp; rfl)
  simp only [Act.put, List.setIfInBounds_toArray, List.set_cons_zero, List.set_cons_succ]
  refine good_pureX 9 (some 64) (Go.Op.load 25 (Go.Operand.tmp 3)) (some (8, false)) (.agg #[.bool ba, .slice sa na ca, .slice ta ma ea]) (by kernel_rfl) (by kernel_rfl) (by kernel_rfl) (fun _ _ _ h => h) (fun w' hw' => ?_) ?_
  · obtain ⟨ca00, ca01, ca02, fa00, fa01, fa02⟩ := (Box.se hw' Xa0.out notin0).c3
    first | (go_simp; done) | (go_simp; simp_all; done) | (go_simp; rfl)
  simp only [Act.put, List.setIfInBounds_toArray, List.set_cons_zero, List.set_cons_succ]
  refine good_pureX 10 (some 65) (Go.Op.load 25 (Go.Operand.tmp 4)) (some (8, false)) (.agg #[.bool bb, .slice sb nb cb, .slice tb mb eb]) (by kernel_rfl) (by kernel_rfl) (by kernel_rfl) (fun _ _ _ h => h) (fun w' hw' => ?_) ?_
  · obtain ⟨cb00, cb01, cb02, fb00, fb01, fb02⟩ := (Box.se hw' Xb0.out notin0).c3
    first | (go_simp; done) | (go_simp; simp_all; done) | (go_simp; rfl)
  simp only [Act.put, List.setIfInBounds_toArray, List.set_cons_zero, List.set_cons_succ]
  refine good_pureX 12 (some 67) (Go.Op.load 25 (Go.Operand.tmp 3)) (some (8, false)) (.agg #[.bool ba, .slice sa na ca, .slice ta ma ea]) (by kernel_rfl) (by kernel_rfl) (by kernel_rfl) (fun _ _ _ h => h) (fun w' hw' => ?_) ?_
  · obtain ⟨ca00, ca01, ca02, fa00, fa01, fa02⟩ := (Box.se hw' Xa0.out notin0).c3
    first | (go_simp; done) | (go_simp; simp_all; done) | (go_simp; rfl)
  simp only [Act.put, List.setIfInBounds_toArray, List.set_cons_zero, List.set_cons_succ]
  refine good_pureX 13 (some 68) (Go.Op.load 25 (Go.Operand.tmp 4)) (some (8, false)) (.agg #[.bool bb, .slice sb nb cb, .slice tb mb eb]) (by kernel_rfl) (by kernel_rfl) (by kernel_rfl) (fun _ _ _ h => h) (fun w' hw' => ?_) ?_
  · obtain ⟨cb00, cb01, cb02, fb00, fb01, fb02⟩ := (Box.se hw' Xb0.out notin0).c3
    first | (go_simp; done) | (go_simp; simp_all; done) | (go_simp; rfl)
  simp only [Act.put, List.setIfInBounds_toArray, List.set_cons_zero, List.set_cons_succ]
  refine good_callX 11 52 (some 66) #[Go.Operand.tmp 64, Go.Operand.tmp 65] #[25, 25] (some (8, false)) #[.agg #[.bool ba, .slice sa na ca, .slice ta ma ea], .agg #[.bool bb, .slice sb nb cb, .slice tb mb eb]] (by kernel_rfl) Hok.out (by kernel_rfl) (by kernel_rfl) (by kernel_rfl) (by kernel_rfl) rfl rfl rfl (by kernel_rfl) (fun w15 hb => ?_)
  have HG := Lib.hid (below_call HG.out hb)
  clear hb
  (first | (have hcall := rmax_ar (AR.keep Ha.out (Keep.call HG.out)) (AR.keep Hb.out (Keep.call HG.out)) (by decide) (by decide); refine Calls.mono hcall ?_; clear hcall) | refine Calls.mono (rmax_ar (AR.keep Ha.out (Keep.call HG.out)) (AR.keep Hb.out (Keep.call HG.out)) (by decide) (by decide)) ?_)
  rintro e w16 ⟨v16, rfl, hv3, hb⟩
  obtain ⟨v3_b, v3_a, v3_n, v3_c, v3_d, v3_m, v3_e, rfl⟩ := hv3.litb
  refine ⟨_, rfl, ?_, hb⟩
  have HG := Lib.hid (below_call HG.out hb)
  have Hv3 := Lib.hid hv3
  clear hb hv3
  simp only [Act.put, List.setIfInBounds_toArray, List.set_cons_zero, List.set_cons_succ]
  refine good_callX 14 53 (some 69) #[Go.Operand.tmp 67, Go.Operand.tmp 68] #[25, 25] (some (8, false)) #[.agg #[.bool ba, .slice sa na ca, .slice ta ma ea], .agg #[.bool bb, .slice sb nb cb, .slice tb mb eb]] (by kernel_rfl) Hok.out (by kernel_rfl) (by kernel_rfl) (by kernel_rfl) (by kernel_rfl) rfl rfl rfl (by kernel_rfl) (fun w17 hb => ?_)
  have Hv3 := Lib.hid (CR.keep Hv3.out (Keep.call hb))
  have HG := Lib.hid (below_call HG.out hb)
  clear hb
  (first | (have hcall := zmax_ar (AR.keep Ha.out (Keep.call HG.out)) (AR.keep Hb.out (Keep.call HG.out)) (by decide) (by decide); refine Calls.mono hcall ?_; clear hcall) | refine Calls.mono (zmax_ar (AR.keep Ha.out (Keep.call HG.out)) (AR.keep Hb.out (Keep.call HG.out)) (by decide) (by decide)) ?_)
  rintro e w18 ⟨v18, rfl, hv4, hb⟩
  obtain ⟨v4_b, v4_a, v4_n, v4_c, v4_d, v4_m, v4_e, rfl⟩ := hv4.litb
  refine ⟨_, rfl, ?_, hb⟩
  have Hv3 := Lib.hid (CR.keep Hv3.out (Keep.call hb))
  have HG := Lib.hid (below_call HG.out hb)
  have Hv4 := Lib.hid hv4
  clear hb hv4
  simp only [Act.put, List.setIfInBounds_toArray, List.set_cons_zero, List.set_cons_succ]
  refine good_callX 15 15 (some 70) #[Go.Operand.tmp 66, Go.Operand.tmp 69] #[25, 25] (some (8, false)) #[.agg #[.bool v3_b, .slice v3_a v3_n v3_c, .slice v3_d v3_m v3_e], .agg #[.bool v4_b, .slice v4_a v4_n v4_c, .slice v4_d v4_m v4_e]] (by kernel_rfl) Hok.out (by kernel_rfl) (by kernel_rfl) (by kernel_rfl) (by kernel_rfl) rfl rfl rfl (by kernel_rfl) (fun w19 hb => ?_)
  have Hv3 := Lib.hid (CR.keep Hv3.out (Keep.call hb))
  have Hv4 := Lib.hid (CR.keep Hv4.out (Keep.call hb))
  have HG := Lib.hid (below_call HG.out hb)
  clear hb
  (first | (have hcall := zsame_cr Hv3.out Hv4.out (rfl); refine Calls.mono hcall ?_; clear hcall) | refine Calls.mono (zsame_cr Hv3.out Hv4.out (rfl)) ?_)
  rintro e w20 ⟨v20, rfl, rfl, hb⟩
  refine ⟨_, rfl, ?_, hb⟩
  have HG := Lib.hid (below_call HG.out hb)
  clear hb
  simp only [Act.put, List.setIfInBounds_toArray, List.set_cons_zero, List.set_cons_succ]
  refine good_pureX 16 (some 71) (Go.Op.unOp Go.UnOp.not 4 (Go.Operand.tmp 70)) (some (8, false)) (.bool false) (by kernel_rfl) (by kernel_rfl) (by kernel_rfl) (fun _ _ _ h => h) (fun w' hw' => ?_) ?_
  · first | (go_simp; done) | (go_simp; simp_all; done) | (go_simp; rfl)
  simp only [Act.put, List.setIfInBounds_toArray, List.set_cons_zero, List.set_cons_succ]
  refine good_pureX 17 (some 72) (Go.Op.pick (Go.Operand.tmp 63) (Go.Operand.const (Go.Value.bool true)) (Go.Operand.tmp 71)) (none) (.bool false) (by kernel_rfl) (by kernel_rfl) (by kernel_rfl) (fun _ _ _ h => h) (fun w' hw' => ?_) ?_
  · first | (go_simp; done) | (go_simp; simp_all; done) | (go_simp; rfl)
  simp only [Act.put, List.setIfInBounds_toArray, List.set_cons_zero, List.set_cons_succ]
  refine good_end0 0 (by kernel_rfl) (fun _ w21 hb => ?_)
  have HG := Lib.hid (below_call HG.out hb)
  clear hb
  have Ha := Lib.hid (AR.keep Ha.out (Keep.call HG.out))
  have Hb := Lib.hid (AR.keep Hb.out (Keep.call HG.out))
  have Hc := Lib.hid (AR.keep Hc.out (Keep.call HG.out))
  have Xa0 := Lib.hid (Box.pcall HG.out Xa0.out)
  have Xb0 := Lib.hid (Box.pcall HG.out Xb0.out)
  have Xc0 := Lib.hid (Box.pcall HG.out Xc0.out)
  have HB := Lib.hid (below_call HB.out HG.out)
  have HS := Lib.hid (SE.of (E := []) HG.out)
  refine wpAnyH_done (by kernel_rfl) ?_ _
  clear HG HS Hok 
  obtain ⟨ca00, ca01, ca02, fa00, fa01, fa02⟩ := Xa0.out.c3
  have la0 := Xa0.out.lt
  obtain ⟨cb00, cb01, cb02, fb00, fb01, fb02⟩ := Xb0.out.c3
  have lb0 := Xb0.out.lt
  obtain ⟨cc00, cc01, cc02, fc00, fc01, fc02⟩ := Xc0.out.c3
  have lc0 := Xc0.out.lt
  go_wp2_with fail
  clear ca00 ca01 ca02 fa00 fa01 fa02 la0 cb00 cb01 cb02 fb00 fb01 fb02 lb0 cc00 cc01 cc02 fc00 fc01 fc02 lc0
  have Ha := Lib.hid (AR.keep Ha.out (Keep.drew w21))
  have Hb := Lib.hid (AR.keep Hb.out (Keep.drew w21))
  have Hc := Lib.hid (AR.keep Hc.out (Keep.drew w21))
  have Xa0 := Lib.hid (Box.drew Xa0.out)
  have Xb0 := Lib.hid (Box.drew Xb0.out)
  have Xc0 := Lib.hid (Box.drew Xc0.out)
  have HB := Lib.hid (Below.drew HB.out)
  refine wp_region_float [] [] (by kernel_rfl) (by kernel_rfl) 96 (by kernel_rfl) Flok.nil ?_
  intro ok
  have Hok := Lib.hid ok
  clear ok
  have HG := Lib.hid (Below.refl (w21.drew).heap.size (w21.drew))
  refine good_pureX 0 (some 73) (Go.Op.load 25 (Go.Operand.tmp 3)) (none) (.agg #[.bool ba, .slice sa na ca, .slice ta ma ea]) (by kernel_rfl) (by kernel_rfl) (by kernel_rfl) (fun _ _ _ h => h) (fun w' hw' => ?_) ?_
  · obtain ⟨ca00, ca01, ca02, fa00, fa01, fa02⟩ := (Box.se hw' Xa0.out notin0).c3
    first | (go_simp; done) | (go_simp; simp_all; done) | (go_simp; rfl)
  simp only [Act.put, List.setIfInBounds_toArray, List.set_cons_zero, List.set_cons_succ]
  refine good_pureX 1 (some 74) (Go.Op.load 25 (Go.Operand.tmp 5)) (none) (.agg #[.bool bc, .slice sc nc cc, .slice tc mc ec]) (by kernel_rfl) (by kernel_rfl) (by kernel_rfl) (fun _ _ _ h => h) (fun w' hw' => ?_) ?_
  · obtain ⟨cc00, cc01, cc02, fc00, fc01, fc02⟩ := (Box.se hw' Xc0.out notin0).c3
    first | (go_simp; done) | (go_simp; simp_all; done) | (go_simp; rfl)
  simp only [Act.put, List.setIfInBounds_toArray, List.set_cons_zero, List.set_cons_succ]
  refine good_pureX 3 (some 76) (Go.Op.load 25 (Go.Operand.tmp 4)) (none) (.agg #[.bool bb, .slice sb nb cb, .slice tb mb eb]) (by kernel_rfl) (by kernel_rfl) (by kernel_rfl) (fun _ _ _ h => h) (fun w' hw' => ?_) ?_
  · obtain ⟨cb00, cb01, cb02, fb00, fb01, fb02⟩ := (Box.se hw' Xb0.out notin0).c3
    first | (go_simp; done) | (go_simp; simp_all; done) | (go_simp; rfl)
  simp only [Act.put, List.setIfInBounds_toArray, List.set_cons_zero, List.set_cons_succ]
  refine good_pureX 4 (some 77) (Go.Op.load 25 (Go.Operand.tmp 5)) (none) (.agg #[.bool bc, .slice sc nc cc, .slice tc mc ec]) (by kernel_rfl) (by kernel_rfl) (by kernel_rfl) (fun _ _ _ h => h) (fun w' hw' => ?_) ?_
  · obtain ⟨cc00, cc01, cc02, fc00, fc01, fc02⟩ := (Box.se hw' Xc0.out notin0).c3
    first | (go_simp; done) | (go_simp; simp_all; done) | (go_simp; rfl)
  simp only [Act.put, List.setIfInBounds_toArray, List.set_cons_zero, List.set_cons_succ]
  refine good_pureX 7 (some 80) (Go.Op.move (Go.Operand.tmp 7)) (none) (.int .i64 k) (by kernel_rfl) (by kernel_rfl) (by kernel_rfl) (fun _ _ _ h => h) (fun w' hw' => ?_) ?_
  · first | (go_simp; done) | (go_simp; simp_all; done) | (go_simp; rfl)
  simp only [Act.put, List.setIfInBounds_toArray, List.set_cons_zero, List.set_cons_succ]
  refine good_callX 2 14 (some 75) #[Go.Operand.tmp 73, Go.Operand.tmp 74] #[25, 25] (none) #[.agg #[.bool ba, .slice sa na ca, .slice ta ma ea], .agg #[.bool bc, .slice sc nc cc, .slice tc mc ec]] (by kernel_rfl) Hok.out (by kernel_rfl) (by kernel_rfl) (by kernel_rfl) (by kernel_rfl) rfl rfl rfl (by kernel_rfl) (fun w22 hb => ?_)
  have HG := Lib.hid (below_call HG.out hb)
  clear hb
  (first | (have hcall := radd_ar (AR.keep Ha.out (Keep.call HG.out)) (AR.keep Hc.out (Keep.call HG.out)) (by decide) (by decide); refine Calls.mono hcall ?_; clear hcall) | refine Calls.mono (radd_ar (AR.keep Ha.out (Keep.call HG.out)) (AR.keep Hc.out (Keep.call HG.out)) (by decide) (by decide)) ?_)
  rintro e w23 ⟨v23, rfl, hu1, hb⟩
  obtain ⟨u1_b, u1_a, u1_n, u1_c, u1_d, u1_m, u1_e, rfl⟩ := hu1.litb
  refine ⟨_, rfl, ?_, hb⟩
  have HG := Lib.hid (below_call HG.out hb)
  have Hu1 := Lib.hid hu1
  clear hb hu1
  simp only [Act.put, List.setIfInBounds_toArray, List.set_cons_zero, List.set_cons_succ]
  refine good_callX 5 14 (some 78) #[Go.Operand.tmp 76, Go.Operand.tmp 77] #[25, 25] (none) #[.agg #[.bool bb, .slice sb nb cb, .slice tb mb eb], .agg #[.bool bc, .slice sc nc cc, .slice tc mc ec]] (by kernel_rfl) Hok.out (by kernel_rfl) (by kernel_rfl) (by kernel_rfl) (by kernel_rfl) rfl rfl rfl (by kernel_rfl) (fun w24 hb => ?_)
  have Hu1 := Lib.hid (CR.keep Hu1.out (Keep.call hb))
  have HG := Lib.hid (below_call HG.out hb)
  clear hb
  (first | (have hcall := radd_ar (AR.keep Hb.out (Keep.call HG.out)) (AR.keep Hc.out (Keep.call HG.out)) (by decide) (by decide); refine Calls.mono hcall ?_; clear hcall) | refine Calls.mono (radd_ar (AR.keep Hb.out (Keep.call HG.out)) (AR.keep Hc.out (Keep.call HG.out)) (by decide) (by decide)) ?_)
  rintro e w25 ⟨v25, rfl, hu2, hb⟩
  obtain ⟨u2_b, u2_a, u2_n, u2_c, u2_d, u2_m, u2_e, rfl⟩ := hu2.litb
  refine ⟨_, rfl, ?_, hb⟩
  have Hu1 := Lib.hid (CR.keep Hu1.out (Keep.call hb))
  have HG := Lib.hid (below_call HG.out hb)
  have Hu2 := Lib.hid hu2
  clear hb hu2
  simp only [Act.put, List.setIfInBounds_toArray, List.set_cons_zero, List.set_cons_succ]
  refine good_callX 6 49 (some 79) #[Go.Operand.tmp 75, Go.Operand.tmp 78] #[25, 25] (none) #[.agg #[.bool u1_b, .slice u1_a u1_n u1_c, .slice u1_d u1_m u1_e], .agg #[.bool u2_b, .slice u2_a u2_n u2_c, .slice u2_d u2_m u2_e]] (by kernel_rfl) Hok.out (by kernel_rfl) (by kernel_rfl) (by kernel_rfl) (by kernel_rfl) rfl rfl rfl (by kernel_rfl) (fun w26 hb => ?_)
  have Hu1 := Lib.hid (CR.keep Hu1.out (Keep.call hb))
  have Hu2 := Lib.hid (CR.keep Hu2.out (Keep.call hb))
  have HG := Lib.hid (below_call HG.out hb)
  clear hb
  (first | (have hcall := rcmp_ar k Hu1.out.ar Hu2.out.ar (cmpQ_addr Hk.out) (by decide) (by decide); refine Calls.mono hcall ?_; clear hcall) | refine Calls.mono (rcmp_ar k Hu1.out.ar Hu2.out.ar (cmpQ_addr Hk.out) (by decide) (by decide)) ?_)
  rintro e w27 ⟨v27, rfl, ⟨⟩, hb⟩
  refine ⟨_, rfl, ?_, hb⟩
  have HG := Lib.hid (below_call HG.out hb)
  clear hb
  simp only [Act.put, List.setIfInBounds_toArray, List.set_cons_zero, List.set_cons_succ]
  refine good_pureX 8 (some 81) (Go.Op.binOp Go.BinOp.eql 3 (Go.Operand.tmp 79) (Go.Operand.tmp 80) 3) (none) (.bool true) (by kernel_rfl) (by kernel_rfl) (by kernel_rfl) (fun _ _ _ h => h) (fun w' hw' => ?_) ?_
  · first | (go_simp; done) | (go_simp; simp_all; done) | (go_simp; rfl)
  simp only [Act.put, List.setIfInBounds_toArray, List.set_cons_zero, List.set_cons_succ]
  refine good_pureX 9 (some 82) (Go.Op.move (Go.Operand.tmp 81)) (none) (.bool true) (by kernel_rfl) (by kernel_rfl) (by kernel_rfl) (fun _ _ _ h => h) (fun w' hw' => ?_) ?_
  · first | (go_simp; done) | (go_simp; simp_all; done) | (go_simp; rfl)
  simp only [Act.put, List.setIfInBounds_toArray, List.set_cons_zero, List.set_cons_succ]
  refine good_pureX 10 (some 83) (Go.Op.load 25 (Go.Operand.tmp 3)) (some (9, true)) (.agg #[.bool ba, .slice sa na ca, .slice ta ma ea]) (by kernel_rfl) (by kernel_rfl) (by kernel_rfl) (fun _ _ _ h => h) (fun w' hw' => ?_) ?_
  · obtain ⟨ca00, ca01, ca02, fa00, fa01, fa02⟩ := (Box.se hw' Xa0.out notin0).c3
    first | (go_simp; done) | (go_simp; simp_all; done) | (go_simp; rfl)
  simp only [Act.put, List.setIfInBounds_toArray, List.set_cons_zero, List.set_cons_succ]
  refine good_pureX 11 (some 84) (Go.Op.load 25 (Go.Operand.tmp 5)) (some (9, true)) (.agg #[.bool bc, .slice sc nc cc, .slice tc mc ec]) (by kernel_rfl) (by kernel_rfl) (by kernel_rfl) (fun _ _ _ h => h) (fun w' hw' => ?_) ?_
  · obtain ⟨cc00, cc01, cc02, fc00, fc01, fc02⟩ := (Box.se hw' Xc0.out notin0).c3
    first | (go_simp; done) | (go_simp; simp_all; done) | (go_simp; rfl)
  simp only [Act.put, List.setIfInBounds_toArray, List.set_cons_zero, List.set_cons_succ]
  refine good_pureX 13 (some 86) (Go.Op.load 25 (Go.Operand.tmp 4)) (some (9, true)) (.agg #[.bool bb, .slice sb nb cb, .slice tb mb eb]) (by kernel_rfl) (by kernel_rfl) (by kernel_rfl) (fun _ _ _ h => h) (fun w' hw' => ?_) ?_
  · obtain ⟨cb00, cb01, cb02, fb00, fb01, fb02⟩ := (Box.se hw' Xb0.out notin0).c3
    first | (go_simp; done) | (go_simp; simp_all; done) | (go_simp; rfl)
  simp only [Act.put, List.setIfInBounds_toArray, List.set_cons_zero, List.set_cons_succ]
  refine good_pureX 14 (some 87) (Go.Op.load 25 (Go.Operand.tmp 5)) (some (9, true)) (.agg #[.bool bc, .slice sc nc cc, .slice tc mc ec]) (by kernel_rfl) (by kernel_rfl) (by kernel_rfl) (fun _ _ _ h => h) (fun w' hw' => ?_) ?_
  · obtain ⟨cc00, cc01, cc02, fc00, fc01, fc02⟩ := (Box.se hw' Xc0.out notin0).c3
    first | (go_simp; done) | (go_simp; simp_all; done) | (go_simp; rfl)
  simp only [Act.put, List.setIfInBounds_toArray, List.set_cons_zero, List.set_cons_succ]
  refine good_pureX 17 (some 90) (Go.Op.move (Go.Operand.tmp 7)) (some (9, true)) (.int .i64 k) (by kernel_rfl) (by kernel_rfl) (by kernel_rfl) (fun _ _ _ h => h) (fun w' hw' => ?_) ?_
  · first | (go_simp; done) | (go_simp; simp_all; done) | (go_simp; rfl)
  simp only [Act.put, List.setIfInBounds_toArray, List.set_cons_zero, List.set_cons_succ]
  refine good_pureX 18 (some 91) (Go.Op.load 25 (Go.Operand.tmp 5)) (some (9, true)) (.agg #[.bool bc, .slice sc nc cc, .slice tc mc ec]) (by kernel_rfl) (by kernel_rfl) (by kernel_rfl) (fun _ _ _ h => h) (fun w' hw' => ?_) ?_
  · obtain ⟨cc00, cc01, cc02, fc00, fc01, fc02⟩ := (Box.se hw' Xc0.out notin0).c3
    first | (go_simp; done) | (go_simp; simp_all; done) | (go_simp; rfl)
  simp only [Act.put, List.setIfInBounds_toArray, List.set_cons_zero, List.set_cons_succ]
  refine good_callX 12 33 (some 85) #[Go.Operand.tmp 83, Go.Operand.tmp 84] #[25, 25] (some (9, true)) #[.agg #[.bool ba, .slice sa na ca, .slice ta ma ea], .agg #[.bool bc, .slice sc nc cc, .slice tc mc ec]] (by kernel_rfl) Hok.out (by kernel_rfl) (by kernel_rfl) (by kernel_rfl) (by kernel_rfl) rfl rfl rfl (by kernel_rfl) (fun w28 hb => ?_)
  have HG := Lib.hid (below_call HG.out hb)
  clear hb
  (first | (have hcall := rmul_ar (AR.keep Ha.out (Keep.call HG.out)) (AR.keep Hc.out (Keep.call HG.out)) (by decide) (by decide); refine Calls.mono hcall ?_; clear hcall) | refine Calls.mono (rmul_ar (AR.keep Ha.out (Keep.call HG.out)) (AR.keep Hc.out (Keep.call HG.out)) (by decide) (by decide)) ?_)
  rintro e w29 ⟨v29, rfl, hu3, hb⟩
  obtain ⟨u3_b, u3_a, u3_n, u3_c, u3_d, u3_m, u3_e, rfl⟩ := hu3.litb
  refine ⟨_, rfl, ?_, hb⟩
  have HG := Lib.hid (below_call HG.out hb)
  have Hu3 := Lib.hid hu3
  clear hb hu3
  simp only [Act.put, List.setIfInBounds_toArray, List.set_cons_zero, List.set_cons_succ]
  refine good_callX 15 33 (some 88) #[Go.Operand.tmp 86, Go.Operand.tmp 87] #[25, 25] (some (9, true)) #[.agg #[.bool bb, .slice sb nb cb, .slice tb mb eb], .agg #[.bool bc, .slice sc nc cc, .slice tc mc ec]] (by kernel_rfl) Hok.out (by kernel_rfl) (by kernel_rfl) (by kernel_rfl) (by kernel_rfl) rfl rfl rfl (by kernel_rfl) (fun w30 hb => ?_)
  have Hu3 := Lib.hid (CR.keep Hu3.out (Keep.call hb))
  have HG := Lib.hid (below_call HG.out hb)
  clear hb
  (first | (have hcall := rmul_ar (AR.keep Hb.out (Keep.call HG.out)) (AR.keep Hc.out (Keep.call HG.out)) (by decide) (by decide); refine Calls.mono hcall ?_; clear hcall) | refine Calls.mono (rmul_ar (AR.keep Hb.out (Keep.call HG.out)) (AR.keep Hc.out (Keep.call HG.out)) (by decide) (by decide)) ?_)
  rintro e w31 ⟨v31, rfl, hu4, hb⟩
  obtain ⟨u4_b, u4_a, u4_n, u4_c, u4_d, u4_m, u4_e, rfl⟩ := hu4.litb
  refine ⟨_, rfl, ?_, hb⟩
  have Hu3 := Lib.hid (CR.keep Hu3.out (Keep.call hb))
  have HG := Lib.hid (below_call HG.out hb)
  have Hu4 := Lib.hid hu4
  clear hb hu4
  simp only [Act.put, List.setIfInBounds_toArray, List.set_cons_zero, List.set_cons_succ]
  refine good_callX 16 49 (some 89) #[Go.Operand.tmp 85, Go.Operand.tmp 88] #[25, 25] (some (9, true)) #[.agg #[.bool u3_b, .slice u3_a u3_n u3_c, .slice u3_d u3_m u3_e], .agg #[.bool u4_b, .slice u4_a u4_n u4_c, .slice u4_d u4_m u4_e]] (by kernel_rfl) Hok.out (by kernel_rfl) (by kernel_rfl) (by kernel_rfl) (by kernel_rfl) rfl rfl rfl (by kernel_rfl) (fun w32 hb => ?_)
  have Hu3 := Lib.hid (CR.keep Hu3.out (Keep.call hb))
  have Hu4 := Lib.hid (CR.keep Hu4.out (Keep.call hb))
  have HG := Lib.hid (below_call HG.out hb)
  clear hb
  (first | (have hcall := rcmp_ar (k * s) Hu3.out.ar Hu4.out.ar (cmpQ_mulr Hk.out Hs.out) (by decide) (by decide); refine Calls.mono hcall ?_; clear hcall) | refine Calls.mono (rcmp_ar (k * s) Hu3.out.ar Hu4.out.ar (cmpQ_mulr Hk.out Hs.out) (by decide) (by decide)) ?_)
  rintro e w33 ⟨v33, rfl, ⟨⟩, hb⟩
  refine ⟨_, rfl, ?_, hb⟩
  have HG := Lib.hid (below_call HG.out hb)
  clear hb
  simp only [Act.put, List.setIfInBounds_toArray, List.set_cons_zero, List.set_cons_succ]
  refine good_callX 19 32 (some 92) #[Go.Operand.tmp 91] #[25] (some (9, true)) #[.agg #[.bool bc, .slice sc nc cc, .slice tc mc ec]] (by kernel_rfl) Hok.out (by kernel_rfl) (by kernel_rfl) (by kernel_rfl) (by kernel_rfl) rfl rfl rfl (by kernel_rfl) (fun w34 hb => ?_)
  have HG := Lib.hid (below_call HG.out hb)
  clear hb
  (first | (have hcall := rsign_ar s (AR.keep Hc.out (Keep.call HG.out)) Hs.out (by decide); refine Calls.mono hcall ?_; clear hcall) | refine Calls.mono (rsign_ar s (AR.keep Hc.out (Keep.call HG.out)) Hs.out (by decide)) ?_)
  rintro e w35 ⟨v35, rfl, ⟨⟩, hb⟩
  refine ⟨_, rfl, ?_, hb⟩
  have HG := Lib.hid (below_call HG.out hb)
  clear hb
  simp only [Act.put, List.setIfInBounds_toArray, List.set_cons_zero, List.set_cons_succ]
  refine good_pureX 20 (some 93) (Go.Op.binOp Go.BinOp.mul 3 (Go.Operand.tmp 90) (Go.Operand.tmp 92) 3) (some (9, true)) (.int .i64 (k * s)) (by kernel_rfl) (by kernel_rfl) (by kernel_rfl) (fun _ _ _ h => h) (fun w' hw' => ?_) ?_
  · first | (go_simp; done) | (go_simp; simp_all; done) | (go_simp; rfl)
  simp only [Act.put, List.setIfInBounds_toArray, List.set_cons_zero, List.set_cons_succ]
  refine good_pureX 21 (some 94) (Go.Op.binOp Go.BinOp.eql 3 (Go.Operand.tmp 89) (Go.Operand.tmp 93) 3) (some (9, true)) (.bool true) (by kernel_rfl) (by kernel_rfl) (by kernel_rfl) (fun _ _ _ h => h) (fun w' hw' => ?_) ?_
  · first | (go_simp; done) | (go_simp; simp_all; done) | (go_simp; rfl)
  simp only [Act.put, List.setIfInBounds_toArray, List.set_cons_zero, List.set_cons_succ]
  refine good_pureX 22 (some 95) (Go.Op.pick (Go.Operand.tmp 82) (Go.Operand.tmp 94) (Go.Operand.const (Go.Value.bool false))) (none) (.bool true) (by kernel_rfl) (by kernel_rfl) (by kernel_rfl) (fun _ _ _ h => h) (fun w' hw' => ?_) ?_
  · first | (go_simp; done) | (go_simp; simp_all; done) | (go_simp; rfl)
  simp only [Act.put, List.setIfInBounds_toArray, List.set_cons_zero, List.set_cons_succ]
  refine good_pureX 23 (some 6) (Go.Op.assign (Go.Operand.tmp 95)) (none) (.bool true) (by kernel_rfl) (by kernel_rfl) (by kernel_rfl) (fun _ _ _ h => h) (fun w' hw' => ?_) ?_
  · first | (go_simp; done) | (go_simp; simp_all; done) | (go_simp; rfl)
  simp only [Act.put, List.setIfInBounds_toArray, List.set_cons_zero, List.set_cons_succ]
  refine good_end0 0 (by kernel_rfl) (fun _ w36 hb => ?_)
  have HG := Lib.hid (below_call HG.out hb)
  clear hb
  have Xa0 := Lib.hid (Box.pcall HG.out Xa0.out)
  have Xb0 := Lib.hid (Box.pcall HG.out Xb0.out)
  have Xc0 := Lib.hid (Box.pcall HG.out Xc0.out)
  have HB := Lib.hid (below_call HB.out HG.out)
  have HS := Lib.hid (SE.of (E := []) HG.out)
  refine wpAnyH_done (by kernel_rfl) ?_ _
  clear HG HS Hok 
  obtain ⟨ca00, ca01, ca02, fa00, fa01, fa02⟩ := Xa0.out.c3
  have la0 := Xa0.out.lt
  obtain ⟨cb00, cb01, cb02, fb00, fb01, fb02⟩ := Xb0.out.c3
  have lb0 := Xb0.out.lt
  obtain ⟨cc00, cc01, cc02, fc00, fc01, fc02⟩ := Xc0.out.c3
  have lc0 := Xc0.out.lt
  go_wp2
  clear ca00 ca01 ca02 fa00 fa01 fa02 la0 cb00 cb01 cb02 fb00 fb01 fb02 lb0 cc00 cc01 cc02 fc00 fc01 fc02 lc0
  go_ret
  exact ⟨_, rfl, rfl, HB.out⟩


set_option maxRecDepth 100000 in
set_option maxHeartbeats 4000000 in
theorem lrcmp_2 {qa : Rat} {ba : Bool} {sa ta : Option Addr} {na ca ma ea : Nat} {qb : Rat} {bb : Bool} {sb tb : Option Addr} {nb cb mb eb : Nat} {qc : Rat} {bc : Bool} {sc tc : Option Addr} {nc cc mc ec : Nat}  {w : World} (k s : Int) (hk : cmpQ qa qb = k) (hs : qc.num.sign = s) (h1 : -1 ≤ k) (h2 : k ≤ 1) (h3 : -1 ≤ s) (h4 : s ≤ 1) (hd1 : decide (k ≤ 0) = true) (m : Int) (hm : cmpQ qb qc = m) (hd2 : decide (m ≤ 0) = false) (ha : AR qa 3 w (.agg #[.bool ba, .slice sa na ca, .slice ta ma ea])) (hfa : na ≤ 3) (hga : ma ≤ 3) (hb : AR qb 3 w (.agg #[.bool bb, .slice sb nb cb, .slice tb mb eb])) (hfb : nb ≤ 3) (hgb : mb ≤ 3) (hc : AR qc 3 w (.agg #[.bool bc, .slice sc nc cc, .slice tc mc ec])) (hfc : nc ≤ 3) (hgc : mc ≤ 3) :
    Calls Try.prog 11 #[.agg #[.bool ba, .slice sa na ca, .slice ta ma ea], .agg #[.bool bb, .slice sb nb cb, .slice tb mb eb], .agg #[.bool bc, .slice sc nc cc, .slice tc mc ec]] w (Ret w (Val (.bool true))) := by
  have Ha := Lib.hid ha
  have Hb := Lib.hid hb
  have Hc := Lib.hid hc
  have Hk := Lib.hid hk
  have Hs := Lib.hid hs
  have Hm := Lib.hid hm
  have Hfa := Lib.hid hfa
  have Hga := Lib.hid hga
  have Hfb := Lib.hid hfb
  have Hgb := Lib.hid hgb
  have Hfc := Lib.hid hfc
  have Hgc := Lib.hid hgc
  clear ha hb hc hk hs hm hfa hga hfb hgb hfc hgc
  have hw1 : IntKind.i64.wrap (-(-k)) = k := by rw [Int.neg_neg]; exact IntWalk.i64_in _ (by omega)
  have hw2 : IntKind.i64.wrap (k * s) = k * s := wrap_sgn h1 h2 h3 h4
  go_enter Try.func11, Try.ntmps11
  have HB := Lib.hid (Below.refl w.heap.size w)
  go_wp2_with fail
  obtain ⟨W1, hW⟩ : ∃ W1, W1 = (World.alloc (World.alloc (World.alloc w (.cells #[.bool ba, .slice sa na ca, .slice ta ma ea] 25)) (.cells #[.bool bb, .slice sb nb cb, .slice tb mb eb] 25)) (.cells #[.bool bc, .slice sc nc cc, .slice tc mc ec] 25)) := ⟨_, rfl⟩
  rw [← hW]
  obtain ⟨xa0, xb0, xc0, hk, hb⟩ := boxes_3 _ _ _ _ _ _ _ hW
  clear hW
  have Ha := Lib.hid (AR.keep Ha.out hk)
  have Hb := Lib.hid (AR.keep Hb.out hk)
  have Hc := Lib.hid (AR.keep Hc.out hk)
  have Ga0 := Lib.hid (show w.heap.size ≤ w.heap.size from Nat.le_trans HB.out.size (by omega))
  have Gb0 := Lib.hid (show w.heap.size ≤ w.heap.size + 1 from Nat.le_trans HB.out.size (by omega))
  have Gc0 := Lib.hid (show w.heap.size ≤ w.heap.size + 1 + 1 from Nat.le_trans HB.out.size (by omega))
  have Xa0 := Lib.hid xa0
  have Xb0 := Lib.hid xb0
  have Xc0 := Lib.hid xc0
  have HB := Lib.hid (below_call HB.out hb)
  clear hk hb xa0 xb0 xc0
  refine Calls.mono (awake3) ?_
  rintro e w2 ⟨v2, rfl, rfl, hb⟩
  have Ha := Lib.hid (AR.keep Ha.out (Keep.call hb))
  have Hb := Lib.hid (AR.keep Hb.out (Keep.call hb))
  have Hc := Lib.hid (AR.keep Hc.out (Keep.call hb))
  have Xa0 := Lib.hid (Box.pcall hb Xa0.out)
  have Xb0 := Lib.hid (Box.pcall hb Xb0.out)
  have Xc0 := Lib.hid (Box.pcall hb Xc0.out)
  have HB := Lib.hid (below_call HB.out hb)
  clear hb
  obtain ⟨ca00, ca01, ca02, fa00, fa01, fa02⟩ := Xa0.out.c3
  have la0 := Xa0.out.lt
  obtain ⟨cb00, cb01, cb02, fb00, fb01, fb02⟩ := Xb0.out.c3
  have lb0 := Xb0.out.lt
  obtain ⟨cc00, cc01, cc02, fc00, fc01, fc02⟩ := Xc0.out.c3
  have lc0 := Xc0.out.lt
  go_wp2_with fail
  clear ca00 ca01 ca02 fa00 fa01 fa02 la0 cb00 cb01 cb02 fb00 fb01 fb02 lb0 cc00 cc01 cc02 fc00 fc01 fc02 lc0
  refine Calls.mono (few3_yes Hfa.out Hga.out) ?_
  rintro e w3 ⟨v3, rfl, rfl, hb⟩
  have Ha := Lib.hid (AR.keep Ha.out (Keep.call hb))
  have Hb := Lib.hid (AR.keep Hb.out (Keep.call hb))
  have Hc := Lib.hid (AR.keep Hc.out (Keep.call hb))
  have Xa0 := Lib.hid (Box.pcall hb Xa0.out)
  have Xb0 := Lib.hid (Box.pcall hb Xb0.out)
  have Xc0 := Lib.hid (Box.pcall hb Xc0.out)
  have HB := Lib.hid (below_call HB.out hb)
  clear hb
  obtain ⟨ca00, ca01, ca02, fa00, fa01, fa02⟩ := Xa0.out.c3
  have la0 := Xa0.out.lt
  obtain ⟨cb00, cb01, cb02, fb00, fb01, fb02⟩ := Xb0.out.c3
  have lb0 := Xb0.out.lt
  obtain ⟨cc00, cc01, cc02, fc00, fc01, fc02⟩ := Xc0.out.c3
  have lc0 := Xc0.out.lt
  go_wp2_with fail
  clear ca00 ca01 ca02 fa00 fa01 fa02 la0 cb00 cb01 cb02 fb00 fb01 fb02 lb0 cc00 cc01 cc02 fc00 fc01 fc02 lc0
  refine Calls.mono (few3_yes Hfb.out Hgb.out) ?_
  rintro e w4 ⟨v4, rfl, rfl, hb⟩
  have Ha := Lib.hid (AR.keep Ha.out (Keep.call hb))
  have Hb := Lib.hid (AR.keep Hb.out (Keep.call hb))
  have Hc := Lib.hid (AR.keep Hc.out (Keep.call hb))
  have Xa0 := Lib.hid (Box.pcall hb Xa0.out)
  have Xb0 := Lib.hid (Box.pcall hb Xb0.out)
  have Xc0 := Lib.hid (Box.pcall hb Xc0.out)
  have HB := Lib.hid (below_call HB.out hb)
  clear hb
  obtain ⟨ca00, ca01, ca02, fa00, fa01, fa02⟩ := Xa0.out.c3
  have la0 := Xa0.out.lt
  obtain ⟨cb00, cb01, cb02, fb00, fb01, fb02⟩ := Xb0.out.c3
  have lb0 := Xb0.out.lt
  obtain ⟨cc00, cc01, cc02, fc00, fc01, fc02⟩ := Xc0.out.c3
  have lc0 := Xc0.out.lt
  go_wp2_with fail
  clear ca00 ca01 ca02 fa00 fa01 fa02 la0 cb00 cb01 cb02 fb00 fb01 fb02 lb0 cc00 cc01 cc02 fc00 fc01 fc02 lc0
  refine Calls.mono (few3_yes Hfc.out Hgc.out) ?_
  rintro e w5 ⟨v5, rfl, rfl, hb⟩
  have Ha := Lib.hid (AR.keep Ha.out (Keep.call hb))
  have Hb := Lib.hid (AR.keep Hb.out (Keep.call hb))
  have Hc := Lib.hid (AR.keep Hc.out (Keep.call hb))
  have Xa0 := Lib.hid (Box.pcall hb Xa0.out)
  have Xb0 := Lib.hid (Box.pcall hb Xb0.out)
  have Xc0 := Lib.hid (Box.pcall hb Xc0.out)
  have HB := Lib.hid (below_call HB.out hb)
  clear hb
  obtain ⟨ca00, ca01, ca02, fa00, fa01, fa02⟩ := Xa0.out.c3
  have la0 := Xa0.out.lt
  obtain ⟨cb00, cb01, cb02, fb00, fb01, fb02⟩ := Xb0.out.c3
  have lb0 := Xb0.out.lt
  obtain ⟨cc00, cc01, cc02, fc00, fc01, fc02⟩ := Xc0.out.c3
  have lc0 := Xc0.out.lt
  go_wp2_with fail
  clear ca00 ca01 ca02 fa00 fa01 fa02 la0 cb00 cb01 cb02 fb00 fb01 fb02 lb0 cc00 cc01 cc02 fc00 fc01 fc02 lc0
  (first | (have hcall := rcmp_ar k Ha.out Hb.out Hk.out (by decide) (by decide); refine Calls.mono hcall ?_; clear hcall) | refine Calls.mono (rcmp_ar k Ha.out Hb.out Hk.out (by decide) (by decide)) ?_)
  rintro e w6 ⟨v6, rfl, ⟨⟩, hb⟩
  have Ha := Lib.hid (AR.keep Ha.out (Keep.call hb))
  have Hb := Lib.hid (AR.keep Hb.out (Keep.call hb))
  have Hc := Lib.hid (AR.keep Hc.out (Keep.call hb))
  have Xa0 := Lib.hid (Box.pcall hb Xa0.out)
  have Xb0 := Lib.hid (Box.pcall hb Xb0.out)
  have Xc0 := Lib.hid (Box.pcall hb Xc0.out)
  have HB := Lib.hid (below_call HB.out hb)
  clear hb
  obtain ⟨ca00, ca01, ca02, fa00, fa01, fa02⟩ := Xa0.out.c3
  have la0 := Xa0.out.lt
  obtain ⟨cb00, cb01, cb02, fb00, fb01, fb02⟩ := Xb0.out.c3
  have lb0 := Xb0.out.lt
  obtain ⟨cc00, cc01, cc02, fc00, fc01, fc02⟩ := Xc0.out.c3
  have lc0 := Xc0.out.lt
  go_wp2_with fail
  clear ca00 ca01 ca02 fa00 fa01 fa02 la0 cb00 cb01 cb02 fb00 fb01 fb02 lb0 cc00 cc01 cc02 fc00 fc01 fc02 lc0
  (first | (have hcall := zcmp_ar k Ha.out Hb.out Hk.out (by decide) (by decide); refine Calls.mono hcall ?_; clear hcall) | refine Calls.mono (zcmp_ar k Ha.out Hb.out Hk.out (by decide) (by decide)) ?_)
  rintro e w7 ⟨v7, rfl, ⟨⟩, hb⟩
  have Ha := Lib.hid (AR.keep Ha.out (Keep.call hb))
  have Hb := Lib.hid (AR.keep Hb.out (Keep.call hb))
  have Hc := Lib.hid (AR.keep Hc.out (Keep.call hb))
  have Xa0 := Lib.hid (Box.pcall hb Xa0.out)
  have Xb0 := Lib.hid (Box.pcall hb Xb0.out)
  have Xc0 := Lib.hid (Box.pcall hb Xc0.out)
  have HB := Lib.hid (below_call HB.out hb)
  clear hb
  obtain ⟨ca00, ca01, ca02, fa00, fa01, fa02⟩ := Xa0.out.c3
  have la0 := Xa0.out.lt
  obtain ⟨cb00, cb01, cb02, fb00, fb01, fb02⟩ := Xb0.out.c3
  have lb0 := Xb0.out.lt
  obtain ⟨cc00, cc01, cc02, fc00, fc01, fc02⟩ := Xc0.out.c3
  have lc0 := Xc0.out.lt
  go_wp2_with fail
  clear ca00 ca01 ca02 fa00 fa01 fa02 la0 cb00 cb01 cb02 fb00 fb01 fb02 lb0 cc00 cc01 cc02 fc00 fc01 fc02 lc0
  (first | (have hcall := rcmp_ar (-k) Hb.out Ha.out (cmpQ_neg Hk.out) (by decide) (by decide); refine Calls.mono hcall ?_; clear hcall) | refine Calls.mono (rcmp_ar (-k) Hb.out Ha.out (cmpQ_neg Hk.out) (by decide) (by decide)) ?_)
  rintro e w8 ⟨v8, rfl, ⟨⟩, hb⟩
  have Ha := Lib.hid (AR.keep Ha.out (Keep.call hb))
  have Hb := Lib.hid (AR.keep Hb.out (Keep.call hb))
  have Hc := Lib.hid (AR.keep Hc.out (Keep.call hb))
  have Xa0 := Lib.hid (Box.pcall hb Xa0.out)
  have Xb0 := Lib.hid (Box.pcall hb Xb0.out)
  have Xc0 := Lib.hid (Box.pcall hb Xc0.out)
  have HB := Lib.hid (below_call HB.out hb)
  clear hb
  obtain ⟨ca00, ca01, ca02, fa00, fa01, fa02⟩ := Xa0.out.c3
  have la0 := Xa0.out.lt
  obtain ⟨cb00, cb01, cb02, fb00, fb01, fb02⟩ := Xb0.out.c3
  have lb0 := Xb0.out.lt
  obtain ⟨cc00, cc01, cc02, fc00, fc01, fc02⟩ := Xc0.out.c3
  have lc0 := Xc0.out.lt
  go_wp2_with fail
  clear ca00 ca01 ca02 fa00 fa01 fa02 la0 cb00 cb01 cb02 fb00 fb01 fb02 lb0 cc00 cc01 cc02 fc00 fc01 fc02 lc0
  (first | (have hcall := rcmp_ar m Hb.out Hc.out Hm.out (by decide) (by decide); refine Calls.mono hcall ?_; clear hcall) | refine Calls.mono (rcmp_ar m Hb.out Hc.out Hm.out (by decide) (by decide)) ?_)
  rintro e w9 ⟨v9, rfl, ⟨⟩, hb⟩
  have Ha := Lib.hid (AR.keep Ha.out (Keep.call hb))
  have Hb := Lib.hid (AR.keep Hb.out (Keep.call hb))
  have Hc := Lib.hid (AR.keep Hc.out (Keep.call hb))
  have Xa0 := Lib.hid (Box.pcall hb Xa0.out)
  have Xb0 := Lib.hid (Box.pcall hb Xb0.out)
  have Xc0 := Lib.hid (Box.pcall hb Xc0.out)
  have HB := Lib.hid (below_call HB.out hb)
  clear hb
  obtain ⟨ca00, ca01, ca02, fa00, fa01, fa02⟩ := Xa0.out.c3
  have la0 := Xa0.out.lt
  obtain ⟨cb00, cb01, cb02, fb00, fb01, fb02⟩ := Xb0.out.c3
  have lb0 := Xb0.out.lt
  obtain ⟨cc00, cc01, cc02, fc00, fc01, fc02⟩ := Xc0.out.c3
  have lc0 := Xc0.out.lt
  go_wp2_with fail
  clear ca00 ca01 ca02 fa00 fa01 fa02 la0 cb00 cb01 cb02 fb00 fb01 fb02 lb0 cc00 cc01 cc02 fc00 fc01 fc02 lc0
  have Ha := Lib.hid (AR.keep Ha.out (Keep.drew w9))
  have Hb := Lib.hid (AR.keep Hb.out (Keep.drew w9))
  have Hc := Lib.hid (AR.keep Hc.out (Keep.drew w9))
  have Xa0 := Lib.hid (Box.drew Xa0.out)
  have Xb0 := Lib.hid (Box.drew Xb0.out)
  have Xc0 := Lib.hid (Box.drew Xc0.out)
  have HB := Lib.hid (Below.drew HB.out)
  refine wp_region_float [] [] (by kernel_rfl) (by kernel_rfl) 96 (by kernel_rfl) Flok.nil ?_
  intro ok
  have Hok := Lib.hid ok
  clear ok
  have HG := Lib.hid (Below.refl (w9.drew).heap.size (w9.drew))
  refine good_pureX 0 (some 55) (Go.Op.load 25 (Go.Operand.tmp 3)) (none) (.agg #[.bool ba, .slice sa na ca, .slice ta ma ea]) (by kernel_rfl) (by kernel_rfl) (by kernel_rfl) (fun _ _ _ h => h) (fun w' hw' => ?_) ?_
  · obtain ⟨ca00, ca01, ca02, fa00, fa01, fa02⟩ := (Box.se hw' Xa0.out notin0).c3
    first | (go_simp; done) | (go_simp; simp_all; done) | (go_simp; rfl)
  simp only [Act.put, List.setIfInBounds_toArray, List.set_cons_zero, List.set_cons_succ]
  refine good_pureX 1 (some 56) (Go.Op.load 25 (Go.Operand.tmp 4)) (none) (.agg #[.bool bb, .slice sb nb cb, .slice tb mb eb]) (by kernel_rfl) (by kernel_rfl) (by kernel_rfl) (fun _ _ _ h => h) (fun w' hw' => ?_) ?_
  · obtain ⟨cb00, cb01, cb02, fb00, fb01, fb02⟩ := (Box.se hw' Xb0.out notin0).c3
    first | (go_simp; done) | (go_simp; simp_all; done) | (go_simp; rfl)
  simp only [Act.put, List.setIfInBounds_toArray, List.set_cons_zero, List.set_cons_succ]
  refine good_pureX 3 (some 58) (Go.Op.load 25 (Go.Operand.tmp 3)) (none) (.agg #[.bool ba, .slice sa na ca, .slice ta ma ea]) (by kernel_rfl) (by kernel_rfl) (by kernel_rfl) (fun _ _ _ h => h) (fun w' hw' => ?_) ?_
  · obtain ⟨ca00, ca01, ca02, fa00, fa01, fa02⟩ := (Box.se hw' Xa0.out notin0).c3
    first | (go_simp; done) | (go_simp; simp_all; done) | (go_simp; rfl)
  simp only [Act.put, List.setIfInBounds_toArray, List.set_cons_zero, List.set_cons_succ]
  refine good_pureX 4 (some 59) (Go.Op.load 25 (Go.Operand.tmp 4)) (none) (.agg #[.bool bb, .slice sb nb cb, .slice tb mb eb]) (by kernel_rfl) (by kernel_rfl) (by kernel_rfl) (fun _ _ _ h => h) (fun w' hw' => ?_) ?_
  · obtain ⟨cb00, cb01, cb02, fb00, fb01, fb02⟩ := (Box.se hw' Xb0.out notin0).c3
    first | (go_simp; done) | (go_simp; simp_all; done) | (go_simp; rfl)
  simp only [Act.put, List.setIfInBounds_toArray, List.set_cons_zero, List.set_cons_succ]
  refine good_callX 2 50 (some 57) #[Go.Operand.tmp 55, Go.Operand.tmp 56] #[25, 25] (none) #[.agg #[.bool ba, .slice sa na ca, .slice ta ma ea], .agg #[.bool bb, .slice sb nb cb, .slice tb mb eb]] (by kernel_rfl) Hok.out (by kernel_rfl) (by kernel_rfl) (by kernel_rfl) (by kernel_rfl) rfl rfl rfl (by kernel_rfl) (fun w10 hb => ?_)
  have HG := Lib.hid (below_call HG.out hb)
  clear hb
  (first | (have hcall := rmin_ar (AR.keep Ha.out (Keep.call HG.out)) (AR.keep Hb.out (Keep.call HG.out)) (by decide) (by decide); refine Calls.mono hcall ?_; clear hcall) | refine Calls.mono (rmin_ar (AR.keep Ha.out (Keep.call HG.out)) (AR.keep Hb.out (Keep.call HG.out)) (by decide) (by decide)) ?_)
  rintro e w11 ⟨v11, rfl, hv1, hb⟩
  obtain ⟨v1_b, v1_a, v1_n, v1_c, v1_d, v1_m, v1_e, rfl⟩ := hv1.litb
  refine ⟨_, rfl, ?_, hb⟩
  have HG := Lib.hid (below_call HG.out hb)
  have Hv1 := Lib.hid hv1
  clear hb hv1
  simp only [Act.put, List.setIfInBounds_toArray, List.set_cons_zero, List.set_cons_succ]
  refine good_callX 5 51 (some 60) #[Go.Operand.tmp 58, Go.Operand.tmp 59] #[25, 25] (none) #[.agg #[.bool ba, .slice sa na ca, .slice ta ma ea], .agg #[.bool bb, .slice sb nb cb, .slice tb mb eb]] (by kernel_rfl) Hok.out (by kernel_rfl) (by kernel_rfl) (by kernel_rfl) (by kernel_rfl) rfl rfl rfl (by kernel_rfl) (fun w12 hb => ?_)
  have Hv1 := Lib.hid (CR.keep Hv1.out (Keep.call hb))
  have HG := Lib.hid (below_call HG.out hb)
  clear hb
  (first | (have hcall := zmin_ar (AR.keep Ha.out (Keep.call HG.out)) (AR.keep Hb.out (Keep.call HG.out)) (by decide) (by decide); refine Calls.mono hcall ?_; clear hcall) | refine Calls.mono (zmin_ar (AR.keep Ha.out (Keep.call HG.out)) (AR.keep Hb.out (Keep.call HG.out)) (by decide) (by decide)) ?_)
  rintro e w13 ⟨v13, rfl, hv2, hb⟩
  obtain ⟨v2_b, v2_a, v2_n, v2_c, v2_d, v2_m, v2_e, rfl⟩ := hv2.litb
  refine ⟨_, rfl, ?_, hb⟩
  have Hv1 := Lib.hid (CR.keep Hv1.out (Keep.call hb))
  have HG := Lib.hid (below_call HG.out hb)
  have Hv2 := Lib.hid hv2
  clear hb hv2
  simp only [Act.put, List.setIfInBounds_toArray, List.set_cons_zero, List.set_cons_succ]
  refine good_callX 6 15 (some 61) #[Go.Operand.tmp 57, Go.Operand.tmp 60] #[25, 25] (none) #[.agg #[.bool v1_b, .slice v1_a v1_n v1_c, .slice v1_d v1_m v1_e], .agg #[.bool v2_b, .slice v2_a v2_n v2_c, .slice v2_d v2_m v2_e]] (by kernel_rfl) Hok.out (by kernel_rfl) (by kernel_rfl) (by kernel_rfl) (by kernel_rfl) rfl rfl rfl (by kernel_rfl) (fun w14 hb => ?_)
  have Hv1 := Lib.hid (CR.keep Hv1.out (Keep.call hb))
  have Hv2 := Lib.hid (CR.keep Hv2.out (Keep.call hb))
  have HG := Lib.hid (below_call HG.out hb)
  clear hb
  (first | (have hcall := zsame_cr Hv1.out Hv2.out (rfl); refine Calls.mono hcall ?_; clear hcall) | refine Calls.mono (zsame_cr Hv1.out Hv2.out (rfl)) ?_)
  rintro e w15 ⟨v15, rfl, rfl, hb⟩
  refine ⟨_, rfl, ?_, hb⟩
  have HG := Lib.hid (below_call HG.out hb)
  clear hb
  simp only [Act.put, List.setIfInBounds_toArray, List.set_cons_zero, List.set_cons_succ]
  refine good_pureX 7 (some 62) (Go.Op.unOp Go.UnOp.not 4 (Go.Operand.tmp 61)) (none) (.bool false) (by kernel_rfl) (by kernel_rfl) (by kernel_rfl) (fun _ _ _ h => h) (fun w' hw' => ?_) ?_
  · first | (go_simp; done) | (go_simp; simp_all; done) | (go_simp; rfl)
  simp only [Act.put, List.setIfInBounds_toArray, List.set_cons_zero, List.set_cons_succ]
  refine good_pureX 8 (some 63) (Go.Op.move (Go.Operand.tmp 62)) (none) (.bool false) (by kernel_rfl) (by kernel_rfl) (by kernel_rfl) (fun _ _ _ h => h) (fun w' hw' => ?_) ?_
  · first | (go_simp; done) | (go_simp; simp_all; done) | (go_simp; rfl)
  simp only [Act.put, List.setIfInBounds_toArray, List.set_cons_zero, List.set_cons_succ]
  refine good_pureX 9 (some 64) (Go.Op.load 25 (Go.Operand.tmp 3)) (some (8, false)) (.agg #[.bool ba, .slice sa na ca, .slice ta ma ea]) (by kernel_rfl) (by kernel_rfl) (by kernel_rfl) (fun _ _ _ h => h) (fun w' hw' => ?_) ?_
  · obtain ⟨ca00, ca01, ca02, fa00, fa01, fa02⟩ := (Box.se hw' Xa0.out notin0).c3
    first | (go_simp; done) | (go_simp; simp_all; done) | (go_simp; rfl)
  simp only [Act.put, List.setIfInBounds_toArray, List.set_cons_zero, List.set_cons_succ]
  refine good_pureX 10 (some 65) (Go.Op.load 25 (Go.Operand.tmp 4)) (some (8, false)) (.agg #[.bool bb, .slice sb nb cb, .slice tb mb eb]) (by kernel_rfl) (by kernel_rfl) (by kernel_rfl) (fun _ _ _ h => h) (fun w' hw' => ?_) ?_
  · obtain ⟨cb00, cb01, cb02, fb00, fb01, fb02⟩ := (Box.se hw' Xb0.out notin0).c3
    first | (go_simp; done) | (go_simp; simp_all; done) | (go_simp; rfl)
  simp only [Act.put, List.setIfInBounds_toArray, List.set_cons_zero, List.set_cons_succ]
  refine good_pureX 12 (some 67) (Go.Op.load 25 (Go.Operand.tmp 3)) (some (8, false)) (.agg #[.bool ba, .slice sa na ca, .slice ta ma ea]) (by kernel_rfl) (by kernel_rfl) (by kernel_rfl) (fun _ _ _ h => h) (fun w' hw' => ?_) ?_
  · obtain ⟨ca00, ca01, ca02, fa00, fa01, fa02⟩ := (Box.se hw' Xa0.out notin0).c3
    first | (go_simp; done) | (go_simp; simp_all; done) | (go_simp; rfl)
  simp only [Act.put, List.setIfInBounds_toArray, List.set_cons_zero, List.set_cons_succ]
  refine good_pureX 13 (some 68) (Go.Op.load 25 (Go.Operand.tmp 4)) (some (8, false)) (.agg #[.bool bb, .slice sb nb cb, .slice tb mb eb]) (by kernel_rfl) (by kernel_rfl) (by kernel_rfl) (fun _ _ _ h => h) (fun w' hw' => ?_) ?_
  · obtain ⟨cb00, cb01, cb02, fb00, fb01, fb02⟩ := (Box.se hw' Xb0.out notin0).c3
    first | (go_simp; done) | (go_simp; simp_all; done) | (go_simp; rfl)
  simp only [Act.put, List.setIfInBounds_toArray, List.set_cons_zero, List.set_cons_succ]
  refine good_callX 11 52 (some 66) #[Go.Operand.tmp 64, Go.Operand.tmp 65] #[25, 25] (some (8, false)) #[.agg #[.bool ba, .slice sa na ca, .slice ta ma ea], .agg #[.bool bb, .slice sb nb cb, .slice tb mb eb]] (by kernel_rfl) Hok.out (by kernel_rfl) (by kernel_rfl) (by kernel_rfl) (by kernel_rfl) rfl rfl rfl (by kernel_rfl) (fun w16 hb => ?_)
  have HG := Lib.hid (below_call HG.out hb)
  clear hb
  (first | (have hcall := rmax_ar (AR.keep Ha.out (Keep.call HG.out)) (AR.keep Hb.out (Keep.call HG.out)) (by decide) (by decide); refine Calls.mono hcall ?_; clear hcall) | refine Calls.mono (rmax_ar (AR.keep Ha.out (Keep.call HG.out)) (AR.keep Hb.out (Keep.call HG.out)) (by decide) (by decide)) ?_)
  rintro e w17 ⟨v17, rfl, hv3, hb⟩
  obtain ⟨v3_b, v3_a, v3_n, v3_c, v3_d, v3_m, v3_e, rfl⟩ := hv3.litb
  refine ⟨_, rfl, ?_, hb⟩
  have HG := Lib.hid (below_call HG.out hb)
  have Hv3 := Lib.hid hv3
  clear hb hv3
  simp only [Act.put, List.setIfInBounds_toArray, List.set_cons_zero, List.set_cons_succ]
  refine good_callX 14 53 (some 69) #[Go.Operand.tmp 67, Go.Operand.tmp 68] #[25, 25] (some (8, false)) #[.agg #[.bool ba, .slice sa na ca, .slice ta ma ea], .agg #[.bool bb, .slice sb nb cb, .slice tb mb eb]] (by kernel_rfl) Hok.out (by kernel_rfl) (by kernel_rfl) (by kernel_rfl) (by kernel_rfl) rfl rfl rfl (by kernel_rfl) (fun w18 hb => ?_)
  have Hv3 := Lib.hid (CR.keep Hv3.out (Keep.call hb))
  have HG := Lib.hid (below_call HG.out hb)
  clear hb
  (first | (have hcall := zmax_ar (AR.keep Ha.out (Keep.call HG.out)) (AR.keep Hb.out (Keep.call HG.out)) (by decide) (by decide); refine Calls.mono hcall ?_; clear hcall) | refine Calls.mono (zmax_ar (AR.keep Ha.out (Keep.call HG.out)) (AR.keep Hb.out (Keep.call HG.out)) (by decide) (by decide)) ?_)
  rintro e w19 ⟨v19, rfl, hv4, hb⟩
  obtain ⟨v4_b, v4_a, v4_n, v4_c, v4_d, v4_m, v4_e, rfl⟩ := hv4.litb
  refine ⟨_, rfl, ?_, hb⟩
  have Hv3 := Lib.hid (CR.keep Hv3.out (Keep.call hb))
  have HG := Lib.hid (below_call HG.out hb)
  have Hv4 := Lib.hid hv4
  clear hb hv4
  simp only [Act.put, List.setIfInBounds_toArray, List.set_cons_zero, List.set_cons_succ]
  refine good_callX 15 15 (some 70) #[Go.Operand.tmp 66, Go.Operand.tmp 69] #[25, 25] (some (8, false)) #[.agg #[.bool v3_b, .slice v3_a v3_n v3_c, .slice v3_d v3_m v3_e], .agg #[.bool v4_b, .slice v4_a v4_n v4_c, .slice v4_d v4_m v4_e]] (by kernel_rfl) Hok.out (by kernel_rfl) (by kernel_rfl) (by kernel_rfl) (by kernel_rfl) rfl rfl rfl (by kernel_rfl) (fun w20 hb => ?_)
  have Hv3 := Lib.hid (CR.keep Hv3.out (Keep.call hb))
  have Hv4 := Lib.hid (CR.keep Hv4.out (Keep.call hb))
  have HG := Lib.hid (below_call HG.out hb)
  clear hb
  (first | (have hcall := zsame_cr Hv3.out Hv4.out (rfl); refine Calls.mono hcall ?_; clear hcall) | refine Calls.mono (zsame_cr Hv3.out Hv4.out (rfl)) ?_)
  rintro e w21 ⟨v21, rfl, rfl, hb⟩
  refine ⟨_, rfl, ?_, hb⟩
  have HG := Lib.hid (below_call HG.out hb)
  clear hb
  simp only [Act.put, List.setIfInBounds_toArray, List.set_cons_zero, List.set_cons_succ]
  refine good_pureX 16 (some 71) (Go.Op.unOp Go.UnOp.not 4 (Go.Operand.tmp 70)) (some (8, false)) (.bool false) (by kernel_rfl) (by kernel_rfl) (by kernel_rfl) (fun _ _ _ h => h) (fun w' hw' => ?_) ?_
  · first | (go_simp; done) | (go_simp; simp_all; done) | (go_simp; rfl)
  simp only [Act.put, List.setIfInBounds_toArray, List.set_cons_zero, List.set_cons_succ]
  refine good_pureX 17 (some 72) (Go.Op.pick (Go.Operand.tmp 63) (Go.Operand.const (Go.Value.bool true)) (Go.Operand.tmp 71)) (none) (.bool false) (by kernel_rfl) (by kernel_rfl) (by kernel_rfl) (fun _ _ _ h => h) (fun w' hw' => ?_) ?_
  · first | (go_simp; done) | (go_simp; simp_all; done) | (go_simp; rfl)
  simp only [Act.put, List.setIfInBounds_toArray, List.set_cons_zero, List.set_cons_succ]
  refine good_end0 0 (by kernel_rfl) (fun _ w22 hb => ?_)
  have HG := Lib.hid (below_call HG.out hb)
  clear hb
  have Ha := Lib.hid (AR.keep Ha.out (Keep.call HG.out))
  have Hb := Lib.hid (AR.keep Hb.out (Keep.call HG.out))
  have Hc := Lib.hid (AR.keep Hc.out (Keep.call HG.out))
  have Xa0 := Lib.hid (Box.pcall HG.out Xa0.out)
  have Xb0 := Lib.hid (Box.pcall HG.out Xb0.out)
  have Xc0 := Lib.hid (Box.pcall HG.out Xc0.out)
  have HB := Lib.hid (below_call HB.out HG.out)
  have HS := Lib.hid (SE.of (E := []) HG.out)
  refine wpAnyH_done (by kernel_rfl) ?_ _
  clear HG HS Hok 
  obtain ⟨ca00, ca01, ca02, fa00, fa01, fa02⟩ := Xa0.out.c3
  have la0 := Xa0.out.lt
  obtain ⟨cb00, cb01, cb02, fb00, fb01, fb02⟩ := Xb0.out.c3
  have lb0 := Xb0.out.lt
  obtain ⟨cc00, cc01, cc02, fc00, fc01, fc02⟩ := Xc0.out.c3
  have lc0 := Xc0.out.lt
  go_wp2_with fail
  clear ca00 ca01 ca02 fa00 fa01 fa02 la0 cb00 cb01 cb02 fb00 fb01 fb02 lb0 cc00 cc01 cc02 fc00 fc01 fc02 lc0
  have Ha := Lib.hid (AR.keep Ha.out (Keep.drew w22))
  have Hb := Lib.hid (AR.keep Hb.out (Keep.drew w22))
  have Hc := Lib.hid (AR.keep Hc.out (Keep.drew w22))
  have Xa0 := Lib.hid (Box.drew Xa0.out)
  have Xb0 := Lib.hid (Box.drew Xb0.out)
  have Xc0 := Lib.hid (Box.drew Xc0.out)
  have HB := Lib.hid (Below.drew HB.out)
  refine wp_region_float [] [] (by kernel_rfl) (by kernel_rfl) 96 (by kernel_rfl) Flok.nil ?_
  intro ok
  have Hok := Lib.hid ok
  clear ok
  have HG := Lib.hid (Below.refl (w22.drew).heap.size (w22.drew))
  refine good_pureX 0 (some 73) (Go.Op.load 25 (Go.Operand.tmp 3)) (none) (.agg #[.bool ba, .slice sa na ca, .slice ta ma ea]) (by kernel_rfl) (by kernel_rfl) (by kernel_rfl) (fun _ _ _ h => h) (fun w' hw' => ?_) ?_
  · obtain ⟨ca00, ca01, ca02, fa00, fa01, fa02⟩ := (Box.se hw' Xa0.out notin0).c3
    first | (go_simp; done) | (go_simp; simp_all; done) | (go_simp; rfl)
  simp only [Act.put, List.setIfInBounds_toArray, List.set_cons_zero, List.set_cons_succ]
  refine good_pureX 1 (some 74) (Go.Op.load 25 (Go.Operand.tmp 5)) (none) (.agg #[.bool bc, .slice sc nc cc, .slice tc mc ec]) (by kernel_rfl) (by kernel_rfl) (by kernel_rfl) (fun _ _ _ h => h) (fun w' hw' => ?_) ?_
  · obtain ⟨cc00, cc01, cc02, fc00, fc01, fc02⟩ := (Box.se hw' Xc0.out notin0).c3
    first | (go_simp; done) | (go_simp; simp_all; done) | (go_simp; rfl)
  simp only [Act.put, List.setIfInBounds_toArray, List.set_cons_zero, List.set_cons_succ]
  refine good_pureX 3 (some 76) (Go.Op.load 25 (Go.Operand.tmp 4)) (none) (.agg #[.bool bb, .slice sb nb cb, .slice tb mb eb]) (by kernel_rfl) (by kernel_rfl) (by kernel_rfl) (fun _ _ _ h => h) (fun w' hw' => ?_) ?_
  · obtain ⟨cb00, cb01, cb02, fb00, fb01, fb02⟩ := (Box.se hw' Xb0.out notin0).c3
    first | (go_simp; done) | (go_simp; simp_all; done) | (go_simp; rfl)
  simp only [Act.put, List.setIfInBounds_toArray, List.set_cons_zero, List.set_cons_succ]
  refine good_pureX 4 (some 77) (Go.Op.load 25 (Go.Operand.tmp 5)) (none) (.agg #[.bool bc, .slice sc nc cc, .slice tc mc ec]) (by kernel_rfl) (by kernel_rfl) (by kernel_rfl) (fun _ _ _ h => h) (fun w' hw' => ?_) ?_
  · obtain ⟨cc00, cc01, cc02, fc00, fc01, fc02⟩ := (Box.se hw' Xc0.out notin0).c3
    first | (go_simp; done) | (go_simp; simp_all; done) | (go_simp; rfl)
  simp only [Act.put, List.setIfInBounds_toArray, List.set_cons_zero, List.set_cons_succ]
  refine good_pureX 7 (some 80) (Go.Op.move (Go.Operand.tmp 7)) (none) (.int .i64 k) (by kernel_rfl) (by kernel_rfl) (by kernel_rfl) (fun _ _ _ h => h) (fun w' hw' => ?_) ?_
  · first | (go_simp; done) | (go_simp; simp_all; done) | (go_simp; rfl)
  simp only [Act.put, List.setIfInBounds_toArray, List.set_cons_zero, List.set_cons_succ]
  refine good_callX 2 14 (some 75) #[Go.Operand.tmp 73, Go.Operand.tmp 74] #[25, 25] (none) #[.agg #[.bool ba, .slice sa na ca, .slice ta ma ea], .agg #[.bool bc, .slice sc nc cc, .slice tc mc ec]] (by kernel_rfl) Hok.out (by kernel_rfl) (by kernel_rfl) (by kernel_rfl) (by kernel_rfl) rfl rfl rfl (by kernel_rfl) (fun w23 hb => ?_)
  have HG := Lib.hid (below_call HG.out hb)
  clear hb
  (first | (have hcall := radd_ar (AR.keep Ha.out (Keep.call HG.out)) (AR.keep Hc.out (Keep.call HG.out)) (by decide) (by decide); refine Calls.mono hcall ?_; clear hcall) | refine Calls.mono (radd_ar (AR.keep Ha.out (Keep.call HG.out)) (AR.keep Hc.out (Keep.call HG.out)) (by decide) (by decide)) ?_)
  rintro e w24 ⟨v24, rfl, hu1, hb⟩
  obtain ⟨u1_b, u1_a, u1_n, u1_c, u1_d, u1_m, u1_e, rfl⟩ := hu1.litb
  refine ⟨_, rfl, ?_, hb⟩
  have HG := Lib.hid (below_call HG.out hb)
  have Hu1 := Lib.hid hu1
  clear hb hu1
  simp only [Act.put, List.setIfInBounds_toArray, List.set_cons_zero, List.set_cons_succ]
  refine good_callX 5 14 (some 78) #[Go.Operand.tmp 76, Go.Operand.tmp 77] #[25, 25] (none) #[.agg #[.bool bb, .slice sb nb cb, .slice tb mb eb], .agg #[.bool bc, .slice sc nc cc, .slice tc mc ec]] (by kernel_rfl) Hok.out (by kernel_rfl) (by kernel_rfl) (by kernel_rfl) (by kernel_rfl) rfl rfl rfl (by kernel_rfl) (fun w25 hb => ?_)
  have Hu1 := Lib.hid (CR.keep Hu1.out (Keep.call hb))
  have HG := Lib.hid (below_call HG.out hb)
  clear hb
  (first | (have hcall := radd_ar (AR.keep Hb.out (Keep.call HG.out)) (AR.keep Hc.out (Keep.call HG.out)) (by decide) (by decide); refine Calls.mono hcall ?_; clear hcall) | refine Calls.mono (radd_ar (AR.keep Hb.out (Keep.call HG.out)) (AR.keep Hc.out (Keep.call HG.out)) (by decide) (by decide)) ?_)
  rintro e w26 ⟨v26, rfl, hu2, hb⟩
  obtain ⟨u2_b, u2_a, u2_n, u2_c, u2_d, u2_m, u2_e, rfl⟩ := hu2.litb
  refine ⟨_, rfl, ?_, hb⟩
  have Hu1 := Lib.hid (CR.keep Hu1.out (Keep.call hb))
  have HG := Lib.hid (below_call HG.out hb)
  have Hu2 := Lib.hid hu2
  clear hb hu2
  simp only [Act.put, List.setIfInBounds_toArray, List.set_cons_zero, List.set_cons_succ]
  refine good_callX 6 49 (some 79) #[Go.Operand.tmp 75, Go.Operand.tmp 78] #[25, 25] (none) #[.agg #[.bool u1_b, .slice u1_a u1_n u1_c, .slice u1_d u1_m u1_e], .agg #[.bool u2_b, .slice u2_a u2_n u2_c, .slice u2_d u2_m u2_e]] (by kernel_rfl) Hok.out (by kernel_rfl) (by kernel_rfl) (by kernel_rfl) (by kernel_rfl) rfl rfl rfl (by kernel_rfl) (fun w27 hb => ?_)
  have Hu1 := Lib.hid (CR.keep Hu1.out (Keep.call hb))
  have Hu2 := Lib.hid (CR.keep Hu2.out (Keep.call hb))
  have HG := Lib.hid (below_call HG.out hb)
  clear hb
  (first | (have hcall := rcmp_ar k Hu1.out.ar Hu2.out.ar (cmpQ_addr Hk.out) (by decide) (by decide); refine Calls.mono hcall ?_; clear hcall) | refine Calls.mono (rcmp_ar k Hu1.out.ar Hu2.out.ar (cmpQ_addr Hk.out) (by decide) (by decide)) ?_)
  rintro e w28 ⟨v28, rfl, ⟨⟩, hb⟩
  refine ⟨_, rfl, ?_, hb⟩
  have HG := Lib.hid (below_call HG.out hb)
  clear hb
  simp only [Act.put, List.setIfInBounds_toArray, List.set_cons_zero, List.set_cons_succ]
  refine good_pureX 8 (some 81) (Go.Op.binOp Go.BinOp.eql 3 (Go.Operand.tmp 79) (Go.Operand.tmp 80) 3) (none) (.bool true) (by kernel_rfl) (by kernel_rfl) (by kernel_rfl) (fun _ _ _ h => h) (fun w' hw' => ?_) ?_
  · first | (go_simp; done) | (go_simp; simp_all; done) | (go_simp; rfl)
  simp only [Act.put, List.setIfInBounds_toArray, List.set_cons_zero, List.set_cons_succ]
  refine good_pureX 9 (some 82) (Go.Op.move (Go.Operand.tmp 81)) (none) (.bool true) (by kernel_rfl) (by kernel_rfl) (by kernel_rfl) (fun _ _ _ h => h) (fun w' hw' => ?_) ?_
  · first | (go_simp; done) | (go_simp; simp_all; done) | (go_simp; rfl)
  simp only [Act.put, List.setIfInBounds_toArray, List.set_cons_zero, List.set_cons_succ]
  refine good_pureX 10 (some 83) (Go.Op.load 25 (Go.Operand.tmp 3)) (some (9, true)) (.agg #[.bool ba, .slice sa na ca, .slice ta ma ea]) (by kernel_rfl) (by kernel_rfl) (by kernel_rfl) (fun _ _ _ h => h) (fun w' hw' => ?_) ?_
  · obtain ⟨ca00, ca01, ca02, fa00, fa01, fa02⟩ := (Box.se hw' Xa0.out notin0).c3
    first | (go_simp; done) | (go_simp; simp_all; done) | (go_simp; rfl)
  simp only [Act.put, List.setIfInBounds_toArray, List.set_cons_zero, List.set_cons_succ]
  refine good_pureX 11 (some 84) (Go.Op.load 25 (Go.Operand.tmp 5)) (some (9, true)) (.agg #[.bool bc, .slice sc nc cc, .slice tc mc ec]) (by kernel_rfl) (by kernel_rfl) (by kernel_rfl) (fun _ _ _ h => h) (fun w' hw' => ?_) ?_
  · obtain ⟨cc00, cc01, cc02, fc00, fc01, fc02⟩ := (Box.se hw' Xc0.out notin0).c3
    first | (go_simp; done) | (go_simp; simp_all; done) | (go_simp; rfl)
  simp only [Act.put, List.setIfInBounds_toArray, List.set_cons_zero, List.set_cons_succ]
  refine good_pureX 13 (some 86) (Go.Op.load 25 (Go.Operand.tmp 4)) (some (9, true)) (.agg #[.bool bb, .slice sb nb cb, .slice tb mb eb]) (by kernel_rfl) (by kernel_rfl) (by kernel_rfl) (fun _ _ _ h => h) (fun w' hw' => ?_) ?_
  · obtain ⟨cb00, cb01, cb02, fb00, fb01, fb02⟩ := (Box.se hw' Xb0.out notin0).c3
    first | (go_simp; done) | (go_simp; simp_all; done) | (go_simp; rfl)
  simp only [Act.put, List.setIfInBounds_toArray, List.set_cons_zero, List.set_cons_succ]
  refine good_pureX 14 (some 87) (Go.Op.load 25 (Go.Operand.tmp 5)) (some (9, true)) (.agg #[.bool bc, .slice sc nc cc, .slice tc mc ec]) (by kernel_rfl) (by kernel_rfl) (by kernel_rfl) (fun _ _ _ h => h) (fun w' hw' => ?_) ?_
  · obtain ⟨cc00, cc01, cc02, fc00, fc01, fc02⟩ := (Box.se hw' Xc0.out notin0).c3
    first | (go_simp; done) | (go_simp; simp_all; done) | (go_simp; rfl)
  simp only [Act.put, List.setIfInBounds_toArray, List.set_cons_zero, List.set_cons_succ]
  refine good_pureX 17 (some 90) (Go.Op.move (Go.Operand.tmp 7)) (some (9, true)) (.int .i64 k) (by kernel_rfl) (by kernel_rfl) (by kernel_rfl) (fun _ _ _ h => h) (fun w' hw' => ?_) ?_
  · first | (go_simp; done) | (go_simp; simp_all; done) | (go_simp; rfl)
  simp only [Act.put, List.setIfInBounds_toArray, List.set_cons_zero, List.set_cons_succ]
  refine good_pureX 18 (some 91) (Go.Op.load 25 (Go.Operand.tmp 5)) (some (9, true)) (.agg #[.bool bc, .slice sc nc cc, .slice tc mc ec]) (by kernel_rfl) (by kernel_rfl) (by kernel_rfl) (fun _ _ _ h => h) (fun w' hw' => ?_) ?_
  · obtain ⟨cc00, cc01, cc02, fc00, fc01, fc02⟩ := (Box.se hw' Xc0.out notin0).c3
    first | (go_simp; done) | (go_simp; simp_all; done) | (go_simp; rfl)
  simp only [Act.put, List.setIfInBounds_toArray, List.set_cons_zero, List.set_cons_succ]
  refine good_callX 12 33 (some 85) #[Go.Operand.tmp 83, Go.Operand.tmp 84] #[25, 25] (some (9, true)) #[.agg #[.bool ba, .slice sa na ca, .slice ta ma ea], .agg #[.bool bc, .slice sc nc cc, .slice tc mc ec]] (by kernel_rfl) Hok.out (by kernel_rfl) (by kernel_rfl) (by kernel_rfl) (by kernel_rfl) rfl rfl rfl (by kernel_rfl) (fun w29 hb => ?_)
  have HG := Lib.hid (below_call HG.out hb)
  clear hb
  (first | (have hcall := rmul_ar (AR.keep Ha.out (Keep.call HG.out)) (AR.keep Hc.out (Keep.call HG.out)) (by decide) (by decide); refine Calls.mono hcall ?_; clear hcall) | refine Calls.mono (rmul_ar (AR.keep Ha.out (Keep.call HG.out)) (AR.keep Hc.out (Keep.call HG.out)) (by decide) (by decide)) ?_)
  rintro e w30 ⟨v30, rfl, hu3, hb⟩
  obtain ⟨u3_b, u3_a, u3_n, u3_c, u3_d, u3_m, u3_e, rfl⟩ := hu3.litb
  refine ⟨_, rfl, ?_, hb⟩
  have HG := Lib.hid (below_call HG.out hb)
  have Hu3 := Lib.hid hu3
  clear hb hu3
  simp only [Act.put, List.setIfInBounds_toArray, List.set_cons_zero, List.set_cons_succ]
  refine good_callX 15 33 (some 88) #[Go.Operand.tmp 86, Go.Operand.tmp 87] #[25, 25] (some (9, true)) #[.agg #[.bool bb, .slice sb nb cb, .slice tb mb eb], .agg #[.bool bc, .slice sc nc cc, .slice tc mc ec]] (by kernel_rfl) Hok.out (by kernel_rfl) (by kernel_rfl) (by kernel_rfl) (by kernel_rfl) rfl rfl rfl (by kernel_rfl) (fun w31 hb => ?_)
  have Hu3 := Lib.hid (CR.keep Hu3.out (Keep.call hb))
  have HG := Lib.hid (below_call HG.out hb)
  clear hb
  (first | (have hcall := rmul_ar (AR.keep Hb.out (Keep.call HG.out)) (AR.keep Hc.out (Keep.call HG.out)) (by decide) (by decide); refine Calls.mono hcall ?_; clear hcall) | refine Calls.mono (rmul_ar (AR.keep Hb.out (Keep.call HG.out)) (AR.keep Hc.out (Keep.call HG.out)) (by decide) (by decide)) ?_)
  rintro e w32 ⟨v32, rfl, hu4, hb⟩
  obtain ⟨u4_b, u4_a, u4_n, u4_c, u4_d, u4_m, u4_e, rfl⟩ := hu4.litb
  refine ⟨_, rfl, ?_, hb⟩
  have Hu3 := Lib.hid (CR.keep Hu3.out (Keep.call hb))
  have HG := Lib.hid (below_call HG.out hb)
  have Hu4 := Lib.hid hu4
  clear hb hu4
  simp only [Act.put, List.setIfInBounds_toArray, List.set_cons_zero, List.set_cons_succ]
  refine good_callX 16 49 (some 89) #[Go.Operand.tmp 85, Go.Operand.tmp 88] #[25, 25] (some (9, true)) #[.agg #[.bool u3_b, .slice u3_a u3_n u3_c, .slice u3_d u3_m u3_e], .agg #[.bool u4_b, .slice u4_a u4_n u4_c, .slice u4_d u4_m u4_e]] (by kernel_rfl) Hok.out (by kernel_rfl) (by kernel_rfl) (by kernel_rfl) (by kernel_rfl) rfl rfl rfl (by kernel_rfl) (fun w33 hb => ?_)
  have Hu3 := Lib.hid (CR.keep Hu3.out (Keep.call hb))
  have Hu4 := Lib.hid (CR.keep Hu4.out (Keep.call hb))
  have HG := Lib.hid (below_call HG.out hb)
  clear hb
  (first | (have hcall := rcmp_ar (k * s) Hu3.out.ar Hu4.out.ar (cmpQ_mulr Hk.out Hs.out) (by decide) (by decide); refine Calls.mono hcall ?_; clear hcall) | refine Calls.mono (rcmp_ar (k * s) Hu3.out.ar Hu4.out.ar (cmpQ_mulr Hk.out Hs.out) (by decide) (by decide)) ?_)
  rintro e w34 ⟨v34, rfl, ⟨⟩, hb⟩
  refine ⟨_, rfl, ?_, hb⟩
  have HG := Lib.hid (below_call HG.out hb)
  clear hb
  simp only [Act.put, List.setIfInBounds_toArray, List.set_cons_zero, List.set_cons_succ]
  refine good_callX 19 32 (some 92) #[Go.Operand.tmp 91] #[25] (some (9, true)) #[.agg #[.bool bc, .slice sc nc cc, .slice tc mc ec]] (by kernel_rfl) Hok.out (by kernel_rfl) (by kernel_rfl) (by kernel_rfl) (by kernel_rfl) rfl rfl rfl (by kernel_rfl) (fun w35 hb => ?_)
  have HG := Lib.hid (below_call HG.out hb)
  clear hb
  (first | (have hcall := rsign_ar s (AR.keep Hc.out (Keep.call HG.out)) Hs.out (by decide); refine Calls.mono hcall ?_; clear hcall) | refine Calls.mono (rsign_ar s (AR.keep Hc.out (Keep.call HG.out)) Hs.out (by decide)) ?_)
  rintro e w36 ⟨v36, rfl, ⟨⟩, hb⟩
  refine ⟨_, rfl, ?_, hb⟩
  have HG := Lib.hid (below_call HG.out hb)
  clear hb
  simp only [Act.put, List.setIfInBounds_toArray, List.set_cons_zero, List.set_cons_succ]
  refine good_pureX 20 (some 93) (Go.Op.binOp Go.BinOp.mul 3 (Go.Operand.tmp 90) (Go.Operand.tmp 92) 3) (some (9, true)) (.int .i64 (k * s)) (by kernel_rfl) (by kernel_rfl) (by kernel_rfl) (fun _ _ _ h => h) (fun w' hw' => ?_) ?_
  · first | (go_simp; done) | (go_simp; simp_all; done) | (go_simp; rfl)
  simp only [Act.put, List.setIfInBounds_toArray, List.set_cons_zero, List.set_cons_succ]
  refine good_pureX 21 (some 94) (Go.Op.binOp Go.BinOp.eql 3 (Go.Operand.tmp 89) (Go.Operand.tmp 93) 3) (some (9, true)) (.bool true) (by kernel_rfl) (by kernel_rfl) (by kernel_rfl) (fun _ _ _ h => h) (fun w' hw' => ?_) ?_
  · first | (go_simp; done) | (go_simp; simp_all; done) | (go_simp; rfl)
  simp only [Act.put, List.setIfInBounds_toArray, List.set_cons_zero, List.set_cons_succ]
  refine good_pureX 22 (some 95) (Go.Op.pick (Go.Operand.tmp 82) (Go.Operand.tmp 94) (Go.Operand.const (Go.Value.bool false))) (none) (.bool true) (by kernel_rfl) (by kernel_rfl) (by kernel_rfl) (fun _ _ _ h => h) (fun w' hw' => ?_) ?_
  · first | (go_simp; done) | (go_simp; simp_all; done) | (go_simp; rfl)
  simp only [Act.put, List.setIfInBounds_toArray, List.set_cons_zero, List.set_cons_succ]
  refine good_pureX 23 (some 6) (Go.Op.assign (Go.Operand.tmp 95)) (none) (.bool true) (by kernel_rfl) (by kernel_rfl) (by kernel_rfl) (fun _ _ _ h => h) (fun w' hw' => ?_) ?_
  · first | (go_simp; done) | (go_simp; simp_all; done) | (go_simp; rfl)
  simp only [Act.put, List.setIfInBounds_toArray, List.set_cons_zero, List.set_cons_succ]
  refine good_end0 0 (by kernel_rfl) (fun _ w37 hb => ?_)
  have HG := Lib.hid (below_call HG.out hb)
  clear hb
  have Xa0 := Lib.hid (Box.pcall HG.out Xa0.out)
  have Xb0 := Lib.hid (Box.pcall HG.out Xb0.out)
  have Xc0 := Lib.hid (Box.pcall HG.out Xc0.out)
  have HB := Lib.hid (below_call HB.out HG.out)
  have HS := Lib.hid (SE.of (E := []) HG.out)
  refine wpAnyH_done (by kernel_rfl) ?_ _
  clear HG HS Hok 
  obtain ⟨ca00, ca01, ca02, fa00, fa01, fa02⟩ := Xa0.out.c3
  have la0 := Xa0.out.lt
  obtain ⟨cb00, cb01, cb02, fb00, fb01, fb02⟩ := Xb0.out.c3
  have lb0 := Xb0.out.lt
  obtain ⟨cc00, cc01, cc02, fc00, fc01, fc02⟩ := Xc0.out.c3
  have lc0 := Xc0.out.lt
  go_wp2
  clear ca00 ca01 ca02 fa00 fa01 fa02 la0 cb00 cb01 cb02 fb00 fb01 fb02 lb0 cc00 cc01 cc02 fc00 fc01 fc02 lc0
  go_ret
  exact ⟨_, rfl, rfl, HB.out⟩


set_option maxRecDepth 100000 in
set_option maxHeartbeats 4000000 in
theorem lrcmp_3 {qa : Rat} {ba : Bool} {sa ta : Option Addr} {na ca ma ea : Nat} {qb : Rat} {bb : Bool} {sb tb : Option Addr} {nb cb mb eb : Nat} {qc : Rat} {bc : Bool} {sc tc : Option Addr} {nc cc mc ec : Nat}  {w : World} (k s : Int) (hk : cmpQ qa qb = k) (hs : qc.num.sign = s) (h1 : -1 ≤ k) (h2 : k ≤ 1) (h3 : -1 ≤ s) (h4 : s ≤ 1) (hd1 : decide (k ≤ 0) = true) (m j : Int) (hm : cmpQ qb qc = m) (hd2 : decide (m ≤ 0) = true) (hj : cmpQ qa qc = j) (hd3 : decide (0 < j) = false) (ha : AR qa 3 w (.agg #[.bool ba, .slice sa na ca, .slice ta ma ea])) (hfa : na ≤ 3) (hga : ma ≤ 3) (hb : AR qb 3 w (.agg #[.bool bb, .slice sb nb cb, .slice tb mb eb])) (hfb : nb ≤ 3) (hgb : mb ≤ 3) (hc : AR qc 3 w (.agg #[.bool bc, .slice sc nc cc, .slice tc mc ec])) (hfc : nc ≤ 3) (hgc : mc ≤ 3) :
    Calls Try.prog 11 #[.agg #[.bool ba, .slice sa na ca, .slice ta ma ea], .agg #[.bool bb, .slice sb nb cb, .slice tb mb eb], .agg #[.bool bc, .slice sc nc cc, .slice tc mc ec]] w (Ret w (Val (.bool true))) := by
  have Ha := Lib.hid ha
  have Hb := Lib.hid hb
  have Hc := Lib.hid hc
  have Hk := Lib.hid hk
  have Hs := Lib.hid hs
  have Hm := Lib.hid hm
  have Hj := Lib.hid hj
  have Hfa := Lib.hid hfa
  have Hga := Lib.hid hga
  have Hfb := Lib.hid hfb
  have Hgb := Lib.hid hgb
  have Hfc := Lib.hid hfc
  have Hgc := Lib.hid hgc
  clear ha hb hc hk hs hm hj hfa hga hfb hgb hfc hgc
  have hw1 : IntKind.i64.wrap (-(-k)) = k := by rw [Int.neg_neg]; exact IntWalk.i64_in _ (by omega)
  have hw2 : IntKind.i64.wrap (k * s) = k * s := wrap_sgn h1 h2 h3 h4
  go_enter Try.func11, Try.ntmps11
  have HB := Lib.hid (Below.refl w.heap.size w)
  go_wp2_with fail
  obtain ⟨W1, hW⟩ : ∃ W1, W1 = (World.alloc (World.alloc (World.alloc w (.cells #[.bool ba, .slice sa na ca, .slice ta ma ea] 25)) (.cells #[.bool bb, .slice sb nb cb, .slice tb mb eb] 25)) (.cells #[.bool bc, .slice sc nc cc, .slice tc mc ec] 25)) := ⟨_, rfl⟩
  rw [← hW]
  obtain ⟨xa0, xb0, xc0, hk, hb⟩ := boxes_3 _ _ _ _ _ _ _ hW
  clear hW
  have Ha := Lib.hid (AR.keep Ha.out hk)
  have Hb := Lib.hid (AR.keep Hb.out hk)
  have Hc := Lib.hid (AR.keep Hc.out hk)
  have Ga0 := Lib.hid (show w.heap.size ≤ w.heap.size from Nat.le_trans HB.out.size (by omega))
  have Gb0 := Lib.hid (show w.heap.size ≤ w.heap.size + 1 from Nat.le_trans HB.out.size (by omega))
  have Gc0 := Lib.hid (show w.heap.size ≤ w.heap.size + 1 + 1 from Nat.le_trans HB.out.size (by omega))
  have Xa0 := Lib.hid xa0
  have Xb0 := Lib.hid xb0
  have Xc0 := Lib.hid xc0
  have HB := Lib.hid (below_call HB.out hb)
  clear hk hb xa0 xb0 xc0
  refine Calls.mono (awake3) ?_
  rintro e w2 ⟨v2, rfl, rfl, hb⟩
  have Ha := Lib.hid (AR.keep Ha.out (Keep.call hb))
  have Hb := Lib.hid (AR.keep Hb.out (Keep.call hb))
  have Hc := Lib.hid (AR.keep Hc.out (Keep.call hb))
  have Xa0 := Lib.hid (Box.pcall hb Xa0.out)
  have Xb0 := Lib.hid (Box.pcall hb Xb0.out)
  have Xc0 := Lib.hid (Box.pcall hb Xc0.out)
  have HB := Lib.hid (below_call HB.out hb)
  clear hb
  obtain ⟨ca00, ca01, ca02, fa00, fa01, fa02⟩ := Xa0.out.c3
  have la0 := Xa0.out.lt
  obtain ⟨cb00, cb01, cb02, fb00, fb01, fb02⟩ := Xb0.out.c3
  have lb0 := Xb0.out.lt
  obtain ⟨cc00, cc01, cc02, fc00, fc01, fc02⟩ := Xc0.out.c3
  have lc0 := Xc0.out.lt
  go_wp2_with fail
  clear ca00 ca01 ca02 fa00 fa01 fa02 la0 cb00 cb01 cb02 fb00 fb01 fb02 lb0 cc00 cc01 cc02 fc00 fc01 fc02 lc0
  refine Calls.mono (few3_yes Hfa.out Hga.out) ?_
  rintro e w3 ⟨v3, rfl, rfl, hb⟩
  have Ha := Lib.hid (AR.keep Ha.out (Keep.call hb))
  have Hb := Lib.hid (AR.keep Hb.out (Keep.call hb))
  have Hc := Lib.hid (AR.keep Hc.out (Keep.call hb))
  have Xa0 := Lib.hid (Box.pcall hb Xa0.out)
  have Xb0 := Lib.hid (Box.pcall hb Xb0.out)
  have Xc0 := Lib.hid (Box.pcall hb Xc0.out)
  have HB := Lib.hid (below_call HB.out hb)
  clear hb
  obtain ⟨ca00, ca01, ca02, fa00, fa01, fa02⟩ := Xa0.out.c3
  have la0 := Xa0.out.lt
  obtain ⟨cb00, cb01, cb02, fb00, fb01, fb02⟩ := Xb0.out.c3
  have lb0 := Xb0.out.lt
  obtain ⟨cc00, cc01, cc02, fc00, fc01, fc02⟩ := Xc0.out.c3
  have lc0 := Xc0.out.lt
  go_wp2_with fail
  clear ca00 ca01 ca02 fa00 fa01 fa02 la0 cb00 cb01 cb02 fb00 fb01 fb02 lb0 cc00 cc01 cc02 fc00 fc01 fc02 lc0
  refine Calls.mono (few3_yes Hfb.out Hgb.out) ?_
  rintro e w4 ⟨v4, rfl, rfl, hb⟩
  have Ha := Lib.hid (AR.keep Ha.out (Keep.call hb))
  have Hb := Lib.hid (AR.keep Hb.out (Keep.call hb))
  have Hc := Lib.hid (AR.keep Hc.out (Keep.call hb))
  have Xa0 := Lib.hid (Box.pcall hb Xa0.out)
  have Xb0 := Lib.hid (Box.pcall hb Xb0.out)
  have Xc0 := Lib.hid (Box.pcall hb Xc0.out)
  have HB := Lib.hid (below_call HB.out hb)
  clear hb
  obtain ⟨ca00, ca01, ca02, fa00, fa01, fa02⟩ := Xa0.out.c3
  have la0 := Xa0.out.lt
  obtain ⟨cb00, cb01, cb02, fb00, fb01, fb02⟩ := Xb0.out.c3
  have lb0 := Xb0.out.lt
  obtain ⟨cc00, cc01, cc02, fc00, fc01, fc02⟩ := Xc0.out.c3
  have lc0 := Xc0.out.lt
  go_wp2_with fail
  clear ca00 ca01 ca02 fa00 fa01 fa02 la0 cb00 cb01 cb02 fb00 fb01 fb02 lb0 cc00 cc01 cc02 fc00 fc01 fc02 lc0
  refine Calls.mono (few3_yes Hfc.out Hgc.out) ?_
  rintro e w5 ⟨v5, rfl, rfl, hb⟩
  have Ha := Lib.hid (AR.keep Ha.out (Keep.call hb))
  have Hb := Lib.hid (AR.keep Hb.out (Keep.call hb))
  have Hc := Lib.hid (AR.keep Hc.out (Keep.call hb))
  have Xa0 := Lib.hid (Box.pcall hb Xa0.out)
  have Xb0 := Lib.hid (Box.pcall hb Xb0.out)
  have Xc0 := Lib.hid (Box.pcall hb Xc0.out)
  have HB := Lib.hid (below_call HB.out hb)
  clear hb
  obtain ⟨ca00, ca01, ca02, fa00, fa01, fa02⟩ := Xa0.out.c3
  have la0 := Xa0.out.lt
  obtain ⟨cb00, cb01, cb02, fb00, fb01, fb02⟩ := Xb0.out.c3
  have lb0 := Xb0.out.lt
  obtain ⟨cc00, cc01, cc02, fc00, fc01, fc02⟩ := Xc0.out.c3
  have lc0 := Xc0.out.lt
  go_wp2_with fail
  clear ca00 ca01 ca02 fa00 fa01 fa02 la0 cb00 cb01 cb02 fb00 fb01 fb02 lb0 cc00 cc01 cc02 fc00 fc01 fc02 lc0
  (first | (have hcall := rcmp_ar k Ha.out Hb.out Hk.out (by decide) (by decide); refine Calls.mono hcall ?_; clear hcall) | refine Calls.mono (rcmp_ar k Ha.out Hb.out Hk.out (by decide) (by decide)) ?_)
  rintro e w6 ⟨v6, rfl, ⟨⟩, hb⟩
  have Ha := Lib.hid (AR.keep Ha.out (Keep.call hb))
  have Hb := Lib.hid (AR.keep Hb.out (Keep.call hb))
  have Hc := Lib.hid (AR.keep Hc.out (Keep.call hb))
  have Xa0 := Lib.hid (Box.pcall hb Xa0.out)
  have Xb0 := Lib.hid (Box.pcall hb Xb0.out)
  have Xc0 := Lib.hid (Box.pcall hb Xc0.out)
  have HB := Lib.hid (below_call HB.out hb)
  clear hb
  obtain ⟨ca00, ca01, ca02, fa00, fa01, fa02⟩ := Xa0.out.c3
  have la0 := Xa0.out.lt
  obtain ⟨cb00, cb01, cb02, fb00, fb01, fb02⟩ := Xb0.out.c3
  have lb0 := Xb0.out.lt
  obtain ⟨cc00, cc01, cc02, fc00, fc01, fc02⟩ := Xc0.out.c3
  have lc0 := Xc0.out.lt
  go_wp2_with fail
  clear ca00 ca01 ca02 fa00 fa01 fa02 la0 cb00 cb01 cb02 fb00 fb01 fb02 lb0 cc00 cc01 cc02 fc00 fc01 fc02 lc0
  (first | (have hcall := zcmp_ar k Ha.out Hb.out Hk.out (by decide) (by decide); refine Calls.mono hcall ?_; clear hcall) | refine Calls.mono (zcmp_ar k Ha.out Hb.out Hk.out (by decide) (by decide)) ?_)
  rintro e w7 ⟨v7, rfl, ⟨⟩, hb⟩
  have Ha := Lib.hid (AR.keep Ha.out (Keep.call hb))
  have Hb := Lib.hid (AR.keep Hb.out (Keep.call hb))
  have Hc := Lib.hid (AR.keep Hc.out (Keep.call hb))
  have Xa0 := Lib.hid (Box.pcall hb Xa0.out)
  have Xb0 := Lib.hid (Box.pcall hb Xb0.out)
  have Xc0 := Lib.hid (Box.pcall hb Xc0.out)
  have HB := Lib.hid (below_call HB.out hb)
  clear hb
  obtain ⟨ca00, ca01, ca02, fa00, fa01, fa02⟩ := Xa0.out.c3
  have la0 := Xa0.out.lt
  obtain ⟨cb00, cb01, cb02, fb00, fb01, fb02⟩ := Xb0.out.c3
  have lb0 := Xb0.out.lt
  obtain ⟨cc00, cc01, cc02, fc00, fc01, fc02⟩ := Xc0.out.c3
  have lc0 := Xc0.out.lt
  go_wp2_with fail
  clear ca00 ca01 ca02 fa00 fa01 fa02 la0 cb00 cb01 cb02 fb00 fb01 fb02 lb0 cc00 cc01 cc02 fc00 fc01 fc02 lc0
  (first | (have hcall := rcmp_ar (-k) Hb.out Ha.out (cmpQ_neg Hk.out) (by decide) (by decide); refine Calls.mono hcall ?_; clear hcall) | refine Calls.mono (rcmp_ar (-k) Hb.out Ha.out (cmpQ_neg Hk.out) (by decide) (by decide)) ?_)
  rintro e w8 ⟨v8, rfl, ⟨⟩, hb⟩
  have Ha := Lib.hid (AR.keep Ha.out (Keep.call hb))
  have Hb := Lib.hid (AR.keep Hb.out (Keep.call hb))
  have Hc := Lib.hid (AR.keep Hc.out (Keep.call hb))
  have Xa0 := Lib.hid (Box.pcall hb Xa0.out)
  have Xb0 := Lib.hid (Box.pcall hb Xb0.out)
  have Xc0 := Lib.hid (Box.pcall hb Xc0.out)
  have HB := Lib.hid (below_call HB.out hb)
  clear hb
  obtain ⟨ca00, ca01, ca02, fa00, fa01, fa02⟩ := Xa0.out.c3
  have la0 := Xa0.out.lt
  obtain ⟨cb00, cb01, cb02, fb00, fb01, fb02⟩ := Xb0.out.c3
  have lb0 := Xb0.out.lt
  obtain ⟨cc00, cc01, cc02, fc00, fc01, fc02⟩ := Xc0.out.c3
  have lc0 := Xc0.out.lt
  go_wp2_with fail
  clear ca00 ca01 ca02 fa00 fa01 fa02 la0 cb00 cb01 cb02 fb00 fb01 fb02 lb0 cc00 cc01 cc02 fc00 fc01 fc02 lc0
  (first | (have hcall := rcmp_ar m Hb.out Hc.out Hm.out (by decide) (by decide); refine Calls.mono hcall ?_; clear hcall) | refine Calls.mono (rcmp_ar m Hb.out Hc.out Hm.out (by decide) (by decide)) ?_)
  rintro e w9 ⟨v9, rfl, ⟨⟩, hb⟩
  have Ha := Lib.hid (AR.keep Ha.out (Keep.call hb))
  have Hb := Lib.hid (AR.keep Hb.out (Keep.call hb))
  have Hc := Lib.hid (AR.keep Hc.out (Keep.call hb))
  have Xa0 := Lib.hid (Box.pcall hb Xa0.out)
  have Xb0 := Lib.hid (Box.pcall hb Xb0.out)
  have Xc0 := Lib.hid (Box.pcall hb Xc0.out)
  have HB := Lib.hid (below_call HB.out hb)
  clear hb
  obtain ⟨ca00, ca01, ca02, fa00, fa01, fa02⟩ := Xa0.out.c3
  have la0 := Xa0.out.lt
  obtain ⟨cb00, cb01, cb02, fb00, fb01, fb02⟩ := Xb0.out.c3
  have lb0 := Xb0.out.lt
  obtain ⟨cc00, cc01, cc02, fc00, fc01, fc02⟩ := Xc0.out.c3
  have lc0 := Xc0.out.lt
  go_wp2_with fail
  clear ca00 ca01 ca02 fa00 fa01 fa02 la0 cb00 cb01 cb02 fb00 fb01 fb02 lb0 cc00 cc01 cc02 fc00 fc01 fc02 lc0
  (first | (have hcall := rcmp_ar j Ha.out Hc.out Hj.out (by decide) (by decide); refine Calls.mono hcall ?_; clear hcall) | refine Calls.mono (rcmp_ar j Ha.out Hc.out Hj.out (by decide) (by decide)) ?_)
  rintro e w10 ⟨v10, rfl, ⟨⟩, hb⟩
  have Ha := Lib.hid (AR.keep Ha.out (Keep.call hb))
  have Hb := Lib.hid (AR.keep Hb.out (Keep.call hb))
  have Hc := Lib.hid (AR.keep Hc.out (Keep.call hb))
  have Xa0 := Lib.hid (Box.pcall hb Xa0.out)
  have Xb0 := Lib.hid (Box.pcall hb Xb0.out)
  have Xc0 := Lib.hid (Box.pcall hb Xc0.out)
  have HB := Lib.hid (below_call HB.out hb)
  clear hb
  obtain ⟨ca00, ca01, ca02, fa00, fa01, fa02⟩ := Xa0.out.c3
  have la0 := Xa0.out.lt
  obtain ⟨cb00, cb01, cb02, fb00, fb01, fb02⟩ := Xb0.out.c3
  have lb0 := Xb0.out.lt
  obtain ⟨cc00, cc01, cc02, fc00, fc01, fc02⟩ := Xc0.out.c3
  have lc0 := Xc0.out.lt
  go_wp2_with fail
  clear ca00 ca01 ca02 fa00 fa01 fa02 la0 cb00 cb01 cb02 fb00 fb01 fb02 lb0 cc00 cc01 cc02 fc00 fc01 fc02 lc0
  have Ha := Lib.hid (AR.keep Ha.out (Keep.drew w10))
  have Hb := Lib.hid (AR.keep Hb.out (Keep.drew w10))
  have Hc := Lib.hid (AR.keep Hc.out (Keep.drew w10))
  have Xa0 := Lib.hid (Box.drew Xa0.out)
  have Xb0 := Lib.hid (Box.drew Xb0.out)
  have Xc0 := Lib.hid (Box.drew Xc0.out)
  have HB := Lib.hid (Below.drew HB.out)
  refine wp_region_float [] [] (by kernel_rfl) (by kernel_rfl) 96 (by kernel_rfl) Flok.nil ?_
  intro ok
  have Hok := Lib.hid ok
  clear ok
  have HG := Lib.hid (Below.refl (w10.drew).heap.size (w10.drew))
  refine good_pureX 0 (some 55) (Go.Op.load 25 (Go.Operand.tmp 3)) (none) (.agg #[.bool ba, .slice sa na ca, .slice ta ma ea]) (by kernel_rfl) (by kernel_rfl) (by kernel_rfl) (fun _ _ _ h => h) (fun w' hw' => ?_) ?_
  · obtain ⟨ca00, ca01, ca02, fa00, fa01, fa02⟩ := (Box.se hw' Xa0.out notin0).c3
    first | (go_simp; done) | (go_simp; simp_all; done) | (go_simp; rfl)
  simp only [Act.put, List.setIfInBounds_toArray, List.set_cons_zero, List.set_cons_succ]
  refine good_pureX 1 (some 56) (Go.Op.load 25 (Go.Operand.tmp 4)) (none) (.agg #[.bool bb, .slice sb nb cb, .slice tb mb eb]) (by kernel_rfl) (by kernel_rfl) (by kernel_rfl) (fun _ _ _ h => h) (fun w' hw' => ?_) ?_
  · obtain ⟨cb00, cb01, cb02, fb00, fb01, fb02⟩ := (Box.se hw' Xb0.out notin0).c3
    first | (go_simp; done) | (go_simp; simp_all; done) | (go_simp; rfl)
  simp only [Act.put, List.setIfInBounds_toArray, List.set_cons_zero, List.set_cons_succ]
  refine good_pureX 3 (some 58) (Go.Op.load 25 (Go.Operand.tmp 3)) (none) (.agg #[.bool ba, .slice sa na ca, .slice ta ma ea]) (by kernel_rfl) (by kernel_rfl) (by kernel_rfl) (fun _ _ _ h => h) (fun w' hw' => ?_) ?_
  · obtain ⟨ca00, ca01, ca02, fa00, fa01, fa02⟩ := (Box.se hw' Xa0.out notin0).c3
    first | (go_simp; done) | (go_simp; simp_all; done) | (go_simp; rfl)
  simp only [Act.put, List.setIfInBounds_toArray, List.set_cons_zero, List.set_cons_succ]
  refine good_pureX 4 (some 59) (Go.Op.load 25 (Go.Operand.tmp 4)) (none) (.agg #[.bool bb, .slice sb nb cb, .slice tb mb eb]) (by kernel_rfl) (by kernel_rfl) (by kernel_rfl) (fun _ _ _ h => h) (fun w' hw' => ?_) ?_
  · obtain ⟨cb00, cb01, cb02, fb00, fb01, fb02⟩ := (Box.se hw' Xb0.out notin0).c3
    first | (go_simp; done) | (go_simp; simp_all; done) | (go_simp; rfl)
  simp only [Act.put, List.setIfInBounds_toArray, List.set_cons_zero, List.set_cons_succ]
  refine good_callX 2 50 (some 57) #[Go.Operand.tmp 55, Go.Operand.tmp 56] #[25, 25] (none) #[.agg #[.bool ba, .slice sa na ca, .slice ta ma ea], .agg #[.bool bb, .slice sb nb cb, .slice tb mb eb]] (by kernel_rfl) Hok.out (by kernel_rfl) (by kernel_rfl) (by kernel_rfl) (by kernel_rfl) rfl rfl rfl (by kernel_rfl) (fun w11 hb => ?_)
  have HG := Lib.hid (below_call HG.out hb)
  clear hb
  (first | (have hcall := rmin_ar (AR.keep Ha.out (Keep.call HG.out)) (AR.keep Hb.out (Keep.call HG.out)) (by decide) (by decide); refine Calls.mono hcall ?_; clear hcall) | refine Calls.mono (rmin_ar (AR.keep Ha.out (Keep.call HG.out)) (AR.keep Hb.out (Keep.call HG.out)) (by decide) (by decide)) ?_)
  rintro e w12 ⟨v12, rfl, hv1, hb⟩
  obtain ⟨v1_b, v1_a, v1_n, v1_c, v1_d, v1_m, v1_e, rfl⟩ := hv1.litb
  refine ⟨_, rfl, ?_, hb⟩
  have HG := Lib.hid (below_call HG.out hb)
  have Hv1 := Lib.hid hv1
  clear hb hv1
  simp only [Act.put, List.setIfInBounds_toArray, List.set_cons_zero, List.set_cons_succ]
  refine good_callX 5 51 (some 60) #[Go.Operand.tmp 58, Go.Operand.tmp 59] #[25, 25] (none) #[.agg #[.bool ba, .slice sa na ca, .slice ta ma ea], .agg #[.bool bb, .slice sb nb cb, .slice tb mb eb]] (by kernel_rfl) Hok.out (by kernel_rfl) (by kernel_rfl) (by kernel_rfl) (by kernel_rfl) rfl rfl rfl (by kernel_rfl) (fun w13 hb => ?_)
  have Hv1 := Lib.hid (CR.keep Hv1.out (Keep.call hb))
  have HG := Lib.hid (below_call HG.out hb)
  clear hb
  (first | (have hcall := zmin_ar (AR.keep Ha.out (Keep.call HG.out)) (AR.keep Hb.out (Keep.call HG.out)) (by decide) (by decide); refine Calls.mono hcall ?_; clear hcall) | refine Calls.mono (zmin_ar (AR.keep Ha.out (Keep.call HG.out)) (AR.keep Hb.out (Keep.call HG.out)) (by decide) (by decide)) ?_)
  rintro e w14 ⟨v14, rfl, hv2, hb⟩
  obtain ⟨v2_b, v2_a, v2_n, v2_c, v2_d, v2_m, v2_e, rfl⟩ := hv2.litb
  refine ⟨_, rfl, ?_, hb⟩
  have Hv1 := Lib.hid (CR.keep Hv1.out (Keep.call hb))
  have HG := Lib.hid (below_call HG.out hb)
  have Hv2 := Lib.hid hv2
  clear hb hv2
  simp only [Act.put, List.setIfInBounds_toArray, List.set_cons_zero, List.set_cons_succ]
  refine good_callX 6 15 (some 61) #[Go.Operand.tmp 57, Go.Operand.tmp 60] #[25, 25] (none) #[.agg #[.bool v1_b, .slice v1_a v1_n v1_c, .slice v1_d v1_m v1_e], .agg #[.bool v2_b, .slice v2_a v2_n v2_c, .slice v2_d v2_m v2_e]] (by kernel_rfl) Hok.out (by kernel_rfl) (by kernel_rfl) (by kernel_rfl) (by kernel_rfl) rfl rfl rfl (by kernel_rfl) (fun w15 hb => ?_)
  have Hv1 := Lib.hid (CR.keep Hv1.out (Keep.call hb))
  have Hv2 := Lib.hid (CR.keep Hv2.out (Keep.call hb))
  have HG := Lib.hid (below_call HG.out hb)
  clear hb
  (first | (have hcall := zsame_cr Hv1.out Hv2.out (rfl); refine Calls.mono hcall ?_; clear hcall) | refine Calls.mono (zsame_cr Hv1.out Hv2.out (rfl)) ?_)
  rintro e w16 ⟨v16, rfl, rfl, hb⟩
  refine ⟨_, rfl, ?_, hb⟩
  have HG := Lib.hid (below_call HG.out hb)
  clear hb
  simp only [Act.put, List.setIfInBounds_toArray, List.set_cons_zero, List.set_cons_succ]
  refine good_pureX 7 (some 62) (Go.Op.unOp Go.UnOp.not 4 (Go.Operand.tmp 61)) (none) (.bool false) (by kernel_rfl) (by kernel_rfl) (by kernel_rfl) (fun _ _ _ h => h) (fun w' hw' => ?_) ?_
  · first | (go_simp; done) | (go_simp; simp_all; done) | (go_simp; rfl)
  simp only [Act.put, List.setIfInBounds_toArray, List.set_cons_zero, List.set_cons_succ]
  refine good_pureX 8 (some 63) (Go.Op.move (Go.Operand.tmp 62)) (none) (.bool false) (by kernel_rfl) (by kernel_rfl) (by kernel_rfl) (fun _ _ _ h => h) (fun w' hw' => ?_) ?_
  · first | (go_simp; done) | (go_simp; simp_all; done) | (go_simp; rfl)
  simp only [Act.put, List.setIfInBounds_toArray, List.set_cons_zero, List.set_cons_succ]
  refine good_pureX 9 (some 64) (Go.Op.load 25 (Go.Operand.tmp 3)) (some (8, false)) (.agg #[.bool ba, .slice sa na ca, .slice ta ma ea]) (by kernel_rfl) (by kernel_rfl) (by kernel_rfl) (fun _ _ _ h => h) (fun w' hw' => ?_) ?_
  · obtain ⟨ca00, ca01, ca02, fa00, fa01, fa02⟩ := (Box.se hw' Xa0.out notin0).c3
    first | (go_simp; done) | (go_simp; simp_all; done) | (go_simp; rfl)
  simp only [Act.put, List.setIfInBounds_toArray, List.set_cons_zero, List.set_cons_succ]
  refine good_pureX 10 (some 65) (Go.Op.load 25 (Go.Operand.tmp 4)) (some (8, false)) (.agg #[.bool bb, .slice sb nb cb, .slice tb mb eb]) (by kernel_rfl) (by kernel_rfl) (by kernel_rfl) (fun _ _ _ h => h) (fun w' hw' => ?_) ?_
  · obtain ⟨cb00, cb01, cb02, fb00, fb01, fb02⟩ := (Box.se hw' Xb0.out notin0).c3
    first | (go_simp; done) | (go_simp; simp_all; done) | (go_simp; rfl)
  simp only [Act.put, List.setIfInBounds_toArray, List.set_cons_zero, List.set_cons_succ]
  refine good_pureX 12 (some 67) (Go.Op.load 25 (Go.Operand.tmp 3)) (some (8, false)) (.agg #[.bool ba, .slice sa na ca, .slice ta ma ea]) (by kernel_rfl) (by kernel_rfl) (by kernel_rfl) (fun _ _ _ h => h) (fun w' hw' => ?_) ?_
  · obtain ⟨ca00, ca01, ca02, fa00, fa01, fa02⟩ := (Box.se hw' Xa0.out notin0).c3
    first | (go_simp; done) | (go_simp; simp_all; done) | (go_simp; rfl)
  simp only [Act.put, List.setIfInBounds_toArray, List.set_cons_zero, List.set_cons_succ]
  refine good_pureX 13 (some 68) (Go.Op.load 25 (Go.Operand.tmp 4)) (some (8, false)) (.agg #[.bool bb, .slice sb nb cb, .slice tb mb eb]) (by kernel_rfl) (by kernel_rfl) (by kernel_rfl) (fun _ _ _ h => h) (fun w' hw' => ?_) ?_
  · obtain ⟨cb00, cb01, cb02, fb00, fb01, fb02⟩ := (Box.se hw' Xb0.out notin0).c3
    first | (go_simp; done) | (go_simp; simp_all; done) | (go_simp; rfl)
  simp only [Act.put, List.setIfInBounds_toArray, List.set_cons_zero, List.set_cons_succ]
  refine good_callX 11 52 (some 66) #[Go.Operand.tmp 64, Go.Operand.tmp 65] #[25, 25] (some (8, false)) #[.agg #[.bool ba, .slice sa na ca, .slice ta ma ea], .agg #[.bool bb, .slice sb nb cb, .slice tb mb eb]] (by kernel_rfl) Hok.out (by kernel_rfl) (by kernel_rfl) (by kernel_rfl) (by kernel_rfl) rfl rfl rfl (by kernel_rfl) (fun w17 hb => ?_)
  have HG := Lib.hid (below_call HG.out hb)
  clear hb
  (first | (have hcall := rmax_ar (AR.keep Ha.out (Keep.call HG.out)) (AR.keep Hb.out (Keep.call HG.out)) (by decide) (by decide); refine Calls.mono hcall ?_; clear hcall) | refine Calls.mono (rmax_ar (AR.keep Ha.out (Keep.call HG.out)) (AR.keep Hb.out (Keep.call HG.out)) (by decide) (by decide)) ?_)
  rintro e w18 ⟨v18, rfl, hv3, hb⟩
  obtain ⟨v3_b, v3_a, v3_n, v3_c, v3_d, v3_m, v3_e, rfl⟩ := hv3.litb
  refine ⟨_, rfl, ?_, hb⟩
  have HG := Lib.hid (below_call HG.out hb)
  have Hv3 := Lib.hid hv3
  clear hb hv3
  simp only [Act.put, List.setIfInBounds_toArray, List.set_cons_zero, List.set_cons_succ]
  refine good_callX 14 53 (some 69) #[Go.Operand.tmp 67, Go.Operand.tmp 68] #[25, 25] (some (8, false)) #[.agg #[.bool ba, .slice sa na ca, .slice ta ma ea], .agg #[.bool bb, .slice sb nb cb, .slice tb mb eb]] (by kernel_rfl) Hok.out (by kernel_rfl) (by kernel_rfl) (by kernel_rfl) (by kernel_rfl) rfl rfl rfl (by kernel_rfl) (fun w19 hb => ?_)
  have Hv3 := Lib.hid (CR.keep Hv3.out (Keep.call hb))
  have HG := Lib.hid (below_call HG.out hb)
  clear hb
  (first | (have hcall := zmax_ar (AR.keep Ha.out (Keep.call HG.out)) (AR.keep Hb.out (Keep.call HG.out)) (by decide) (by decide); refine Calls.mono hcall ?_; clear hcall) | refine Calls.mono (zmax_ar (AR.keep Ha.out (Keep.call HG.out)) (AR.keep Hb.out (Keep.call HG.out)) (by decide) (by decide)) ?_)
  rintro e w20 ⟨v20, rfl, hv4, hb⟩
  obtain ⟨v4_b, v4_a, v4_n, v4_c, v4_d, v4_m, v4_e, rfl⟩ := hv4.litb
  refine ⟨_, rfl, ?_, hb⟩
  have Hv3 := Lib.hid (CR.keep Hv3.out (Keep.call hb))
  have HG := Lib.hid (below_call HG.out hb)
  have Hv4 := Lib.hid hv4
  clear hb hv4
  simp only [Act.put, List.setIfInBounds_toArray, List.set_cons_zero, List.set_cons_succ]
  refine good_callX 15 15 (some 70) #[Go.Operand.tmp 66, Go.Operand.tmp 69] #[25, 25] (some (8, false)) #[.agg #[.bool v3_b, .slice v3_a v3_n v3_c, .slice v3_d v3_m v3_e], .agg #[.bool v4_b, .slice v4_a v4_n v4_c, .slice v4_d v4_m v4_e]] (by kernel_rfl) Hok.out (by kernel_rfl) (by kernel_rfl) (by kernel_rfl) (by kernel_rfl) rfl rfl rfl (by kernel_rfl) (fun w21 hb => ?_)
  have Hv3 := Lib.hid (CR.keep Hv3.out (Keep.call hb))
  have Hv4 := Lib.hid (CR.keep Hv4.out (Keep.call hb))
  have HG := Lib.hid (below_call HG.out hb)
  clear hb
  (first | (have hcall := zsame_cr Hv3.out Hv4.out (rfl); refine Calls.mono hcall ?_; clear hcall) | refine Calls.mono (zsame_cr Hv3.out Hv4.out (rfl)) ?_)
  rintro e w22 ⟨v22, rfl, rfl, hb⟩
  refine ⟨_, rfl, ?_, hb⟩
  have HG := Lib.hid (below_call HG.out hb)
  clear hb
  simp only [Act.put, List.setIfInBounds_toArray, List.set_cons_zero, List.set_cons_succ]
  refine good_pureX 16 (some 71) (Go.Op.unOp Go.UnOp.not 4 (Go.Operand.tmp 70)) (some (8, false)) (.bool false) (by kernel_rfl) (by kernel_rfl) (by kernel_rfl) (fun _ _ _ h => h) (fun w' hw' => ?_) ?_
  · first | (go_simp; done) | (go_simp; simp_all; done) | (go_simp; rfl)
  simp only [Act.put, List.setIfInBounds_toArray, List.set_cons_zero, List.set_cons_succ]
  refine good_pureX 17 (some 72) (Go.Op.pick (Go.Operand.tmp 63) (Go.Operand.const (Go.Value.bool true)) (Go.Operand.tmp 71)) (none) (.bool false) (by kernel_rfl) (by kernel_rfl) (by kernel_rfl) (fun _ _ _ h => h) (fun w' hw' => ?_) ?_
  · first | (go_simp; done) | (go_simp; simp_all; done) | (go_simp; rfl)
  simp only [Act.put, List.setIfInBounds_toArray, List.set_cons_zero, List.set_cons_succ]
  refine good_end0 0 (by kernel_rfl) (fun _ w23 hb => ?_)
  have HG := Lib.hid (below_call HG.out hb)
  clear hb
  have Ha := Lib.hid (AR.keep Ha.out (Keep.call HG.out))
  have Hb := Lib.hid (AR.keep Hb.out (Keep.call HG.out))
  have Hc := Lib.hid (AR.keep Hc.out (Keep.call HG.out))
  have Xa0 := Lib.hid (Box.pcall HG.out Xa0.out)
  have Xb0 := Lib.hid (Box.pcall HG.out Xb0.out)
  have Xc0 := Lib.hid (Box.pcall HG.out Xc0.out)
  have HB := Lib.hid (below_call HB.out HG.out)
  have HS := Lib.hid (SE.of (E := []) HG.out)
  refine wpAnyH_done (by kernel_rfl) ?_ _
  clear HG HS Hok 
  obtain ⟨ca00, ca01, ca02, fa00, fa01, fa02⟩ := Xa0.out.c3
  have la0 := Xa0.out.lt
  obtain ⟨cb00, cb01, cb02, fb00, fb01, fb02⟩ := Xb0.out.c3
  have lb0 := Xb0.out.lt
  obtain ⟨cc00, cc01, cc02, fc00, fc01, fc02⟩ := Xc0.out.c3
  have lc0 := Xc0.out.lt
  go_wp2_with fail
  clear ca00 ca01 ca02 fa00 fa01 fa02 la0 cb00 cb01 cb02 fb00 fb01 fb02 lb0 cc00 cc01 cc02 fc00 fc01 fc02 lc0
  have Ha := Lib.hid (AR.keep Ha.out (Keep.drew w23))
  have Hb := Lib.hid (AR.keep Hb.out (Keep.drew w23))
  have Hc := Lib.hid (AR.keep Hc.out (Keep.drew w23))
  have Xa0 := Lib.hid (Box.drew Xa0.out)
  have Xb0 := Lib.hid (Box.drew Xb0.out)
  have Xc0 := Lib.hid (Box.drew Xc0.out)
  have HB := Lib.hid (Below.drew HB.out)
  refine wp_region_float [] [] (by kernel_rfl) (by kernel_rfl) 96 (by kernel_rfl) Flok.nil ?_
  intro ok
  have Hok := Lib.hid ok
  clear ok
  have HG := Lib.hid (Below.refl (w23.drew).heap.size (w23.drew))
  refine good_pureX 0 (some 73) (Go.Op.load 25 (Go.Operand.tmp 3)) (none) (.agg #[.bool ba, .slice sa na ca, .slice ta ma ea]) (by kernel_rfl) (by kernel_rfl) (by kernel_rfl) (fun _ _ _ h => h) (fun w' hw' => ?_) ?_
  · obtain ⟨ca00, ca01, ca02, fa00, fa01, fa02⟩ := (Box.se hw' Xa0.out notin0).c3
    first | (go_simp; done) | (go_simp; simp_all; done) | (go_simp; rfl)
  simp only [Act.put, List.setIfInBounds_toArray, List.set_cons_zero, List.set_cons_succ]
  refine good_pureX 1 (some 74) (Go.Op.load 25 (Go.Operand.tmp 5)) (none) (.agg #[.bool bc, .slice sc nc cc, .slice tc mc ec]) (by kernel_rfl) (by kernel_rfl) (by kernel_rfl) (fun _ _ _ h => h) (fun w' hw' => ?_) ?_
  · obtain ⟨cc00, cc01, cc02, fc00, fc01, fc02⟩ := (Box.se hw' Xc0.out notin0).c3
    first | (go_simp; done) | (go_simp; simp_all; done) | (go_simp; rfl)
  simp only [Act.put, List.setIfInBounds_toArray, List.set_cons_zero, List.set_cons_succ]
  refine good_pureX 3 (some 76) (Go.Op.load 25 (Go.Operand.tmp 4)) (none) (.agg #[.bool bb, .slice sb nb cb, .slice tb mb eb]) (by kernel_rfl) (by kernel_rfl) (by kernel_rfl) (fun _ _ _ h => h) (fun w' hw' => ?_) ?_
  · obtain ⟨cb00, cb01, cb02, fb00, fb01, fb02⟩ := (Box.se hw' Xb0.out notin0).c3
    first | (go_simp; done) | (go_simp; simp_all; done) | (go_simp; rfl)
  simp only [Act.put, List.setIfInBounds_toArray, List.set_cons_zero, List.set_cons_succ]
  refine good_pureX 4 (some 77) (Go.Op.load 25 (Go.Operand.tmp 5)) (none) (.agg #[.bool bc, .slice sc nc cc, .slice tc mc ec]) (by kernel_rfl) (by kernel_rfl) (by kernel_rfl) (fun _ _ _ h => h) (fun w' hw' => ?_) ?_
  · obtain ⟨cc00, cc01, cc02, fc00, fc01, fc02⟩ := (Box.se hw' Xc0.out notin0).c3
    first | (go_simp; done) | (go_simp; simp_all; done) | (go_simp; rfl)
  simp only [Act.put, List.setIfInBounds_toArray, List.set_cons_zero, List.set_cons_succ]
  refine good_pureX 7 (some 80) (Go.Op.move (Go.Operand.tmp 7)) (none) (.int .i64 k) (by kernel_rfl) (by kernel_rfl) (by kernel_rfl) (fun _ _ _ h => h) (fun w' hw' => ?_) ?_
  · first | (go_simp; done) | (go_simp; simp_all; done) | (go_simp; rfl)
  simp only [Act.put, List.setIfInBounds_toArray, List.set_cons_zero, List.set_cons_succ]
  refine good_callX 2 14 (some 75) #[Go.Operand.tmp 73, Go.Operand.tmp 74] #[25, 25] (none) #[.agg #[.bool ba, .slice sa na ca, .slice ta ma ea], .agg #[.bool bc, .slice sc nc cc, .slice tc mc ec]] (by kernel_rfl) Hok.out (by kernel_rfl) (by kernel_rfl) (by kernel_rfl) (by kernel_rfl) rfl rfl rfl (by kernel_rfl) (fun w24 hb => ?_)
  have HG := Lib.hid (below_call HG.out hb)
  clear hb
  (first | (have hcall := radd_ar (AR.keep Ha.out (Keep.call HG.out)) (AR.keep Hc.out (Keep.call HG.out)) (by decide) (by decide); refine Calls.mono hcall ?_; clear hcall) | refine Calls.mono (radd_ar (AR.keep Ha.out (Keep.call HG.out)) (AR.keep Hc.out (Keep.call HG.out)) (by decide) (by decide)) ?_)
  rintro e w25 ⟨v25, rfl, hu1, hb⟩
  obtain ⟨u1_b, u1_a, u1_n, u1_c, u1_d, u1_m, u1_e, rfl⟩ := hu1.litb
  refine ⟨_, rfl, ?_, hb⟩
  have HG := Lib.hid (below_call HG.out hb)
  have Hu1 := Lib.hid hu1
  clear hb hu1
  simp only [Act.put, List.setIfInBounds_toArray, List.set_cons_zero, List.set_cons_succ]
  refine good_callX 5 14 (some 78) #[Go.Operand.tmp 76, Go.Operand.tmp 77] #[25, 25] (none) #[.agg #[.bool bb, .slice sb nb cb, .slice tb mb eb], .agg #[.bool bc, .slice sc nc cc, .slice tc mc ec]] (by kernel_rfl) Hok.out (by kernel_rfl) (by kernel_rfl) (by kernel_rfl) (by kernel_rfl) rfl rfl rfl (by kernel_rfl) (fun w26 hb => ?_)
  have Hu1 := Lib.hid (CR.keep Hu1.out (Keep.call hb))
  have HG := Lib.hid (below_call HG.out hb)
  clear hb
  (first | (have hcall := radd_ar (AR.keep Hb.out (Keep.call HG.out)) (AR.keep Hc.out (Keep.call HG.out)) (by decide) (by decide); refine Calls.mono hcall ?_; clear hcall) | refine Calls.mono (radd_ar (AR.keep Hb.out (Keep.call HG.out)) (AR.keep Hc.out (Keep.call HG.out)) (by decide) (by decide)) ?_)
  rintro e w27 ⟨v27, rfl, hu2, hb⟩
  obtain ⟨u2_b, u2_a, u2_n, u2_c, u2_d, u2_m, u2_e, rfl⟩ := hu2.litb
  refine ⟨_, rfl, ?_, hb⟩
  have Hu1 := Lib.hid (CR.keep Hu1.out (Keep.call hb))
  have HG := Lib.hid (below_call HG.out hb)
  have Hu2 := Lib.hid hu2
  clear hb hu2
  simp only [Act.put, List.setIfInBounds_toArray, List.set_cons_zero, List.set_cons_succ]
  refine good_callX 6 49 (some 79) #[Go.Operand.tmp 75, Go.Operand.tmp 78] #[25, 25] (none) #[.agg #[.bool u1_b, .slice u1_a u1_n u1_c, .slice u1_d u1_m u1_e], .agg #[.bool u2_b, .slice u2_a u2_n u2_c, .slice u2_d u2_m u2_e]] (by kernel_rfl) Hok.out (by kernel_rfl) (by kernel_rfl) (by kernel_rfl) (by kernel_rfl) rfl rfl rfl (by kernel_rfl) (fun w28 hb => ?_)
  have Hu1 := Lib.hid (CR.keep Hu1.out (Keep.call hb))
  have Hu2 := Lib.hid (CR.keep Hu2.out (Keep.call hb))
  have HG := Lib.hid (below_call HG.out hb)
  clear hb
  (first | (have hcall := rcmp_ar k Hu1.out.ar Hu2.out.ar (cmpQ_addr Hk.out) (by decide) (by decide); refine Calls.mono hcall ?_; clear hcall) | refine Calls.mono (rcmp_ar k Hu1.out.ar Hu2.out.ar (cmpQ_addr Hk.out) (by decide) (by decide)) ?_)
  rintro e w29 ⟨v29, rfl, ⟨⟩, hb⟩
  refine ⟨_, rfl, ?_, hb⟩
  have HG := Lib.hid (below_call HG.out hb)
  clear hb
  simp only [Act.put, List.setIfInBounds_toArray, List.set_cons_zero, List.set_cons_succ]
  refine good_pureX 8 (some 81) (Go.Op.binOp Go.BinOp.eql 3 (Go.Operand.tmp 79) (Go.Operand.tmp 80) 3) (none) (.bool true) (by kernel_rfl) (by kernel_rfl) (by kernel_rfl) (fun _ _ _ h => h) (fun w' hw' => ?_) ?_
  · first | (go_simp; done) | (go_simp; simp_all; done) | (go_simp; rfl)
  simp only [Act.put, List.setIfInBounds_toArray, List.set_cons_zero, List.set_cons_succ]
  refine good_pureX 9 (some 82) (Go.Op.move (Go.Operand.tmp 81)) (none) (.bool true) (by kernel_rfl) (by kernel_rfl) (by kernel_rfl) (fun _ _ _ h => h) (fun w' hw' => ?_) ?_
  · first | (go_simp; done) | (go_simp; simp_all; done) | (go_simp; rfl)
  simp only [Act.put, List.setIfInBounds_toArray, List.set_cons_zero, List.set_cons_succ]
  refine good_pureX 10 (some 83) (Go.Op.load 25 (Go.Operand.tmp 3)) (some (9, true)) (.agg #[.bool ba, .slice sa na ca, .slice ta ma ea]) (by kernel_rfl) (by kernel_rfl) (by kernel_rfl) (fun _ _ _ h => h) (fun w' hw' => ?_) ?_
  · obtain ⟨ca00, ca01, ca02, fa00, fa01, fa02⟩ := (Box.se hw' Xa0.out notin0).c3
    first | (go_simp; done) | (go_simp; simp_all; done) | (go_simp; rfl)
  simp only [Act.put, List.setIfInBounds_toArray, List.set_cons_zero, List.set_cons_succ]
  refine good_pureX 11 (some 84) (Go.Op.load 25 (Go.Operand.tmp 5)) (some (9, true)) (.agg #[.bool bc, .slice sc nc cc, .slice tc mc ec]) (by kernel_rfl) (by kernel_rfl) (by kernel_rfl) (fun _ _ _ h => h) (fun w' hw' => ?_) ?_
  · obtain ⟨cc00, cc01, cc02, fc00, fc01, fc02⟩ := (Box.se hw' Xc0.out notin0).c3
    first | (go_simp; done) | (go_simp; simp_all; done) | (go_simp; rfl)
  simp only [Act.put, List.setIfInBounds_toArray, List.set_cons_zero, List.set_cons_succ]
  refine good_pureX 13 (some 86) (Go.Op.load 25 (Go.Operand.tmp 4)) (some (9, true)) (.agg #[.bool bb, .slice sb nb cb, .slice tb mb eb]) (by kernel_rfl) (by kernel_rfl) (by kernel_rfl) (fun _ _ _ h => h) (fun w' hw' => ?_) ?_
  · obtain ⟨cb00, cb01, cb02, fb00, fb01, fb02⟩ := (Box.se hw' Xb0.out notin0).c3
    first | (go_simp; done) | (go_simp; simp_all; done) | (go_simp; rfl)
  simp only [Act.put, List.setIfInBounds_toArray, List.set_cons_zero, List.set_cons_succ]
  refine good_pureX 14 (some 87) (Go.Op.load 25 (Go.Operand.tmp 5)) (some (9, true)) (.agg #[.bool bc, .slice sc nc cc, .slice tc mc ec]) (by kernel_rfl) (by kernel_rfl) (by kernel_rfl) (fun _ _ _ h => h) (fun w' hw' => ?_) ?_
  · obtain ⟨cc00, cc01, cc02, fc00, fc01, fc02⟩ := (Box.se hw' Xc0.out notin0).c3
    first | (go_simp; done) | (go_simp; simp_all; done) | (go_simp; rfl)
  simp only [Act.put, List.setIfInBounds_toArray, List.set_cons_zero, List.set_cons_succ]
  refine good_pureX 17 (some 90) (Go.Op.move (Go.Operand.tmp 7)) (some (9, true)) (.int .i64 k) (by kernel_rfl) (by kernel_rfl) (by kernel_rfl) (fun _ _ _ h => h) (fun w' hw' => ?_) ?_
  · first | (go_simp; done) | (go_simp; simp_all; done) | (go_simp; rfl)
  simp only [Act.put, List.setIfInBounds_toArray, List.set_cons_zero, List.set_cons_succ]
  refine good_pureX 18 (some 91) (Go.Op.load 25 (Go.Operand.tmp 5)) (some (9, true)) (.agg #[.bool bc, .slice sc nc cc, .slice tc mc ec]) (by kernel_rfl) (by kernel_rfl) (by kernel_rfl) (fun _ _ _ h => h) (fun w' hw' => ?_) ?_
  · obtain ⟨cc00, cc01, cc02, fc00, fc01, fc02⟩ := (Box.se hw' Xc0.out notin0).c3
    first | (go_simp; done) | (go_simp; simp_all; done) | (go_simp; rfl)
  simp only [Act.put, List.setIfInBounds_toArray, List.set_cons_zero, List.set_cons_succ]
  refine good_callX 12 33 (some 85) #[Go.Operand.tmp 83, Go.Operand.tmp 84] #[25, 25] (some (9, true)) #[.agg #[.bool ba, .slice sa na ca, .slice ta ma ea], .agg #[.bool bc, .slice sc nc cc, .slice tc mc ec]] (by kernel_rfl) Hok.out (by kernel_rfl) (by kernel_rfl) (by kernel_rfl) (by kernel_rfl) rfl rfl rfl (by kernel_rfl) (fun w30 hb => ?_)
  have HG := Lib.hid (below_call HG.out hb)
  clear hb
  (first | (have hcall := rmul_ar (AR.keep Ha.out (Keep.call HG.out)) (AR.keep Hc.out (Keep.call HG.out)) (by decide) (by decide); refine Calls.mono hcall ?_; clear hcall) | refine Calls.mono (rmul_ar (AR.keep Ha.out (Keep.call HG.out)) (AR.keep Hc.out (Keep.call HG.out)) (by decide) (by decide)) ?_)
  rintro e w31 ⟨v31, rfl, hu3, hb⟩
  obtain ⟨u3_b, u3_a, u3_n, u3_c, u3_d, u3_m, u3_e, rfl⟩ := hu3.litb
  refine ⟨_, rfl, ?_, hb⟩
  have HG := Lib.hid (below_call HG.out hb)
  have Hu3 := Lib.hid hu3
  clear hb hu3
  simp only [Act.put, List.setIfInBounds_toArray, List.set_cons_zero, List.set_cons_succ]
  refine good_callX 15 33 (some 88) #[Go.Operand.tmp 86, Go.Operand.tmp 87] #[25, 25] (some (9, true)) #[.agg #[.bool bb, .slice sb nb cb, .slice tb mb eb], .agg #[.bool bc, .slice sc nc cc, .slice tc mc ec]] (by kernel_rfl) Hok.out (by kernel_rfl) (by kernel_rfl) (by kernel_rfl) (by kernel_rfl) rfl rfl rfl (by kernel_rfl) (fun w32 hb => ?_)
  have Hu3 := Lib.hid (CR.keep Hu3.out (Keep.call hb))
  have HG := Lib.hid (below_call HG.out hb)
  clear hb
  (first | (have hcall := rmul_ar (AR.keep Hb.out (Keep.call HG.out)) (AR.keep Hc.out (Keep.call HG.out)) (by decide) (by decide); refine Calls.mono hcall ?_; clear hcall) | refine Calls.mono (rmul_ar (AR.keep Hb.out (Keep.call HG.out)) (AR.keep Hc.out (Keep.call HG.out)) (by decide) (by decide)) ?_)
  rintro e w33 ⟨v33, rfl, hu4, hb⟩
  obtain ⟨u4_b, u4_a, u4_n, u4_c, u4_d, u4_m, u4_e, rfl⟩ := hu4.litb
  refine ⟨_, rfl, ?_, hb⟩
  have Hu3 := Lib.hid (CR.keep Hu3.out (Keep.call hb))
  have HG := Lib.hid (below_call HG.out hb)
  have Hu4 := Lib.hid hu4
  clear hb hu4
  simp only [Act.put, List.setIfInBounds_toArray, List.set_cons_zero, List.set_cons_succ]
  refine good_callX 16 49 (some 89) #[Go.Operand.tmp 85, Go.Operand.tmp 88] #[25, 25] (some (9, true)) #[.agg #[.bool u3_b, .slice u3_a u3_n u3_c, .slice u3_d u3_m u3_e], .agg #[.bool u4_b, .slice u4_a u4_n u4_c, .slice u4_d u4_m u4_e]] (by kernel_rfl) Hok.out (by kernel_rfl) (by kernel_rfl) (by kernel_rfl) (by kernel_rfl) rfl rfl rfl (by kernel_rfl) (fun w34 hb => ?_)
  have Hu3 := Lib.hid (CR.keep Hu3.out (Keep.call hb))
  have Hu4 := Lib.hid (CR.keep Hu4.out (Keep.call hb))
  have HG := Lib.hid (below_call HG.out hb)
  clear hb
  (first | (have hcall := rcmp_ar (k * s) Hu3.out.ar Hu4.out.ar (cmpQ_mulr Hk.out Hs.out) (by decide) (by decide); refine Calls.mono hcall ?_; clear hcall) | refine Calls.mono (rcmp_ar (k * s) Hu3.out.ar Hu4.out.ar (cmpQ_mulr Hk.out Hs.out) (by decide) (by decide)) ?_)
  rintro e w35 ⟨v35, rfl, ⟨⟩, hb⟩
  refine ⟨_, rfl, ?_, hb⟩
  have HG := Lib.hid (below_call HG.out hb)
  clear hb
  simp only [Act.put, List.setIfInBounds_toArray, List.set_cons_zero, List.set_cons_succ]
  refine good_callX 19 32 (some 92) #[Go.Operand.tmp 91] #[25] (some (9, true)) #[.agg #[.bool bc, .slice sc nc cc, .slice tc mc ec]] (by kernel_rfl) Hok.out (by kernel_rfl) (by kernel_rfl) (by kernel_rfl) (by kernel_rfl) rfl rfl rfl (by kernel_rfl) (fun w36 hb => ?_)
  have HG := Lib.hid (below_call HG.out hb)
  clear hb
  (first | (have hcall := rsign_ar s (AR.keep Hc.out (Keep.call HG.out)) Hs.out (by decide); refine Calls.mono hcall ?_; clear hcall) | refine Calls.mono (rsign_ar s (AR.keep Hc.out (Keep.call HG.out)) Hs.out (by decide)) ?_)
  rintro e w37 ⟨v37, rfl, ⟨⟩, hb⟩
  refine ⟨_, rfl, ?_, hb⟩
  have HG := Lib.hid (below_call HG.out hb)
  clear hb
  simp only [Act.put, List.setIfInBounds_toArray, List.set_cons_zero, List.set_cons_succ]
  refine good_pureX 20 (some 93) (Go.Op.binOp Go.BinOp.mul 3 (Go.Operand.tmp 90) (Go.Operand.tmp 92) 3) (some (9, true)) (.int .i64 (k * s)) (by kernel_rfl) (by kernel_rfl) (by kernel_rfl) (fun _ _ _ h => h) (fun w' hw' => ?_) ?_
  · first | (go_simp; done) | (go_simp; simp_all; done) | (go_simp; rfl)
  simp only [Act.put, List.setIfInBounds_toArray, List.set_cons_zero, List.set_cons_succ]
  refine good_pureX 21 (some 94) (Go.Op.binOp Go.BinOp.eql 3 (Go.Operand.tmp 89) (Go.Operand.tmp 93) 3) (some (9, true)) (.bool true) (by kernel_rfl) (by kernel_rfl) (by kernel_rfl) (fun _ _ _ h => h) (fun w' hw' => ?_) ?_
  · first | (go_simp; done) | (go_simp; simp_all; done) | (go_simp; rfl)
  simp only [Act.put, List.setIfInBounds_toArray, List.set_cons_zero, List.set_cons_succ]
  refine good_pureX 22 (some 95) (Go.Op.pick (Go.Operand.tmp 82) (Go.Operand.tmp 94) (Go.Operand.const (Go.Value.bool false))) (none) (.bool true) (by kernel_rfl) (by kernel_rfl) (by kernel_rfl) (fun _ _ _ h => h) (fun w' hw' => ?_) ?_
  · first | (go_simp; done) | (go_simp; simp_all; done) | (go_simp; rfl)
  simp only [Act.put, List.setIfInBounds_toArray, List.set_cons_zero, List.set_cons_succ]
  refine good_pureX 23 (some 6) (Go.Op.assign (Go.Operand.tmp 95)) (none) (.bool true) (by kernel_rfl) (by kernel_rfl) (by kernel_rfl) (fun _ _ _ h => h) (fun w' hw' => ?_) ?_
  · first | (go_simp; done) | (go_simp; simp_all; done) | (go_simp; rfl)
  simp only [Act.put, List.setIfInBounds_toArray, List.set_cons_zero, List.set_cons_succ]
  refine good_end0 0 (by kernel_rfl) (fun _ w38 hb => ?_)
  have HG := Lib.hid (below_call HG.out hb)
  clear hb
  have Xa0 := Lib.hid (Box.pcall HG.out Xa0.out)
  have Xb0 := Lib.hid (Box.pcall HG.out Xb0.out)
  have Xc0 := Lib.hid (Box.pcall HG.out Xc0.out)
  have HB := Lib.hid (below_call HB.out HG.out)
  have HS := Lib.hid (SE.of (E := []) HG.out)
  refine wpAnyH_done (by kernel_rfl) ?_ _
  clear HG HS Hok 
  obtain ⟨ca00, ca01, ca02, fa00, fa01, fa02⟩ := Xa0.out.c3
  have la0 := Xa0.out.lt
  obtain ⟨cb00, cb01, cb02, fb00, fb01, fb02⟩ := Xb0.out.c3
  have lb0 := Xb0.out.lt
  obtain ⟨cc00, cc01, cc02, fc00, fc01, fc02⟩ := Xc0.out.c3
  have lc0 := Xc0.out.lt
  go_wp2
  clear ca00 ca01 ca02 fa00 fa01 fa02 la0 cb00 cb01 cb02 fb00 fb01 fb02 lb0 cc00 cc01 cc02 fc00 fc01 fc02 lc0
  go_ret
  exact ⟨_, rfl, rfl, HB.out⟩


set_option maxRecDepth 100000 in
set_option maxHeartbeats 4000000 in
theorem lrsim_no0 {ba : Bool} {sa ta : Option Addr} {na ca ma ea : Nat} {bb : Bool} {sb tb : Option Addr} {nb cb mb eb : Nat}  {w : World} (hd0 : decide ((2 : Int) < na) = true) :
    Calls Try.prog 5 #[.agg #[.bool ba, .slice sa na ca, .slice ta ma ea], .agg #[.bool bb, .slice sb nb cb, .slice tb mb eb]] w (Ret w (Val (.bool true))) := by
  go_enter Try.func5, Try.ntmps5
  have HB := Lib.hid (Below.refl w.heap.size w)
  go_wp2_with fail
  obtain ⟨W1, hW⟩ : ∃ W1, W1 = (World.alloc (World.alloc w (.cells #[.bool ba, .slice sa na ca, .slice ta ma ea] 25)) (.cells #[.bool bb, .slice sb nb cb, .slice tb mb eb] 25)) := ⟨_, rfl⟩
  rw [← hW]
  obtain ⟨xa0, xb0, hk, hb⟩ := boxes_2 _ _ _ _ _ hW
  clear hW
  have Ga0 := Lib.hid (show w.heap.size ≤ w.heap.size from Nat.le_trans HB.out.size (by omega))
  have Gb0 := Lib.hid (show w.heap.size ≤ w.heap.size + 1 from Nat.le_trans HB.out.size (by omega))
  have Xa0 := Lib.hid xa0
  have Xb0 := Lib.hid xb0
  have HB := Lib.hid (below_call HB.out hb)
  clear hk hb xa0 xb0
  refine Calls.mono (awake3) ?_
  rintro e w2 ⟨v2, rfl, rfl, hb⟩
  have Xa0 := Lib.hid (Box.pcall hb Xa0.out)
  have Xb0 := Lib.hid (Box.pcall hb Xb0.out)
  have HB := Lib.hid (below_call HB.out hb)
  clear hb
  obtain ⟨ca00, ca01, ca02, fa00, fa01, fa02⟩ := Xa0.out.c3
  have la0 := Xa0.out.lt
  obtain ⟨cb00, cb01, cb02, fb00, fb01, fb02⟩ := Xb0.out.c3
  have lb0 := Xb0.out.lt
  go_wp2
  clear ca00 ca01 ca02 fa00 fa01 fa02 la0 cb00 cb01 cb02 fb00 fb01 fb02 lb0
  go_ret
  exact ⟨_, rfl, rfl, HB.out⟩


set_option maxRecDepth 100000 in
set_option maxHeartbeats 4000000 in
theorem lrsim_no1 {ba : Bool} {sa ta : Option Addr} {na ca ma ea : Nat} {bb : Bool} {sb tb : Option Addr} {nb cb mb eb : Nat}  {w : World} (hd0 : decide ((2 : Int) < na) = false) (hd1 : decide ((2 : Int) < ma) = true) :
    Calls Try.prog 5 #[.agg #[.bool ba, .slice sa na ca, .slice ta ma ea], .agg #[.bool bb, .slice sb nb cb, .slice tb mb eb]] w (Ret w (Val (.bool true))) := by
  go_enter Try.func5, Try.ntmps5
  have HB := Lib.hid (Below.refl w.heap.size w)
  go_wp2_with fail
  obtain ⟨W1, hW⟩ : ∃ W1, W1 = (World.alloc (World.alloc w (.cells #[.bool ba, .slice sa na ca, .slice ta ma ea] 25)) (.cells #[.bool bb, .slice sb nb cb, .slice tb mb eb] 25)) := ⟨_, rfl⟩
  rw [← hW]
  obtain ⟨xa0, xb0, hk, hb⟩ := boxes_2 _ _ _ _ _ hW
  clear hW
  have Ga0 := Lib.hid (show w.heap.size ≤ w.heap.size from Nat.le_trans HB.out.size (by omega))
  have Gb0 := Lib.hid (show w.heap.size ≤ w.heap.size + 1 from Nat.le_trans HB.out.size (by omega))
  have Xa0 := Lib.hid xa0
  have Xb0 := Lib.hid xb0
  have HB := Lib.hid (below_call HB.out hb)
  clear hk hb xa0 xb0
  refine Calls.mono (awake3) ?_
  rintro e w2 ⟨v2, rfl, rfl, hb⟩
  have Xa0 := Lib.hid (Box.pcall hb Xa0.out)
  have Xb0 := Lib.hid (Box.pcall hb Xb0.out)
  have HB := Lib.hid (below_call HB.out hb)
  clear hb
  obtain ⟨ca00, ca01, ca02, fa00, fa01, fa02⟩ := Xa0.out.c3
  have la0 := Xa0.out.lt
  obtain ⟨cb00, cb01, cb02, fb00, fb01, fb02⟩ := Xb0.out.c3
  have lb0 := Xb0.out.lt
  go_wp2
  clear ca00 ca01 ca02 fa00 fa01 fa02 la0 cb00 cb01 cb02 fb00 fb01 fb02 lb0
  go_ret
  exact ⟨_, rfl, rfl, HB.out⟩


set_option maxRecDepth 100000 in
set_option maxHeartbeats 4000000 in
theorem lrsim_no2 {ba : Bool} {sa ta : Option Addr} {na ca ma ea : Nat} {bb : Bool} {sb tb : Option Addr} {nb cb mb eb : Nat}  {w : World} (hd0 : decide ((2 : Int) < na) = false) (hd1 : decide ((2 : Int) < ma) = false) (hd2 : decide ((2 : Int) < nb) = true) :
    Calls Try.prog 5 #[.agg #[.bool ba, .slice sa na ca, .slice ta ma ea], .agg #[.bool bb, .slice sb nb cb, .slice tb mb eb]] w (Ret w (Val (.bool true))) := by
  go_enter Try.func5, Try.ntmps5
  have HB := Lib.hid (Below.refl w.heap.size w)
  go_wp2_with fail
  obtain ⟨W1, hW⟩ : ∃ W1, W1 = (World.alloc (World.alloc w (.cells #[.bool ba, .slice sa na ca, .slice ta ma ea] 25)) (.cells #[.bool bb, .slice sb nb cb, .slice tb mb eb] 25)) := ⟨_, rfl⟩
  rw [← hW]
  obtain ⟨xa0, xb0, hk, hb⟩ := boxes_2 _ _ _ _ _ hW
  clear hW
  have Ga0 := Lib.hid (show w.heap.size ≤ w.heap.size from Nat.le_trans HB.out.size (by omega))
  have Gb0 := Lib.hid (show w.heap.size ≤ w.heap.size + 1 from Nat.le_trans HB.out.size (by omega))
  have Xa0 := Lib.hid xa0
  have Xb0 := Lib.hid xb0
  have HB := Lib.hid (below_call HB.out hb)
  clear hk hb xa0 xb0
  refine Calls.mono (awake3) ?_
  rintro e w2 ⟨v2, rfl, rfl, hb⟩
  have Xa0 := Lib.hid (Box.pcall hb Xa0.out)
  have Xb0 := Lib.hid (Box.pcall hb Xb0.out)
  have HB := Lib.hid (below_call HB.out hb)
  clear hb
  obtain ⟨ca00, ca01, ca02, fa00, fa01, fa02⟩ := Xa0.out.c3
  have la0 := Xa0.out.lt
  obtain ⟨cb00, cb01, cb02, fb00, fb01, fb02⟩ := Xb0.out.c3
  have lb0 := Xb0.out.lt
  go_wp2
  clear ca00 ca01 ca02 fa00 fa01 fa02 la0 cb00 cb01 cb02 fb00 fb01 fb02 lb0
  go_ret
  exact ⟨_, rfl, rfl, HB.out⟩


set_option maxRecDepth 100000 in
set_option maxHeartbeats 4000000 in
theorem lrsim_no3 {ba : Bool} {sa ta : Option Addr} {na ca ma ea : Nat} {bb : Bool} {sb tb : Option Addr} {nb cb mb eb : Nat}  {w : World} (hd0 : decide ((2 : Int) < na) = false) (hd1 : decide ((2 : Int) < ma) = false) (hd2 : decide ((2 : Int) < nb) = false) (hd3 : decide ((2 : Int) < mb) = true) :
    Calls Try.prog 5 #[.agg #[.bool ba, .slice sa na ca, .slice ta ma ea], .agg #[.bool bb, .slice sb nb cb, .slice tb mb eb]] w (Ret w (Val (.bool true))) := by
  go_enter Try.func5, Try.ntmps5
  have HB := Lib.hid (Below.refl w.heap.size w)
  go_wp2_with fail
  obtain ⟨W1, hW⟩ : ∃ W1, W1 = (World.alloc (World.alloc w (.cells #[.bool ba, .slice sa na ca, .slice ta ma ea] 25)) (.cells #[.bool bb, .slice sb nb cb, .slice tb mb eb] 25)) := ⟨_, rfl⟩
  rw [← hW]
  obtain ⟨xa0, xb0, hk, hb⟩ := boxes_2 _ _ _ _ _ hW
  clear hW
  have Ga0 := Lib.hid (show w.heap.size ≤ w.heap.size from Nat.le_trans HB.out.size (by omega))
  have Gb0 := Lib.hid (show w.heap.size ≤ w.heap.size + 1 from Nat.le_trans HB.out.size (by omega))
  have Xa0 := Lib.hid xa0
  have Xb0 := Lib.hid xb0
  have HB := Lib.hid (below_call HB.out hb)
  clear hk hb xa0 xb0
  refine Calls.mono (awake3) ?_
  rintro e w2 ⟨v2, rfl, rfl, hb⟩
  have Xa0 := Lib.hid (Box.pcall hb Xa0.out)
  have Xb0 := Lib.hid (Box.pcall hb Xb0.out)
  have HB := Lib.hid (below_call HB.out hb)
  clear hb
  obtain ⟨ca00, ca01, ca02, fa00, fa01, fa02⟩ := Xa0.out.c3
  have la0 := Xa0.out.lt
  obtain ⟨cb00, cb01, cb02, fb00, fb01, fb02⟩ := Xb0.out.c3
  have lb0 := Xb0.out.lt
  go_wp2
  clear ca00 ca01 ca02 fa00 fa01 fa02 la0 cb00 cb01 cb02 fb00 fb01 fb02 lb0
  go_ret
  exact ⟨_, rfl, rfl, HB.out⟩


set_option maxRecDepth 100000 in
set_option maxHeartbeats 4000000 in
theorem lrsim_n {qa : Rat} {ba : Bool} {sa ta : Option Addr} {na ca ma ea : Nat} {qb : Rat} {bb : Bool} {sb tb : Option Addr} {nb cb mb eb : Nat}  {w : World} (hlt : qb < qa) (ha : AR qa 2 w (.agg #[.bool ba, .slice sa na ca, .slice ta ma ea])) (hb : AR qb 2 w (.agg #[.bool bb, .slice sb nb cb, .slice tb mb eb])) (hd0 : decide ((2 : Int) < na) = false) (hd1 : decide ((2 : Int) < ma) = false) (hd2 : decide ((2 : Int) < nb) = false) (hd3 : decide ((2 : Int) < mb) = false) :
    Calls Try.prog 5 #[.agg #[.bool ba, .slice sa na ca, .slice ta ma ea], .agg #[.bool bb, .slice sb nb cb, .slice tb mb eb]] w (Ret w (Val (.bool true))) := by
  have Ha := Lib.hid ha
  have Hb := Lib.hid hb
  have Hlt := Lib.hid hlt
  clear ha hb hlt
  go_enter Try.func5, Try.ntmps5
  have HB := Lib.hid (Below.refl w.heap.size w)
  go_wp2_with fail
  obtain ⟨W1, hW⟩ : ∃ W1, W1 = (World.alloc (World.alloc w (.cells #[.bool ba, .slice sa na ca, .slice ta ma ea] 25)) (.cells #[.bool bb, .slice sb nb cb, .slice tb mb eb] 25)) := ⟨_, rfl⟩
  rw [← hW]
  obtain ⟨xa0, xb0, hk, hb⟩ := boxes_2 _ _ _ _ _ hW
  clear hW
  have Ha := Lib.hid (AR.keep Ha.out hk)
  have Hb := Lib.hid (AR.keep Hb.out hk)
  have Ga0 := Lib.hid (show w.heap.size ≤ w.heap.size from Nat.le_trans HB.out.size (by omega))
  have Gb0 := Lib.hid (show w.heap.size ≤ w.heap.size + 1 from Nat.le_trans HB.out.size (by omega))
  have Xa0 := Lib.hid xa0
  have Xb0 := Lib.hid xb0
  have HB := Lib.hid (below_call HB.out hb)
  clear hk hb xa0 xb0
  refine Calls.mono (awake3) ?_
  rintro e w2 ⟨v2, rfl, rfl, hb⟩
  have Ha := Lib.hid (AR.keep Ha.out (Keep.call hb))
  have Hb := Lib.hid (AR.keep Hb.out (Keep.call hb))
  have Xa0 := Lib.hid (Box.pcall hb Xa0.out)
  have Xb0 := Lib.hid (Box.pcall hb Xb0.out)
  have HB := Lib.hid (below_call HB.out hb)
  clear hb
  obtain ⟨ca00, ca01, ca02, fa00, fa01, fa02⟩ := Xa0.out.c3
  have la0 := Xa0.out.lt
  obtain ⟨cb00, cb01, cb02, fb00, fb01, fb02⟩ := Xb0.out.c3
  have lb0 := Xb0.out.lt
  go_wp2_with fail
  clear ca00 ca01 ca02 fa00 fa01 fa02 la0 cb00 cb01 cb02 fb00 fb01 fb02 lb0
  (first | (have hcall := sim_no Ha.out Hb.out Hlt.out (by decide); refine Calls.mono hcall ?_; clear hcall) | refine Calls.mono (sim_no Ha.out Hb.out Hlt.out (by decide)) ?_)
  rintro e w3 ⟨v3, rfl, rfl, hb⟩
  have Ha := Lib.hid (AR.keep Ha.out (Keep.call hb))
  have Hb := Lib.hid (AR.keep Hb.out (Keep.call hb))
  have Xa0 := Lib.hid (Box.pcall hb Xa0.out)
  have Xb0 := Lib.hid (Box.pcall hb Xb0.out)
  have HB := Lib.hid (below_call HB.out hb)
  clear hb
  obtain ⟨ca00, ca01, ca02, fa00, fa01, fa02⟩ := Xa0.out.c3
  have la0 := Xa0.out.lt
  obtain ⟨cb00, cb01, cb02, fb00, fb01, fb02⟩ := Xb0.out.c3
  have lb0 := Xb0.out.lt
  go_wp2_with fail
  clear ca00 ca01 ca02 fa00 fa01 fa02 la0 cb00 cb01 cb02 fb00 fb01 fb02 lb0
  obtain ⟨W4, hW⟩ : ∃ W4, W4 = (World.alloc w3 (.cells #[.bool false, .slice none 0 0, .slice none 0 0] 25)) := ⟨_, rfl⟩
  rw [← hW]
  obtain ⟨xc0, hk, hb⟩ := boxes_1 _ _ _ hW
  clear hW
  have Ha := Lib.hid (AR.keep Ha.out hk)
  have Hb := Lib.hid (AR.keep Hb.out hk)
  have Na0c0 := Lib.hid (show w.heap.size ≠ w3.heap.size from Nat.ne_of_lt (Nat.lt_of_lt_of_le Xa0.out.lt (by omega)))
  have Nb0c0 := Lib.hid (show w.heap.size + 1 ≠ w3.heap.size from Nat.ne_of_lt (Nat.lt_of_lt_of_le Xb0.out.lt (by omega)))
  have Gc0 := Lib.hid (show w.heap.size ≤ w3.heap.size from Nat.le_trans HB.out.size (by omega))
  have Xa0 := Lib.hid (Box.pcall hb Xa0.out)
  have Xb0 := Lib.hid (Box.pcall hb Xb0.out)
  have Xc0 := Lib.hid xc0
  have HB := Lib.hid (below_call HB.out hb)
  clear hk hb xc0
  (first | (have hcall := zim_no Ha.out Hb.out Hlt.out (by decide); refine Calls.mono hcall ?_; clear hcall) | refine Calls.mono (zim_no Ha.out Hb.out Hlt.out (by decide)) ?_)
  rintro e w5 ⟨v5, rfl, rfl, hb⟩
  have Xa0 := Lib.hid (Box.pcall hb Xa0.out)
  have Xb0 := Lib.hid (Box.pcall hb Xb0.out)
  have Xc0 := Lib.hid (Box.pcall hb Xc0.out)
  have HB := Lib.hid (below_call HB.out hb)
  clear hb
  obtain ⟨ca00, ca01, ca02, fa00, fa01, fa02⟩ := Xa0.out.c3
  have la0 := Xa0.out.lt
  obtain ⟨cb00, cb01, cb02, fb00, fb01, fb02⟩ := Xb0.out.c3
  have lb0 := Xb0.out.lt
  obtain ⟨cc00, cc01, cc02, fc00, fc01, fc02⟩ := Xc0.out.c3
  have lc0 := Xc0.out.lt
  go_wp2_with fail
  clear ca00 ca01 ca02 fa00 fa01 fa02 la0 cb00 cb01 cb02 fb00 fb01 fb02 lb0 cc00 cc01 cc02 fc00 fc01 fc02 lc0
  obtain ⟨W6, hW⟩ : ∃ W6, W6 = (World.alloc w5 (.cells #[.bool false, .slice none 0 0, .slice none 0 0] 25)) := ⟨_, rfl⟩
  rw [← hW]
  obtain ⟨xd0, hk, hb⟩ := boxes_1 _ _ _ hW
  clear hW
  have Na0d0 := Lib.hid (show w.heap.size ≠ w5.heap.size from Nat.ne_of_lt (Nat.lt_of_lt_of_le Xa0.out.lt (by omega)))
  have Nb0d0 := Lib.hid (show w.heap.size + 1 ≠ w5.heap.size from Nat.ne_of_lt (Nat.lt_of_lt_of_le Xb0.out.lt (by omega)))
  have Nc0d0 := Lib.hid (show w3.heap.size ≠ w5.heap.size from Nat.ne_of_lt (Nat.lt_of_lt_of_le Xc0.out.lt (by omega)))
  have Gd0 := Lib.hid (show w.heap.size ≤ w5.heap.size from Nat.le_trans HB.out.size (by omega))
  have Xa0 := Lib.hid (Box.pcall hb Xa0.out)
  have Xb0 := Lib.hid (Box.pcall hb Xb0.out)
  have Xc0 := Lib.hid (Box.pcall hb Xc0.out)
  have Xd0 := Lib.hid xd0
  have HB := Lib.hid (below_call HB.out hb)
  clear hk hb xd0
  refine Calls.mono (zsame_cr (CR.zero _) (CR.zero _) rfl) ?_
  rintro e w7 ⟨v7, rfl, rfl, hb⟩
  have Xa0 := Lib.hid (Box.pcall hb Xa0.out)
  have Xb0 := Lib.hid (Box.pcall hb Xb0.out)
  have Xc0 := Lib.hid (Box.pcall hb Xc0.out)
  have Xd0 := Lib.hid (Box.pcall hb Xd0.out)
  have HB := Lib.hid (below_call HB.out hb)
  clear hb
  obtain ⟨ca00, ca01, ca02, fa00, fa01, fa02⟩ := Xa0.out.c3
  have la0 := Xa0.out.lt
  obtain ⟨cb00, cb01, cb02, fb00, fb01, fb02⟩ := Xb0.out.c3
  have lb0 := Xb0.out.lt
  obtain ⟨cc00, cc01, cc02, fc00, fc01, fc02⟩ := Xc0.out.c3
  have lc0 := Xc0.out.lt
  obtain ⟨cd00, cd01, cd02, fd00, fd01, fd02⟩ := Xd0.out.c3
  have ld0 := Xd0.out.lt
  go_wp2
  clear ca00 ca01 ca02 fa00 fa01 fa02 la0 cb00 cb01 cb02 fb00 fb01 fb02 lb0 cc00 cc01 cc02 fc00 fc01 fc02 lc0 cd00 cd01 cd02 fd00 fd01 fd02 ld0
  go_ret
  exact ⟨_, rfl, rfl, HB.out⟩


set_option maxRecDepth 100000 in
set_option maxHeartbeats 4000000 in
theorem lrsim_y {qa : Rat} {ba : Bool} {sa ta : Option Addr} {na ca ma ea : Nat} {qb : Rat} {bb : Bool} {sb tb : Option Addr} {nb cb mb eb : Nat}  {w : World} (hlt : qa ≤ qb) (ha : AR qa 2 w (.agg #[.bool ba, .slice sa na ca, .slice ta ma ea])) (hb : AR qb 2 w (.agg #[.bool bb, .slice sb nb cb, .slice tb mb eb])) (hd0 : decide ((2 : Int) < na) = false) (hd1 : decide ((2 : Int) < ma) = false) (hd2 : decide ((2 : Int) < nb) = false) (hd3 : decide ((2 : Int) < mb) = false) :
    Calls Try.prog 5 #[.agg #[.bool ba, .slice sa na ca, .slice ta ma ea], .agg #[.bool bb, .slice sb nb cb, .slice tb mb eb]] w (Ret w (Val (.bool true))) := by
  have Ha := Lib.hid ha
  have Hb := Lib.hid hb
  have Hlt := Lib.hid hlt
  clear ha hb hlt
  go_enter Try.func5, Try.ntmps5
  have HB := Lib.hid (Below.refl w.heap.size w)
  go_wp2_with fail
  obtain ⟨W1, hW⟩ : ∃ W1, W1 = (World.alloc (World.alloc w (.cells #[.bool ba, .slice sa na ca, .slice ta ma ea] 25)) (.cells #[.bool bb, .slice sb nb cb, .slice tb mb eb] 25)) := ⟨_, rfl⟩
  rw [← hW]
  obtain ⟨xa0, xb0, hk, hb⟩ := boxes_2 _ _ _ _ _ hW
  clear hW
  have Ha := Lib.hid (AR.keep Ha.out hk)
  have Hb := Lib.hid (AR.keep Hb.out hk)
  have Ga0 := Lib.hid (show w.heap.size ≤ w.heap.size from Nat.le_trans HB.out.size (by omega))
  have Gb0 := Lib.hid (show w.heap.size ≤ w.heap.size + 1 from Nat.le_trans HB.out.size (by omega))
  have Xa0 := Lib.hid xa0
  have Xb0 := Lib.hid xb0
  have HB := Lib.hid (below_call HB.out hb)
  clear hk hb xa0 xb0
  refine Calls.mono (awake3) ?_
  rintro e w2 ⟨v2, rfl, rfl, hb⟩
  have Ha := Lib.hid (AR.keep Ha.out (Keep.call hb))
  have Hb := Lib.hid (AR.keep Hb.out (Keep.call hb))
  have Xa0 := Lib.hid (Box.pcall hb Xa0.out)
  have Xb0 := Lib.hid (Box.pcall hb Xb0.out)
  have HB := Lib.hid (below_call HB.out hb)
  clear hb
  obtain ⟨ca00, ca01, ca02, fa00, fa01, fa02⟩ := Xa0.out.c3
  have la0 := Xa0.out.lt
  obtain ⟨cb00, cb01, cb02, fb00, fb01, fb02⟩ := Xb0.out.c3
  have lb0 := Xb0.out.lt
  go_wp2_with fail
  clear ca00 ca01 ca02 fa00 fa01 fa02 la0 cb00 cb01 cb02 fb00 fb01 fb02 lb0
  (first | (have hcall := sim_ar Ha.out Hb.out Hlt.out (by decide) (by decide); refine Calls.mono hcall ?_; clear hcall) | refine Calls.mono (sim_ar Ha.out Hb.out Hlt.out (by decide) (by decide)) ?_)
  rintro e w3 ⟨t3, rfl, ⟨v3, rfl, hv1⟩, hb⟩
  obtain ⟨v1_b, v1_a, v1_n, v1_c, v1_d, v1_m, v1_e, rfl⟩ := hv1.litb
  have Ha := Lib.hid (AR.keep Ha.out (Keep.call hb))
  have Hb := Lib.hid (AR.keep Hb.out (Keep.call hb))
  have Xa0 := Lib.hid (Box.pcall hb Xa0.out)
  have Xb0 := Lib.hid (Box.pcall hb Xb0.out)
  have HB := Lib.hid (below_call HB.out hb)
  have Hv1 := Lib.hid hv1
  clear hb hv1
  obtain ⟨ca00, ca01, ca02, fa00, fa01, fa02⟩ := Xa0.out.c3
  have la0 := Xa0.out.lt
  obtain ⟨cb00, cb01, cb02, fb00, fb01, fb02⟩ := Xb0.out.c3
  have lb0 := Xb0.out.lt
  go_wp2_with fail
  clear ca00 ca01 ca02 fa00 fa01 fa02 la0 cb00 cb01 cb02 fb00 fb01 fb02 lb0
  obtain ⟨W4, hW⟩ : ∃ W4, W4 = (World.alloc w3 (.cells #[.bool v1_b, .slice v1_a v1_n v1_c, .slice v1_d v1_m v1_e] 25)) := ⟨_, rfl⟩
  rw [← hW]
  obtain ⟨xc0, hk, hb⟩ := boxes_1 _ _ _ hW
  clear hW
  have Ha := Lib.hid (AR.keep Ha.out hk)
  have Hb := Lib.hid (AR.keep Hb.out hk)
  have Hv1 := Lib.hid (CR.keep Hv1.out hk)
  have Na0c0 := Lib.hid (show w.heap.size ≠ w3.heap.size from Nat.ne_of_lt (Nat.lt_of_lt_of_le Xa0.out.lt (by omega)))
  have Nb0c0 := Lib.hid (show w.heap.size + 1 ≠ w3.heap.size from Nat.ne_of_lt (Nat.lt_of_lt_of_le Xb0.out.lt (by omega)))
  have Gc0 := Lib.hid (show w.heap.size ≤ w3.heap.size from Nat.le_trans HB.out.size (by omega))
  have Xa0 := Lib.hid (Box.pcall hb Xa0.out)
  have Xb0 := Lib.hid (Box.pcall hb Xb0.out)
  have Xc0 := Lib.hid xc0
  have HB := Lib.hid (below_call HB.out hb)
  clear hk hb xc0
  (first | (have hcall := zim_ar Ha.out Hb.out Hlt.out (by decide) (by decide); refine Calls.mono hcall ?_; clear hcall) | refine Calls.mono (zim_ar Ha.out Hb.out Hlt.out (by decide) (by decide)) ?_)
  rintro e w5 ⟨t5, rfl, ⟨v5, rfl, hv2⟩, hb⟩
  obtain ⟨v2_b, v2_a, v2_n, v2_c, v2_d, v2_m, v2_e, rfl⟩ := hv2.litb
  have Hv1 := Lib.hid (CR.keep Hv1.out (Keep.call hb))
  have Xa0 := Lib.hid (Box.pcall hb Xa0.out)
  have Xb0 := Lib.hid (Box.pcall hb Xb0.out)
  have Xc0 := Lib.hid (Box.pcall hb Xc0.out)
  have HB := Lib.hid (below_call HB.out hb)
  have Hv2 := Lib.hid hv2
  clear hb hv2
  obtain ⟨ca00, ca01, ca02, fa00, fa01, fa02⟩ := Xa0.out.c3
  have la0 := Xa0.out.lt
  obtain ⟨cb00, cb01, cb02, fb00, fb01, fb02⟩ := Xb0.out.c3
  have lb0 := Xb0.out.lt
  obtain ⟨cc00, cc01, cc02, fc00, fc01, fc02⟩ := Xc0.out.c3
  have lc0 := Xc0.out.lt
  go_wp2_with fail
  clear ca00 ca01 ca02 fa00 fa01 fa02 la0 cb00 cb01 cb02 fb00 fb01 fb02 lb0 cc00 cc01 cc02 fc00 fc01 fc02 lc0
  obtain ⟨W6, hW⟩ : ∃ W6, W6 = (World.alloc w5 (.cells #[.bool v2_b, .slice v2_a v2_n v2_c, .slice v2_d v2_m v2_e] 25)) := ⟨_, rfl⟩
  rw [← hW]
  obtain ⟨xd0, hk, hb⟩ := boxes_1 _ _ _ hW
  clear hW
  have Hv1 := Lib.hid (CR.keep Hv1.out hk)
  have Hv2 := Lib.hid (CR.keep Hv2.out hk)
  have Na0d0 := Lib.hid (show w.heap.size ≠ w5.heap.size from Nat.ne_of_lt (Nat.lt_of_lt_of_le Xa0.out.lt (by omega)))
  have Nb0d0 := Lib.hid (show w.heap.size + 1 ≠ w5.heap.size from Nat.ne_of_lt (Nat.lt_of_lt_of_le Xb0.out.lt (by omega)))
  have Nc0d0 := Lib.hid (show w3.heap.size ≠ w5.heap.size from Nat.ne_of_lt (Nat.lt_of_lt_of_le Xc0.out.lt (by omega)))
  have Gd0 := Lib.hid (show w.heap.size ≤ w5.heap.size from Nat.le_trans HB.out.size (by omega))
  have Xa0 := Lib.hid (Box.pcall hb Xa0.out)
  have Xb0 := Lib.hid (Box.pcall hb Xb0.out)
  have Xc0 := Lib.hid (Box.pcall hb Xc0.out)
  have Xd0 := Lib.hid xd0
  have HB := Lib.hid (below_call HB.out hb)
  clear hk hb xd0
  (first | (have hcall := zsame_cr Hv1.out Hv2.out (rfl); refine Calls.mono hcall ?_; clear hcall) | refine Calls.mono (zsame_cr Hv1.out Hv2.out (rfl)) ?_)
  rintro e w7 ⟨v7, rfl, rfl, hb⟩
  have Xa0 := Lib.hid (Box.pcall hb Xa0.out)
  have Xb0 := Lib.hid (Box.pcall hb Xb0.out)
  have Xc0 := Lib.hid (Box.pcall hb Xc0.out)
  have Xd0 := Lib.hid (Box.pcall hb Xd0.out)
  have HB := Lib.hid (below_call HB.out hb)
  clear hb
  obtain ⟨ca00, ca01, ca02, fa00, fa01, fa02⟩ := Xa0.out.c3
  have la0 := Xa0.out.lt
  obtain ⟨cb00, cb01, cb02, fb00, fb01, fb02⟩ := Xb0.out.c3
  have lb0 := Xb0.out.lt
  obtain ⟨cc00, cc01, cc02, fc00, fc01, fc02⟩ := Xc0.out.c3
  have lc0 := Xc0.out.lt
  obtain ⟨cd00, cd01, cd02, fd00, fd01, fd02⟩ := Xd0.out.c3
  have ld0 := Xd0.out.lt
  go_wp2
  clear ca00 ca01 ca02 fa00 fa01 fa02 la0 cb00 cb01 cb02 fb00 fb01 fb02 lb0 cc00 cc01 cc02 fc00 fc01 fc02 lc0 cd00 cd01 cd02 fd00 fd01 fd02 ld0
  go_ret
  exact ⟨_, rfl, rfl, HB.out⟩


theorem RationalCompare_all (ba : Bool) (sa : Option Addr) (na ca : Nat) (ta : Option Addr) (ma ea : Nat) (bb : Bool) (sb : Option Addr) (nb cb : Nat) (tb : Option Addr) (mb eb : Nat) (bc : Bool) (sc : Option Addr) (nc cc : Nat) (tc : Option Addr) (mc ec : Nat) (w : World) (ra : Row w (.slice sa na ca) na) (ua : Row w (.slice ta ma ea) ma) (rb : Row w (.slice sb nb cb) nb) (ub : Row w (.slice tb mb eb) mb) (rc : Row w (.slice sc nc cc) nc) (uc : Row w (.slice tc mc ec) mc) : Calls Try.prog 11 #[.agg #[.bool ba, .slice sa na ca, .slice ta ma ea], .agg #[.bool bb, .slice sb nb cb, .slice tb mb eb], .agg #[.bool bc, .slice sc nc cc, .slice tc mc ec]] w (Ret w (Val (.bool true))) := by
  by_cases la : 3 < na ∨ 3 < ma
  · exact lrcmp_no0 la
  by_cases lb : 3 < nb ∨ 3 < mb
  · exact lrcmp_no1 (by omega) (by omega) lb
  by_cases lc : 3 < nc ∨ 3 < mc
  · exact lrcmp_no2 (by omega) (by omega) (by omega) (by omega) lc
  obtain ⟨qa, ha⟩ := ra.ar (b := ba) ua 3 (by omega) (by omega) (by decide)
  obtain ⟨qb, hb⟩ := rb.ar (b := bb) ub 3 (by omega) (by omega) (by decide)
  obtain ⟨qc, hc⟩ := rc.ar (b := bc) uc 3 (by omega) (by omega) (by decide)
  have b1 := sgn_bd (qa - qb).num
  have b2 := sgn_bd qc.num
  by_cases h1 : cmpQ qa qb ≤ 0
  · by_cases h2 : cmpQ qb qc ≤ 0
    · have h3 : cmpQ qa qc ≤ 0 := cmpQ_le.2 (Rat.le_trans (cmpQ_le.1 h1) (cmpQ_le.1 h2))
      exact lrcmp_3 _ _ rfl rfl b1.1 b1.2 b2.1 b2.2 (decide_eq_true h1) _ _ rfl (decide_eq_true h2) rfl (decide_eq_false (by omega)) ha (by omega) (by omega) hb (by omega) (by omega) hc (by omega) (by omega)
    · exact lrcmp_2 _ _ rfl rfl b1.1 b1.2 b2.1 b2.2 (decide_eq_true h1) _ rfl (decide_eq_false h2) ha (by omega) (by omega) hb (by omega) (by omega) hc (by omega) (by omega)
  · exact lrcmp_1 _ _ rfl rfl b1.1 b1.2 b2.1 b2.2 (decide_eq_false h1) ha (by omega) (by omega) hb (by omega) (by omega) hc (by omega) (by omega)

theorem RationalSimplest_all (ba : Bool) (sa : Option Addr) (na ca : Nat) (ta : Option Addr) (ma ea : Nat) (bb : Bool) (sb : Option Addr) (nb cb : Nat) (tb : Option Addr) (mb eb : Nat) (w : World) (ra : Row w (.slice sa na ca) na) (ua : Row w (.slice ta ma ea) ma) (rb : Row w (.slice sb nb cb) nb) (ub : Row w (.slice tb mb eb) mb) : Calls Try.prog 5 #[.agg #[.bool ba, .slice sa na ca, .slice ta ma ea], .agg #[.bool bb, .slice sb nb cb, .slice tb mb eb]] w (Ret w (Val (.bool true))) := by
  by_cases l0 : 2 < na
  · exact lrsim_no0 (by simp; omega)
  by_cases l1 : 2 < ma
  · exact lrsim_no1 (by simp; omega) (by simp; omega)
  by_cases l2 : 2 < nb
  · exact lrsim_no2 (by simp; omega) (by simp; omega) (by simp; omega)
  by_cases l3 : 2 < mb
  · exact lrsim_no3 (by simp; omega) (by simp; omega) (by simp; omega) (by simp; omega)
  obtain ⟨qa, ha⟩ := ra.ar (b := ba) ua 2 (by omega) (by omega) (by decide)
  obtain ⟨qb, hb⟩ := rb.ar (b := bb) ub 2 (by omega) (by omega) (by decide)
  by_cases hlt : qb < qa
  · exact lrsim_n hlt ha hb (by simp; omega) (by simp; omega) (by simp; omega) (by simp; omega)
  · exact lrsim_y (by grind) ha hb (by simp; omega) (by simp; omega) (by simp; omega) (by simp; omega)

end Go.Proofs.Ytfkjhaniglmejaa
