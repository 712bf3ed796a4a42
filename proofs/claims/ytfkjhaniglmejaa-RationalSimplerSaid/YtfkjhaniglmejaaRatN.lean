/- Layer 3: RationalSimpler. Printed by ratd.py. -/
import Derived.Test.YtfkjhaniglmejaaShelR
namespace Go.Proofs.Ytfkjhaniglmejaa
open Go.RowKit Nt
set_option linter.unusedVariables false

theorem smp_spec {lo hi : Rat} (h : lo ≤ hi) : lo ≤ smp lo hi ∧ smp lo hi ≤ hi ∧ ∀ x, lo ≤ x → x ≤ hi → (smp lo hi).den ≤ x.den ∧ (smp lo hi).num.natAbs ≤ x.num.natAbs := by
  unfold smp
  split
  · rename_i h1
    refine ⟨h1.1, h1.2, fun x _ _ => ⟨x.den_pos, ?_⟩⟩
    show 0 ≤ _
    omega
  · rename_i h1
    split
    · rename_i h2
      have hp : 0 < -hi := by grind
      obtain ⟨a, b, c⟩ := spl_spec _ (-hi) (-lo) hp (by grind) (Nat.le_refl _)
      have sp := num_pos' (spl_pos hp (show -hi ≤ -lo by grind) (Nat.le_refl _))
      generalize spl ((-hi).den + (-lo).den) (-hi) (-lo) = s at *
      refine ⟨by grind, by grind, fun x hx hx' => ?_⟩
      have k := c (-x) (by grind) (by grind)
      have xp := num_pos' (show 0 < -x by grind)
      rw [Rat.neg_num, Rat.neg_den] at k
      rw [Rat.neg_num] at xp
      rw [Rat.neg_num, Rat.neg_den]
      refine ⟨k.1, by omega⟩
    · rename_i h2
      have hp : 0 < lo := by
        rcases (show lo ≤ 0 ∨ 0 < lo by grind) with h3 | h3
        · exact absurd ⟨h3, by grind⟩ h1
        · exact h3
      obtain ⟨a, b, c⟩ := spl_spec _ lo hi hp h (Nat.le_refl _)
      have sp := num_pos' (spl_pos hp h (Nat.le_refl _))
      refine ⟨a, b, fun x hx hx' => ?_⟩
      have k := c x hx hx'
      have xp := num_pos' (show 0 < x by grind)
      exact ⟨k.1, by omega⟩

set_option maxRecDepth 100000 in
set_option maxHeartbeats 4000000 in
theorem lrspr_no0 {x : Int} {ba : Bool} {sa ta : Option Addr} {na ca ma ea : Nat} {bb : Bool} {sb tb : Option Addr} {nb cb mb eb : Nat}  {w : World} (h1 : 0 ≤ x) (h2 : x < 65536) (hno : 3 < na ∨ 3 < ma) :
    Calls Try.prog 6 #[.agg #[.bool ba, .slice sa na ca, .slice ta ma ea], .agg #[.bool bb, .slice sb nb cb, .slice tb mb eb], .int .u16 x] w (Ret w (Val (.bool true))) := by
  have Hno := Lib.hid hno
  clear hno
  go_enter Try.func6, Try.ntmps6
  have HB := Lib.hid (Below.refl w.heap.size w)
  go_wp2_with fail
  obtain ⟨W1, hW⟩ : ∃ W1, W1 = (World.alloc (World.alloc w (.cells #[.bool ba, .slice sa na ca, .slice ta ma ea] 25)) (.cells #[.bool bb, .slice sb nb cb, .slice tb mb eb] 25)) := ⟨_, rfl⟩
  rw [← hW]
  obtain ⟨xa0, xb0, hk, hb⟩ := boxes_2 _ _ _ _ _ hW
  clear hW
  have Ga0 := Lib.hid (show w.heap.size ≤ w.heap.size from Nat.le_trans HB.out.size (by omega))
  have Gb0 := Lib.hid (show w.heap.size ≤ w.heap.size + 1 from Nat.le_trans HB.out.size (by omega))
  have Xa0 := Lib.hid xa0
  have Xb0 := Lib.hid xb0
  have HB := Lib.hid (below_call HB.out hb)
  clear hk hb xa0 xb0
  refine Calls.mono (awake3) ?_
  rintro e w2 ⟨v2, rfl, rfl, hb⟩
  have Xa0 := Lib.hid (Box.pcall hb Xa0.out)
  have Xb0 := Lib.hid (Box.pcall hb Xb0.out)
  have HB := Lib.hid (below_call HB.out hb)
  clear hb
  obtain ⟨ca00, ca01, ca02, fa00, fa01, fa02⟩ := Xa0.out.c3
  have la0 := Xa0.out.lt
  obtain ⟨cb00, cb01, cb02, fb00, fb01, fb02⟩ := Xb0.out.c3
  have lb0 := Xb0.out.lt
  go_wp2_with fail
  clear ca00 ca01 ca02 fa00 fa01 fa02 la0 cb00 cb01 cb02 fb00 fb01 fb02 lb0
  refine Calls.mono (few3_no Hno.out) ?_
  rintro e w3 ⟨v3, rfl, rfl, hb⟩
  have Xa0 := Lib.hid (Box.pcall hb Xa0.out)
  have Xb0 := Lib.hid (Box.pcall hb Xb0.out)
  have HB := Lib.hid (below_call HB.out hb)
  clear hb
  obtain ⟨ca00, ca01, ca02, fa00, fa01, fa02⟩ := Xa0.out.c3
  have la0 := Xa0.out.lt
  obtain ⟨cb00, cb01, cb02, fb00, fb01, fb02⟩ := Xb0.out.c3
  have lb0 := Xb0.out.lt
  go_wp2
  clear ca00 ca01 ca02 fa00 fa01 fa02 la0 cb00 cb01 cb02 fb00 fb01 fb02 lb0
  go_ret
  exact ⟨_, rfl, rfl, HB.out⟩


set_option maxRecDepth 100000 in
set_option maxHeartbeats 4000000 in
theorem lrspr_no1 {x : Int} {ba : Bool} {sa ta : Option Addr} {na ca ma ea : Nat} {bb : Bool} {sb tb : Option Addr} {nb cb mb eb : Nat}  {w : World} (h1 : 0 ≤ x) (h2 : x < 65536) (hfa : na ≤ 3) (hga : ma ≤ 3) (hno : 3 < nb ∨ 3 < mb) :
    Calls Try.prog 6 #[.agg #[.bool ba, .slice sa na ca, .slice ta ma ea], .agg #[.bool bb, .slice sb nb cb, .slice tb mb eb], .int .u16 x] w (Ret w (Val (.bool true))) := by
  have Hfa := Lib.hid hfa
  have Hga := Lib.hid hga
  have Hno := Lib.hid hno
  clear hfa hga hno
  go_enter Try.func6, Try.ntmps6
  have HB := Lib.hid (Below.refl w.heap.size w)
  go_wp2_with fail
  obtain ⟨W1, hW⟩ : ∃ W1, W1 = (World.alloc (World.alloc w (.cells #[.bool ba, .slice sa na ca, .slice ta ma ea] 25)) (.cells #[.bool bb, .slice sb nb cb, .slice tb mb eb] 25)) := ⟨_, rfl⟩
  rw [← hW]
  obtain ⟨xa0, xb0, hk, hb⟩ := boxes_2 _ _ _ _ _ hW
  clear hW
  have Ga0 := Lib.hid (show w.heap.size ≤ w.heap.size from Nat.le_trans HB.out.size (by omega))
  have Gb0 := Lib.hid (show w.heap.size ≤ w.heap.size + 1 from Nat.le_trans HB.out.size (by omega))
  have Xa0 := Lib.hid xa0
  have Xb0 := Lib.hid xb0
  have HB := Lib.hid (below_call HB.out hb)
  clear hk hb xa0 xb0
  refine Calls.mono (awake3) ?_
  rintro e w2 ⟨v2, rfl, rfl, hb⟩
  have Xa0 := Lib.hid (Box.pcall hb Xa0.out)
  have Xb0 := Lib.hid (Box.pcall hb Xb0.out)
  have HB := Lib.hid (below_call HB.out hb)
  clear hb
  obtain ⟨ca00, ca01, ca02, fa00, fa01, fa02⟩ := Xa0.out.c3
  have la0 := Xa0.out.lt
  obtain ⟨cb00, cb01, cb02, fb00, fb01, fb02⟩ := Xb0.out.c3
  have lb0 := Xb0.out.lt
  go_wp2_with fail
  clear ca00 ca01 ca02 fa00 fa01 fa02 la0 cb00 cb01 cb02 fb00 fb01 fb02 lb0
  refine Calls.mono (few3_yes Hfa.out Hga.out) ?_
  rintro e w3 ⟨v3, rfl, rfl, hb⟩
  have Xa0 := Lib.hid (Box.pcall hb Xa0.out)
  have Xb0 := Lib.hid (Box.pcall hb Xb0.out)
  have HB := Lib.hid (below_call HB.out hb)
  clear hb
  obtain ⟨ca00, ca01, ca02, fa00, fa01, fa02⟩ := Xa0.out.c3
  have la0 := Xa0.out.lt
  obtain ⟨cb00, cb01, cb02, fb00, fb01, fb02⟩ := Xb0.out.c3
  have lb0 := Xb0.out.lt
  go_wp2_with fail
  clear ca00 ca01 ca02 fa00 fa01 fa02 la0 cb00 cb01 cb02 fb00 fb01 fb02 lb0
  refine Calls.mono (few3_no Hno.out) ?_
  rintro e w4 ⟨v4, rfl, rfl, hb⟩
  have Xa0 := Lib.hid (Box.pcall hb Xa0.out)
  have Xb0 := Lib.hid (Box.pcall hb Xb0.out)
  have HB := Lib.hid (below_call HB.out hb)
  clear hb
  obtain ⟨ca00, ca01, ca02, fa00, fa01, fa02⟩ := Xa0.out.c3
  have la0 := Xa0.out.lt
  obtain ⟨cb00, cb01, cb02, fb00, fb01, fb02⟩ := Xb0.out.c3
  have lb0 := Xb0.out.lt
  go_wp2
  clear ca00 ca01 ca02 fa00 fa01 fa02 la0 cb00 cb01 cb02 fb00 fb01 fb02 lb0
  go_ret
  exact ⟨_, rfl, rfl, HB.out⟩


set_option maxRecDepth 100000 in
set_option maxHeartbeats 4000000 in
theorem lrspr_1 {x : Int} {qa : Rat} {ba : Bool} {sa ta : Option Addr} {na ca ma ea : Nat} {qb : Rat} {bb : Bool} {sb tb : Option Addr} {nb cb mb eb : Nat}  {w : World} (h1 : 0 ≤ x) (h2 : x < 65536) (k : Int) (hk : cmpQ qa (((x / 256 - 128 : Int) : Rat) / ((x % 50 + 1 : Int) : Rat)) = k) (hk0 : decide (0 < k) = true)  (ha : AR qa 3 w (.agg #[.bool ba, .slice sa na ca, .slice ta ma ea])) (hfa : na ≤ 3) (hga : ma ≤ 3) (hb : AR qb 3 w (.agg #[.bool bb, .slice sb nb cb, .slice tb mb eb])) (hfb : nb ≤ 3) (hgb : mb ≤ 3) :
    Calls Try.prog 6 #[.agg #[.bool ba, .slice sa na ca, .slice ta ma ea], .agg #[.bool bb, .slice sb nb cb, .slice tb mb eb], .int .u16 x] w (Ret w (Val (.bool true))) := by
  have Ha := Lib.hid ha
  have Hb := Lib.hid hb
  have Hk := Lib.hid hk
  have Hfa := Lib.hid hfa
  have Hga := Lib.hid hga
  have Hfb := Lib.hid hfb
  have Hgb := Lib.hid hgb
  clear ha hb hk hfa hga hfb hgb
  go_enter Try.func6, Try.ntmps6
  have HB := Lib.hid (Below.refl w.heap.size w)
  go_wp2_with fail
  obtain ⟨W1, hW⟩ : ∃ W1, W1 = (World.alloc (World.alloc w (.cells #[.bool ba, .slice sa na ca, .slice ta ma ea] 25)) (.cells #[.bool bb, .slice sb nb cb, .slice tb mb eb] 25)) := ⟨_, rfl⟩
  rw [← hW]
  obtain ⟨xa0, xb0, hk, hb⟩ := boxes_2 _ _ _ _ _ hW
  clear hW
  have Ha := Lib.hid (AR.keep Ha.out hk)
  have Ga0 := Lib.hid (show w.heap.size ≤ w.heap.size from Nat.le_trans HB.out.size (by omega))
  have Gb0 := Lib.hid (show w.heap.size ≤ w.heap.size + 1 from Nat.le_trans HB.out.size (by omega))
  have Xa0 := Lib.hid xa0
  have Xb0 := Lib.hid xb0
  have HB := Lib.hid (below_call HB.out hb)
  clear hk hb xa0 xb0
  refine Calls.mono (awake3) ?_
  rintro e w2 ⟨v2, rfl, rfl, hb⟩
  have Ha := Lib.hid (AR.keep Ha.out (Keep.call hb))
  have Xa0 := Lib.hid (Box.pcall hb Xa0.out)
  have Xb0 := Lib.hid (Box.pcall hb Xb0.out)
  have HB := Lib.hid (below_call HB.out hb)
  clear hb
  obtain ⟨ca00, ca01, ca02, fa00, fa01, fa02⟩ := Xa0.out.c3
  have la0 := Xa0.out.lt
  obtain ⟨cb00, cb01, cb02, fb00, fb01, fb02⟩ := Xb0.out.c3
  have lb0 := Xb0.out.lt
  go_wp2_with fail
  clear ca00 ca01 ca02 fa00 fa01 fa02 la0 cb00 cb01 cb02 fb00 fb01 fb02 lb0
  refine Calls.mono (few3_yes Hfa.out Hga.out) ?_
  rintro e w3 ⟨v3, rfl, rfl, hb⟩
  have Ha := Lib.hid (AR.keep Ha.out (Keep.call hb))
  have Xa0 := Lib.hid (Box.pcall hb Xa0.out)
  have Xb0 := Lib.hid (Box.pcall hb Xb0.out)
  have HB := Lib.hid (below_call HB.out hb)
  clear hb
  obtain ⟨ca00, ca01, ca02, fa00, fa01, fa02⟩ := Xa0.out.c3
  have la0 := Xa0.out.lt
  obtain ⟨cb00, cb01, cb02, fb00, fb01, fb02⟩ := Xb0.out.c3
  have lb0 := Xb0.out.lt
  go_wp2_with fail
  clear ca00 ca01 ca02 fa00 fa01 fa02 la0 cb00 cb01 cb02 fb00 fb01 fb02 lb0
  refine Calls.mono (few3_yes Hfb.out Hgb.out) ?_
  rintro e w4 ⟨v4, rfl, rfl, hb⟩
  have Ha := Lib.hid (AR.keep Ha.out (Keep.call hb))
  have Xa0 := Lib.hid (Box.pcall hb Xa0.out)
  have Xb0 := Lib.hid (Box.pcall hb Xb0.out)
  have HB := Lib.hid (below_call HB.out hb)
  clear hb
  obtain ⟨ca00, ca01, ca02, fa00, fa01, fa02⟩ := Xa0.out.c3
  have la0 := Xa0.out.lt
  obtain ⟨cb00, cb01, cb02, fb00, fb01, fb02⟩ := Xb0.out.c3
  have lb0 := Xb0.out.lt
  go_wp2_with fail
  clear ca00 ca01 ca02 fa00 fa01 fa02 la0 cb00 cb01 cb02 fb00 fb01 fb02 lb0
  refine Calls.mono (frac_ok (x := x / 256 - 128) (y := x % 50 + 1) (by omega) (by omega) (by omega) (by omega) (by omega)) ?_
  rintro e w5 ⟨v5, rfl, hx1, hb⟩
  obtain ⟨x1_b, x1_a, x1_n, x1_c, x1_d, x1_m, x1_e, rfl⟩ := hx1.litb
  have Ha := Lib.hid (AR.keep Ha.out (Keep.call hb))
  have Xa0 := Lib.hid (Box.pcall hb Xa0.out)
  have Xb0 := Lib.hid (Box.pcall hb Xb0.out)
  have HB := Lib.hid (below_call HB.out hb)
  have Hx1 := Lib.hid hx1
  clear hb hx1
  obtain ⟨ca00, ca01, ca02, fa00, fa01, fa02⟩ := Xa0.out.c3
  have la0 := Xa0.out.lt
  obtain ⟨cb00, cb01, cb02, fb00, fb01, fb02⟩ := Xb0.out.c3
  have lb0 := Xb0.out.lt
  go_wp2_with fail
  clear ca00 ca01 ca02 fa00 fa01 fa02 la0 cb00 cb01 cb02 fb00 fb01 fb02 lb0
  obtain ⟨W6, hW⟩ : ∃ W6, W6 = (World.alloc w5 (.cells #[.bool x1_b, .slice x1_a x1_n x1_c, .slice x1_d x1_m x1_e] 25)) := ⟨_, rfl⟩
  rw [← hW]
  obtain ⟨xc0, hk, hb⟩ := boxes_1 _ _ _ hW
  clear hW
  have Ha := Lib.hid (AR.keep Ha.out hk)
  have Hx1 := Lib.hid (CR.keep Hx1.out hk)
  have Na0c0 := Lib.hid (show w.heap.size ≠ w5.heap.size from Nat.ne_of_lt (Nat.lt_of_lt_of_le Xa0.out.lt (by omega)))
  have Nb0c0 := Lib.hid (show w.heap.size + 1 ≠ w5.heap.size from Nat.ne_of_lt (Nat.lt_of_lt_of_le Xb0.out.lt (by omega)))
  have Gc0 := Lib.hid (show w.heap.size ≤ w5.heap.size from Nat.le_trans HB.out.size (by omega))
  have Xa0 := Lib.hid (Box.pcall hb Xa0.out)
  have Xb0 := Lib.hid (Box.pcall hb Xb0.out)
  have Xc0 := Lib.hid xc0
  have HB := Lib.hid (below_call HB.out hb)
  clear hk hb xc0
  (first | (have hcall := zcmp_ar k Ha.out Hx1.out.ar Hk.out (by decide) (by decide); refine Calls.mono hcall ?_; clear hcall) | refine Calls.mono (zcmp_ar k Ha.out Hx1.out.ar Hk.out (by decide) (by decide)) ?_)
  rintro e w7 ⟨v7, rfl, ⟨⟩, hb⟩
  have Xa0 := Lib.hid (Box.pcall hb Xa0.out)
  have Xb0 := Lib.hid (Box.pcall hb Xb0.out)
  have Xc0 := Lib.hid (Box.pcall hb Xc0.out)
  have HB := Lib.hid (below_call HB.out hb)
  clear hb
  obtain ⟨ca00, ca01, ca02, fa00, fa01, fa02⟩ := Xa0.out.c3
  have la0 := Xa0.out.lt
  obtain ⟨cb00, cb01, cb02, fb00, fb01, fb02⟩ := Xb0.out.c3
  have lb0 := Xb0.out.lt
  obtain ⟨cc00, cc01, cc02, fc00, fc01, fc02⟩ := Xc0.out.c3
  have lc0 := Xc0.out.lt
  go_wp2
  clear ca00 ca01 ca02 fa00 fa01 fa02 la0 cb00 cb01 cb02 fb00 fb01 fb02 lb0 cc00 cc01 cc02 fc00 fc01 fc02 lc0
  go_ret
  exact ⟨_, rfl, rfl, HB.out⟩


set_option maxRecDepth 100000 in
set_option maxHeartbeats 4000000 in
theorem lrspr_2 {x : Int} {qa : Rat} {ba : Bool} {sa ta : Option Addr} {na ca ma ea : Nat} {qb : Rat} {bb : Bool} {sb tb : Option Addr} {nb cb mb eb : Nat}  {w : World} (h1 : 0 ≤ x) (h2 : x < 65536) (k : Int) (hk : cmpQ qa (((x / 256 - 128 : Int) : Rat) / ((x % 50 + 1 : Int) : Rat)) = k) (hk0 : decide (0 < k) = false) (m : Int) (hm : cmpQ (((x / 256 - 128 : Int) : Rat) / ((x % 50 + 1 : Int) : Rat)) qb = m) (hm0 : decide (0 < m) = true)  (ha : AR qa 3 w (.agg #[.bool ba, .slice sa na ca, .slice ta ma ea])) (hfa : na ≤ 3) (hga : ma ≤ 3) (hb : AR qb 3 w (.agg #[.bool bb, .slice sb nb cb, .slice tb mb eb])) (hfb : nb ≤ 3) (hgb : mb ≤ 3) :
    Calls Try.prog 6 #[.agg #[.bool ba, .slice sa na ca, .slice ta ma ea], .agg #[.bool bb, .slice sb nb cb, .slice tb mb eb], .int .u16 x] w (Ret w (Val (.bool true))) := by
  have Ha := Lib.hid ha
  have Hb := Lib.hid hb
  have Hk := Lib.hid hk
  have Hm := Lib.hid hm
  have Hfa := Lib.hid hfa
  have Hga := Lib.hid hga
  have Hfb := Lib.hid hfb
  have Hgb := Lib.hid hgb
  clear ha hb hk hm hfa hga hfb hgb
  go_enter Try.func6, Try.ntmps6
  have HB := Lib.hid (Below.refl w.heap.size w)
  go_wp2_with fail
  obtain ⟨W1, hW⟩ : ∃ W1, W1 = (World.alloc (World.alloc w (.cells #[.bool ba, .slice sa na ca, .slice ta ma ea] 25)) (.cells #[.bool bb, .slice sb nb cb, .slice tb mb eb] 25)) := ⟨_, rfl⟩
  rw [← hW]
  obtain ⟨xa0, xb0, hk, hb⟩ := boxes_2 _ _ _ _ _ hW
  clear hW
  have Ha := Lib.hid (AR.keep Ha.out hk)
  have Hb := Lib.hid (AR.keep Hb.out hk)
  have Ga0 := Lib.hid (show w.heap.size ≤ w.heap.size from Nat.le_trans HB.out.size (by omega))
  have Gb0 := Lib.hid (show w.heap.size ≤ w.heap.size + 1 from Nat.le_trans HB.out.size (by omega))
  have Xa0 := Lib.hid xa0
  have Xb0 := Lib.hid xb0
  have HB := Lib.hid (below_call HB.out hb)
  clear hk hb xa0 xb0
  refine Calls.mono (awake3) ?_
  rintro e w2 ⟨v2, rfl, rfl, hb⟩
  have Ha := Lib.hid (AR.keep Ha.out (Keep.call hb))
  have Hb := Lib.hid (AR.keep Hb.out (Keep.call hb))
  have Xa0 := Lib.hid (Box.pcall hb Xa0.out)
  have Xb0 := Lib.hid (Box.pcall hb Xb0.out)
  have HB := Lib.hid (below_call HB.out hb)
  clear hb
  obtain ⟨ca00, ca01, ca02, fa00, fa01, fa02⟩ := Xa0.out.c3
  have la0 := Xa0.out.lt
  obtain ⟨cb00, cb01, cb02, fb00, fb01, fb02⟩ := Xb0.out.c3
  have lb0 := Xb0.out.lt
  go_wp2_with fail
  clear ca00 ca01 ca02 fa00 fa01 fa02 la0 cb00 cb01 cb02 fb00 fb01 fb02 lb0
  refine Calls.mono (few3_yes Hfa.out Hga.out) ?_
  rintro e w3 ⟨v3, rfl, rfl, hb⟩
  have Ha := Lib.hid (AR.keep Ha.out (Keep.call hb))
  have Hb := Lib.hid (AR.keep Hb.out (Keep.call hb))
  have Xa0 := Lib.hid (Box.pcall hb Xa0.out)
  have Xb0 := Lib.hid (Box.pcall hb Xb0.out)
  have HB := Lib.hid (below_call HB.out hb)
  clear hb
  obtain ⟨ca00, ca01, ca02, fa00, fa01, fa02⟩ := Xa0.out.c3
  have la0 := Xa0.out.lt
  obtain ⟨cb00, cb01, cb02, fb00, fb01, fb02⟩ := Xb0.out.c3
  have lb0 := Xb0.out.lt
  go_wp2_with fail
  clear ca00 ca01 ca02 fa00 fa01 fa02 la0 cb00 cb01 cb02 fb00 fb01 fb02 lb0
  refine Calls.mono (few3_yes Hfb.out Hgb.out) ?_
  rintro e w4 ⟨v4, rfl, rfl, hb⟩
  have Ha := Lib.hid (AR.keep Ha.out (Keep.call hb))
  have Hb := Lib.hid (AR.keep Hb.out (Keep.call hb))
  have Xa0 := Lib.hid (Box.pcall hb Xa0.out)
  have Xb0 := Lib.hid (Box.pcall hb Xb0.out)
  have HB := Lib.hid (below_call HB.out hb)
  clear hb
  obtain ⟨ca00, ca01, ca02, fa00, fa01, fa02⟩ := Xa0.out.c3
  have la0 := Xa0.out.lt
  obtain ⟨cb00, cb01, cb02, fb00, fb01, fb02⟩ := Xb0.out.c3
  have lb0 := Xb0.out.lt
  go_wp2_with fail
  clear ca00 ca01 ca02 fa00 fa01 fa02 la0 cb00 cb01 cb02 fb00 fb01 fb02 lb0
  refine Calls.mono (frac_ok (x := x / 256 - 128) (y := x % 50 + 1) (by omega) (by omega) (by omega) (by omega) (by omega)) ?_
  rintro e w5 ⟨v5, rfl, hx1, hb⟩
  obtain ⟨x1_b, x1_a, x1_n, x1_c, x1_d, x1_m, x1_e, rfl⟩ := hx1.litb
  have Ha := Lib.hid (AR.keep Ha.out (Keep.call hb))
  have Hb := Lib.hid (AR.keep Hb.out (Keep.call hb))
  have Xa0 := Lib.hid (Box.pcall hb Xa0.out)
  have Xb0 := Lib.hid (Box.pcall hb Xb0.out)
  have HB := Lib.hid (below_call HB.out hb)
  have Hx1 := Lib.hid hx1
  clear hb hx1
  obtain ⟨ca00, ca01, ca02, fa00, fa01, fa02⟩ := Xa0.out.c3
  have la0 := Xa0.out.lt
  obtain ⟨cb00, cb01, cb02, fb00, fb01, fb02⟩ := Xb0.out.c3
  have lb0 := Xb0.out.lt
  go_wp2_with fail
  clear ca00 ca01 ca02 fa00 fa01 fa02 la0 cb00 cb01 cb02 fb00 fb01 fb02 lb0
  obtain ⟨W6, hW⟩ : ∃ W6, W6 = (World.alloc w5 (.cells #[.bool x1_b, .slice x1_a x1_n x1_c, .slice x1_d x1_m x1_e] 25)) := ⟨_, rfl⟩
  rw [← hW]
  obtain ⟨xc0, hk, hb⟩ := boxes_1 _ _ _ hW
  clear hW
  have Ha := Lib.hid (AR.keep Ha.out hk)
  have Hb := Lib.hid (AR.keep Hb.out hk)
  have Hx1 := Lib.hid (CR.keep Hx1.out hk)
  have Na0c0 := Lib.hid (show w.heap.size ≠ w5.heap.size from Nat.ne_of_lt (Nat.lt_of_lt_of_le Xa0.out.lt (by omega)))
  have Nb0c0 := Lib.hid (show w.heap.size + 1 ≠ w5.heap.size from Nat.ne_of_lt (Nat.lt_of_lt_of_le Xb0.out.lt (by omega)))
  have Gc0 := Lib.hid (show w.heap.size ≤ w5.heap.size from Nat.le_trans HB.out.size (by omega))
  have Xa0 := Lib.hid (Box.pcall hb Xa0.out)
  have Xb0 := Lib.hid (Box.pcall hb Xb0.out)
  have Xc0 := Lib.hid xc0
  have HB := Lib.hid (below_call HB.out hb)
  clear hk hb xc0
  (first | (have hcall := zcmp_ar k Ha.out Hx1.out.ar Hk.out (by decide) (by decide); refine Calls.mono hcall ?_; clear hcall) | refine Calls.mono (zcmp_ar k Ha.out Hx1.out.ar Hk.out (by decide) (by decide)) ?_)
  rintro e w7 ⟨v7, rfl, ⟨⟩, hb⟩
  have Hb := Lib.hid (AR.keep Hb.out (Keep.call hb))
  have Hx1 := Lib.hid (CR.keep Hx1.out (Keep.call hb))
  have Xa0 := Lib.hid (Box.pcall hb Xa0.out)
  have Xb0 := Lib.hid (Box.pcall hb Xb0.out)
  have Xc0 := Lib.hid (Box.pcall hb Xc0.out)
  have HB := Lib.hid (below_call HB.out hb)
  clear hb
  obtain ⟨ca00, ca01, ca02, fa00, fa01, fa02⟩ := Xa0.out.c3
  have la0 := Xa0.out.lt
  obtain ⟨cb00, cb01, cb02, fb00, fb01, fb02⟩ := Xb0.out.c3
  have lb0 := Xb0.out.lt
  obtain ⟨cc00, cc01, cc02, fc00, fc01, fc02⟩ := Xc0.out.c3
  have lc0 := Xc0.out.lt
  go_wp2_with fail
  clear ca00 ca01 ca02 fa00 fa01 fa02 la0 cb00 cb01 cb02 fb00 fb01 fb02 lb0 cc00 cc01 cc02 fc00 fc01 fc02 lc0
  (first | (have hcall := zcmp_ar m Hx1.out.ar Hb.out Hm.out (by decide) (by decide); refine Calls.mono hcall ?_; clear hcall) | refine Calls.mono (zcmp_ar m Hx1.out.ar Hb.out Hm.out (by decide) (by decide)) ?_)
  rintro e w8 ⟨v8, rfl, ⟨⟩, hb⟩
  have Xa0 := Lib.hid (Box.pcall hb Xa0.out)
  have Xb0 := Lib.hid (Box.pcall hb Xb0.out)
  have Xc0 := Lib.hid (Box.pcall hb Xc0.out)
  have HB := Lib.hid (below_call HB.out hb)
  clear hb
  obtain ⟨ca00, ca01, ca02, fa00, fa01, fa02⟩ := Xa0.out.c3
  have la0 := Xa0.out.lt
  obtain ⟨cb00, cb01, cb02, fb00, fb01, fb02⟩ := Xb0.out.c3
  have lb0 := Xb0.out.lt
  obtain ⟨cc00, cc01, cc02, fc00, fc01, fc02⟩ := Xc0.out.c3
  have lc0 := Xc0.out.lt
  go_wp2
  clear ca00 ca01 ca02 fa00 fa01 fa02 la0 cb00 cb01 cb02 fb00 fb01 fb02 lb0 cc00 cc01 cc02 fc00 fc01 fc02 lc0
  go_ret
  exact ⟨_, rfl, rfl, HB.out⟩


set_option maxRecDepth 100000 in
set_option maxHeartbeats 4000000 in
theorem lrspr_3 {x : Int} {qa : Rat} {ba : Bool} {sa ta : Option Addr} {na ca ma ea : Nat} {qb : Rat} {bb : Bool} {sb tb : Option Addr} {nb cb mb eb : Nat}  {w : World} (h1 : 0 ≤ x) (h2 : x < 65536) (k : Int) (hk : cmpQ qa (((x / 256 - 128 : Int) : Rat) / ((x % 50 + 1 : Int) : Rat)) = k) (hk0 : decide (0 < k) = false) (m : Int) (hm : cmpQ (((x / 256 - 128 : Int) : Rat) / ((x % 50 + 1 : Int) : Rat)) qb = m) (hm0 : decide (0 < m) = false) (hle : qa ≤ qb) (i j : Int) (hi : cmpQ qa (smp qa qb) = i) (hi0 : decide (0 < i) = false) (hj : cmpQ (smp qa qb) qb = j) (hj0 : decide (0 < j) = false) (c : Int) (hc : cmpN (smp qa qb).den (((x / 256 - 128 : Int) : Rat) / ((x % 50 + 1 : Int) : Rat)).den = c) (hc0 : decide (c < 0) = true) (ha : AR qa 3 w (.agg #[.bool ba, .slice sa na ca, .slice ta ma ea])) (hfa : na ≤ 3) (hga : ma ≤ 3) (hb : AR qb 3 w (.agg #[.bool bb, .slice sb nb cb, .slice tb mb eb])) (hfb : nb ≤ 3) (hgb : mb ≤ 3) :
    Calls Try.prog 6 #[.agg #[.bool ba, .slice sa na ca, .slice ta ma ea], .agg #[.bool bb, .slice sb nb cb, .slice tb mb eb], .int .u16 x] w (Ret w (Val (.bool true))) := by
  have Ha := Lib.hid ha
  have Hb := Lib.hid hb
  have Hk := Lib.hid hk
  have Hm := Lib.hid hm
  have Hle := Lib.hid hle
  have Hi := Lib.hid hi
  have Hj := Lib.hid hj
  have Hc := Lib.hid hc
  have Hfa := Lib.hid hfa
  have Hga := Lib.hid hga
  have Hfb := Lib.hid hfb
  have Hgb := Lib.hid hgb
  clear ha hb hk hm hle hi hj hc hfa hga hfb hgb
  go_enter Try.func6, Try.ntmps6
  have HB := Lib.hid (Below.refl w.heap.size w)
  go_wp2_with fail
  obtain ⟨W1, hW⟩ : ∃ W1, W1 = (World.alloc (World.alloc w (.cells #[.bool ba, .slice sa na ca, .slice ta ma ea] 25)) (.cells #[.bool bb, .slice sb nb cb, .slice tb mb eb] 25)) := ⟨_, rfl⟩
  rw [← hW]
  obtain ⟨xa0, xb0, hk, hb⟩ := boxes_2 _ _ _ _ _ hW
  clear hW
  have Ha := Lib.hid (AR.keep Ha.out hk)
  have Hb := Lib.hid (AR.keep Hb.out hk)
  have Ga0 := Lib.hid (show w.heap.size ≤ w.heap.size from Nat.le_trans HB.out.size (by omega))
  have Gb0 := Lib.hid (show w.heap.size ≤ w.heap.size + 1 from Nat.le_trans HB.out.size (by omega))
  have Xa0 := Lib.hid xa0
  have Xb0 := Lib.hid xb0
  have HB := Lib.hid (below_call HB.out hb)
  clear hk hb xa0 xb0
  refine Calls.mono (awake3) ?_
  rintro e w2 ⟨v2, rfl, rfl, hb⟩
  have Ha := Lib.hid (AR.keep Ha.out (Keep.call hb))
  have Hb := Lib.hid (AR.keep Hb.out (Keep.call hb))
  have Xa0 := Lib.hid (Box.pcall hb Xa0.out)
  have Xb0 := Lib.hid (Box.pcall hb Xb0.out)
  have HB := Lib.hid (below_call HB.out hb)
  clear hb
  obtain ⟨ca00, ca01, ca02, fa00, fa01, fa02⟩ := Xa0.out.c3
  have la0 := Xa0.out.lt
  obtain ⟨cb00, cb01, cb02, fb00, fb01, fb02⟩ := Xb0.out.c3
  have lb0 := Xb0.out.lt
  go_wp2_with fail
  clear ca00 ca01 ca02 fa00 fa01 fa02 la0 cb00 cb01 cb02 fb00 fb01 fb02 lb0
  refine Calls.mono (few3_yes Hfa.out Hga.out) ?_
  rintro e w3 ⟨v3, rfl, rfl, hb⟩
  have Ha := Lib.hid (AR.keep Ha.out (Keep.call hb))
  have Hb := Lib.hid (AR.keep Hb.out (Keep.call hb))
  have Xa0 := Lib.hid (Box.pcall hb Xa0.out)
  have Xb0 := Lib.hid (Box.pcall hb Xb0.out)
  have HB := Lib.hid (below_call HB.out hb)
  clear hb
  obtain ⟨ca00, ca01, ca02, fa00, fa01, fa02⟩ := Xa0.out.c3
  have la0 := Xa0.out.lt
  obtain ⟨cb00, cb01, cb02, fb00, fb01, fb02⟩ := Xb0.out.c3
  have lb0 := Xb0.out.lt
  go_wp2_with fail
  clear ca00 ca01 ca02 fa00 fa01 fa02 la0 cb00 cb01 cb02 fb00 fb01 fb02 lb0
  refine Calls.mono (few3_yes Hfb.out Hgb.out) ?_
  rintro e w4 ⟨v4, rfl, rfl, hb⟩
  have Ha := Lib.hid (AR.keep Ha.out (Keep.call hb))
  have Hb := Lib.hid (AR.keep Hb.out (Keep.call hb))
  have Xa0 := Lib.hid (Box.pcall hb Xa0.out)
  have Xb0 := Lib.hid (Box.pcall hb Xb0.out)
  have HB := Lib.hid (below_call HB.out hb)
  clear hb
  obtain ⟨ca00, ca01, ca02, fa00, fa01, fa02⟩ := Xa0.out.c3
  have la0 := Xa0.out.lt
  obtain ⟨cb00, cb01, cb02, fb00, fb01, fb02⟩ := Xb0.out.c3
  have lb0 := Xb0.out.lt
  go_wp2_with fail
  clear ca00 ca01 ca02 fa00 fa01 fa02 la0 cb00 cb01 cb02 fb00 fb01 fb02 lb0
  refine Calls.mono (frac_ok (x := x / 256 - 128) (y := x % 50 + 1) (by omega) (by omega) (by omega) (by omega) (by omega)) ?_
  rintro e w5 ⟨v5, rfl, hx1, hb⟩
  obtain ⟨x1_b, x1_a, x1_n, x1_c, x1_d, x1_m, x1_e, rfl⟩ := hx1.litb
  have Ha := Lib.hid (AR.keep Ha.out (Keep.call hb))
  have Hb := Lib.hid (AR.keep Hb.out (Keep.call hb))
  have Xa0 := Lib.hid (Box.pcall hb Xa0.out)
  have Xb0 := Lib.hid (Box.pcall hb Xb0.out)
  have HB := Lib.hid (below_call HB.out hb)
  have Hx1 := Lib.hid hx1
  clear hb hx1
  obtain ⟨ca00, ca01, ca02, fa00, fa01, fa02⟩ := Xa0.out.c3
  have la0 := Xa0.out.lt
  obtain ⟨cb00, cb01, cb02, fb00, fb01, fb02⟩ := Xb0.out.c3
  have lb0 := Xb0.out.lt
  go_wp2_with fail
  clear ca00 ca01 ca02 fa00 fa01 fa02 la0 cb00 cb01 cb02 fb00 fb01 fb02 lb0
  obtain ⟨W6, hW⟩ : ∃ W6, W6 = (World.alloc w5 (.cells #[.bool x1_b, .slice x1_a x1_n x1_c, .slice x1_d x1_m x1_e] 25)) := ⟨_, rfl⟩
  rw [← hW]
  obtain ⟨xc0, hk, hb⟩ := boxes_1 _ _ _ hW
  clear hW
  have Ha := Lib.hid (AR.keep Ha.out hk)
  have Hb := Lib.hid (AR.keep Hb.out hk)
  have Hx1 := Lib.hid (CR.keep Hx1.out hk)
  have Na0c0 := Lib.hid (show w.heap.size ≠ w5.heap.size from Nat.ne_of_lt (Nat.lt_of_lt_of_le Xa0.out.lt (by omega)))
  have Nb0c0 := Lib.hid (show w.heap.size + 1 ≠ w5.heap.size from Nat.ne_of_lt (Nat.lt_of_lt_of_le Xb0.out.lt (by omega)))
  have Gc0 := Lib.hid (show w.heap.size ≤ w5.heap.size from Nat.le_trans HB.out.size (by omega))
  have Xa0 := Lib.hid (Box.pcall hb Xa0.out)
  have Xb0 := Lib.hid (Box.pcall hb Xb0.out)
  have Xc0 := Lib.hid xc0
  have HB := Lib.hid (below_call HB.out hb)
  clear hk hb xc0
  (first | (have hcall := zcmp_ar k Ha.out Hx1.out.ar Hk.out (by decide) (by decide); refine Calls.mono hcall ?_; clear hcall) | refine Calls.mono (zcmp_ar k Ha.out Hx1.out.ar Hk.out (by decide) (by decide)) ?_)
  rintro e w7 ⟨v7, rfl, ⟨⟩, hb⟩
  have Ha := Lib.hid (AR.keep Ha.out (Keep.call hb))
  have Hb := Lib.hid (AR.keep Hb.out (Keep.call hb))
  have Hx1 := Lib.hid (CR.keep Hx1.out (Keep.call hb))
  have Xa0 := Lib.hid (Box.pcall hb Xa0.out)
  have Xb0 := Lib.hid (Box.pcall hb Xb0.out)
  have Xc0 := Lib.hid (Box.pcall hb Xc0.out)
  have HB := Lib.hid (below_call HB.out hb)
  clear hb
  obtain ⟨ca00, ca01, ca02, fa00, fa01, fa02⟩ := Xa0.out.c3
  have la0 := Xa0.out.lt
  obtain ⟨cb00, cb01, cb02, fb00, fb01, fb02⟩ := Xb0.out.c3
  have lb0 := Xb0.out.lt
  obtain ⟨cc00, cc01, cc02, fc00, fc01, fc02⟩ := Xc0.out.c3
  have lc0 := Xc0.out.lt
  go_wp2_with fail
  clear ca00 ca01 ca02 fa00 fa01 fa02 la0 cb00 cb01 cb02 fb00 fb01 fb02 lb0 cc00 cc01 cc02 fc00 fc01 fc02 lc0
  (first | (have hcall := zcmp_ar m Hx1.out.ar Hb.out Hm.out (by decide) (by decide); refine Calls.mono hcall ?_; clear hcall) | refine Calls.mono (zcmp_ar m Hx1.out.ar Hb.out Hm.out (by decide) (by decide)) ?_)
  rintro e w8 ⟨v8, rfl, ⟨⟩, hb⟩
  have Ha := Lib.hid (AR.keep Ha.out (Keep.call hb))
  have Hb := Lib.hid (AR.keep Hb.out (Keep.call hb))
  have Hx1 := Lib.hid (CR.keep Hx1.out (Keep.call hb))
  have Xa0 := Lib.hid (Box.pcall hb Xa0.out)
  have Xb0 := Lib.hid (Box.pcall hb Xb0.out)
  have Xc0 := Lib.hid (Box.pcall hb Xc0.out)
  have HB := Lib.hid (below_call HB.out hb)
  clear hb
  obtain ⟨ca00, ca01, ca02, fa00, fa01, fa02⟩ := Xa0.out.c3
  have la0 := Xa0.out.lt
  obtain ⟨cb00, cb01, cb02, fb00, fb01, fb02⟩ := Xb0.out.c3
  have lb0 := Xb0.out.lt
  obtain ⟨cc00, cc01, cc02, fc00, fc01, fc02⟩ := Xc0.out.c3
  have lc0 := Xc0.out.lt
  go_wp2_with fail
  clear ca00 ca01 ca02 fa00 fa01 fa02 la0 cb00 cb01 cb02 fb00 fb01 fb02 lb0 cc00 cc01 cc02 fc00 fc01 fc02 lc0
  (first | (have hcall := sim_ar Ha.out Hb.out Hle.out (by decide) (by decide); refine Calls.mono hcall ?_; clear hcall) | refine Calls.mono (sim_ar Ha.out Hb.out Hle.out (by decide) (by decide)) ?_)
  rintro e w9 ⟨t9, rfl, ⟨v9, rfl, hs1⟩, hb⟩
  obtain ⟨s1_b, s1_a, s1_n, s1_c, s1_d, s1_m, s1_e, rfl⟩ := hs1.litb
  have Ha := Lib.hid (AR.keep Ha.out (Keep.call hb))
  have Hb := Lib.hid (AR.keep Hb.out (Keep.call hb))
  have Hx1 := Lib.hid (CR.keep Hx1.out (Keep.call hb))
  have Xa0 := Lib.hid (Box.pcall hb Xa0.out)
  have Xb0 := Lib.hid (Box.pcall hb Xb0.out)
  have Xc0 := Lib.hid (Box.pcall hb Xc0.out)
  have HB := Lib.hid (below_call HB.out hb)
  have Hs1 := Lib.hid hs1
  clear hb hs1
  obtain ⟨ca00, ca01, ca02, fa00, fa01, fa02⟩ := Xa0.out.c3
  have la0 := Xa0.out.lt
  obtain ⟨cb00, cb01, cb02, fb00, fb01, fb02⟩ := Xb0.out.c3
  have lb0 := Xb0.out.lt
  obtain ⟨cc00, cc01, cc02, fc00, fc01, fc02⟩ := Xc0.out.c3
  have lc0 := Xc0.out.lt
  go_wp2_with fail
  clear ca00 ca01 ca02 fa00 fa01 fa02 la0 cb00 cb01 cb02 fb00 fb01 fb02 lb0 cc00 cc01 cc02 fc00 fc01 fc02 lc0
  obtain ⟨W10, hW⟩ : ∃ W10, W10 = (World.alloc w9 (.cells #[.bool s1_b, .slice s1_a s1_n s1_c, .slice s1_d s1_m s1_e] 25)) := ⟨_, rfl⟩
  rw [← hW]
  obtain ⟨xd0, hk, hb⟩ := boxes_1 _ _ _ hW
  clear hW
  have Ha := Lib.hid (AR.keep Ha.out hk)
  have Hb := Lib.hid (AR.keep Hb.out hk)
  have Hx1 := Lib.hid (CR.keep Hx1.out hk)
  have Hs1 := Lib.hid (CR.keep Hs1.out hk)
  have Na0d0 := Lib.hid (show w.heap.size ≠ w9.heap.size from Nat.ne_of_lt (Nat.lt_of_lt_of_le Xa0.out.lt (by omega)))
  have Nb0d0 := Lib.hid (show w.heap.size + 1 ≠ w9.heap.size from Nat.ne_of_lt (Nat.lt_of_lt_of_le Xb0.out.lt (by omega)))
  have Nc0d0 := Lib.hid (show w5.heap.size ≠ w9.heap.size from Nat.ne_of_lt (Nat.lt_of_lt_of_le Xc0.out.lt (by omega)))
  have Gd0 := Lib.hid (show w.heap.size ≤ w9.heap.size from Nat.le_trans HB.out.size (by omega))
  have Xa0 := Lib.hid (Box.pcall hb Xa0.out)
  have Xb0 := Lib.hid (Box.pcall hb Xb0.out)
  have Xc0 := Lib.hid (Box.pcall hb Xc0.out)
  have Xd0 := Lib.hid xd0
  have HB := Lib.hid (below_call HB.out hb)
  clear hk hb xd0
  (first | (have hcall := zcmp_ar i Ha.out Hs1.out.ar Hi.out (by decide) (by decide); refine Calls.mono hcall ?_; clear hcall) | refine Calls.mono (zcmp_ar i Ha.out Hs1.out.ar Hi.out (by decide) (by decide)) ?_)
  rintro e w11 ⟨v11, rfl, ⟨⟩, hb⟩
  have Hb := Lib.hid (AR.keep Hb.out (Keep.call hb))
  have Hx1 := Lib.hid (CR.keep Hx1.out (Keep.call hb))
  have Hs1 := Lib.hid (CR.keep Hs1.out (Keep.call hb))
  have Xa0 := Lib.hid (Box.pcall hb Xa0.out)
  have Xb0 := Lib.hid (Box.pcall hb Xb0.out)
  have Xc0 := Lib.hid (Box.pcall hb Xc0.out)
  have Xd0 := Lib.hid (Box.pcall hb Xd0.out)
  have HB := Lib.hid (below_call HB.out hb)
  clear hb
  obtain ⟨ca00, ca01, ca02, fa00, fa01, fa02⟩ := Xa0.out.c3
  have la0 := Xa0.out.lt
  obtain ⟨cb00, cb01, cb02, fb00, fb01, fb02⟩ := Xb0.out.c3
  have lb0 := Xb0.out.lt
  obtain ⟨cc00, cc01, cc02, fc00, fc01, fc02⟩ := Xc0.out.c3
  have lc0 := Xc0.out.lt
  obtain ⟨cd00, cd01, cd02, fd00, fd01, fd02⟩ := Xd0.out.c3
  have ld0 := Xd0.out.lt
  go_wp2_with fail
  clear ca00 ca01 ca02 fa00 fa01 fa02 la0 cb00 cb01 cb02 fb00 fb01 fb02 lb0 cc00 cc01 cc02 fc00 fc01 fc02 lc0 cd00 cd01 cd02 fd00 fd01 fd02 ld0
  (first | (have hcall := zcmp_ar j Hs1.out.ar Hb.out Hj.out (by decide) (by decide); refine Calls.mono hcall ?_; clear hcall) | refine Calls.mono (zcmp_ar j Hs1.out.ar Hb.out Hj.out (by decide) (by decide)) ?_)
  rintro e w12 ⟨v12, rfl, ⟨⟩, hb⟩
  have Hx1 := Lib.hid (CR.keep Hx1.out (Keep.call hb))
  have Hs1 := Lib.hid (CR.keep Hs1.out (Keep.call hb))
  have Xa0 := Lib.hid (Box.pcall hb Xa0.out)
  have Xb0 := Lib.hid (Box.pcall hb Xb0.out)
  have Xc0 := Lib.hid (Box.pcall hb Xc0.out)
  have Xd0 := Lib.hid (Box.pcall hb Xd0.out)
  have HB := Lib.hid (below_call HB.out hb)
  clear hb
  obtain ⟨ca00, ca01, ca02, fa00, fa01, fa02⟩ := Xa0.out.c3
  have la0 := Xa0.out.lt
  obtain ⟨cb00, cb01, cb02, fb00, fb01, fb02⟩ := Xb0.out.c3
  have lb0 := Xb0.out.lt
  obtain ⟨cc00, cc01, cc02, fc00, fc01, fc02⟩ := Xc0.out.c3
  have lc0 := Xc0.out.lt
  obtain ⟨cd00, cd01, cd02, fd00, fd01, fd02⟩ := Xd0.out.c3
  have ld0 := Xd0.out.lt
  go_wp2_with fail
  clear ca00 ca01 ca02 fa00 fa01 fa02 la0 cb00 cb01 cb02 fb00 fb01 fb02 lb0 cc00 cc01 cc02 fc00 fc01 fc02 lc0 cd00 cd01 cd02 fd00 fd01 fd02 ld0
  have Hx1 := Lib.hid (CR.keep Hx1.out (Keep.drew w12))
  have Hs1 := Lib.hid (CR.keep Hs1.out (Keep.drew w12))
  have Xa0 := Lib.hid (Box.drew Xa0.out)
  have Xb0 := Lib.hid (Box.drew Xb0.out)
  have Xc0 := Lib.hid (Box.drew Xc0.out)
  have Xd0 := Lib.hid (Box.drew Xd0.out)
  have HB := Lib.hid (Below.drew HB.out)
  refine wp_region_float [] [] (by kernel_rfl) (by kernel_rfl) 83 (by kernel_rfl) Flok.nil ?_
  intro ok
  have Hok := Lib.hid ok
  clear ok
  have HG := Lib.hid (Below.refl (w12.drew).heap.size (w12.drew))
  refine good_pureX 0 (some 64) (Go.Op.load 25 (Go.Operand.tmp 10)) (none) (.agg #[.bool s1_b, .slice s1_a s1_n s1_c, .slice s1_d s1_m s1_e]) (by kernel_rfl) (by kernel_rfl) (by kernel_rfl) (fun _ _ _ h => h) (fun w' hw' => ?_) ?_
  · obtain ⟨cd00, cd01, cd02, fd00, fd01, fd02⟩ := (Box.se hw' Xd0.out notin0).c3
    first | (go_simp; done) | (go_simp; simp_all; done) | (go_simp; rfl)
  simp only [Act.put, List.setIfInBounds_toArray, List.set_cons_zero, List.set_cons_succ]
  refine good_pureX 2 (some 66) (Go.Op.load 25 (Go.Operand.tmp 9)) (none) (.agg #[.bool x1_b, .slice x1_a x1_n x1_c, .slice x1_d x1_m x1_e]) (by kernel_rfl) (by kernel_rfl) (by kernel_rfl) (fun _ _ _ h => h) (fun w' hw' => ?_) ?_
  · obtain ⟨cc00, cc01, cc02, fc00, fc01, fc02⟩ := (Box.se hw' Xc0.out notin0).c3
    first | (go_simp; done) | (go_simp; simp_all; done) | (go_simp; rfl)
  simp only [Act.put, List.setIfInBounds_toArray, List.set_cons_zero, List.set_cons_succ]
  refine good_callX 1 29 (some 65) #[Go.Operand.tmp 64] #[25] (none) #[.agg #[.bool s1_b, .slice s1_a s1_n s1_c, .slice s1_d s1_m s1_e]] (by kernel_rfl) Hok.out (by kernel_rfl) (by kernel_rfl) (by kernel_rfl) (by kernel_rfl) rfl rfl rfl (by kernel_rfl) (fun w13 hb => ?_)
  have HG := Lib.hid (below_call HG.out hb)
  clear hb
  (first | (have hcall := zden_ar (CR.keep Hs1.out (Keep.call HG.out)).ar (by decide); refine Calls.mono hcall ?_; clear hcall) | refine Calls.mono (zden_ar (CR.keep Hs1.out (Keep.call HG.out)).ar (by decide)) ?_)
  rintro e w14 ⟨v14, rfl, hd1, hb⟩
  obtain ⟨d1_a, d1_n, d1_c, rfl⟩ := hd1.lit
  refine ⟨_, rfl, ?_, hb⟩
  have HG := Lib.hid (below_call HG.out hb)
  have Hd1 := Lib.hid hd1
  clear hb hd1
  simp only [Act.put, List.setIfInBounds_toArray, List.set_cons_zero, List.set_cons_succ]
  refine good_callX 3 29 (some 67) #[Go.Operand.tmp 66] #[25] (none) #[.agg #[.bool x1_b, .slice x1_a x1_n x1_c, .slice x1_d x1_m x1_e]] (by kernel_rfl) Hok.out (by kernel_rfl) (by kernel_rfl) (by kernel_rfl) (by kernel_rfl) rfl rfl rfl (by kernel_rfl) (fun w15 hb => ?_)
  have Hd1 := Lib.hid (Is.keep Hd1.out (Keep.call hb))
  have HG := Lib.hid (below_call HG.out hb)
  clear hb
  (first | (have hcall := zden_ar (CR.keep Hx1.out (Keep.call HG.out)).ar (by decide); refine Calls.mono hcall ?_; clear hcall) | refine Calls.mono (zden_ar (CR.keep Hx1.out (Keep.call HG.out)).ar (by decide)) ?_)
  rintro e w16 ⟨v16, rfl, hd2, hb⟩
  obtain ⟨d2_a, d2_n, d2_c, rfl⟩ := hd2.lit
  refine ⟨_, rfl, ?_, hb⟩
  have Hd1 := Lib.hid (Is.keep Hd1.out (Keep.call hb))
  have HG := Lib.hid (below_call HG.out hb)
  have Hd2 := Lib.hid hd2
  clear hb hd2
  simp only [Act.put, List.setIfInBounds_toArray, List.set_cons_zero, List.set_cons_succ]
  refine good_callX 4 28 (some 68) #[Go.Operand.tmp 65, Go.Operand.tmp 67] #[23, 23] (none) #[.slice d1_a d1_n d1_c, .slice d2_a d2_n d2_c] (by kernel_rfl) Hok.out (by kernel_rfl) (by kernel_rfl) (by kernel_rfl) (by kernel_rfl) rfl rfl rfl (by kernel_rfl) (fun w17 hb => ?_)
  have Hd1 := Lib.hid (Is.keep Hd1.out (Keep.call hb))
  have Hd2 := Lib.hid (Is.keep Hd2.out (Keep.call hb))
  have HG := Lib.hid (below_call HG.out hb)
  clear hb
  (first | (have hcall := rcmp_is c Hd1.out Hd2.out Hc.out; refine Calls.mono hcall ?_; clear hcall) | refine Calls.mono (rcmp_is c Hd1.out Hd2.out Hc.out) ?_)
  rintro e w18 ⟨v18, rfl, ⟨⟩, hb⟩
  refine ⟨_, rfl, ?_, hb⟩
  have HG := Lib.hid (below_call HG.out hb)
  clear hb
  simp only [Act.put, List.setIfInBounds_toArray, List.set_cons_zero, List.set_cons_succ]
  refine good_pureX 5 (some 12) (Go.Op.assign (Go.Operand.tmp 68)) (none) (.int .i64 c) (by kernel_rfl) (by kernel_rfl) (by kernel_rfl) (fun _ _ _ h => h) (fun w' hw' => ?_) ?_
  · first | (go_simp; done) | (go_simp; simp_all; done) | (go_simp; rfl)
  simp only [Act.put, List.setIfInBounds_toArray, List.set_cons_zero, List.set_cons_succ]
  refine good_end0 0 (by kernel_rfl) (fun _ w19 hb => ?_)
  have HG := Lib.hid (below_call HG.out hb)
  clear hb
  have Xa0 := Lib.hid (Box.pcall HG.out Xa0.out)
  have Xb0 := Lib.hid (Box.pcall HG.out Xb0.out)
  have Xc0 := Lib.hid (Box.pcall HG.out Xc0.out)
  have Xd0 := Lib.hid (Box.pcall HG.out Xd0.out)
  have HB := Lib.hid (below_call HB.out HG.out)
  have HS := Lib.hid (SE.of (E := []) HG.out)
  refine wpAnyH_done (by kernel_rfl) ?_ _
  clear HG HS Hok 
  obtain ⟨ca00, ca01, ca02, fa00, fa01, fa02⟩ := Xa0.out.c3
  have la0 := Xa0.out.lt
  obtain ⟨cb00, cb01, cb02, fb00, fb01, fb02⟩ := Xb0.out.c3
  have lb0 := Xb0.out.lt
  obtain ⟨cc00, cc01, cc02, fc00, fc01, fc02⟩ := Xc0.out.c3
  have lc0 := Xc0.out.lt
  obtain ⟨cd00, cd01, cd02, fd00, fd01, fd02⟩ := Xd0.out.c3
  have ld0 := Xd0.out.lt
  go_wp2
  clear ca00 ca01 ca02 fa00 fa01 fa02 la0 cb00 cb01 cb02 fb00 fb01 fb02 lb0 cc00 cc01 cc02 fc00 fc01 fc02 lc0 cd00 cd01 cd02 fd00 fd01 fd02 ld0
  go_ret
  exact ⟨_, rfl, rfl, HB.out⟩


set_option maxRecDepth 100000 in
set_option maxHeartbeats 4000000 in
theorem lrspr_4 {x : Int} {qa : Rat} {ba : Bool} {sa ta : Option Addr} {na ca ma ea : Nat} {qb : Rat} {bb : Bool} {sb tb : Option Addr} {nb cb mb eb : Nat}  {w : World} (h1 : 0 ≤ x) (h2 : x < 65536) (k : Int) (hk : cmpQ qa (((x / 256 - 128 : Int) : Rat) / ((x % 50 + 1 : Int) : Rat)) = k) (hk0 : decide (0 < k) = false) (m : Int) (hm : cmpQ (((x / 256 - 128 : Int) : Rat) / ((x % 50 + 1 : Int) : Rat)) qb = m) (hm0 : decide (0 < m) = false) (hle : qa ≤ qb) (i j : Int) (hi : cmpQ qa (smp qa qb) = i) (hi0 : decide (0 < i) = false) (hj : cmpQ (smp qa qb) qb = j) (hj0 : decide (0 < j) = false) (c : Int) (hc : cmpN (smp qa qb).den (((x / 256 - 128 : Int) : Rat) / ((x % 50 + 1 : Int) : Rat)).den = c) (hc0 : decide (c < 0) = false) (hc1 : (c == 0) = true) (e : Int) (he : cmpN (smp qa qb).num.natAbs (((x / 256 - 128 : Int) : Rat) / ((x % 50 + 1 : Int) : Rat)).num.natAbs = e) (he0 : decide (e ≤ 0) = true) (ha : AR qa 3 w (.agg #[.bool ba, .slice sa na ca, .slice ta ma ea])) (hfa : na ≤ 3) (hga : ma ≤ 3) (hb : AR qb 3 w (.agg #[.bool bb, .slice sb nb cb, .slice tb mb eb])) (hfb : nb ≤ 3) (hgb : mb ≤ 3) :
    Calls Try.prog 6 #[.agg #[.bool ba, .slice sa na ca, .slice ta ma ea], .agg #[.bool bb, .slice sb nb cb, .slice tb mb eb], .int .u16 x] w (Ret w (Val (.bool true))) := by
  have Ha := Lib.hid ha
  have Hb := Lib.hid hb
  have Hk := Lib.hid hk
  have Hm := Lib.hid hm
  have Hle := Lib.hid hle
  have Hi := Lib.hid hi
  have Hj := Lib.hid hj
  have Hc := Lib.hid hc
  have He := Lib.hid he
  have Hfa := Lib.hid hfa
  have Hga := Lib.hid hga
  have Hfb := Lib.hid hfb
  have Hgb := Lib.hid hgb
  clear ha hb hk hm hle hi hj hc he hfa hga hfb hgb
  go_enter Try.func6, Try.ntmps6
  have HB := Lib.hid (Below.refl w.heap.size w)
  go_wp2_with fail
  obtain ⟨W1, hW⟩ : ∃ W1, W1 = (World.alloc (World.alloc w (.cells #[.bool ba, .slice sa na ca, .slice ta ma ea] 25)) (.cells #[.bool bb, .slice sb nb cb, .slice tb mb eb] 25)) := ⟨_, rfl⟩
  rw [← hW]
  obtain ⟨xa0, xb0, hk, hb⟩ := boxes_2 _ _ _ _ _ hW
  clear hW
  have Ha := Lib.hid (AR.keep Ha.out hk)
  have Hb := Lib.hid (AR.keep Hb.out hk)
  have Ga0 := Lib.hid (show w.heap.size ≤ w.heap.size from Nat.le_trans HB.out.size (by omega))
  have Gb0 := Lib.hid (show w.heap.size ≤ w.heap.size + 1 from Nat.le_trans HB.out.size (by omega))
  have Xa0 := Lib.hid xa0
  have Xb0 := Lib.hid xb0
  have HB := Lib.hid (below_call HB.out hb)
  clear hk hb xa0 xb0
  refine Calls.mono (awake3) ?_
  rintro e w2 ⟨v2, rfl, rfl, hb⟩
  have Ha := Lib.hid (AR.keep Ha.out (Keep.call hb))
  have Hb := Lib.hid (AR.keep Hb.out (Keep.call hb))
  have Xa0 := Lib.hid (Box.pcall hb Xa0.out)
  have Xb0 := Lib.hid (Box.pcall hb Xb0.out)
  have HB := Lib.hid (below_call HB.out hb)
  clear hb
  obtain ⟨ca00, ca01, ca02, fa00, fa01, fa02⟩ := Xa0.out.c3
  have la0 := Xa0.out.lt
  obtain ⟨cb00, cb01, cb02, fb00, fb01, fb02⟩ := Xb0.out.c3
  have lb0 := Xb0.out.lt
  go_wp2_with fail
  clear ca00 ca01 ca02 fa00 fa01 fa02 la0 cb00 cb01 cb02 fb00 fb01 fb02 lb0
  refine Calls.mono (few3_yes Hfa.out Hga.out) ?_
  rintro e w3 ⟨v3, rfl, rfl, hb⟩
  have Ha := Lib.hid (AR.keep Ha.out (Keep.call hb))
  have Hb := Lib.hid (AR.keep Hb.out (Keep.call hb))
  have Xa0 := Lib.hid (Box.pcall hb Xa0.out)
  have Xb0 := Lib.hid (Box.pcall hb Xb0.out)
  have HB := Lib.hid (below_call HB.out hb)
  clear hb
  obtain ⟨ca00, ca01, ca02, fa00, fa01, fa02⟩ := Xa0.out.c3
  have la0 := Xa0.out.lt
  obtain ⟨cb00, cb01, cb02, fb00, fb01, fb02⟩ := Xb0.out.c3
  have lb0 := Xb0.out.lt
  go_wp2_with fail
  clear ca00 ca01 ca02 fa00 fa01 fa02 la0 cb00 cb01 cb02 fb00 fb01 fb02 lb0
  refine Calls.mono (few3_yes Hfb.out Hgb.out) ?_
  rintro e w4 ⟨v4, rfl, rfl, hb⟩
  have Ha := Lib.hid (AR.keep Ha.out (Keep.call hb))
  have Hb := Lib.hid (AR.keep Hb.out (Keep.call hb))
  have Xa0 := Lib.hid (Box.pcall hb Xa0.out)
  have Xb0 := Lib.hid (Box.pcall hb Xb0.out)
  have HB := Lib.hid (below_call HB.out hb)
  clear hb
  obtain ⟨ca00, ca01, ca02, fa00, fa01, fa02⟩ := Xa0.out.c3
  have la0 := Xa0.out.lt
  obtain ⟨cb00, cb01, cb02, fb00, fb01, fb02⟩ := Xb0.out.c3
  have lb0 := Xb0.out.lt
  go_wp2_with fail
  clear ca00 ca01 ca02 fa00 fa01 fa02 la0 cb00 cb01 cb02 fb00 fb01 fb02 lb0
  refine Calls.mono (frac_ok (x := x / 256 - 128) (y := x % 50 + 1) (by omega) (by omega) (by omega) (by omega) (by omega)) ?_
  rintro e w5 ⟨v5, rfl, hx1, hb⟩
  obtain ⟨x1_b, x1_a, x1_n, x1_c, x1_d, x1_m, x1_e, rfl⟩ := hx1.litb
  have Ha := Lib.hid (AR.keep Ha.out (Keep.call hb))
  have Hb := Lib.hid (AR.keep Hb.out (Keep.call hb))
  have Xa0 := Lib.hid (Box.pcall hb Xa0.out)
  have Xb0 := Lib.hid (Box.pcall hb Xb0.out)
  have HB := Lib.hid (below_call HB.out hb)
  have Hx1 := Lib.hid hx1
  clear hb hx1
  obtain ⟨ca00, ca01, ca02, fa00, fa01, fa02⟩ := Xa0.out.c3
  have la0 := Xa0.out.lt
  obtain ⟨cb00, cb01, cb02, fb00, fb01, fb02⟩ := Xb0.out.c3
  have lb0 := Xb0.out.lt
  go_wp2_with fail
  clear ca00 ca01 ca02 fa00 fa01 fa02 la0 cb00 cb01 cb02 fb00 fb01 fb02 lb0
  obtain ⟨W6, hW⟩ : ∃ W6, W6 = (World.alloc w5 (.cells #[.bool x1_b, .slice x1_a x1_n x1_c, .slice x1_d x1_m x1_e] 25)) := ⟨_, rfl⟩
  rw [← hW]
  obtain ⟨xc0, hk, hb⟩ := boxes_1 _ _ _ hW
  clear hW
  have Ha := Lib.hid (AR.keep Ha.out hk)
  have Hb := Lib.hid (AR.keep Hb.out hk)
  have Hx1 := Lib.hid (CR.keep Hx1.out hk)
  have Na0c0 := Lib.hid (show w.heap.size ≠ w5.heap.size from Nat.ne_of_lt (Nat.lt_of_lt_of_le Xa0.out.lt (by omega)))
  have Nb0c0 := Lib.hid (show w.heap.size + 1 ≠ w5.heap.size from Nat.ne_of_lt (Nat.lt_of_lt_of_le Xb0.out.lt (by omega)))
  have Gc0 := Lib.hid (show w.heap.size ≤ w5.heap.size from Nat.le_trans HB.out.size (by omega))
  have Xa0 := Lib.hid (Box.pcall hb Xa0.out)
  have Xb0 := Lib.hid (Box.pcall hb Xb0.out)
  have Xc0 := Lib.hid xc0
  have HB := Lib.hid (below_call HB.out hb)
  clear hk hb xc0
  (first | (have hcall := zcmp_ar k Ha.out Hx1.out.ar Hk.out (by decide) (by decide); refine Calls.mono hcall ?_; clear hcall) | refine Calls.mono (zcmp_ar k Ha.out Hx1.out.ar Hk.out (by decide) (by decide)) ?_)
  rintro e w7 ⟨v7, rfl, ⟨⟩, hb⟩
  have Ha := Lib.hid (AR.keep Ha.out (Keep.call hb))
  have Hb := Lib.hid (AR.keep Hb.out (Keep.call hb))
  have Hx1 := Lib.hid (CR.keep Hx1.out (Keep.call hb))
  have Xa0 := Lib.hid (Box.pcall hb Xa0.out)
  have Xb0 := Lib.hid (Box.pcall hb Xb0.out)
  have Xc0 := Lib.hid (Box.pcall hb Xc0.out)
  have HB := Lib.hid (below_call HB.out hb)
  clear hb
  obtain ⟨ca00, ca01, ca02, fa00, fa01, fa02⟩ := Xa0.out.c3
  have la0 := Xa0.out.lt
  obtain ⟨cb00, cb01, cb02, fb00, fb01, fb02⟩ := Xb0.out.c3
  have lb0 := Xb0.out.lt
  obtain ⟨cc00, cc01, cc02, fc00, fc01, fc02⟩ := Xc0.out.c3
  have lc0 := Xc0.out.lt
  go_wp2_with fail
  clear ca00 ca01 ca02 fa00 fa01 fa02 la0 cb00 cb01 cb02 fb00 fb01 fb02 lb0 cc00 cc01 cc02 fc00 fc01 fc02 lc0
  (first | (have hcall := zcmp_ar m Hx1.out.ar Hb.out Hm.out (by decide) (by decide); refine Calls.mono hcall ?_; clear hcall) | refine Calls.mono (zcmp_ar m Hx1.out.ar Hb.out Hm.out (by decide) (by decide)) ?_)
  rintro e w8 ⟨v8, rfl, ⟨⟩, hb⟩
  have Ha := Lib.hid (AR.keep Ha.out (Keep.call hb))
  have Hb := Lib.hid (AR.keep Hb.out (Keep.call hb))
  have Hx1 := Lib.hid (CR.keep Hx1.out (Keep.call hb))
  have Xa0 := Lib.hid (Box.pcall hb Xa0.out)
  have Xb0 := Lib.hid (Box.pcall hb Xb0.out)
  have Xc0 := Lib.hid (Box.pcall hb Xc0.out)
  have HB := Lib.hid (below_call HB.out hb)
  clear hb
  obtain ⟨ca00, ca01, ca02, fa00, fa01, fa02⟩ := Xa0.out.c3
  have la0 := Xa0.out.lt
  obtain ⟨cb00, cb01, cb02, fb00, fb01, fb02⟩ := Xb0.out.c3
  have lb0 := Xb0.out.lt
  obtain ⟨cc00, cc01, cc02, fc00, fc01, fc02⟩ := Xc0.out.c3
  have lc0 := Xc0.out.lt
  go_wp2_with fail
  clear ca00 ca01 ca02 fa00 fa01 fa02 la0 cb00 cb01 cb02 fb00 fb01 fb02 lb0 cc00 cc01 cc02 fc00 fc01 fc02 lc0
  (first | (have hcall := sim_ar Ha.out Hb.out Hle.out (by decide) (by decide); refine Calls.mono hcall ?_; clear hcall) | refine Calls.mono (sim_ar Ha.out Hb.out Hle.out (by decide) (by decide)) ?_)
  rintro e w9 ⟨t9, rfl, ⟨v9, rfl, hs1⟩, hb⟩
  obtain ⟨s1_b, s1_a, s1_n, s1_c, s1_d, s1_m, s1_e, rfl⟩ := hs1.litb
  have Ha := Lib.hid (AR.keep Ha.out (Keep.call hb))
  have Hb := Lib.hid (AR.keep Hb.out (Keep.call hb))
  have Hx1 := Lib.hid (CR.keep Hx1.out (Keep.call hb))
  have Xa0 := Lib.hid (Box.pcall hb Xa0.out)
  have Xb0 := Lib.hid (Box.pcall hb Xb0.out)
  have Xc0 := Lib.hid (Box.pcall hb Xc0.out)
  have HB := Lib.hid (below_call HB.out hb)
  have Hs1 := Lib.hid hs1
  clear hb hs1
  obtain ⟨ca00, ca01, ca02, fa00, fa01, fa02⟩ := Xa0.out.c3
  have la0 := Xa0.out.lt
  obtain ⟨cb00, cb01, cb02, fb00, fb01, fb02⟩ := Xb0.out.c3
  have lb0 := Xb0.out.lt
  obtain ⟨cc00, cc01, cc02, fc00, fc01, fc02⟩ := Xc0.out.c3
  have lc0 := Xc0.out.lt
  go_wp2_with fail
  clear ca00 ca01 ca02 fa00 fa01 fa02 la0 cb00 cb01 cb02 fb00 fb01 fb02 lb0 cc00 cc01 cc02 fc00 fc01 fc02 lc0
  obtain ⟨W10, hW⟩ : ∃ W10, W10 = (World.alloc w9 (.cells #[.bool s1_b, .slice s1_a s1_n s1_c, .slice s1_d s1_m s1_e] 25)) := ⟨_, rfl⟩
  rw [← hW]
  obtain ⟨xd0, hk, hb⟩ := boxes_1 _ _ _ hW
  clear hW
  have Ha := Lib.hid (AR.keep Ha.out hk)
  have Hb := Lib.hid (AR.keep Hb.out hk)
  have Hx1 := Lib.hid (CR.keep Hx1.out hk)
  have Hs1 := Lib.hid (CR.keep Hs1.out hk)
  have Na0d0 := Lib.hid (show w.heap.size ≠ w9.heap.size from Nat.ne_of_lt (Nat.lt_of_lt_of_le Xa0.out.lt (by omega)))
  have Nb0d0 := Lib.hid (show w.heap.size + 1 ≠ w9.heap.size from Nat.ne_of_lt (Nat.lt_of_lt_of_le Xb0.out.lt (by omega)))
  have Nc0d0 := Lib.hid (show w5.heap.size ≠ w9.heap.size from Nat.ne_of_lt (Nat.lt_of_lt_of_le Xc0.out.lt (by omega)))
  have Gd0 := Lib.hid (show w.heap.size ≤ w9.heap.size from Nat.le_trans HB.out.size (by omega))
  have Xa0 := Lib.hid (Box.pcall hb Xa0.out)
  have Xb0 := Lib.hid (Box.pcall hb Xb0.out)
  have Xc0 := Lib.hid (Box.pcall hb Xc0.out)
  have Xd0 := Lib.hid xd0
  have HB := Lib.hid (below_call HB.out hb)
  clear hk hb xd0
  (first | (have hcall := zcmp_ar i Ha.out Hs1.out.ar Hi.out (by decide) (by decide); refine Calls.mono hcall ?_; clear hcall) | refine Calls.mono (zcmp_ar i Ha.out Hs1.out.ar Hi.out (by decide) (by decide)) ?_)
  rintro e w11 ⟨v11, rfl, ⟨⟩, hb⟩
  have Hb := Lib.hid (AR.keep Hb.out (Keep.call hb))
  have Hx1 := Lib.hid (CR.keep Hx1.out (Keep.call hb))
  have Hs1 := Lib.hid (CR.keep Hs1.out (Keep.call hb))
  have Xa0 := Lib.hid (Box.pcall hb Xa0.out)
  have Xb0 := Lib.hid (Box.pcall hb Xb0.out)
  have Xc0 := Lib.hid (Box.pcall hb Xc0.out)
  have Xd0 := Lib.hid (Box.pcall hb Xd0.out)
  have HB := Lib.hid (below_call HB.out hb)
  clear hb
  obtain ⟨ca00, ca01, ca02, fa00, fa01, fa02⟩ := Xa0.out.c3
  have la0 := Xa0.out.lt
  obtain ⟨cb00, cb01, cb02, fb00, fb01, fb02⟩ := Xb0.out.c3
  have lb0 := Xb0.out.lt
  obtain ⟨cc00, cc01, cc02, fc00, fc01, fc02⟩ := Xc0.out.c3
  have lc0 := Xc0.out.lt
  obtain ⟨cd00, cd01, cd02, fd00, fd01, fd02⟩ := Xd0.out.c3
  have ld0 := Xd0.out.lt
  go_wp2_with fail
  clear ca00 ca01 ca02 fa00 fa01 fa02 la0 cb00 cb01 cb02 fb00 fb01 fb02 lb0 cc00 cc01 cc02 fc00 fc01 fc02 lc0 cd00 cd01 cd02 fd00 fd01 fd02 ld0
  (first | (have hcall := zcmp_ar j Hs1.out.ar Hb.out Hj.out (by decide) (by decide); refine Calls.mono hcall ?_; clear hcall) | refine Calls.mono (zcmp_ar j Hs1.out.ar Hb.out Hj.out (by decide) (by decide)) ?_)
  rintro e w12 ⟨v12, rfl, ⟨⟩, hb⟩
  have Hx1 := Lib.hid (CR.keep Hx1.out (Keep.call hb))
  have Hs1 := Lib.hid (CR.keep Hs1.out (Keep.call hb))
  have Xa0 := Lib.hid (Box.pcall hb Xa0.out)
  have Xb0 := Lib.hid (Box.pcall hb Xb0.out)
  have Xc0 := Lib.hid (Box.pcall hb Xc0.out)
  have Xd0 := Lib.hid (Box.pcall hb Xd0.out)
  have HB := Lib.hid (below_call HB.out hb)
  clear hb
  obtain ⟨ca00, ca01, ca02, fa00, fa01, fa02⟩ := Xa0.out.c3
  have la0 := Xa0.out.lt
  obtain ⟨cb00, cb01, cb02, fb00, fb01, fb02⟩ := Xb0.out.c3
  have lb0 := Xb0.out.lt
  obtain ⟨cc00, cc01, cc02, fc00, fc01, fc02⟩ := Xc0.out.c3
  have lc0 := Xc0.out.lt
  obtain ⟨cd00, cd01, cd02, fd00, fd01, fd02⟩ := Xd0.out.c3
  have ld0 := Xd0.out.lt
  go_wp2_with fail
  clear ca00 ca01 ca02 fa00 fa01 fa02 la0 cb00 cb01 cb02 fb00 fb01 fb02 lb0 cc00 cc01 cc02 fc00 fc01 fc02 lc0 cd00 cd01 cd02 fd00 fd01 fd02 ld0
  have Hx1 := Lib.hid (CR.keep Hx1.out (Keep.drew w12))
  have Hs1 := Lib.hid (CR.keep Hs1.out (Keep.drew w12))
  have Xa0 := Lib.hid (Box.drew Xa0.out)
  have Xb0 := Lib.hid (Box.drew Xb0.out)
  have Xc0 := Lib.hid (Box.drew Xc0.out)
  have Xd0 := Lib.hid (Box.drew Xd0.out)
  have HB := Lib.hid (Below.drew HB.out)
  refine wp_region_float [] [] (by kernel_rfl) (by kernel_rfl) 83 (by kernel_rfl) Flok.nil ?_
  intro ok
  have Hok := Lib.hid ok
  clear ok
  have HG := Lib.hid (Below.refl (w12.drew).heap.size (w12.drew))
  refine good_pureX 0 (some 64) (Go.Op.load 25 (Go.Operand.tmp 10)) (none) (.agg #[.bool s1_b, .slice s1_a s1_n s1_c, .slice s1_d s1_m s1_e]) (by kernel_rfl) (by kernel_rfl) (by kernel_rfl) (fun _ _ _ h => h) (fun w' hw' => ?_) ?_
  · obtain ⟨cd00, cd01, cd02, fd00, fd01, fd02⟩ := (Box.se hw' Xd0.out notin0).c3
    first | (go_simp; done) | (go_simp; simp_all; done) | (go_simp; rfl)
  simp only [Act.put, List.setIfInBounds_toArray, List.set_cons_zero, List.set_cons_succ]
  refine good_pureX 2 (some 66) (Go.Op.load 25 (Go.Operand.tmp 9)) (none) (.agg #[.bool x1_b, .slice x1_a x1_n x1_c, .slice x1_d x1_m x1_e]) (by kernel_rfl) (by kernel_rfl) (by kernel_rfl) (fun _ _ _ h => h) (fun w' hw' => ?_) ?_
  · obtain ⟨cc00, cc01, cc02, fc00, fc01, fc02⟩ := (Box.se hw' Xc0.out notin0).c3
    first | (go_simp; done) | (go_simp; simp_all; done) | (go_simp; rfl)
  simp only [Act.put, List.setIfInBounds_toArray, List.set_cons_zero, List.set_cons_succ]
  refine good_callX 1 29 (some 65) #[Go.Operand.tmp 64] #[25] (none) #[.agg #[.bool s1_b, .slice s1_a s1_n s1_c, .slice s1_d s1_m s1_e]] (by kernel_rfl) Hok.out (by kernel_rfl) (by kernel_rfl) (by kernel_rfl) (by kernel_rfl) rfl rfl rfl (by kernel_rfl) (fun w13 hb => ?_)
  have HG := Lib.hid (below_call HG.out hb)
  clear hb
  (first | (have hcall := zden_ar (CR.keep Hs1.out (Keep.call HG.out)).ar (by decide); refine Calls.mono hcall ?_; clear hcall) | refine Calls.mono (zden_ar (CR.keep Hs1.out (Keep.call HG.out)).ar (by decide)) ?_)
  rintro e w14 ⟨v14, rfl, hd1, hb⟩
  obtain ⟨d1_a, d1_n, d1_c, rfl⟩ := hd1.lit
  refine ⟨_, rfl, ?_, hb⟩
  have HG := Lib.hid (below_call HG.out hb)
  have Hd1 := Lib.hid hd1
  clear hb hd1
  simp only [Act.put, List.setIfInBounds_toArray, List.set_cons_zero, List.set_cons_succ]
  refine good_callX 3 29 (some 67) #[Go.Operand.tmp 66] #[25] (none) #[.agg #[.bool x1_b, .slice x1_a x1_n x1_c, .slice x1_d x1_m x1_e]] (by kernel_rfl) Hok.out (by kernel_rfl) (by kernel_rfl) (by kernel_rfl) (by kernel_rfl) rfl rfl rfl (by kernel_rfl) (fun w15 hb => ?_)
  have Hd1 := Lib.hid (Is.keep Hd1.out (Keep.call hb))
  have HG := Lib.hid (below_call HG.out hb)
  clear hb
  (first | (have hcall := zden_ar (CR.keep Hx1.out (Keep.call HG.out)).ar (by decide); refine Calls.mono hcall ?_; clear hcall) | refine Calls.mono (zden_ar (CR.keep Hx1.out (Keep.call HG.out)).ar (by decide)) ?_)
  rintro e w16 ⟨v16, rfl, hd2, hb⟩
  obtain ⟨d2_a, d2_n, d2_c, rfl⟩ := hd2.lit
  refine ⟨_, rfl, ?_, hb⟩
  have Hd1 := Lib.hid (Is.keep Hd1.out (Keep.call hb))
  have HG := Lib.hid (below_call HG.out hb)
  have Hd2 := Lib.hid hd2
  clear hb hd2
  simp only [Act.put, List.setIfInBounds_toArray, List.set_cons_zero, List.set_cons_succ]
  refine good_callX 4 28 (some 68) #[Go.Operand.tmp 65, Go.Operand.tmp 67] #[23, 23] (none) #[.slice d1_a d1_n d1_c, .slice d2_a d2_n d2_c] (by kernel_rfl) Hok.out (by kernel_rfl) (by kernel_rfl) (by kernel_rfl) (by kernel_rfl) rfl rfl rfl (by kernel_rfl) (fun w17 hb => ?_)
  have Hd1 := Lib.hid (Is.keep Hd1.out (Keep.call hb))
  have Hd2 := Lib.hid (Is.keep Hd2.out (Keep.call hb))
  have HG := Lib.hid (below_call HG.out hb)
  clear hb
  (first | (have hcall := rcmp_is c Hd1.out Hd2.out Hc.out; refine Calls.mono hcall ?_; clear hcall) | refine Calls.mono (rcmp_is c Hd1.out Hd2.out Hc.out) ?_)
  rintro e w18 ⟨v18, rfl, ⟨⟩, hb⟩
  refine ⟨_, rfl, ?_, hb⟩
  have HG := Lib.hid (below_call HG.out hb)
  clear hb
  simp only [Act.put, List.setIfInBounds_toArray, List.set_cons_zero, List.set_cons_succ]
  refine good_pureX 5 (some 12) (Go.Op.assign (Go.Operand.tmp 68)) (none) (.int .i64 c) (by kernel_rfl) (by kernel_rfl) (by kernel_rfl) (fun _ _ _ h => h) (fun w' hw' => ?_) ?_
  · first | (go_simp; done) | (go_simp; simp_all; done) | (go_simp; rfl)
  simp only [Act.put, List.setIfInBounds_toArray, List.set_cons_zero, List.set_cons_succ]
  refine good_end0 0 (by kernel_rfl) (fun _ w19 hb => ?_)
  have HG := Lib.hid (below_call HG.out hb)
  clear hb
  have Hx1 := Lib.hid (CR.keep Hx1.out (Keep.call HG.out))
  have Hs1 := Lib.hid (CR.keep Hs1.out (Keep.call HG.out))
  have Xa0 := Lib.hid (Box.pcall HG.out Xa0.out)
  have Xb0 := Lib.hid (Box.pcall HG.out Xb0.out)
  have Xc0 := Lib.hid (Box.pcall HG.out Xc0.out)
  have Xd0 := Lib.hid (Box.pcall HG.out Xd0.out)
  have HB := Lib.hid (below_call HB.out HG.out)
  have HS := Lib.hid (SE.of (E := []) HG.out)
  refine wpAnyH_done (by kernel_rfl) ?_ _
  clear HG HS Hok 
  obtain ⟨ca00, ca01, ca02, fa00, fa01, fa02⟩ := Xa0.out.c3
  have la0 := Xa0.out.lt
  obtain ⟨cb00, cb01, cb02, fb00, fb01, fb02⟩ := Xb0.out.c3
  have lb0 := Xb0.out.lt
  obtain ⟨cc00, cc01, cc02, fc00, fc01, fc02⟩ := Xc0.out.c3
  have lc0 := Xc0.out.lt
  obtain ⟨cd00, cd01, cd02, fd00, fd01, fd02⟩ := Xd0.out.c3
  have ld0 := Xd0.out.lt
  go_wp2_with fail
  clear ca00 ca01 ca02 fa00 fa01 fa02 la0 cb00 cb01 cb02 fb00 fb01 fb02 lb0 cc00 cc01 cc02 fc00 fc01 fc02 lc0 cd00 cd01 cd02 fd00 fd01 fd02 ld0
  (first | (have hcall := rcmp_is e Hs1.out.numC.is Hx1.out.numC.is He.out; refine Calls.mono hcall ?_; clear hcall) | refine Calls.mono (rcmp_is e Hs1.out.numC.is Hx1.out.numC.is He.out) ?_)
  rintro e w20 ⟨v20, rfl, ⟨⟩, hb⟩
  have Xa0 := Lib.hid (Box.pcall hb Xa0.out)
  have Xb0 := Lib.hid (Box.pcall hb Xb0.out)
  have Xc0 := Lib.hid (Box.pcall hb Xc0.out)
  have Xd0 := Lib.hid (Box.pcall hb Xd0.out)
  have HB := Lib.hid (below_call HB.out hb)
  clear hb
  obtain ⟨ca00, ca01, ca02, fa00, fa01, fa02⟩ := Xa0.out.c3
  have la0 := Xa0.out.lt
  obtain ⟨cb00, cb01, cb02, fb00, fb01, fb02⟩ := Xb0.out.c3
  have lb0 := Xb0.out.lt
  obtain ⟨cc00, cc01, cc02, fc00, fc01, fc02⟩ := Xc0.out.c3
  have lc0 := Xc0.out.lt
  obtain ⟨cd00, cd01, cd02, fd00, fd01, fd02⟩ := Xd0.out.c3
  have ld0 := Xd0.out.lt
  go_wp2
  clear ca00 ca01 ca02 fa00 fa01 fa02 la0 cb00 cb01 cb02 fb00 fb01 fb02 lb0 cc00 cc01 cc02 fc00 fc01 fc02 lc0 cd00 cd01 cd02 fd00 fd01 fd02 ld0
  go_ret
  exact ⟨_, rfl, rfl, HB.out⟩


theorem RationalSimpler_all (ba : Bool) (sa : Option Addr) (na ca : Nat) (ta : Option Addr) (ma ea : Nat) (bb : Bool) (sb : Option Addr) (nb cb : Nat) (tb : Option Addr) (mb eb : Nat) (x : Int) (w : World) (ra : Row w (.slice sa na ca) na) (ua : Row w (.slice ta ma ea) ma) (rb : Row w (.slice sb nb cb) nb) (ub : Row w (.slice tb mb eb) mb) (hx : (Lit.int .u16 x).wf = true) : Calls Try.prog 6 #[.agg #[.bool ba, .slice sa na ca, .slice ta ma ea], .agg #[.bool bb, .slice sb nb cb, .slice tb mb eb], .int .u16 x] w (Ret w (Val (.bool true))) := by
  have hw := wf_u16 hx
  by_cases la : 3 < na ∨ 3 < ma
  · exact lrspr_no0 hw.1 hw.2 la
  by_cases lb : 3 < nb ∨ 3 < mb
  · exact lrspr_no1 hw.1 hw.2 (by omega) (by omega) lb
  obtain ⟨qa, ha⟩ := ra.ar (b := ba) ua 3 (by omega) (by omega) (by decide)
  obtain ⟨qb, hb⟩ := rb.ar (b := bb) ub 3 (by omega) (by omega) (by decide)
  by_cases h1 : cmpQ qa (((x / 256 - 128 : Int) : Rat) / ((x % 50 + 1 : Int) : Rat)) ≤ 0
  · have k1 := cmpQ_le.1 h1
    by_cases h2 : cmpQ (((x / 256 - 128 : Int) : Rat) / ((x % 50 + 1 : Int) : Rat)) qb ≤ 0
    · have k2 := cmpQ_le.1 h2
      have hle := Rat.le_trans k1 k2
      obtain ⟨s1, s2, s3⟩ := smp_spec hle
      obtain ⟨t1, t2⟩ := s3 _ k1 k2
      have e1 : decide (0 < cmpQ qa (smp qa qb)) = false := decide_eq_false (by have := cmpQ_le.2 s1; omega)
      have e2 : decide (0 < cmpQ (smp qa qb) qb) = false := decide_eq_false (by have := cmpQ_le.2 s2; omega)
      rcases Nat.lt_or_ge (smp qa qb).den (((x / 256 - 128 : Int) : Rat) / ((x % 50 + 1 : Int) : Rat)).den with h3 | h3
      · exact lrspr_3 hw.1 hw.2 _ rfl (decide_eq_false (by omega)) _ rfl (decide_eq_false (by omega)) hle _ _ rfl e1 rfl e2 _ (cmpN_lt h3) (by decide) ha (by omega) (by omega) hb (by omega) (by omega)
      · exact lrspr_4 hw.1 hw.2 _ rfl (decide_eq_false (by omega)) _ rfl (decide_eq_false (by omega)) hle _ _ rfl e1 rfl e2 _ (cmpN_eq (Nat.le_antisymm t1 h3)) (by decide) (by decide) _ rfl (decide_eq_true (by unfold cmpN; split; omega; split; omega; omega)) ha (by omega) (by omega) hb (by omega) (by omega)
    · exact lrspr_2 hw.1 hw.2 _ rfl (decide_eq_false (by omega)) _ rfl (decide_eq_true (by omega)) ha (by omega) (by omega) hb (by omega) (by omega)
  · exact lrspr_1 hw.1 hw.2 _ rfl (decide_eq_true (by omega)) ha (by omega) (by omega) hb (by omega) (by omega)

end Go.Proofs.Ytfkjhaniglmejaa
