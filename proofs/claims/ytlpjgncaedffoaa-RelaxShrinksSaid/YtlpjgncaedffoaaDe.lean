/- Texts RelD, in this order. -/
import Derived.Test.YtlpjgncaedffoaaDc
namespace Go.Proofs.Ytlpjgncaedffoaa
open Go.RowKit Nt
set_option linter.unusedVariables false
theorem wf_u8 {n : Int} (h : (Lit.int .u8 n).wf = true) : 0 ≤ n ∧ n < 256 := by
  simp [Lit.wf, IntKind.min, IntKind.max, IntKind.signed, IntKind.bits] at h
  omega

set_option maxRecDepth 100000 in
set_option maxHeartbeats 4000000 in
theorem lbou_big {x y : Int} {ba : Bool} {sa ta : Option Addr} {na ca ma ea : Nat} {bb : Bool} {sb tb : Option Addr} {nb cb mb eb : Nat}  {w : World} (hB8 : ([⟨ba, sa, na, ca, ta, ma, ea⟩, ⟨bb, sb, nb, cb, tb, mb, eb⟩] : List Rw).any Rw.big = true)  :
    Calls Try.prog 5 #[.agg #[.bool ba, .slice sa na ca, .slice ta ma ea], .agg #[.bool bb, .slice sb nb cb, .slice tb mb eb], .int .u8 x, .int .u8 y] w (Ret w (Val (.bool true))) := by
  have HB8 := Lib.hid hB8
  clear hB8
  go_enter Try.func5, Try.ntmps5
  have HB := Lib.hid (Below.refl w.heap.size w)
  go_wp2_with fail
  obtain ⟨W1, hW⟩ : ∃ W1, W1 = (World.alloc (World.alloc w (.cells #[.bool ba, .slice sa na ca, .slice ta ma ea] 25)) (.cells #[.bool bb, .slice sb nb cb, .slice tb mb eb] 25)) := ⟨_, rfl⟩
  rw [← hW]
  obtain ⟨xa0, xb0, hk, hb⟩ := boxes_2 _ _ _ _ _ hW
  clear hW
  have Ga0 := Lib.hid (show w.heap.size ≤ w.heap.size from Nat.le_trans HB.out.size (by omega))
  have Gb0 := Lib.hid (show w.heap.size ≤ w.heap.size + 1 from Nat.le_trans HB.out.size (by omega))
  have Xa0 := Lib.hid xa0
  have Xb0 := Lib.hid xb0
  have HB := Lib.hid (below_call HB.out hb)
  clear hk hb xa0 xb0
  refine Calls.mono (awake25) ?_
  rintro e w2 ⟨v2, rfl, rfl, hb⟩
  have Xa0 := Lib.hid (Box.pcall hb Xa0.out)
  have Xb0 := Lib.hid (Box.pcall hb Xb0.out)
  have HB := Lib.hid (below_call HB.out hb)
  clear hb
  obtain ⟨ca00, ca01, ca02, fa00, fa01, fa02⟩ := Xa0.out.c3
  have la0 := Xa0.out.lt
  obtain ⟨cb00, cb01, cb02, fb00, fb01, fb02⟩ := Xb0.out.c3
  have lb0 := Xb0.out.lt
  go_wp2_with fail
  clear ca00 ca01 ca02 fa00 fa01 fa02 la0 cb00 cb01 cb02 fb00 fb01 fb02 lb0
  obtain ⟨W3, hW⟩ : ∃ W3, W3 = (World.alloc w2 (.cells #[.bool ba, .slice sa na ca, .slice ta ma ea, .bool bb, .slice sb nb cb, .slice tb mb eb] 25)) := ⟨_, rfl⟩
  rw [← hW]
  obtain ⟨xc0, hk, hb⟩ := boxes_1 _ _ _ hW
  clear hW
  have Na0c0 := Lib.hid (show w.heap.size ≠ w2.heap.size from Nat.ne_of_lt (Nat.lt_of_lt_of_le Xa0.out.lt (by omega)))
  have Nb0c0 := Lib.hid (show w.heap.size + 1 ≠ w2.heap.size from Nat.ne_of_lt (Nat.lt_of_lt_of_le Xb0.out.lt (by omega)))
  have Gc0 := Lib.hid (show w.heap.size ≤ w2.heap.size from Nat.le_trans HB.out.size (by omega))
  have Xa0 := Lib.hid (Box.pcall hb Xa0.out)
  have Xb0 := Lib.hid (Box.pcall hb Xb0.out)
  have Xc0 := Lib.hid xc0
  have HB := Lib.hid (below_call HB.out hb)
  clear hk hb xc0
  refine Calls.mono (large2 Xc0.out HB8.out) ?_
  rintro e w4 ⟨v4, rfl, rfl, hb⟩
  have Xa0 := Lib.hid (Box.pcall hb Xa0.out)
  have Xb0 := Lib.hid (Box.pcall hb Xb0.out)
  have Xc0 := Lib.hid (Box.pcall hb Xc0.out)
  have HB := Lib.hid (below_call HB.out hb)
  clear hb
  obtain ⟨ca00, ca01, ca02, fa00, fa01, fa02⟩ := Xa0.out.c3
  have la0 := Xa0.out.lt
  obtain ⟨cb00, cb01, cb02, fb00, fb01, fb02⟩ := Xb0.out.c3
  have lb0 := Xb0.out.lt
  go_wp2
  clear ca00 ca01 ca02 fa00 fa01 fa02 la0 cb00 cb01 cb02 fb00 fb01 fb02 lb0
  go_ret
  exact ⟨_, rfl, rfl, HB.out⟩


set_option maxRecDepth 100000 in
set_option maxHeartbeats 4000000 in
theorem lbou_n {x y : Int} {qa : Rat} {ba : Bool} {sa ta : Option Addr} {na ca ma ea : Nat} {qb : Rat} {bb : Bool} {sb tb : Option Addr} {nb cb mb eb : Nat}  {w : World} (hu : unst qa qb = false) (hB8 : ([⟨ba, sa, na, ca, ta, ma, ea⟩, ⟨bb, sb, nb, cb, tb, mb, eb⟩] : List Rw).any Rw.big = false) (ha : AR qa 8 w (.agg #[.bool ba, .slice sa na ca, .slice ta ma ea])) (hb : AR qb 8 w (.agg #[.bool bb, .slice sb nb cb, .slice tb mb eb])) :
    Calls Try.prog 5 #[.agg #[.bool ba, .slice sa na ca, .slice ta ma ea], .agg #[.bool bb, .slice sb nb cb, .slice tb mb eb], .int .u8 x, .int .u8 y] w (Ret w (Val (.bool true))) := by
  have Ha := Lib.hid ha
  have Hb := Lib.hid hb
  have HB8 := Lib.hid hB8
  have Hu := Lib.hid hu
  clear ha hb hB8 hu
  go_enter Try.func5, Try.ntmps5
  have HB := Lib.hid (Below.refl w.heap.size w)
  go_wp2_with fail
  obtain ⟨W1, hW⟩ : ∃ W1, W1 = (World.alloc (World.alloc w (.cells #[.bool ba, .slice sa na ca, .slice ta ma ea] 25)) (.cells #[.bool bb, .slice sb nb cb, .slice tb mb eb] 25)) := ⟨_, rfl⟩
  rw [← hW]
  obtain ⟨xa0, xb0, hk, hb⟩ := boxes_2 _ _ _ _ _ hW
  clear hW
  have Ha := Lib.hid (AR.keep Ha.out hk)
  have Hb := Lib.hid (AR.keep Hb.out hk)
  have Ga0 := Lib.hid (show w.heap.size ≤ w.heap.size from Nat.le_trans HB.out.size (by omega))
  have Gb0 := Lib.hid (show w.heap.size ≤ w.heap.size + 1 from Nat.le_trans HB.out.size (by omega))
  have Xa0 := Lib.hid xa0
  have Xb0 := Lib.hid xb0
  have HB := Lib.hid (below_call HB.out hb)
  clear hk hb xa0 xb0
  refine Calls.mono (awake25) ?_
  rintro e w2 ⟨v2, rfl, rfl, hb⟩
  have Ha := Lib.hid (AR.keep Ha.out (Keep.call hb))
  have Hb := Lib.hid (AR.keep Hb.out (Keep.call hb))
  have Xa0 := Lib.hid (Box.pcall hb Xa0.out)
  have Xb0 := Lib.hid (Box.pcall hb Xb0.out)
  have HB := Lib.hid (below_call HB.out hb)
  clear hb
  obtain ⟨ca00, ca01, ca02, fa00, fa01, fa02⟩ := Xa0.out.c3
  have la0 := Xa0.out.lt
  obtain ⟨cb00, cb01, cb02, fb00, fb01, fb02⟩ := Xb0.out.c3
  have lb0 := Xb0.out.lt
  go_wp2_with fail
  clear ca00 ca01 ca02 fa00 fa01 fa02 la0 cb00 cb01 cb02 fb00 fb01 fb02 lb0
  obtain ⟨W3, hW⟩ : ∃ W3, W3 = (World.alloc w2 (.cells #[.bool ba, .slice sa na ca, .slice ta ma ea, .bool bb, .slice sb nb cb, .slice tb mb eb] 25)) := ⟨_, rfl⟩
  rw [← hW]
  obtain ⟨xc0, hk, hb⟩ := boxes_1 _ _ _ hW
  clear hW
  have Ha := Lib.hid (AR.keep Ha.out hk)
  have Hb := Lib.hid (AR.keep Hb.out hk)
  have Na0c0 := Lib.hid (show w.heap.size ≠ w2.heap.size from Nat.ne_of_lt (Nat.lt_of_lt_of_le Xa0.out.lt (by omega)))
  have Nb0c0 := Lib.hid (show w.heap.size + 1 ≠ w2.heap.size from Nat.ne_of_lt (Nat.lt_of_lt_of_le Xb0.out.lt (by omega)))
  have Gc0 := Lib.hid (show w.heap.size ≤ w2.heap.size from Nat.le_trans HB.out.size (by omega))
  have Xa0 := Lib.hid (Box.pcall hb Xa0.out)
  have Xb0 := Lib.hid (Box.pcall hb Xb0.out)
  have Xc0 := Lib.hid xc0
  have HB := Lib.hid (below_call HB.out hb)
  clear hk hb xc0
  refine Calls.mono (large2 Xc0.out HB8.out) ?_
  rintro e w4 ⟨v4, rfl, rfl, hb⟩
  have Ha := Lib.hid (AR.keep Ha.out (Keep.call hb))
  have Hb := Lib.hid (AR.keep Hb.out (Keep.call hb))
  have Xa0 := Lib.hid (Box.pcall hb Xa0.out)
  have Xb0 := Lib.hid (Box.pcall hb Xb0.out)
  have Xc0 := Lib.hid (Box.pcall hb Xc0.out)
  have HB := Lib.hid (below_call HB.out hb)
  clear hb
  obtain ⟨ca00, ca01, ca02, fa00, fa01, fa02⟩ := Xa0.out.c3
  have la0 := Xa0.out.lt
  obtain ⟨cb00, cb01, cb02, fb00, fb01, fb02⟩ := Xb0.out.c3
  have lb0 := Xb0.out.lt
  go_wp2_with fail
  clear ca00 ca01 ca02 fa00 fa01 fa02 la0 cb00 cb01 cb02 fb00 fb01 fb02 lb0
  (first | (have hcall := zluns_ar Hu.out Ha.out Hb.out (by decide); refine Calls.mono hcall ?_; clear hcall) | refine Calls.mono (zluns_ar Hu.out Ha.out Hb.out (by decide)) ?_)
  rintro e w5 ⟨v5, rfl, rfl, hb⟩
  have Xa0 := Lib.hid (Box.pcall hb Xa0.out)
  have Xb0 := Lib.hid (Box.pcall hb Xb0.out)
  have Xc0 := Lib.hid (Box.pcall hb Xc0.out)
  have HB := Lib.hid (below_call HB.out hb)
  clear hb
  obtain ⟨ca00, ca01, ca02, fa00, fa01, fa02⟩ := Xa0.out.c3
  have la0 := Xa0.out.lt
  obtain ⟨cb00, cb01, cb02, fb00, fb01, fb02⟩ := Xb0.out.c3
  have lb0 := Xb0.out.lt
  go_wp2
  clear ca00 ca01 ca02 fa00 fa01 fa02 la0 cb00 cb01 cb02 fb00 fb01 fb02 lb0
  go_ret
  exact ⟨_, rfl, rfl, HB.out⟩


set_option maxRecDepth 100000 in
set_option maxHeartbeats 4000000 in
theorem lbou_y0 {x y : Int} {qa : Rat} {ba : Bool} {sa ta : Option Addr} {na ca ma ea : Nat} {qb : Rat} {bb : Bool} {sb tb : Option Addr} {nb cb mb eb : Nat}  {w : World} (x0 : 0 ≤ x) (x1 : x < 256) (y0 : 0 ≤ y) (y1 : y < 256) (hu : unst qa qb = true) (j : Int) (hj : slopeQ qa qb = j) (k : Int) (hk : cmpQ (((y % 9 : Int) : Rat) / ((8 : Int) : Rat) * (btw qa qb (x % 17) 16)) (relu (btw qa qb (x % 17) 16)) = k) (hk0 : decide (0 < k) = false) (m : Int) (hm : cmpQ (relu (btw qa qb (x % 17) 16)) (upQ qa qb * (btw qa qb (x % 17) 16) + gapQ qa qb) = m) (hm0 : decide (0 < m) = false) (hm1 : (m == 0) = true) (d1 : (x % 17 == 0) = true) (hB8 : ([⟨ba, sa, na, ca, ta, ma, ea⟩, ⟨bb, sb, nb, cb, tb, mb, eb⟩] : List Rw).any Rw.big = false) (ha : AR qa 8 w (.agg #[.bool ba, .slice sa na ca, .slice ta ma ea])) (hb : AR qb 8 w (.agg #[.bool bb, .slice sb nb cb, .slice tb mb eb])) :
    Calls Try.prog 5 #[.agg #[.bool ba, .slice sa na ca, .slice ta ma ea], .agg #[.bool bb, .slice sb nb cb, .slice tb mb eb], .int .u8 x, .int .u8 y] w (Ret w (Val (.bool true))) := by
  have Ha := Lib.hid ha
  have Hb := Lib.hid hb
  have HB8 := Lib.hid hB8
  have Hu := Lib.hid hu
  have Hj := Lib.hid hj
  have Hk := Lib.hid hk
  have Hm := Lib.hid hm
  clear ha hb hB8 hu hj hk hm
  go_enter Try.func5, Try.ntmps5
  have HB := Lib.hid (Below.refl w.heap.size w)
  go_wp2_with fail
  obtain ⟨W1, hW⟩ : ∃ W1, W1 = (World.alloc (World.alloc w (.cells #[.bool ba, .slice sa na ca, .slice ta ma ea] 25)) (.cells #[.bool bb, .slice sb nb cb, .slice tb mb eb] 25)) := ⟨_, rfl⟩
  rw [← hW]
  obtain ⟨xa0, xb0, hk, hb⟩ := boxes_2 _ _ _ _ _ hW
  clear hW
  have Ha := Lib.hid (AR.keep Ha.out hk)
  have Hb := Lib.hid (AR.keep Hb.out hk)
  have Ga0 := Lib.hid (show w.heap.size ≤ w.heap.size from Nat.le_trans HB.out.size (by omega))
  have Gb0 := Lib.hid (show w.heap.size ≤ w.heap.size + 1 from Nat.le_trans HB.out.size (by omega))
  have Xa0 := Lib.hid xa0
  have Xb0 := Lib.hid xb0
  have HB := Lib.hid (below_call HB.out hb)
  clear hk hb xa0 xb0
  refine Calls.mono (awake25) ?_
  rintro e w2 ⟨v2, rfl, rfl, hb⟩
  have Ha := Lib.hid (AR.keep Ha.out (Keep.call hb))
  have Hb := Lib.hid (AR.keep Hb.out (Keep.call hb))
  have Xa0 := Lib.hid (Box.pcall hb Xa0.out)
  have Xb0 := Lib.hid (Box.pcall hb Xb0.out)
  have HB := Lib.hid (below_call HB.out hb)
  clear hb
  obtain ⟨ca00, ca01, ca02, fa00, fa01, fa02⟩ := Xa0.out.c3
  have la0 := Xa0.out.lt
  obtain ⟨cb00, cb01, cb02, fb00, fb01, fb02⟩ := Xb0.out.c3
  have lb0 := Xb0.out.lt
  go_wp2_with fail
  clear ca00 ca01 ca02 fa00 fa01 fa02 la0 cb00 cb01 cb02 fb00 fb01 fb02 lb0
  obtain ⟨W3, hW⟩ : ∃ W3, W3 = (World.alloc w2 (.cells #[.bool ba, .slice sa na ca, .slice ta ma ea, .bool bb, .slice sb nb cb, .slice tb mb eb] 25)) := ⟨_, rfl⟩
  rw [← hW]
  obtain ⟨xc0, hk, hb⟩ := boxes_1 _ _ _ hW
  clear hW
  have Ha := Lib.hid (AR.keep Ha.out hk)
  have Hb := Lib.hid (AR.keep Hb.out hk)
  have Na0c0 := Lib.hid (show w.heap.size ≠ w2.heap.size from Nat.ne_of_lt (Nat.lt_of_lt_of_le Xa0.out.lt (by omega)))
  have Nb0c0 := Lib.hid (show w.heap.size + 1 ≠ w2.heap.size from Nat.ne_of_lt (Nat.lt_of_lt_of_le Xb0.out.lt (by omega)))
  have Gc0 := Lib.hid (show w.heap.size ≤ w2.heap.size from Nat.le_trans HB.out.size (by omega))
  have Xa0 := Lib.hid (Box.pcall hb Xa0.out)
  have Xb0 := Lib.hid (Box.pcall hb Xb0.out)
  have Xc0 := Lib.hid xc0
  have HB := Lib.hid (below_call HB.out hb)
  clear hk hb xc0
  refine Calls.mono (large2 Xc0.out HB8.out) ?_
  rintro e w4 ⟨v4, rfl, rfl, hb⟩
  have Ha := Lib.hid (AR.keep Ha.out (Keep.call hb))
  have Hb := Lib.hid (AR.keep Hb.out (Keep.call hb))
  have Xa0 := Lib.hid (Box.pcall hb Xa0.out)
  have Xb0 := Lib.hid (Box.pcall hb Xb0.out)
  have Xc0 := Lib.hid (Box.pcall hb Xc0.out)
  have HB := Lib.hid (below_call HB.out hb)
  clear hb
  obtain ⟨ca00, ca01, ca02, fa00, fa01, fa02⟩ := Xa0.out.c3
  have la0 := Xa0.out.lt
  obtain ⟨cb00, cb01, cb02, fb00, fb01, fb02⟩ := Xb0.out.c3
  have lb0 := Xb0.out.lt
  go_wp2_with fail
  clear ca00 ca01 ca02 fa00 fa01 fa02 la0 cb00 cb01 cb02 fb00 fb01 fb02 lb0
  (first | (have hcall := zluns_ar Hu.out Ha.out Hb.out (by decide); refine Calls.mono hcall ?_; clear hcall) | refine Calls.mono (zluns_ar Hu.out Ha.out Hb.out (by decide)) ?_)
  rintro e w5 ⟨v5, rfl, rfl, hb⟩
  have Ha := Lib.hid (AR.keep Ha.out (Keep.call hb))
  have Hb := Lib.hid (AR.keep Hb.out (Keep.call hb))
  have Xa0 := Lib.hid (Box.pcall hb Xa0.out)
  have Xb0 := Lib.hid (Box.pcall hb Xb0.out)
  have Xc0 := Lib.hid (Box.pcall hb Xc0.out)
  have HB := Lib.hid (below_call HB.out hb)
  clear hb
  obtain ⟨ca00, ca01, ca02, fa00, fa01, fa02⟩ := Xa0.out.c3
  have la0 := Xa0.out.lt
  obtain ⟨cb00, cb01, cb02, fb00, fb01, fb02⟩ := Xb0.out.c3
  have lb0 := Xb0.out.lt
  go_wp2_with fail
  clear ca00 ca01 ca02 fa00 fa01 fa02 la0 cb00 cb01 cb02 fb00 fb01 fb02 lb0
  (first | (have hcall := rllin_k j Hj.out Hu.out Ha.out Hb.out (by decide); refine Calls.mono hcall ?_; clear hcall) | refine Calls.mono (rllin_k j Hj.out Hu.out Ha.out Hb.out (by decide)) ?_)
  rintro e w6 ⟨t6, rfl, ⟨v6, u6, rfl, hu1, hg1⟩, hb⟩
  obtain ⟨u1_b, u1_a, u1_n, u1_c, u1_d, u1_m, u1_e, rfl⟩ := hu1.litb
  obtain ⟨g1_b, g1_a, g1_n, g1_c, g1_d, g1_m, g1_e, rfl⟩ := hg1.litb
  have Ha := Lib.hid (AR.keep Ha.out (Keep.call hb))
  have Hb := Lib.hid (AR.keep Hb.out (Keep.call hb))
  have Xa0 := Lib.hid (Box.pcall hb Xa0.out)
  have Xb0 := Lib.hid (Box.pcall hb Xb0.out)
  have Xc0 := Lib.hid (Box.pcall hb Xc0.out)
  have HB := Lib.hid (below_call HB.out hb)
  have Hu1 := Lib.hid hu1
  have Hg1 := Lib.hid hg1
  clear hb hu1 hg1
  obtain ⟨ca00, ca01, ca02, fa00, fa01, fa02⟩ := Xa0.out.c3
  have la0 := Xa0.out.lt
  obtain ⟨cb00, cb01, cb02, fb00, fb01, fb02⟩ := Xb0.out.c3
  have lb0 := Xb0.out.lt
  go_wp2_with fail
  clear ca00 ca01 ca02 fa00 fa01 fa02 la0 cb00 cb01 cb02 fb00 fb01 fb02 lb0
  obtain ⟨W7, hW⟩ : ∃ W7, W7 = (World.alloc (World.alloc w6 (.cells #[.bool u1_b, .slice u1_a u1_n u1_c, .slice u1_d u1_m u1_e] 25)) (.cells #[.bool g1_b, .slice g1_a g1_n g1_c, .slice g1_d g1_m g1_e] 25)) := ⟨_, rfl⟩
  rw [← hW]
  obtain ⟨xd0, xe0, hk, hb⟩ := boxes_2 _ _ _ _ _ hW
  clear hW
  have Ha := Lib.hid (AR.keep Ha.out hk)
  have Hb := Lib.hid (AR.keep Hb.out hk)
  have Hu1 := Lib.hid (CR.keep Hu1.out hk)
  have Hg1 := Lib.hid (CR.keep Hg1.out hk)
  have Na0d0 := Lib.hid (show w.heap.size ≠ w6.heap.size from Nat.ne_of_lt (Nat.lt_of_lt_of_le Xa0.out.lt (by omega)))
  have Nb0d0 := Lib.hid (show w.heap.size + 1 ≠ w6.heap.size from Nat.ne_of_lt (Nat.lt_of_lt_of_le Xb0.out.lt (by omega)))
  have Nc0d0 := Lib.hid (show w2.heap.size ≠ w6.heap.size from Nat.ne_of_lt (Nat.lt_of_lt_of_le Xc0.out.lt (by omega)))
  have Gd0 := Lib.hid (show w.heap.size ≤ w6.heap.size from Nat.le_trans HB.out.size (by omega))
  have Na0e0 := Lib.hid (show w.heap.size ≠ w6.heap.size + 1 from Nat.ne_of_lt (Nat.lt_of_lt_of_le Xa0.out.lt (by omega)))
  have Nb0e0 := Lib.hid (show w.heap.size + 1 ≠ w6.heap.size + 1 from Nat.ne_of_lt (Nat.lt_of_lt_of_le Xb0.out.lt (by omega)))
  have Nc0e0 := Lib.hid (show w2.heap.size ≠ w6.heap.size + 1 from Nat.ne_of_lt (Nat.lt_of_lt_of_le Xc0.out.lt (by omega)))
  have Ge0 := Lib.hid (show w.heap.size ≤ w6.heap.size + 1 from Nat.le_trans HB.out.size (by omega))
  have Xa0 := Lib.hid (Box.pcall hb Xa0.out)
  have Xb0 := Lib.hid (Box.pcall hb Xb0.out)
  have Xc0 := Lib.hid (Box.pcall hb Xc0.out)
  have Xd0 := Lib.hid xd0
  have Xe0 := Lib.hid xe0
  have HB := Lib.hid (below_call HB.out hb)
  clear hk hb xd0 xe0
  (first | (have hcall := btw_ar (x % 17) 16 (by omega) (by omega) (by decide) (by decide) (by decide) Ha.out Hb.out (by decide); refine Calls.mono hcall ?_; clear hcall) | refine Calls.mono (btw_ar (x % 17) 16 (by omega) (by omega) (by decide) (by decide) (by decide) Ha.out Hb.out (by decide)) ?_)
  rintro e w8 ⟨v8, rfl, hp1, hb⟩
  obtain ⟨p1_b, p1_a, p1_n, p1_c, p1_d, p1_m, p1_e, rfl⟩ := hp1.litb
  have Hu1 := Lib.hid (CR.keep Hu1.out (Keep.call hb))
  have Hg1 := Lib.hid (CR.keep Hg1.out (Keep.call hb))
  have Xa0 := Lib.hid (Box.pcall hb Xa0.out)
  have Xb0 := Lib.hid (Box.pcall hb Xb0.out)
  have Xc0 := Lib.hid (Box.pcall hb Xc0.out)
  have Xd0 := Lib.hid (Box.pcall hb Xd0.out)
  have Xe0 := Lib.hid (Box.pcall hb Xe0.out)
  have HB := Lib.hid (below_call HB.out hb)
  have Hp1 := Lib.hid hp1
  clear hb hp1
  obtain ⟨ca00, ca01, ca02, fa00, fa01, fa02⟩ := Xa0.out.c3
  have la0 := Xa0.out.lt
  obtain ⟨cb00, cb01, cb02, fb00, fb01, fb02⟩ := Xb0.out.c3
  have lb0 := Xb0.out.lt
  obtain ⟨cd00, cd01, cd02, fd00, fd01, fd02⟩ := Xd0.out.c3
  have ld0 := Xd0.out.lt
  obtain ⟨ce00, ce01, ce02, fe00, fe01, fe02⟩ := Xe0.out.c3
  have le0 := Xe0.out.lt
  go_wp2_with fail
  clear ca00 ca01 ca02 fa00 fa01 fa02 la0 cb00 cb01 cb02 fb00 fb01 fb02 lb0 cd00 cd01 cd02 fd00 fd01 fd02 ld0 ce00 ce01 ce02 fe00 fe01 fe02 le0
  obtain ⟨W9, hW⟩ : ∃ W9, W9 = (World.alloc w8 (.cells #[.bool p1_b, .slice p1_a p1_n p1_c, .slice p1_d p1_m p1_e] 25)) := ⟨_, rfl⟩
  rw [← hW]
  obtain ⟨xf0, hk, hb⟩ := boxes_1 _ _ _ hW
  clear hW
  have Hu1 := Lib.hid (CR.keep Hu1.out hk)
  have Hg1 := Lib.hid (CR.keep Hg1.out hk)
  have Hp1 := Lib.hid (CR.keep Hp1.out hk)
  have Na0f0 := Lib.hid (show w.heap.size ≠ w8.heap.size from Nat.ne_of_lt (Nat.lt_of_lt_of_le Xa0.out.lt (by omega)))
  have Nb0f0 := Lib.hid (show w.heap.size + 1 ≠ w8.heap.size from Nat.ne_of_lt (Nat.lt_of_lt_of_le Xb0.out.lt (by omega)))
  have Nc0f0 := Lib.hid (show w2.heap.size ≠ w8.heap.size from Nat.ne_of_lt (Nat.lt_of_lt_of_le Xc0.out.lt (by omega)))
  have Nd0f0 := Lib.hid (show w6.heap.size ≠ w8.heap.size from Nat.ne_of_lt (Nat.lt_of_lt_of_le Xd0.out.lt (by omega)))
  have Ne0f0 := Lib.hid (show w6.heap.size + 1 ≠ w8.heap.size from Nat.ne_of_lt (Nat.lt_of_lt_of_le Xe0.out.lt (by omega)))
  have Gf0 := Lib.hid (show w.heap.size ≤ w8.heap.size from Nat.le_trans HB.out.size (by omega))
  have Xa0 := Lib.hid (Box.pcall hb Xa0.out)
  have Xb0 := Lib.hid (Box.pcall hb Xb0.out)
  have Xc0 := Lib.hid (Box.pcall hb Xc0.out)
  have Xd0 := Lib.hid (Box.pcall hb Xd0.out)
  have Xe0 := Lib.hid (Box.pcall hb Xe0.out)
  have Xf0 := Lib.hid xf0
  have HB := Lib.hid (below_call HB.out hb)
  clear hk hb xf0
  (first | (have hcall := rect_ar Hp1.out.ar (by decide); refine Calls.mono hcall ?_; clear hcall) | refine Calls.mono (rect_ar Hp1.out.ar (by decide)) ?_)
  rintro e w10 ⟨v10, rfl, hr1, hb⟩
  obtain ⟨r1_b, r1_a, r1_n, r1_c, r1_d, r1_m, r1_e, rfl⟩ := hr1.litb
  have Hu1 := Lib.hid (CR.keep Hu1.out (Keep.call hb))
  have Hg1 := Lib.hid (CR.keep Hg1.out (Keep.call hb))
  have Hp1 := Lib.hid (CR.keep Hp1.out (Keep.call hb))
  have Xa0 := Lib.hid (Box.pcall hb Xa0.out)
  have Xb0 := Lib.hid (Box.pcall hb Xb0.out)
  have Xc0 := Lib.hid (Box.pcall hb Xc0.out)
  have Xd0 := Lib.hid (Box.pcall hb Xd0.out)
  have Xe0 := Lib.hid (Box.pcall hb Xe0.out)
  have Xf0 := Lib.hid (Box.pcall hb Xf0.out)
  have HB := Lib.hid (below_call HB.out hb)
  have Hr1 := Lib.hid hr1
  clear hb hr1
  obtain ⟨ca00, ca01, ca02, fa00, fa01, fa02⟩ := Xa0.out.c3
  have la0 := Xa0.out.lt
  obtain ⟨cb00, cb01, cb02, fb00, fb01, fb02⟩ := Xb0.out.c3
  have lb0 := Xb0.out.lt
  obtain ⟨cd00, cd01, cd02, fd00, fd01, fd02⟩ := Xd0.out.c3
  have ld0 := Xd0.out.lt
  obtain ⟨ce00, ce01, ce02, fe00, fe01, fe02⟩ := Xe0.out.c3
  have le0 := Xe0.out.lt
  obtain ⟨cf00, cf01, cf02, ff00, ff01, ff02⟩ := Xf0.out.c3
  have lf0 := Xf0.out.lt
  go_wp2_with fail
  clear ca00 ca01 ca02 fa00 fa01 fa02 la0 cb00 cb01 cb02 fb00 fb01 fb02 lb0 cd00 cd01 cd02 fd00 fd01 fd02 ld0 ce00 ce01 ce02 fe00 fe01 fe02 le0 cf00 cf01 cf02 ff00 ff01 ff02 lf0
  obtain ⟨W11, hW⟩ : ∃ W11, W11 = (World.alloc w10 (.cells #[.bool r1_b, .slice r1_a r1_n r1_c, .slice r1_d r1_m r1_e] 25)) := ⟨_, rfl⟩
  rw [← hW]
  obtain ⟨xg0, hk, hb⟩ := boxes_1 _ _ _ hW
  clear hW
  have Hu1 := Lib.hid (CR.keep Hu1.out hk)
  have Hg1 := Lib.hid (CR.keep Hg1.out hk)
  have Hp1 := Lib.hid (CR.keep Hp1.out hk)
  have Hr1 := Lib.hid (CR.keep Hr1.out hk)
  have Na0g0 := Lib.hid (show w.heap.size ≠ w10.heap.size from Nat.ne_of_lt (Nat.lt_of_lt_of_le Xa0.out.lt (by omega)))
  have Nb0g0 := Lib.hid (show w.heap.size + 1 ≠ w10.heap.size from Nat.ne_of_lt (Nat.lt_of_lt_of_le Xb0.out.lt (by omega)))
  have Nc0g0 := Lib.hid (show w2.heap.size ≠ w10.heap.size from Nat.ne_of_lt (Nat.lt_of_lt_of_le Xc0.out.lt (by omega)))
  have Nd0g0 := Lib.hid (show w6.heap.size ≠ w10.heap.size from Nat.ne_of_lt (Nat.lt_of_lt_of_le Xd0.out.lt (by omega)))
  have Ne0g0 := Lib.hid (show w6.heap.size + 1 ≠ w10.heap.size from Nat.ne_of_lt (Nat.lt_of_lt_of_le Xe0.out.lt (by omega)))
  have Nf0g0 := Lib.hid (show w8.heap.size ≠ w10.heap.size from Nat.ne_of_lt (Nat.lt_of_lt_of_le Xf0.out.lt (by omega)))
  have Gg0 := Lib.hid (show w.heap.size ≤ w10.heap.size from Nat.le_trans HB.out.size (by omega))
  have Xa0 := Lib.hid (Box.pcall hb Xa0.out)
  have Xb0 := Lib.hid (Box.pcall hb Xb0.out)
  have Xc0 := Lib.hid (Box.pcall hb Xc0.out)
  have Xd0 := Lib.hid (Box.pcall hb Xd0.out)
  have Xe0 := Lib.hid (Box.pcall hb Xe0.out)
  have Xf0 := Lib.hid (Box.pcall hb Xf0.out)
  have Xg0 := Lib.hid xg0
  have HB := Lib.hid (below_call HB.out hb)
  clear hk hb xg0
  refine Calls.mono (zfrac_1 (x := y % 9) (y := 8) (by omega) (by omega) (by decide) (by decide) (by decide)) ?_
  rintro e w12 ⟨t12, rfl, ⟨v12, rfl, hf1⟩, hb⟩
  obtain ⟨f1_b, f1_a, f1_n, f1_c, f1_d, f1_m, f1_e, rfl⟩ := hf1.litb
  have Hu1 := Lib.hid (CR.keep Hu1.out (Keep.call hb))
  have Hg1 := Lib.hid (CR.keep Hg1.out (Keep.call hb))
  have Hp1 := Lib.hid (CR.keep Hp1.out (Keep.call hb))
  have Hr1 := Lib.hid (CR.keep Hr1.out (Keep.call hb))
  have Xa0 := Lib.hid (Box.pcall hb Xa0.out)
  have Xb0 := Lib.hid (Box.pcall hb Xb0.out)
  have Xc0 := Lib.hid (Box.pcall hb Xc0.out)
  have Xd0 := Lib.hid (Box.pcall hb Xd0.out)
  have Xe0 := Lib.hid (Box.pcall hb Xe0.out)
  have Xf0 := Lib.hid (Box.pcall hb Xf0.out)
  have Xg0 := Lib.hid (Box.pcall hb Xg0.out)
  have HB := Lib.hid (below_call HB.out hb)
  have Hf1 := Lib.hid hf1
  clear hb hf1
  obtain ⟨ca00, ca01, ca02, fa00, fa01, fa02⟩ := Xa0.out.c3
  have la0 := Xa0.out.lt
  obtain ⟨cb00, cb01, cb02, fb00, fb01, fb02⟩ := Xb0.out.c3
  have lb0 := Xb0.out.lt
  obtain ⟨cd00, cd01, cd02, fd00, fd01, fd02⟩ := Xd0.out.c3
  have ld0 := Xd0.out.lt
  obtain ⟨ce00, ce01, ce02, fe00, fe01, fe02⟩ := Xe0.out.c3
  have le0 := Xe0.out.lt
  obtain ⟨cf00, cf01, cf02, ff00, ff01, ff02⟩ := Xf0.out.c3
  have lf0 := Xf0.out.lt
  obtain ⟨cg00, cg01, cg02, fg00, fg01, fg02⟩ := Xg0.out.c3
  have lg0 := Xg0.out.lt
  go_wp2_with fail
  clear ca00 ca01 ca02 fa00 fa01 fa02 la0 cb00 cb01 cb02 fb00 fb01 fb02 lb0 cd00 cd01 cd02 fd00 fd01 fd02 ld0 ce00 ce01 ce02 fe00 fe01 fe02 le0 cf00 cf01 cf02 ff00 ff01 ff02 lf0 cg00 cg01 cg02 fg00 fg01 fg02 lg0
  obtain ⟨W13, hW⟩ : ∃ W13, W13 = (World.alloc w12 (.cells #[.bool f1_b, .slice f1_a f1_n f1_c, .slice f1_d f1_m f1_e] 25)) := ⟨_, rfl⟩
  rw [← hW]
  obtain ⟨xh0, hk, hb⟩ := boxes_1 _ _ _ hW
  clear hW
  have Hu1 := Lib.hid (CR.keep Hu1.out hk)
  have Hg1 := Lib.hid (CR.keep Hg1.out hk)
  have Hp1 := Lib.hid (CR.keep Hp1.out hk)
  have Hr1 := Lib.hid (CR.keep Hr1.out hk)
  have Hf1 := Lib.hid (CR.keep Hf1.out hk)
  have Na0h0 := Lib.hid (show w.heap.size ≠ w12.heap.size from Nat.ne_of_lt (Nat.lt_of_lt_of_le Xa0.out.lt (by omega)))
  have Nb0h0 := Lib.hid (show w.heap.size + 1 ≠ w12.heap.size from Nat.ne_of_lt (Nat.lt_of_lt_of_le Xb0.out.lt (by omega)))
  have Nc0h0 := Lib.hid (show w2.heap.size ≠ w12.heap.size from Nat.ne_of_lt (Nat.lt_of_lt_of_le Xc0.out.lt (by omega)))
  have Nd0h0 := Lib.hid (show w6.heap.size ≠ w12.heap.size from Nat.ne_of_lt (Nat.lt_of_lt_of_le Xd0.out.lt (by omega)))
  have Ne0h0 := Lib.hid (show w6.heap.size + 1 ≠ w12.heap.size from Nat.ne_of_lt (Nat.lt_of_lt_of_le Xe0.out.lt (by omega)))
  have Nf0h0 := Lib.hid (show w8.heap.size ≠ w12.heap.size from Nat.ne_of_lt (Nat.lt_of_lt_of_le Xf0.out.lt (by omega)))
  have Ng0h0 := Lib.hid (show w10.heap.size ≠ w12.heap.size from Nat.ne_of_lt (Nat.lt_of_lt_of_le Xg0.out.lt (by omega)))
  have Gh0 := Lib.hid (show w.heap.size ≤ w12.heap.size from Nat.le_trans HB.out.size (by omega))
  have Xa0 := Lib.hid (Box.pcall hb Xa0.out)
  have Xb0 := Lib.hid (Box.pcall hb Xb0.out)
  have Xc0 := Lib.hid (Box.pcall hb Xc0.out)
  have Xd0 := Lib.hid (Box.pcall hb Xd0.out)
  have Xe0 := Lib.hid (Box.pcall hb Xe0.out)
  have Xf0 := Lib.hid (Box.pcall hb Xf0.out)
  have Xg0 := Lib.hid (Box.pcall hb Xg0.out)
  have Xh0 := Lib.hid xh0
  have HB := Lib.hid (below_call HB.out hb)
  clear hk hb xh0
  have Hu1 := Lib.hid (CR.keep Hu1.out (Keep.drew W13))
  have Hg1 := Lib.hid (CR.keep Hg1.out (Keep.drew W13))
  have Hp1 := Lib.hid (CR.keep Hp1.out (Keep.drew W13))
  have Hr1 := Lib.hid (CR.keep Hr1.out (Keep.drew W13))
  have Hf1 := Lib.hid (CR.keep Hf1.out (Keep.drew W13))
  have Xa0 := Lib.hid (Box.drew Xa0.out)
  have Xb0 := Lib.hid (Box.drew Xb0.out)
  have Xc0 := Lib.hid (Box.drew Xc0.out)
  have Xd0 := Lib.hid (Box.drew Xd0.out)
  have Xe0 := Lib.hid (Box.drew Xe0.out)
  have Xf0 := Lib.hid (Box.drew Xf0.out)
  have Xg0 := Lib.hid (Box.drew Xg0.out)
  have Xh0 := Lib.hid (Box.drew Xh0.out)
  have HB := Lib.hid (Below.drew HB.out)
  refine wp_region_float [] [⟨5, 17, 25, #[.bool false, .slice none 0 0, .slice none 0 0]⟩] (by kernel_rfl) (by kernel_rfl) 89 (by kernel_rfl) (Flok.one (by kernel_rfl) (by kernel_rfl) (by kernel_rfl) (by intro w; go_simp)) ?_
  intro ok
  have Hok := Lib.hid ok
  clear ok
  have HG := Lib.hid (Below.refl (W13.drew).heap.size (W13.drew))
  refine good_pureX 0 (some 54) (Go.Op.load 25 (Go.Operand.tmp 10)) (none) (.agg #[.bool u1_b, .slice u1_a u1_n u1_c, .slice u1_d u1_m u1_e]) (by kernel_rfl) (by kernel_rfl) (by kernel_rfl) (fun _ _ _ h => h) (fun w' hw' => ?_) ?_
  · obtain ⟨cd00, cd01, cd02, fd00, fd01, fd02⟩ := (Box.se hw' Xd0.out notin0).c3
    first | (go_simp; done) | (go_simp; simp_all; done) | (go_simp; rfl)
  simp only [Act.put, List.setIfInBounds_toArray, List.set_cons_zero, List.set_cons_succ]
  refine good_pureX 1 (some 55) (Go.Op.load 25 (Go.Operand.tmp 13)) (none) (.agg #[.bool p1_b, .slice p1_a p1_n p1_c, .slice p1_d p1_m p1_e]) (by kernel_rfl) (by kernel_rfl) (by kernel_rfl) (fun _ _ _ h => h) (fun w' hw' => ?_) ?_
  · obtain ⟨cf00, cf01, cf02, ff00, ff01, ff02⟩ := (Box.se hw' Xf0.out notin0).c3
    first | (go_simp; done) | (go_simp; simp_all; done) | (go_simp; rfl)
  simp only [Act.put, List.setIfInBounds_toArray, List.set_cons_zero, List.set_cons_succ]
  refine good_pureX 3 (some 57) (Go.Op.load 25 (Go.Operand.tmp 11)) (none) (.agg #[.bool g1_b, .slice g1_a g1_n g1_c, .slice g1_d g1_m g1_e]) (by kernel_rfl) (by kernel_rfl) (by kernel_rfl) (fun _ _ _ h => h) (fun w' hw' => ?_) ?_
  · obtain ⟨ce00, ce01, ce02, fe00, fe01, fe02⟩ := (Box.se hw' Xe0.out notin0).c3
    first | (go_simp; done) | (go_simp; simp_all; done) | (go_simp; rfl)
  simp only [Act.put, List.setIfInBounds_toArray, List.set_cons_zero, List.set_cons_succ]
  refine good_callX 2 29 (some 56) #[Go.Operand.tmp 54, Go.Operand.tmp 55] #[25, 25] (none) #[.agg #[.bool u1_b, .slice u1_a u1_n u1_c, .slice u1_d u1_m u1_e], .agg #[.bool p1_b, .slice p1_a p1_n p1_c, .slice p1_d p1_m p1_e]] (by kernel_rfl) Hok.out (by kernel_rfl) (by kernel_rfl) (by kernel_rfl) (by kernel_rfl) rfl rfl rfl (by kernel_rfl) (fun w14 hb => ?_)
  have HG := Lib.hid (below_call HG.out hb)
  clear hb
  (first | (have hcall := zmul_ar (CR.keep Hu1.out (Keep.call HG.out)).ar (CR.keep Hp1.out (Keep.call HG.out)).ar (by decide) (by decide); refine Calls.mono hcall ?_; clear hcall) | refine Calls.mono (zmul_ar (CR.keep Hu1.out (Keep.call HG.out)).ar (CR.keep Hp1.out (Keep.call HG.out)).ar (by decide) (by decide)) ?_)
  rintro e w15 ⟨v15, rfl, hv1, hb⟩
  obtain ⟨v1_b, v1_a, v1_n, v1_c, v1_d, v1_m, v1_e, rfl⟩ := hv1.litb
  refine ⟨_, rfl, ?_, hb⟩
  have HG := Lib.hid (below_call HG.out hb)
  have Hv1 := Lib.hid hv1
  clear hb hv1
  simp only [Act.put, List.setIfInBounds_toArray, List.set_cons_zero, List.set_cons_succ]
  refine good_callX 4 28 (some 58) #[Go.Operand.tmp 56, Go.Operand.tmp 57] #[25, 25] (none) #[.agg #[.bool v1_b, .slice v1_a v1_n v1_c, .slice v1_d v1_m v1_e], .agg #[.bool g1_b, .slice g1_a g1_n g1_c, .slice g1_d g1_m g1_e]] (by kernel_rfl) Hok.out (by kernel_rfl) (by kernel_rfl) (by kernel_rfl) (by kernel_rfl) rfl rfl rfl (by kernel_rfl) (fun w16 hb => ?_)
  have Hv1 := Lib.hid (CR.keep Hv1.out (Keep.call hb))
  have HG := Lib.hid (below_call HG.out hb)
  clear hb
  (first | (have hcall := zadd_ar Hv1.out.ar (CR.keep Hg1.out (Keep.call HG.out)).ar (by decide) (by decide); refine Calls.mono hcall ?_; clear hcall) | refine Calls.mono (zadd_ar Hv1.out.ar (CR.keep Hg1.out (Keep.call HG.out)).ar (by decide) (by decide)) ?_)
  rintro e w17 ⟨v17, rfl, hv2, hb⟩
  obtain ⟨v2_b, v2_a, v2_n, v2_c, v2_d, v2_m, v2_e, rfl⟩ := hv2.litb
  refine ⟨_, rfl, ?_, hb⟩
  have HG := Lib.hid (below_call HG.out hb)
  have Hv2 := Lib.hid hv2
  clear hb hv2
  simp only [Act.put, List.setIfInBounds_toArray, List.set_cons_zero, List.set_cons_succ]
  refine good_end1 1 Hok.out (by kernel_rfl) (by kernel_rfl) (by kernel_rfl) (fun _ gi0 w18 hb ei0 xi0 => ?_)
  have Hv2 := Lib.hid (CR.keep Hv2.out (Keep.call hb))
  have HG := Lib.hid (below_call HG.out hb)
  clear hb
  have Na0i0 := Lib.hid (show w.heap.size ≠ gi0 from Nat.ne_of_lt (Nat.lt_of_lt_of_le Xa0.out.lt ei0))
  have Nb0i0 := Lib.hid (show w.heap.size + 1 ≠ gi0 from Nat.ne_of_lt (Nat.lt_of_lt_of_le Xb0.out.lt ei0))
  have Nc0i0 := Lib.hid (show w2.heap.size ≠ gi0 from Nat.ne_of_lt (Nat.lt_of_lt_of_le Xc0.out.lt ei0))
  have Nd0i0 := Lib.hid (show w6.heap.size ≠ gi0 from Nat.ne_of_lt (Nat.lt_of_lt_of_le Xd0.out.lt ei0))
  have Ne0i0 := Lib.hid (show w6.heap.size + 1 ≠ gi0 from Nat.ne_of_lt (Nat.lt_of_lt_of_le Xe0.out.lt ei0))
  have Nf0i0 := Lib.hid (show w8.heap.size ≠ gi0 from Nat.ne_of_lt (Nat.lt_of_lt_of_le Xf0.out.lt ei0))
  have Ng0i0 := Lib.hid (show w10.heap.size ≠ gi0 from Nat.ne_of_lt (Nat.lt_of_lt_of_le Xg0.out.lt ei0))
  have Nh0i0 := Lib.hid (show w12.heap.size ≠ gi0 from Nat.ne_of_lt (Nat.lt_of_lt_of_le Xh0.out.lt ei0))
  have Gi0 := Lib.hid (show w.heap.size ≤ gi0 from Nat.le_trans HB.out.size ei0)
  have Ei0 := Lib.hid ei0
  clear ei0
  have Hp1 := Lib.hid (CR.keep Hp1.out (Keep.call HG.out))
  have Hr1 := Lib.hid (CR.keep Hr1.out (Keep.call HG.out))
  have Hf1 := Lib.hid (CR.keep Hf1.out (Keep.call HG.out))
  have Xa0 := Lib.hid (Box.pcall HG.out Xa0.out)
  have Xb0 := Lib.hid (Box.pcall HG.out Xb0.out)
  have Xc0 := Lib.hid (Box.pcall HG.out Xc0.out)
  have Xd0 := Lib.hid (Box.pcall HG.out Xd0.out)
  have Xe0 := Lib.hid (Box.pcall HG.out Xe0.out)
  have Xf0 := Lib.hid (Box.pcall HG.out Xf0.out)
  have Xg0 := Lib.hid (Box.pcall HG.out Xg0.out)
  have Xh0 := Lib.hid (Box.pcall HG.out Xh0.out)
  have HB := Lib.hid (below_call HB.out HG.out)
  have HS := Lib.hid (SE.of (E := []) HG.out)
  have Xi0 := Lib.hid xi0
  clear xi0
  simp only [Act.put, List.setIfInBounds_toArray, List.set_cons_zero, List.set_cons_succ]
  refine held_oneX 6 (Go.Op.store 25 (Go.Operand.tmp 17) (Go.Operand.tmp 58)) (none) (World.setCell (World.setCell (World.setCell w18 ⟨gi0, 0, none⟩ (.bool v2_b)) ⟨gi0, 1, none⟩ (.slice v2_a v2_n v2_c)) ⟨gi0, 2, none⟩ (.slice v2_d v2_m v2_e)) (by kernel_rfl) (by kernel_rfl) (by kernel_rfl) (by kernel_rfl) ?_ (HS.out.store3 (.inr Ei0.out)) ?_
  · obtain ⟨ci00, ci01, ci02, fi00, fi01, fi02⟩ := Xi0.out.c3
    first | (go_simp; done) | (go_simp; simp_all; done) | (go_simp; rfl)
  obtain ⟨W19, hW⟩ : ∃ W19, W19 = (World.setCell (World.setCell (World.setCell w18 ⟨gi0, 0, none⟩ (.bool v2_b)) ⟨gi0, 1, none⟩ (.slice v2_a v2_n v2_c)) ⟨gi0, 2, none⟩ (.slice v2_d v2_m v2_e)) := ⟨_, rfl⟩
  rw [← hW]
  obtain ⟨xi0, hk, hf, hbb, hz⟩ := stored3s hW Xi0.out (by first | exact NoInt.bool _ | exact NoInt.slice _ _ _) (by first | exact NoInt.bool _ | exact NoInt.slice _ _ _) (by first | exact NoInt.bool _ | exact NoInt.slice _ _ _)
  have Hp1 := Lib.hid (CR.keep Hp1.out hk)
  have Hr1 := Lib.hid (CR.keep Hr1.out hk)
  have Hf1 := Lib.hid (CR.keep Hf1.out hk)
  have Hv2 := Lib.hid (CR.keep Hv2.out hk)
  have Xa0 := Lib.hid (hf _ _ _ Xa0.out Na0i0.out)
  have Xb0 := Lib.hid (hf _ _ _ Xb0.out Nb0i0.out)
  have Xc0 := Lib.hid (hf _ _ _ Xc0.out Nc0i0.out)
  have Xd0 := Lib.hid (hf _ _ _ Xd0.out Nd0i0.out)
  have Xe0 := Lib.hid (hf _ _ _ Xe0.out Ne0i0.out)
  have Xf0 := Lib.hid (hf _ _ _ Xf0.out Nf0i0.out)
  have Xg0 := Lib.hid (hf _ _ _ Xg0.out Ng0i0.out)
  have Xh0 := Lib.hid (hf _ _ _ Xh0.out Nh0i0.out)
  have Xi0 := Lib.hid xi0
  have HB := Lib.hid (hbb _ HB.out Gi0.out)
  have HS := Lib.hid (show SE (W13.drew) [] W19 from by rw [hW]; exact HS.out.store3 (.inr Ei0.out))
  clear hW hk hf hbb xi0
  clear hz
  refine wpAnyH_done (by kernel_rfl) ?_ _
  clear HG HS Hok Ei0
  obtain ⟨ca00, ca01, ca02, fa00, fa01, fa02⟩ := Xa0.out.c3
  have la0 := Xa0.out.lt
  obtain ⟨cb00, cb01, cb02, fb00, fb01, fb02⟩ := Xb0.out.c3
  have lb0 := Xb0.out.lt
  obtain ⟨cd00, cd01, cd02, fd00, fd01, fd02⟩ := Xd0.out.c3
  have ld0 := Xd0.out.lt
  obtain ⟨ce00, ce01, ce02, fe00, fe01, fe02⟩ := Xe0.out.c3
  have le0 := Xe0.out.lt
  obtain ⟨cf00, cf01, cf02, ff00, ff01, ff02⟩ := Xf0.out.c3
  have lf0 := Xf0.out.lt
  obtain ⟨cg00, cg01, cg02, fg00, fg01, fg02⟩ := Xg0.out.c3
  have lg0 := Xg0.out.lt
  obtain ⟨ch00, ch01, ch02, fh00, fh01, fh02⟩ := Xh0.out.c3
  have lh0 := Xh0.out.lt
  obtain ⟨ci00, ci01, ci02, fi00, fi01, fi02⟩ := Xi0.out.c3
  have li0 := Xi0.out.lt
  go_wp2_with fail
  clear ca00 ca01 ca02 fa00 fa01 fa02 la0 cb00 cb01 cb02 fb00 fb01 fb02 lb0 cd00 cd01 cd02 fd00 fd01 fd02 ld0 ce00 ce01 ce02 fe00 fe01 fe02 le0 cf00 cf01 cf02 ff00 ff01 ff02 lf0 cg00 cg01 cg02 fg00 fg01 fg02 lg0 ch00 ch01 ch02 fh00 fh01 fh02 lh0 ci00 ci01 ci02 fi00 fi01 fi02 li0
  have Hp1 := Lib.hid (CR.keep Hp1.out (Keep.drew W19))
  have Hr1 := Lib.hid (CR.keep Hr1.out (Keep.drew W19))
  have Hf1 := Lib.hid (CR.keep Hf1.out (Keep.drew W19))
  have Hv2 := Lib.hid (CR.keep Hv2.out (Keep.drew W19))
  have Xa0 := Lib.hid (Box.drew Xa0.out)
  have Xb0 := Lib.hid (Box.drew Xb0.out)
  have Xc0 := Lib.hid (Box.drew Xc0.out)
  have Xd0 := Lib.hid (Box.drew Xd0.out)
  have Xe0 := Lib.hid (Box.drew Xe0.out)
  have Xf0 := Lib.hid (Box.drew Xf0.out)
  have Xg0 := Lib.hid (Box.drew Xg0.out)
  have Xh0 := Lib.hid (Box.drew Xh0.out)
  have Xi0 := Lib.hid (Box.drew Xi0.out)
  have HB := Lib.hid (Below.drew HB.out)
  refine wp_region_float [] [] (by kernel_rfl) (by kernel_rfl) 89 (by kernel_rfl) Flok.nil ?_
  intro ok
  have Hok := Lib.hid ok
  clear ok
  have HG := Lib.hid (Below.refl (W19.drew).heap.size (W19.drew))
  refine good_pureX 0 (some 59) (Go.Op.move (Go.Operand.tmp 12)) (none) (.int .i64 0) (by kernel_rfl) (by kernel_rfl) (by kernel_rfl) (fun _ _ _ h => h) (fun w' hw' => ?_) ?_
  · first | (go_simp; done) | (go_simp; simp_all; done) | (go_simp; rfl)
  simp only [Act.put, List.setIfInBounds_toArray, List.set_cons_zero, List.set_cons_succ]
  refine good_pureX 1 (some 60) (Go.Op.binOp Go.BinOp.neq 28 (Go.Operand.tmp 59) (Go.Operand.const (Go.Value.int Go.IntKind.i64 0)) 28) (none) (.bool false) (by kernel_rfl) (by kernel_rfl) (by kernel_rfl) (fun _ _ _ h => h) (fun w' hw' => ?_) ?_
  · first | (go_simp; done) | (go_simp; simp_all; done) | (go_simp; rfl)
  simp only [Act.put, List.setIfInBounds_toArray, List.set_cons_zero, List.set_cons_succ]
  refine good_pureX 2 (some 61) (Go.Op.move (Go.Operand.tmp 60)) (none) (.bool false) (by kernel_rfl) (by kernel_rfl) (by kernel_rfl) (fun _ _ _ h => h) (fun w' hw' => ?_) ?_
  · first | (go_simp; done) | (go_simp; simp_all; done) | (go_simp; rfl)
  simp only [Act.put, List.setIfInBounds_toArray, List.set_cons_zero, List.set_cons_succ]
  refine good_pureX 3 (some 62) (Go.Op.load 25 (Go.Operand.tmp 15)) (some (2, false)) (.agg #[.bool f1_b, .slice f1_a f1_n f1_c, .slice f1_d f1_m f1_e]) (by kernel_rfl) (by kernel_rfl) (by kernel_rfl) (fun _ _ _ h => h) (fun w' hw' => ?_) ?_
  · obtain ⟨ch00, ch01, ch02, fh00, fh01, fh02⟩ := (Box.se hw' Xh0.out notin0).c3
    first | (go_simp; done) | (go_simp; simp_all; done) | (go_simp; rfl)
  simp only [Act.put, List.setIfInBounds_toArray, List.set_cons_zero, List.set_cons_succ]
  refine good_pureX 4 (some 63) (Go.Op.load 25 (Go.Operand.tmp 13)) (some (2, false)) (.agg #[.bool p1_b, .slice p1_a p1_n p1_c, .slice p1_d p1_m p1_e]) (by kernel_rfl) (by kernel_rfl) (by kernel_rfl) (fun _ _ _ h => h) (fun w' hw' => ?_) ?_
  · obtain ⟨cf00, cf01, cf02, ff00, ff01, ff02⟩ := (Box.se hw' Xf0.out notin0).c3
    first | (go_simp; done) | (go_simp; simp_all; done) | (go_simp; rfl)
  simp only [Act.put, List.setIfInBounds_toArray, List.set_cons_zero, List.set_cons_succ]
  refine good_pureX 6 (some 65) (Go.Op.load 25 (Go.Operand.tmp 14)) (some (2, false)) (.agg #[.bool r1_b, .slice r1_a r1_n r1_c, .slice r1_d r1_m r1_e]) (by kernel_rfl) (by kernel_rfl) (by kernel_rfl) (fun _ _ _ h => h) (fun w' hw' => ?_) ?_
  · obtain ⟨cg00, cg01, cg02, fg00, fg01, fg02⟩ := (Box.se hw' Xg0.out notin0).c3
    first | (go_simp; done) | (go_simp; simp_all; done) | (go_simp; rfl)
  simp only [Act.put, List.setIfInBounds_toArray, List.set_cons_zero, List.set_cons_succ]
  refine good_callX 5 29 (some 64) #[Go.Operand.tmp 62, Go.Operand.tmp 63] #[25, 25] (some (2, false)) #[.agg #[.bool f1_b, .slice f1_a f1_n f1_c, .slice f1_d f1_m f1_e], .agg #[.bool p1_b, .slice p1_a p1_n p1_c, .slice p1_d p1_m p1_e]] (by kernel_rfl) Hok.out (by kernel_rfl) (by kernel_rfl) (by kernel_rfl) (by kernel_rfl) rfl rfl rfl (by kernel_rfl) (fun w20 hb => ?_)
  have HG := Lib.hid (below_call HG.out hb)
  clear hb
  (first | (have hcall := zmul_ar (CR.keep Hf1.out (Keep.call HG.out)).ar (CR.keep Hp1.out (Keep.call HG.out)).ar (by decide) (by decide); refine Calls.mono hcall ?_; clear hcall) | refine Calls.mono (zmul_ar (CR.keep Hf1.out (Keep.call HG.out)).ar (CR.keep Hp1.out (Keep.call HG.out)).ar (by decide) (by decide)) ?_)
  rintro e w21 ⟨v21, rfl, hv3, hb⟩
  obtain ⟨v3_b, v3_a, v3_n, v3_c, v3_d, v3_m, v3_e, rfl⟩ := hv3.litb
  refine ⟨_, rfl, ?_, hb⟩
  have HG := Lib.hid (below_call HG.out hb)
  have Hv3 := Lib.hid hv3
  clear hb hv3
  simp only [Act.put, List.setIfInBounds_toArray, List.set_cons_zero, List.set_cons_succ]
  refine good_callX 7 24 (some 66) #[Go.Operand.tmp 64, Go.Operand.tmp 65] #[25, 25] (some (2, false)) #[.agg #[.bool v3_b, .slice v3_a v3_n v3_c, .slice v3_d v3_m v3_e], .agg #[.bool r1_b, .slice r1_a r1_n r1_c, .slice r1_d r1_m r1_e]] (by kernel_rfl) Hok.out (by kernel_rfl) (by kernel_rfl) (by kernel_rfl) (by kernel_rfl) rfl rfl rfl (by kernel_rfl) (fun w22 hb => ?_)
  have Hv3 := Lib.hid (CR.keep Hv3.out (Keep.call hb))
  have HG := Lib.hid (below_call HG.out hb)
  clear hb
  (first | (have hcall := zcmp_ar k Hv3.out.ar (CR.keep Hr1.out (Keep.call HG.out)).ar Hk.out (by decide) (by decide); refine Calls.mono hcall ?_; clear hcall) | refine Calls.mono (zcmp_ar k Hv3.out.ar (CR.keep Hr1.out (Keep.call HG.out)).ar Hk.out (by decide) (by decide)) ?_)
  rintro e w23 ⟨v23, rfl, ⟨⟩, hb⟩
  refine ⟨_, rfl, ?_, hb⟩
  have HG := Lib.hid (below_call HG.out hb)
  clear hb
  simp only [Act.put, List.setIfInBounds_toArray, List.set_cons_zero, List.set_cons_succ]
  refine good_pureX 8 (some 67) (Go.Op.binOp Go.BinOp.gtr 3 (Go.Operand.tmp 66) (Go.Operand.const (Go.Value.int Go.IntKind.i64 0)) 3) (some (2, false)) (.bool false) (by kernel_rfl) (by kernel_rfl) (by kernel_rfl) (fun _ _ _ h => h) (fun w' hw' => ?_) ?_
  · first | (go_simp; done) | (go_simp; simp_all; done) | (go_simp; rfl)
  simp only [Act.put, List.setIfInBounds_toArray, List.set_cons_zero, List.set_cons_succ]
  refine good_pureX 9 (some 68) (Go.Op.pick (Go.Operand.tmp 61) (Go.Operand.const (Go.Value.bool true)) (Go.Operand.tmp 67)) (none) (.bool false) (by kernel_rfl) (by kernel_rfl) (by kernel_rfl) (fun _ _ _ h => h) (fun w' hw' => ?_) ?_
  · first | (go_simp; done) | (go_simp; simp_all; done) | (go_simp; rfl)
  simp only [Act.put, List.setIfInBounds_toArray, List.set_cons_zero, List.set_cons_succ]
  refine good_pureX 10 (some 69) (Go.Op.move (Go.Operand.tmp 68)) (none) (.bool false) (by kernel_rfl) (by kernel_rfl) (by kernel_rfl) (fun _ _ _ h => h) (fun w' hw' => ?_) ?_
  · first | (go_simp; done) | (go_simp; simp_all; done) | (go_simp; rfl)
  simp only [Act.put, List.setIfInBounds_toArray, List.set_cons_zero, List.set_cons_succ]
  refine good_pureX 11 (some 70) (Go.Op.load 25 (Go.Operand.tmp 14)) (some (10, false)) (.agg #[.bool r1_b, .slice r1_a r1_n r1_c, .slice r1_d r1_m r1_e]) (by kernel_rfl) (by kernel_rfl) (by kernel_rfl) (fun _ _ _ h => h) (fun w' hw' => ?_) ?_
  · obtain ⟨cg00, cg01, cg02, fg00, fg01, fg02⟩ := (Box.se hw' Xg0.out notin0).c3
    first | (go_simp; done) | (go_simp; simp_all; done) | (go_simp; rfl)
  simp only [Act.put, List.setIfInBounds_toArray, List.set_cons_zero, List.set_cons_succ]
  refine good_pureX 12 (some 71) (Go.Op.load 25 (Go.Operand.tmp 17)) (some (10, false)) (.agg #[.bool v2_b, .slice v2_a v2_n v2_c, .slice v2_d v2_m v2_e]) (by kernel_rfl) (by kernel_rfl) (by kernel_rfl) (fun _ _ _ h => h) (fun w' hw' => ?_) ?_
  · obtain ⟨ci00, ci01, ci02, fi00, fi01, fi02⟩ := (Box.se hw' Xi0.out notin0).c3
    first | (go_simp; done) | (go_simp; simp_all; done) | (go_simp; rfl)
  simp only [Act.put, List.setIfInBounds_toArray, List.set_cons_zero, List.set_cons_succ]
  refine good_callX 13 24 (some 72) #[Go.Operand.tmp 70, Go.Operand.tmp 71] #[25, 25] (some (10, false)) #[.agg #[.bool r1_b, .slice r1_a r1_n r1_c, .slice r1_d r1_m r1_e], .agg #[.bool v2_b, .slice v2_a v2_n v2_c, .slice v2_d v2_m v2_e]] (by kernel_rfl) Hok.out (by kernel_rfl) (by kernel_rfl) (by kernel_rfl) (by kernel_rfl) rfl rfl rfl (by kernel_rfl) (fun w24 hb => ?_)
  have HG := Lib.hid (below_call HG.out hb)
  clear hb
  (first | (have hcall := zcmp_ar m (CR.keep Hr1.out (Keep.call HG.out)).ar (CR.keep Hv2.out (Keep.call HG.out)).ar Hm.out (by decide) (by decide); refine Calls.mono hcall ?_; clear hcall) | refine Calls.mono (zcmp_ar m (CR.keep Hr1.out (Keep.call HG.out)).ar (CR.keep Hv2.out (Keep.call HG.out)).ar Hm.out (by decide) (by decide)) ?_)
  rintro e w25 ⟨v25, rfl, ⟨⟩, hb⟩
  refine ⟨_, rfl, ?_, hb⟩
  have HG := Lib.hid (below_call HG.out hb)
  clear hb
  simp only [Act.put, List.setIfInBounds_toArray, List.set_cons_zero, List.set_cons_succ]
  refine good_pureX 14 (some 73) (Go.Op.binOp Go.BinOp.gtr 3 (Go.Operand.tmp 72) (Go.Operand.const (Go.Value.int Go.IntKind.i64 0)) 3) (some (10, false)) (.bool false) (by kernel_rfl) (by kernel_rfl) (by kernel_rfl) (fun _ _ _ h => h) (fun w' hw' => ?_) ?_
  · first | (go_simp; done) | (go_simp; simp_all; done) | (go_simp; rfl)
  simp only [Act.put, List.setIfInBounds_toArray, List.set_cons_zero, List.set_cons_succ]
  refine good_pureX 15 (some 74) (Go.Op.pick (Go.Operand.tmp 69) (Go.Operand.const (Go.Value.bool true)) (Go.Operand.tmp 73)) (none) (.bool false) (by kernel_rfl) (by kernel_rfl) (by kernel_rfl) (fun _ _ _ h => h) (fun w' hw' => ?_) ?_
  · first | (go_simp; done) | (go_simp; simp_all; done) | (go_simp; rfl)
  simp only [Act.put, List.setIfInBounds_toArray, List.set_cons_zero, List.set_cons_succ]
  refine good_end0 0 (by kernel_rfl) (fun _ w26 hb => ?_)
  have HG := Lib.hid (below_call HG.out hb)
  clear hb
  have Hr1 := Lib.hid (CR.keep Hr1.out (Keep.call HG.out))
  have Hv2 := Lib.hid (CR.keep Hv2.out (Keep.call HG.out))
  have Xa0 := Lib.hid (Box.pcall HG.out Xa0.out)
  have Xb0 := Lib.hid (Box.pcall HG.out Xb0.out)
  have Xc0 := Lib.hid (Box.pcall HG.out Xc0.out)
  have Xd0 := Lib.hid (Box.pcall HG.out Xd0.out)
  have Xe0 := Lib.hid (Box.pcall HG.out Xe0.out)
  have Xf0 := Lib.hid (Box.pcall HG.out Xf0.out)
  have Xg0 := Lib.hid (Box.pcall HG.out Xg0.out)
  have Xh0 := Lib.hid (Box.pcall HG.out Xh0.out)
  have Xi0 := Lib.hid (Box.pcall HG.out Xi0.out)
  have HB := Lib.hid (below_call HB.out HG.out)
  have HS := Lib.hid (SE.of (E := []) HG.out)
  refine wpAnyH_done (by kernel_rfl) ?_ _
  clear HG HS Hok 
  obtain ⟨ca00, ca01, ca02, fa00, fa01, fa02⟩ := Xa0.out.c3
  have la0 := Xa0.out.lt
  obtain ⟨cb00, cb01, cb02, fb00, fb01, fb02⟩ := Xb0.out.c3
  have lb0 := Xb0.out.lt
  obtain ⟨cd00, cd01, cd02, fd00, fd01, fd02⟩ := Xd0.out.c3
  have ld0 := Xd0.out.lt
  obtain ⟨ce00, ce01, ce02, fe00, fe01, fe02⟩ := Xe0.out.c3
  have le0 := Xe0.out.lt
  obtain ⟨cf00, cf01, cf02, ff00, ff01, ff02⟩ := Xf0.out.c3
  have lf0 := Xf0.out.lt
  obtain ⟨cg00, cg01, cg02, fg00, fg01, fg02⟩ := Xg0.out.c3
  have lg0 := Xg0.out.lt
  obtain ⟨ch00, ch01, ch02, fh00, fh01, fh02⟩ := Xh0.out.c3
  have lh0 := Xh0.out.lt
  obtain ⟨ci00, ci01, ci02, fi00, fi01, fi02⟩ := Xi0.out.c3
  have li0 := Xi0.out.lt
  go_wp2_with fail
  clear ca00 ca01 ca02 fa00 fa01 fa02 la0 cb00 cb01 cb02 fb00 fb01 fb02 lb0 cd00 cd01 cd02 fd00 fd01 fd02 ld0 ce00 ce01 ce02 fe00 fe01 fe02 le0 cf00 cf01 cf02 ff00 ff01 ff02 lf0 cg00 cg01 cg02 fg00 fg01 fg02 lg0 ch00 ch01 ch02 fh00 fh01 fh02 lh0 ci00 ci01 ci02 fi00 fi01 fi02 li0
  (first | (have hcall := zcmp_ar m Hr1.out.ar Hv2.out.ar Hm.out (by decide) (by decide); refine Calls.mono hcall ?_; clear hcall) | refine Calls.mono (zcmp_ar m Hr1.out.ar Hv2.out.ar Hm.out (by decide) (by decide)) ?_)
  rintro e w27 ⟨v27, rfl, ⟨⟩, hb⟩
  have Xa0 := Lib.hid (Box.pcall hb Xa0.out)
  have Xb0 := Lib.hid (Box.pcall hb Xb0.out)
  have Xc0 := Lib.hid (Box.pcall hb Xc0.out)
  have Xd0 := Lib.hid (Box.pcall hb Xd0.out)
  have Xe0 := Lib.hid (Box.pcall hb Xe0.out)
  have Xf0 := Lib.hid (Box.pcall hb Xf0.out)
  have Xg0 := Lib.hid (Box.pcall hb Xg0.out)
  have Xh0 := Lib.hid (Box.pcall hb Xh0.out)
  have Xi0 := Lib.hid (Box.pcall hb Xi0.out)
  have HB := Lib.hid (below_call HB.out hb)
  clear hb
  obtain ⟨ca00, ca01, ca02, fa00, fa01, fa02⟩ := Xa0.out.c3
  have la0 := Xa0.out.lt
  obtain ⟨cb00, cb01, cb02, fb00, fb01, fb02⟩ := Xb0.out.c3
  have lb0 := Xb0.out.lt
  obtain ⟨cd00, cd01, cd02, fd00, fd01, fd02⟩ := Xd0.out.c3
  have ld0 := Xd0.out.lt
  obtain ⟨ce00, ce01, ce02, fe00, fe01, fe02⟩ := Xe0.out.c3
  have le0 := Xe0.out.lt
  obtain ⟨cf00, cf01, cf02, ff00, ff01, ff02⟩ := Xf0.out.c3
  have lf0 := Xf0.out.lt
  obtain ⟨cg00, cg01, cg02, fg00, fg01, fg02⟩ := Xg0.out.c3
  have lg0 := Xg0.out.lt
  obtain ⟨ch00, ch01, ch02, fh00, fh01, fh02⟩ := Xh0.out.c3
  have lh0 := Xh0.out.lt
  obtain ⟨ci00, ci01, ci02, fi00, fi01, fi02⟩ := Xi0.out.c3
  have li0 := Xi0.out.lt
  go_wp2
  clear ca00 ca01 ca02 fa00 fa01 fa02 la0 cb00 cb01 cb02 fb00 fb01 fb02 lb0 cd00 cd01 cd02 fd00 fd01 fd02 ld0 ce00 ce01 ce02 fe00 fe01 fe02 le0 cf00 cf01 cf02 ff00 ff01 ff02 lf0 cg00 cg01 cg02 fg00 fg01 fg02 lg0 ch00 ch01 ch02 fh00 fh01 fh02 lh0 ci00 ci01 ci02 fi00 fi01 fi02 li0
  go_ret
  exact ⟨_, rfl, rfl, HB.out⟩


set_option maxRecDepth 100000 in
set_option maxHeartbeats 4000000 in
theorem lbou_y1 {x y : Int} {qa : Rat} {ba : Bool} {sa ta : Option Addr} {na ca ma ea : Nat} {qb : Rat} {bb : Bool} {sb tb : Option Addr} {nb cb mb eb : Nat}  {w : World} (x0 : 0 ≤ x) (x1 : x < 256) (y0 : 0 ≤ y) (y1 : y < 256) (hu : unst qa qb = true) (j : Int) (hj : slopeQ qa qb = j) (k : Int) (hk : cmpQ (((y % 9 : Int) : Rat) / ((8 : Int) : Rat) * (btw qa qb (x % 17) 16)) (relu (btw qa qb (x % 17) 16)) = k) (hk0 : decide (0 < k) = false) (m : Int) (hm : cmpQ (relu (btw qa qb (x % 17) 16)) (upQ qa qb * (btw qa qb (x % 17) 16) + gapQ qa qb) = m) (hm0 : decide (0 < m) = false) (hm1 : (m == 0) = true) (d1 : (x % 17 == 0) = false) (d2 : (x % 17 == 16) = true) (hB8 : ([⟨ba, sa, na, ca, ta, ma, ea⟩, ⟨bb, sb, nb, cb, tb, mb, eb⟩] : List Rw).any Rw.big = false) (ha : AR qa 8 w (.agg #[.bool ba, .slice sa na ca, .slice ta ma ea])) (hb : AR qb 8 w (.agg #[.bool bb, .slice sb nb cb, .slice tb mb eb])) :
    Calls Try.prog 5 #[.agg #[.bool ba, .slice sa na ca, .slice ta ma ea], .agg #[.bool bb, .slice sb nb cb, .slice tb mb eb], .int .u8 x, .int .u8 y] w (Ret w (Val (.bool true))) := by
  have Ha := Lib.hid ha
  have Hb := Lib.hid hb
  have HB8 := Lib.hid hB8
  have Hu := Lib.hid hu
  have Hj := Lib.hid hj
  have Hk := Lib.hid hk
  have Hm := Lib.hid hm
  clear ha hb hB8 hu hj hk hm
  go_enter Try.func5, Try.ntmps5
  have HB := Lib.hid (Below.refl w.heap.size w)
  go_wp2_with fail
  obtain ⟨W1, hW⟩ : ∃ W1, W1 = (World.alloc (World.alloc w (.cells #[.bool ba, .slice sa na ca, .slice ta ma ea] 25)) (.cells #[.bool bb, .slice sb nb cb, .slice tb mb eb] 25)) := ⟨_, rfl⟩
  rw [← hW]
  obtain ⟨xa0, xb0, hk, hb⟩ := boxes_2 _ _ _ _ _ hW
  clear hW
  have Ha := Lib.hid (AR.keep Ha.out hk)
  have Hb := Lib.hid (AR.keep Hb.out hk)
  have Ga0 := Lib.hid (show w.heap.size ≤ w.heap.size from Nat.le_trans HB.out.size (by omega))
  have Gb0 := Lib.hid (show w.heap.size ≤ w.heap.size + 1 from Nat.le_trans HB.out.size (by omega))
  have Xa0 := Lib.hid xa0
  have Xb0 := Lib.hid xb0
  have HB := Lib.hid (below_call HB.out hb)
  clear hk hb xa0 xb0
  refine Calls.mono (awake25) ?_
  rintro e w2 ⟨v2, rfl, rfl, hb⟩
  have Ha := Lib.hid (AR.keep Ha.out (Keep.call hb))
  have Hb := Lib.hid (AR.keep Hb.out (Keep.call hb))
  have Xa0 := Lib.hid (Box.pcall hb Xa0.out)
  have Xb0 := Lib.hid (Box.pcall hb Xb0.out)
  have HB := Lib.hid (below_call HB.out hb)
  clear hb
  obtain ⟨ca00, ca01, ca02, fa00, fa01, fa02⟩ := Xa0.out.c3
  have la0 := Xa0.out.lt
  obtain ⟨cb00, cb01, cb02, fb00, fb01, fb02⟩ := Xb0.out.c3
  have lb0 := Xb0.out.lt
  go_wp2_with fail
  clear ca00 ca01 ca02 fa00 fa01 fa02 la0 cb00 cb01 cb02 fb00 fb01 fb02 lb0
  obtain ⟨W3, hW⟩ : ∃ W3, W3 = (World.alloc w2 (.cells #[.bool ba, .slice sa na ca, .slice ta ma ea, .bool bb, .slice sb nb cb, .slice tb mb eb] 25)) := ⟨_, rfl⟩
  rw [← hW]
  obtain ⟨xc0, hk, hb⟩ := boxes_1 _ _ _ hW
  clear hW
  have Ha := Lib.hid (AR.keep Ha.out hk)
  have Hb := Lib.hid (AR.keep Hb.out hk)
  have Na0c0 := Lib.hid (show w.heap.size ≠ w2.heap.size from Nat.ne_of_lt (Nat.lt_of_lt_of_le Xa0.out.lt (by omega)))
  have Nb0c0 := Lib.hid (show w.heap.size + 1 ≠ w2.heap.size from Nat.ne_of_lt (Nat.lt_of_lt_of_le Xb0.out.lt (by omega)))
  have Gc0 := Lib.hid (show w.heap.size ≤ w2.heap.size from Nat.le_trans HB.out.size (by omega))
  have Xa0 := Lib.hid (Box.pcall hb Xa0.out)
  have Xb0 := Lib.hid (Box.pcall hb Xb0.out)
  have Xc0 := Lib.hid xc0
  have HB := Lib.hid (below_call HB.out hb)
  clear hk hb xc0
  refine Calls.mono (large2 Xc0.out HB8.out) ?_
  rintro e w4 ⟨v4, rfl, rfl, hb⟩
  have Ha := Lib.hid (AR.keep Ha.out (Keep.call hb))
  have Hb := Lib.hid (AR.keep Hb.out (Keep.call hb))
  have Xa0 := Lib.hid (Box.pcall hb Xa0.out)
  have Xb0 := Lib.hid (Box.pcall hb Xb0.out)
  have Xc0 := Lib.hid (Box.pcall hb Xc0.out)
  have HB := Lib.hid (below_call HB.out hb)
  clear hb
  obtain ⟨ca00, ca01, ca02, fa00, fa01, fa02⟩ := Xa0.out.c3
  have la0 := Xa0.out.lt
  obtain ⟨cb00, cb01, cb02, fb00, fb01, fb02⟩ := Xb0.out.c3
  have lb0 := Xb0.out.lt
  go_wp2_with fail
  clear ca00 ca01 ca02 fa00 fa01 fa02 la0 cb00 cb01 cb02 fb00 fb01 fb02 lb0
  (first | (have hcall := zluns_ar Hu.out Ha.out Hb.out (by decide); refine Calls.mono hcall ?_; clear hcall) | refine Calls.mono (zluns_ar Hu.out Ha.out Hb.out (by decide)) ?_)
  rintro e w5 ⟨v5, rfl, rfl, hb⟩
  have Ha := Lib.hid (AR.keep Ha.out (Keep.call hb))
  have Hb := Lib.hid (AR.keep Hb.out (Keep.call hb))
  have Xa0 := Lib.hid (Box.pcall hb Xa0.out)
  have Xb0 := Lib.hid (Box.pcall hb Xb0.out)
  have Xc0 := Lib.hid (Box.pcall hb Xc0.out)
  have HB := Lib.hid (below_call HB.out hb)
  clear hb
  obtain ⟨ca00, ca01, ca02, fa00, fa01, fa02⟩ := Xa0.out.c3
  have la0 := Xa0.out.lt
  obtain ⟨cb00, cb01, cb02, fb00, fb01, fb02⟩ := Xb0.out.c3
  have lb0 := Xb0.out.lt
  go_wp2_with fail
  clear ca00 ca01 ca02 fa00 fa01 fa02 la0 cb00 cb01 cb02 fb00 fb01 fb02 lb0
  (first | (have hcall := rllin_k j Hj.out Hu.out Ha.out Hb.out (by decide); refine Calls.mono hcall ?_; clear hcall) | refine Calls.mono (rllin_k j Hj.out Hu.out Ha.out Hb.out (by decide)) ?_)
  rintro e w6 ⟨t6, rfl, ⟨v6, u6, rfl, hu1, hg1⟩, hb⟩
  obtain ⟨u1_b, u1_a, u1_n, u1_c, u1_d, u1_m, u1_e, rfl⟩ := hu1.litb
  obtain ⟨g1_b, g1_a, g1_n, g1_c, g1_d, g1_m, g1_e, rfl⟩ := hg1.litb
  have Ha := Lib.hid (AR.keep Ha.out (Keep.call hb))
  have Hb := Lib.hid (AR.keep Hb.out (Keep.call hb))
  have Xa0 := Lib.hid (Box.pcall hb Xa0.out)
  have Xb0 := Lib.hid (Box.pcall hb Xb0.out)
  have Xc0 := Lib.hid (Box.pcall hb Xc0.out)
  have HB := Lib.hid (below_call HB.out hb)
  have Hu1 := Lib.hid hu1
  have Hg1 := Lib.hid hg1
  clear hb hu1 hg1
  obtain ⟨ca00, ca01, ca02, fa00, fa01, fa02⟩ := Xa0.out.c3
  have la0 := Xa0.out.lt
  obtain ⟨cb00, cb01, cb02, fb00, fb01, fb02⟩ := Xb0.out.c3
  have lb0 := Xb0.out.lt
  go_wp2_with fail
  clear ca00 ca01 ca02 fa00 fa01 fa02 la0 cb00 cb01 cb02 fb00 fb01 fb02 lb0
  obtain ⟨W7, hW⟩ : ∃ W7, W7 = (World.alloc (World.alloc w6 (.cells #[.bool u1_b, .slice u1_a u1_n u1_c, .slice u1_d u1_m u1_e] 25)) (.cells #[.bool g1_b, .slice g1_a g1_n g1_c, .slice g1_d g1_m g1_e] 25)) := ⟨_, rfl⟩
  rw [← hW]
  obtain ⟨xd0, xe0, hk, hb⟩ := boxes_2 _ _ _ _ _ hW
  clear hW
  have Ha := Lib.hid (AR.keep Ha.out hk)
  have Hb := Lib.hid (AR.keep Hb.out hk)
  have Hu1 := Lib.hid (CR.keep Hu1.out hk)
  have Hg1 := Lib.hid (CR.keep Hg1.out hk)
  have Na0d0 := Lib.hid (show w.heap.size ≠ w6.heap.size from Nat.ne_of_lt (Nat.lt_of_lt_of_le Xa0.out.lt (by omega)))
  have Nb0d0 := Lib.hid (show w.heap.size + 1 ≠ w6.heap.size from Nat.ne_of_lt (Nat.lt_of_lt_of_le Xb0.out.lt (by omega)))
  have Nc0d0 := Lib.hid (show w2.heap.size ≠ w6.heap.size from Nat.ne_of_lt (Nat.lt_of_lt_of_le Xc0.out.lt (by omega)))
  have Gd0 := Lib.hid (show w.heap.size ≤ w6.heap.size from Nat.le_trans HB.out.size (by omega))
  have Na0e0 := Lib.hid (show w.heap.size ≠ w6.heap.size + 1 from Nat.ne_of_lt (Nat.lt_of_lt_of_le Xa0.out.lt (by omega)))
  have Nb0e0 := Lib.hid (show w.heap.size + 1 ≠ w6.heap.size + 1 from Nat.ne_of_lt (Nat.lt_of_lt_of_le Xb0.out.lt (by omega)))
  have Nc0e0 := Lib.hid (show w2.heap.size ≠ w6.heap.size + 1 from Nat.ne_of_lt (Nat.lt_of_lt_of_le Xc0.out.lt (by omega)))
  have Ge0 := Lib.hid (show w.heap.size ≤ w6.heap.size + 1 from Nat.le_trans HB.out.size (by omega))
  have Xa0 := Lib.hid (Box.pcall hb Xa0.out)
  have Xb0 := Lib.hid (Box.pcall hb Xb0.out)
  have Xc0 := Lib.hid (Box.pcall hb Xc0.out)
  have Xd0 := Lib.hid xd0
  have Xe0 := Lib.hid xe0
  have HB := Lib.hid (below_call HB.out hb)
  clear hk hb xd0 xe0
  (first | (have hcall := btw_ar (x % 17) 16 (by omega) (by omega) (by decide) (by decide) (by decide) Ha.out Hb.out (by decide); refine Calls.mono hcall ?_; clear hcall) | refine Calls.mono (btw_ar (x % 17) 16 (by omega) (by omega) (by decide) (by decide) (by decide) Ha.out Hb.out (by decide)) ?_)
  rintro e w8 ⟨v8, rfl, hp1, hb⟩
  obtain ⟨p1_b, p1_a, p1_n, p1_c, p1_d, p1_m, p1_e, rfl⟩ := hp1.litb
  have Hu1 := Lib.hid (CR.keep Hu1.out (Keep.call hb))
  have Hg1 := Lib.hid (CR.keep Hg1.out (Keep.call hb))
  have Xa0 := Lib.hid (Box.pcall hb Xa0.out)
  have Xb0 := Lib.hid (Box.pcall hb Xb0.out)
  have Xc0 := Lib.hid (Box.pcall hb Xc0.out)
  have Xd0 := Lib.hid (Box.pcall hb Xd0.out)
  have Xe0 := Lib.hid (Box.pcall hb Xe0.out)
  have HB := Lib.hid (below_call HB.out hb)
  have Hp1 := Lib.hid hp1
  clear hb hp1
  obtain ⟨ca00, ca01, ca02, fa00, fa01, fa02⟩ := Xa0.out.c3
  have la0 := Xa0.out.lt
  obtain ⟨cb00, cb01, cb02, fb00, fb01, fb02⟩ := Xb0.out.c3
  have lb0 := Xb0.out.lt
  obtain ⟨cd00, cd01, cd02, fd00, fd01, fd02⟩ := Xd0.out.c3
  have ld0 := Xd0.out.lt
  obtain ⟨ce00, ce01, ce02, fe00, fe01, fe02⟩ := Xe0.out.c3
  have le0 := Xe0.out.lt
  go_wp2_with fail
  clear ca00 ca01 ca02 fa00 fa01 fa02 la0 cb00 cb01 cb02 fb00 fb01 fb02 lb0 cd00 cd01 cd02 fd00 fd01 fd02 ld0 ce00 ce01 ce02 fe00 fe01 fe02 le0
  obtain ⟨W9, hW⟩ : ∃ W9, W9 = (World.alloc w8 (.cells #[.bool p1_b, .slice p1_a p1_n p1_c, .slice p1_d p1_m p1_e] 25)) := ⟨_, rfl⟩
  rw [← hW]
  obtain ⟨xf0, hk, hb⟩ := boxes_1 _ _ _ hW
  clear hW
  have Hu1 := Lib.hid (CR.keep Hu1.out hk)
  have Hg1 := Lib.hid (CR.keep Hg1.out hk)
  have Hp1 := Lib.hid (CR.keep Hp1.out hk)
  have Na0f0 := Lib.hid (show w.heap.size ≠ w8.heap.size from Nat.ne_of_lt (Nat.lt_of_lt_of_le Xa0.out.lt (by omega)))
  have Nb0f0 := Lib.hid (show w.heap.size + 1 ≠ w8.heap.size from Nat.ne_of_lt (Nat.lt_of_lt_of_le Xb0.out.lt (by omega)))
  have Nc0f0 := Lib.hid (show w2.heap.size ≠ w8.heap.size from Nat.ne_of_lt (Nat.lt_of_lt_of_le Xc0.out.lt (by omega)))
  have Nd0f0 := Lib.hid (show w6.heap.size ≠ w8.heap.size from Nat.ne_of_lt (Nat.lt_of_lt_of_le Xd0.out.lt (by omega)))
  have Ne0f0 := Lib.hid (show w6.heap.size + 1 ≠ w8.heap.size from Nat.ne_of_lt (Nat.lt_of_lt_of_le Xe0.out.lt (by omega)))
  have Gf0 := Lib.hid (show w.heap.size ≤ w8.heap.size from Nat.le_trans HB.out.size (by omega))
  have Xa0 := Lib.hid (Box.pcall hb Xa0.out)
  have Xb0 := Lib.hid (Box.pcall hb Xb0.out)
  have Xc0 := Lib.hid (Box.pcall hb Xc0.out)
  have Xd0 := Lib.hid (Box.pcall hb Xd0.out)
  have Xe0 := Lib.hid (Box.pcall hb Xe0.out)
  have Xf0 := Lib.hid xf0
  have HB := Lib.hid (below_call HB.out hb)
  clear hk hb xf0
  (first | (have hcall := rect_ar Hp1.out.ar (by decide); refine Calls.mono hcall ?_; clear hcall) | refine Calls.mono (rect_ar Hp1.out.ar (by decide)) ?_)
  rintro e w10 ⟨v10, rfl, hr1, hb⟩
  obtain ⟨r1_b, r1_a, r1_n, r1_c, r1_d, r1_m, r1_e, rfl⟩ := hr1.litb
  have Hu1 := Lib.hid (CR.keep Hu1.out (Keep.call hb))
  have Hg1 := Lib.hid (CR.keep Hg1.out (Keep.call hb))
  have Hp1 := Lib.hid (CR.keep Hp1.out (Keep.call hb))
  have Xa0 := Lib.hid (Box.pcall hb Xa0.out)
  have Xb0 := Lib.hid (Box.pcall hb Xb0.out)
  have Xc0 := Lib.hid (Box.pcall hb Xc0.out)
  have Xd0 := Lib.hid (Box.pcall hb Xd0.out)
  have Xe0 := Lib.hid (Box.pcall hb Xe0.out)
  have Xf0 := Lib.hid (Box.pcall hb Xf0.out)
  have HB := Lib.hid (below_call HB.out hb)
  have Hr1 := Lib.hid hr1
  clear hb hr1
  obtain ⟨ca00, ca01, ca02, fa00, fa01, fa02⟩ := Xa0.out.c3
  have la0 := Xa0.out.lt
  obtain ⟨cb00, cb01, cb02, fb00, fb01, fb02⟩ := Xb0.out.c3
  have lb0 := Xb0.out.lt
  obtain ⟨cd00, cd01, cd02, fd00, fd01, fd02⟩ := Xd0.out.c3
  have ld0 := Xd0.out.lt
  obtain ⟨ce00, ce01, ce02, fe00, fe01, fe02⟩ := Xe0.out.c3
  have le0 := Xe0.out.lt
  obtain ⟨cf00, cf01, cf02, ff00, ff01, ff02⟩ := Xf0.out.c3
  have lf0 := Xf0.out.lt
  go_wp2_with fail
  clear ca00 ca01 ca02 fa00 fa01 fa02 la0 cb00 cb01 cb02 fb00 fb01 fb02 lb0 cd00 cd01 cd02 fd00 fd01 fd02 ld0 ce00 ce01 ce02 fe00 fe01 fe02 le0 cf00 cf01 cf02 ff00 ff01 ff02 lf0
  obtain ⟨W11, hW⟩ : ∃ W11, W11 = (World.alloc w10 (.cells #[.bool r1_b, .slice r1_a r1_n r1_c, .slice r1_d r1_m r1_e] 25)) := ⟨_, rfl⟩
  rw [← hW]
  obtain ⟨xg0, hk, hb⟩ := boxes_1 _ _ _ hW
  clear hW
  have Hu1 := Lib.hid (CR.keep Hu1.out hk)
  have Hg1 := Lib.hid (CR.keep Hg1.out hk)
  have Hp1 := Lib.hid (CR.keep Hp1.out hk)
  have Hr1 := Lib.hid (CR.keep Hr1.out hk)
  have Na0g0 := Lib.hid (show w.heap.size ≠ w10.heap.size from Nat.ne_of_lt (Nat.lt_of_lt_of_le Xa0.out.lt (by omega)))
  have Nb0g0 := Lib.hid (show w.heap.size + 1 ≠ w10.heap.size from Nat.ne_of_lt (Nat.lt_of_lt_of_le Xb0.out.lt (by omega)))
  have Nc0g0 := Lib.hid (show w2.heap.size ≠ w10.heap.size from Nat.ne_of_lt (Nat.lt_of_lt_of_le Xc0.out.lt (by omega)))
  have Nd0g0 := Lib.hid (show w6.heap.size ≠ w10.heap.size from Nat.ne_of_lt (Nat.lt_of_lt_of_le Xd0.out.lt (by omega)))
  have Ne0g0 := Lib.hid (show w6.heap.size + 1 ≠ w10.heap.size from Nat.ne_of_lt (Nat.lt_of_lt_of_le Xe0.out.lt (by omega)))
  have Nf0g0 := Lib.hid (show w8.heap.size ≠ w10.heap.size from Nat.ne_of_lt (Nat.lt_of_lt_of_le Xf0.out.lt (by omega)))
  have Gg0 := Lib.hid (show w.heap.size ≤ w10.heap.size from Nat.le_trans HB.out.size (by omega))
  have Xa0 := Lib.hid (Box.pcall hb Xa0.out)
  have Xb0 := Lib.hid (Box.pcall hb Xb0.out)
  have Xc0 := Lib.hid (Box.pcall hb Xc0.out)
  have Xd0 := Lib.hid (Box.pcall hb Xd0.out)
  have Xe0 := Lib.hid (Box.pcall hb Xe0.out)
  have Xf0 := Lib.hid (Box.pcall hb Xf0.out)
  have Xg0 := Lib.hid xg0
  have HB := Lib.hid (below_call HB.out hb)
  clear hk hb xg0
  refine Calls.mono (zfrac_1 (x := y % 9) (y := 8) (by omega) (by omega) (by decide) (by decide) (by decide)) ?_
  rintro e w12 ⟨t12, rfl, ⟨v12, rfl, hf1⟩, hb⟩
  obtain ⟨f1_b, f1_a, f1_n, f1_c, f1_d, f1_m, f1_e, rfl⟩ := hf1.litb
  have Hu1 := Lib.hid (CR.keep Hu1.out (Keep.call hb))
  have Hg1 := Lib.hid (CR.keep Hg1.out (Keep.call hb))
  have Hp1 := Lib.hid (CR.keep Hp1.out (Keep.call hb))
  have Hr1 := Lib.hid (CR.keep Hr1.out (Keep.call hb))
  have Xa0 := Lib.hid (Box.pcall hb Xa0.out)
  have Xb0 := Lib.hid (Box.pcall hb Xb0.out)
  have Xc0 := Lib.hid (Box.pcall hb Xc0.out)
  have Xd0 := Lib.hid (Box.pcall hb Xd0.out)
  have Xe0 := Lib.hid (Box.pcall hb Xe0.out)
  have Xf0 := Lib.hid (Box.pcall hb Xf0.out)
  have Xg0 := Lib.hid (Box.pcall hb Xg0.out)
  have HB := Lib.hid (below_call HB.out hb)
  have Hf1 := Lib.hid hf1
  clear hb hf1
  obtain ⟨ca00, ca01, ca02, fa00, fa01, fa02⟩ := Xa0.out.c3
  have la0 := Xa0.out.lt
  obtain ⟨cb00, cb01, cb02, fb00, fb01, fb02⟩ := Xb0.out.c3
  have lb0 := Xb0.out.lt
  obtain ⟨cd00, cd01, cd02, fd00, fd01, fd02⟩ := Xd0.out.c3
  have ld0 := Xd0.out.lt
  obtain ⟨ce00, ce01, ce02, fe00, fe01, fe02⟩ := Xe0.out.c3
  have le0 := Xe0.out.lt
  obtain ⟨cf00, cf01, cf02, ff00, ff01, ff02⟩ := Xf0.out.c3
  have lf0 := Xf0.out.lt
  obtain ⟨cg00, cg01, cg02, fg00, fg01, fg02⟩ := Xg0.out.c3
  have lg0 := Xg0.out.lt
  go_wp2_with fail
  clear ca00 ca01 ca02 fa00 fa01 fa02 la0 cb00 cb01 cb02 fb00 fb01 fb02 lb0 cd00 cd01 cd02 fd00 fd01 fd02 ld0 ce00 ce01 ce02 fe00 fe01 fe02 le0 cf00 cf01 cf02 ff00 ff01 ff02 lf0 cg00 cg01 cg02 fg00 fg01 fg02 lg0
  obtain ⟨W13, hW⟩ : ∃ W13, W13 = (World.alloc w12 (.cells #[.bool f1_b, .slice f1_a f1_n f1_c, .slice f1_d f1_m f1_e] 25)) := ⟨_, rfl⟩
  rw [← hW]
  obtain ⟨xh0, hk, hb⟩ := boxes_1 _ _ _ hW
  clear hW
  have Hu1 := Lib.hid (CR.keep Hu1.out hk)
  have Hg1 := Lib.hid (CR.keep Hg1.out hk)
  have Hp1 := Lib.hid (CR.keep Hp1.out hk)
  have Hr1 := Lib.hid (CR.keep Hr1.out hk)
  have Hf1 := Lib.hid (CR.keep Hf1.out hk)
  have Na0h0 := Lib.hid (show w.heap.size ≠ w12.heap.size from Nat.ne_of_lt (Nat.lt_of_lt_of_le Xa0.out.lt (by omega)))
  have Nb0h0 := Lib.hid (show w.heap.size + 1 ≠ w12.heap.size from Nat.ne_of_lt (Nat.lt_of_lt_of_le Xb0.out.lt (by omega)))
  have Nc0h0 := Lib.hid (show w2.heap.size ≠ w12.heap.size from Nat.ne_of_lt (Nat.lt_of_lt_of_le Xc0.out.lt (by omega)))
  have Nd0h0 := Lib.hid (show w6.heap.size ≠ w12.heap.size from Nat.ne_of_lt (Nat.lt_of_lt_of_le Xd0.out.lt (by omega)))
  have Ne0h0 := Lib.hid (show w6.heap.size + 1 ≠ w12.heap.size from Nat.ne_of_lt (Nat.lt_of_lt_of_le Xe0.out.lt (by omega)))
  have Nf0h0 := Lib.hid (show w8.heap.size ≠ w12.heap.size from Nat.ne_of_lt (Nat.lt_of_lt_of_le Xf0.out.lt (by omega)))
  have Ng0h0 := Lib.hid (show w10.heap.size ≠ w12.heap.size from Nat.ne_of_lt (Nat.lt_of_lt_of_le Xg0.out.lt (by omega)))
  have Gh0 := Lib.hid (show w.heap.size ≤ w12.heap.size from Nat.le_trans HB.out.size (by omega))
  have Xa0 := Lib.hid (Box.pcall hb Xa0.out)
  have Xb0 := Lib.hid (Box.pcall hb Xb0.out)
  have Xc0 := Lib.hid (Box.pcall hb Xc0.out)
  have Xd0 := Lib.hid (Box.pcall hb Xd0.out)
  have Xe0 := Lib.hid (Box.pcall hb Xe0.out)
  have Xf0 := Lib.hid (Box.pcall hb Xf0.out)
  have Xg0 := Lib.hid (Box.pcall hb Xg0.out)
  have Xh0 := Lib.hid xh0
  have HB := Lib.hid (below_call HB.out hb)
  clear hk hb xh0
  have Hu1 := Lib.hid (CR.keep Hu1.out (Keep.drew W13))
  have Hg1 := Lib.hid (CR.keep Hg1.out (Keep.drew W13))
  have Hp1 := Lib.hid (CR.keep Hp1.out (Keep.drew W13))
  have Hr1 := Lib.hid (CR.keep Hr1.out (Keep.drew W13))
  have Hf1 := Lib.hid (CR.keep Hf1.out (Keep.drew W13))
  have Xa0 := Lib.hid (Box.drew Xa0.out)
  have Xb0 := Lib.hid (Box.drew Xb0.out)
  have Xc0 := Lib.hid (Box.drew Xc0.out)
  have Xd0 := Lib.hid (Box.drew Xd0.out)
  have Xe0 := Lib.hid (Box.drew Xe0.out)
  have Xf0 := Lib.hid (Box.drew Xf0.out)
  have Xg0 := Lib.hid (Box.drew Xg0.out)
  have Xh0 := Lib.hid (Box.drew Xh0.out)
  have HB := Lib.hid (Below.drew HB.out)
  refine wp_region_float [] [⟨5, 17, 25, #[.bool false, .slice none 0 0, .slice none 0 0]⟩] (by kernel_rfl) (by kernel_rfl) 89 (by kernel_rfl) (Flok.one (by kernel_rfl) (by kernel_rfl) (by kernel_rfl) (by intro w; go_simp)) ?_
  intro ok
  have Hok := Lib.hid ok
  clear ok
  have HG := Lib.hid (Below.refl (W13.drew).heap.size (W13.drew))
  refine good_pureX 0 (some 54) (Go.Op.load 25 (Go.Operand.tmp 10)) (none) (.agg #[.bool u1_b, .slice u1_a u1_n u1_c, .slice u1_d u1_m u1_e]) (by kernel_rfl) (by kernel_rfl) (by kernel_rfl) (fun _ _ _ h => h) (fun w' hw' => ?_) ?_
  · obtain ⟨cd00, cd01, cd02, fd00, fd01, fd02⟩ := (Box.se hw' Xd0.out notin0).c3
    first | (go_simp; done) | (go_simp; simp_all; done) | (go_simp; rfl)
  simp only [Act.put, List.setIfInBounds_toArray, List.set_cons_zero, List.set_cons_succ]
  refine good_pureX 1 (some 55) (Go.Op.load 25 (Go.Operand.tmp 13)) (none) (.agg #[.bool p1_b, .slice p1_a p1_n p1_c, .slice p1_d p1_m p1_e]) (by kernel_rfl) (by kernel_rfl) (by kernel_rfl) (fun _ _ _ h => h) (fun w' hw' => ?_) ?_
  · obtain ⟨cf00, cf01, cf02, ff00, ff01, ff02⟩ := (Box.se hw' Xf0.out notin0).c3
    first | (go_simp; done) | (go_simp; simp_all; done) | (go_simp; rfl)
  simp only [Act.put, List.setIfInBounds_toArray, List.set_cons_zero, List.set_cons_succ]
  refine good_pureX 3 (some 57) (Go.Op.load 25 (Go.Operand.tmp 11)) (none) (.agg #[.bool g1_b, .slice g1_a g1_n g1_c, .slice g1_d g1_m g1_e]) (by kernel_rfl) (by kernel_rfl) (by kernel_rfl) (fun _ _ _ h => h) (fun w' hw' => ?_) ?_
  · obtain ⟨ce00, ce01, ce02, fe00, fe01, fe02⟩ := (Box.se hw' Xe0.out notin0).c3
    first | (go_simp; done) | (go_simp; simp_all; done) | (go_simp; rfl)
  simp only [Act.put, List.setIfInBounds_toArray, List.set_cons_zero, List.set_cons_succ]
  refine good_callX 2 29 (some 56) #[Go.Operand.tmp 54, Go.Operand.tmp 55] #[25, 25] (none) #[.agg #[.bool u1_b, .slice u1_a u1_n u1_c, .slice u1_d u1_m u1_e], .agg #[.bool p1_b, .slice p1_a p1_n p1_c, .slice p1_d p1_m p1_e]] (by kernel_rfl) Hok.out (by kernel_rfl) (by kernel_rfl) (by kernel_rfl) (by kernel_rfl) rfl rfl rfl (by kernel_rfl) (fun w14 hb => ?_)
  have HG := Lib.hid (below_call HG.out hb)
  clear hb
  (first | (have hcall := zmul_ar (CR.keep Hu1.out (Keep.call HG.out)).ar (CR.keep Hp1.out (Keep.call HG.out)).ar (by decide) (by decide); refine Calls.mono hcall ?_; clear hcall) | refine Calls.mono (zmul_ar (CR.keep Hu1.out (Keep.call HG.out)).ar (CR.keep Hp1.out (Keep.call HG.out)).ar (by decide) (by decide)) ?_)
  rintro e w15 ⟨v15, rfl, hv1, hb⟩
  obtain ⟨v1_b, v1_a, v1_n, v1_c, v1_d, v1_m, v1_e, rfl⟩ := hv1.litb
  refine ⟨_, rfl, ?_, hb⟩
  have HG := Lib.hid (below_call HG.out hb)
  have Hv1 := Lib.hid hv1
  clear hb hv1
  simp only [Act.put, List.setIfInBounds_toArray, List.set_cons_zero, List.set_cons_succ]
  refine good_callX 4 28 (some 58) #[Go.Operand.tmp 56, Go.Operand.tmp 57] #[25, 25] (none) #[.agg #[.bool v1_b, .slice v1_a v1_n v1_c, .slice v1_d v1_m v1_e], .agg #[.bool g1_b, .slice g1_a g1_n g1_c, .slice g1_d g1_m g1_e]] (by kernel_rfl) Hok.out (by kernel_rfl) (by kernel_rfl) (by kernel_rfl) (by kernel_rfl) rfl rfl rfl (by kernel_rfl) (fun w16 hb => ?_)
  have Hv1 := Lib.hid (CR.keep Hv1.out (Keep.call hb))
  have HG := Lib.hid (below_call HG.out hb)
  clear hb
  (first | (have hcall := zadd_ar Hv1.out.ar (CR.keep Hg1.out (Keep.call HG.out)).ar (by decide) (by decide); refine Calls.mono hcall ?_; clear hcall) | refine Calls.mono (zadd_ar Hv1.out.ar (CR.keep Hg1.out (Keep.call HG.out)).ar (by decide) (by decide)) ?_)
  rintro e w17 ⟨v17, rfl, hv2, hb⟩
  obtain ⟨v2_b, v2_a, v2_n, v2_c, v2_d, v2_m, v2_e, rfl⟩ := hv2.litb
  refine ⟨_, rfl, ?_, hb⟩
  have HG := Lib.hid (below_call HG.out hb)
  have Hv2 := Lib.hid hv2
  clear hb hv2
  simp only [Act.put, List.setIfInBounds_toArray, List.set_cons_zero, List.set_cons_succ]
  refine good_end1 1 Hok.out (by kernel_rfl) (by kernel_rfl) (by kernel_rfl) (fun _ gi0 w18 hb ei0 xi0 => ?_)
  have Hv2 := Lib.hid (CR.keep Hv2.out (Keep.call hb))
  have HG := Lib.hid (below_call HG.out hb)
  clear hb
  have Na0i0 := Lib.hid (show w.heap.size ≠ gi0 from Nat.ne_of_lt (Nat.lt_of_lt_of_le Xa0.out.lt ei0))
  have Nb0i0 := Lib.hid (show w.heap.size + 1 ≠ gi0 from Nat.ne_of_lt (Nat.lt_of_lt_of_le Xb0.out.lt ei0))
  have Nc0i0 := Lib.hid (show w2.heap.size ≠ gi0 from Nat.ne_of_lt (Nat.lt_of_lt_of_le Xc0.out.lt ei0))
  have Nd0i0 := Lib.hid (show w6.heap.size ≠ gi0 from Nat.ne_of_lt (Nat.lt_of_lt_of_le Xd0.out.lt ei0))
  have Ne0i0 := Lib.hid (show w6.heap.size + 1 ≠ gi0 from Nat.ne_of_lt (Nat.lt_of_lt_of_le Xe0.out.lt ei0))
  have Nf0i0 := Lib.hid (show w8.heap.size ≠ gi0 from Nat.ne_of_lt (Nat.lt_of_lt_of_le Xf0.out.lt ei0))
  have Ng0i0 := Lib.hid (show w10.heap.size ≠ gi0 from Nat.ne_of_lt (Nat.lt_of_lt_of_le Xg0.out.lt ei0))
  have Nh0i0 := Lib.hid (show w12.heap.size ≠ gi0 from Nat.ne_of_lt (Nat.lt_of_lt_of_le Xh0.out.lt ei0))
  have Gi0 := Lib.hid (show w.heap.size ≤ gi0 from Nat.le_trans HB.out.size ei0)
  have Ei0 := Lib.hid ei0
  clear ei0
  have Hp1 := Lib.hid (CR.keep Hp1.out (Keep.call HG.out))
  have Hr1 := Lib.hid (CR.keep Hr1.out (Keep.call HG.out))
  have Hf1 := Lib.hid (CR.keep Hf1.out (Keep.call HG.out))
  have Xa0 := Lib.hid (Box.pcall HG.out Xa0.out)
  have Xb0 := Lib.hid (Box.pcall HG.out Xb0.out)
  have Xc0 := Lib.hid (Box.pcall HG.out Xc0.out)
  have Xd0 := Lib.hid (Box.pcall HG.out Xd0.out)
  have Xe0 := Lib.hid (Box.pcall HG.out Xe0.out)
  have Xf0 := Lib.hid (Box.pcall HG.out Xf0.out)
  have Xg0 := Lib.hid (Box.pcall HG.out Xg0.out)
  have Xh0 := Lib.hid (Box.pcall HG.out Xh0.out)
  have HB := Lib.hid (below_call HB.out HG.out)
  have HS := Lib.hid (SE.of (E := []) HG.out)
  have Xi0 := Lib.hid xi0
  clear xi0
  simp only [Act.put, List.setIfInBounds_toArray, List.set_cons_zero, List.set_cons_succ]
  refine held_oneX 6 (Go.Op.store 25 (Go.Operand.tmp 17) (Go.Operand.tmp 58)) (none) (World.setCell (World.setCell (World.setCell w18 ⟨gi0, 0, none⟩ (.bool v2_b)) ⟨gi0, 1, none⟩ (.slice v2_a v2_n v2_c)) ⟨gi0, 2, none⟩ (.slice v2_d v2_m v2_e)) (by kernel_rfl) (by kernel_rfl) (by kernel_rfl) (by kernel_rfl) ?_ (HS.out.store3 (.inr Ei0.out)) ?_
  · obtain ⟨ci00, ci01, ci02, fi00, fi01, fi02⟩ := Xi0.out.c3
    first | (go_simp; done) | (go_simp; simp_all; done) | (go_simp; rfl)
  obtain ⟨W19, hW⟩ : ∃ W19, W19 = (World.setCell (World.setCell (World.setCell w18 ⟨gi0, 0, none⟩ (.bool v2_b)) ⟨gi0, 1, none⟩ (.slice v2_a v2_n v2_c)) ⟨gi0, 2, none⟩ (.slice v2_d v2_m v2_e)) := ⟨_, rfl⟩
  rw [← hW]
  obtain ⟨xi0, hk, hf, hbb, hz⟩ := stored3s hW Xi0.out (by first | exact NoInt.bool _ | exact NoInt.slice _ _ _) (by first | exact NoInt.bool _ | exact NoInt.slice _ _ _) (by first | exact NoInt.bool _ | exact NoInt.slice _ _ _)
  have Hp1 := Lib.hid (CR.keep Hp1.out hk)
  have Hr1 := Lib.hid (CR.keep Hr1.out hk)
  have Hf1 := Lib.hid (CR.keep Hf1.out hk)
  have Hv2 := Lib.hid (CR.keep Hv2.out hk)
  have Xa0 := Lib.hid (hf _ _ _ Xa0.out Na0i0.out)
  have Xb0 := Lib.hid (hf _ _ _ Xb0.out Nb0i0.out)
  have Xc0 := Lib.hid (hf _ _ _ Xc0.out Nc0i0.out)
  have Xd0 := Lib.hid (hf _ _ _ Xd0.out Nd0i0.out)
  have Xe0 := Lib.hid (hf _ _ _ Xe0.out Ne0i0.out)
  have Xf0 := Lib.hid (hf _ _ _ Xf0.out Nf0i0.out)
  have Xg0 := Lib.hid (hf _ _ _ Xg0.out Ng0i0.out)
  have Xh0 := Lib.hid (hf _ _ _ Xh0.out Nh0i0.out)
  have Xi0 := Lib.hid xi0
  have HB := Lib.hid (hbb _ HB.out Gi0.out)
  have HS := Lib.hid (show SE (W13.drew) [] W19 from by rw [hW]; exact HS.out.store3 (.inr Ei0.out))
  clear hW hk hf hbb xi0
  clear hz
  refine wpAnyH_done (by kernel_rfl) ?_ _
  clear HG HS Hok Ei0
  obtain ⟨ca00, ca01, ca02, fa00, fa01, fa02⟩ := Xa0.out.c3
  have la0 := Xa0.out.lt
  obtain ⟨cb00, cb01, cb02, fb00, fb01, fb02⟩ := Xb0.out.c3
  have lb0 := Xb0.out.lt
  obtain ⟨cd00, cd01, cd02, fd00, fd01, fd02⟩ := Xd0.out.c3
  have ld0 := Xd0.out.lt
  obtain ⟨ce00, ce01, ce02, fe00, fe01, fe02⟩ := Xe0.out.c3
  have le0 := Xe0.out.lt
  obtain ⟨cf00, cf01, cf02, ff00, ff01, ff02⟩ := Xf0.out.c3
  have lf0 := Xf0.out.lt
  obtain ⟨cg00, cg01, cg02, fg00, fg01, fg02⟩ := Xg0.out.c3
  have lg0 := Xg0.out.lt
  obtain ⟨ch00, ch01, ch02, fh00, fh01, fh02⟩ := Xh0.out.c3
  have lh0 := Xh0.out.lt
  obtain ⟨ci00, ci01, ci02, fi00, fi01, fi02⟩ := Xi0.out.c3
  have li0 := Xi0.out.lt
  go_wp2_with fail
  clear ca00 ca01 ca02 fa00 fa01 fa02 la0 cb00 cb01 cb02 fb00 fb01 fb02 lb0 cd00 cd01 cd02 fd00 fd01 fd02 ld0 ce00 ce01 ce02 fe00 fe01 fe02 le0 cf00 cf01 cf02 ff00 ff01 ff02 lf0 cg00 cg01 cg02 fg00 fg01 fg02 lg0 ch00 ch01 ch02 fh00 fh01 fh02 lh0 ci00 ci01 ci02 fi00 fi01 fi02 li0
  have Hp1 := Lib.hid (CR.keep Hp1.out (Keep.drew W19))
  have Hr1 := Lib.hid (CR.keep Hr1.out (Keep.drew W19))
  have Hf1 := Lib.hid (CR.keep Hf1.out (Keep.drew W19))
  have Hv2 := Lib.hid (CR.keep Hv2.out (Keep.drew W19))
  have Xa0 := Lib.hid (Box.drew Xa0.out)
  have Xb0 := Lib.hid (Box.drew Xb0.out)
  have Xc0 := Lib.hid (Box.drew Xc0.out)
  have Xd0 := Lib.hid (Box.drew Xd0.out)
  have Xe0 := Lib.hid (Box.drew Xe0.out)
  have Xf0 := Lib.hid (Box.drew Xf0.out)
  have Xg0 := Lib.hid (Box.drew Xg0.out)
  have Xh0 := Lib.hid (Box.drew Xh0.out)
  have Xi0 := Lib.hid (Box.drew Xi0.out)
  have HB := Lib.hid (Below.drew HB.out)
  refine wp_region_float [] [] (by kernel_rfl) (by kernel_rfl) 89 (by kernel_rfl) Flok.nil ?_
  intro ok
  have Hok := Lib.hid ok
  clear ok
  have HG := Lib.hid (Below.refl (W19.drew).heap.size (W19.drew))
  refine good_pureX 0 (some 59) (Go.Op.move (Go.Operand.tmp 12)) (none) (.int .i64 0) (by kernel_rfl) (by kernel_rfl) (by kernel_rfl) (fun _ _ _ h => h) (fun w' hw' => ?_) ?_
  · first | (go_simp; done) | (go_simp; simp_all; done) | (go_simp; rfl)
  simp only [Act.put, List.setIfInBounds_toArray, List.set_cons_zero, List.set_cons_succ]
  refine good_pureX 1 (some 60) (Go.Op.binOp Go.BinOp.neq 28 (Go.Operand.tmp 59) (Go.Operand.const (Go.Value.int Go.IntKind.i64 0)) 28) (none) (.bool false) (by kernel_rfl) (by kernel_rfl) (by kernel_rfl) (fun _ _ _ h => h) (fun w' hw' => ?_) ?_
  · first | (go_simp; done) | (go_simp; simp_all; done) | (go_simp; rfl)
  simp only [Act.put, List.setIfInBounds_toArray, List.set_cons_zero, List.set_cons_succ]
  refine good_pureX 2 (some 61) (Go.Op.move (Go.Operand.tmp 60)) (none) (.bool false) (by kernel_rfl) (by kernel_rfl) (by kernel_rfl) (fun _ _ _ h => h) (fun w' hw' => ?_) ?_
  · first | (go_simp; done) | (go_simp; simp_all; done) | (go_simp; rfl)
  simp only [Act.put, List.setIfInBounds_toArray, List.set_cons_zero, List.set_cons_succ]
  refine good_pureX 3 (some 62) (Go.Op.load 25 (Go.Operand.tmp 15)) (some (2, false)) (.agg #[.bool f1_b, .slice f1_a f1_n f1_c, .slice f1_d f1_m f1_e]) (by kernel_rfl) (by kernel_rfl) (by kernel_rfl) (fun _ _ _ h => h) (fun w' hw' => ?_) ?_
  · obtain ⟨ch00, ch01, ch02, fh00, fh01, fh02⟩ := (Box.se hw' Xh0.out notin0).c3
    first | (go_simp; done) | (go_simp; simp_all; done) | (go_simp; rfl)
  simp only [Act.put, List.setIfInBounds_toArray, List.set_cons_zero, List.set_cons_succ]
  refine good_pureX 4 (some 63) (Go.Op.load 25 (Go.Operand.tmp 13)) (some (2, false)) (.agg #[.bool p1_b, .slice p1_a p1_n p1_c, .slice p1_d p1_m p1_e]) (by kernel_rfl) (by kernel_rfl) (by kernel_rfl) (fun _ _ _ h => h) (fun w' hw' => ?_) ?_
  · obtain ⟨cf00, cf01, cf02, ff00, ff01, ff02⟩ := (Box.se hw' Xf0.out notin0).c3
    first | (go_simp; done) | (go_simp; simp_all; done) | (go_simp; rfl)
  simp only [Act.put, List.setIfInBounds_toArray, List.set_cons_zero, List.set_cons_succ]
  refine good_pureX 6 (some 65) (Go.Op.load 25 (Go.Operand.tmp 14)) (some (2, false)) (.agg #[.bool r1_b, .slice r1_a r1_n r1_c, .slice r1_d r1_m r1_e]) (by kernel_rfl) (by kernel_rfl) (by kernel_rfl) (fun _ _ _ h => h) (fun w' hw' => ?_) ?_
  · obtain ⟨cg00, cg01, cg02, fg00, fg01, fg02⟩ := (Box.se hw' Xg0.out notin0).c3
    first | (go_simp; done) | (go_simp; simp_all; done) | (go_simp; rfl)
  simp only [Act.put, List.setIfInBounds_toArray, List.set_cons_zero, List.set_cons_succ]
  refine good_callX 5 29 (some 64) #[Go.Operand.tmp 62, Go.Operand.tmp 63] #[25, 25] (some (2, false)) #[.agg #[.bool f1_b, .slice f1_a f1_n f1_c, .slice f1_d f1_m f1_e], .agg #[.bool p1_b, .slice p1_a p1_n p1_c, .slice p1_d p1_m p1_e]] (by kernel_rfl) Hok.out (by kernel_rfl) (by kernel_rfl) (by kernel_rfl) (by kernel_rfl) rfl rfl rfl (by kernel_rfl) (fun w20 hb => ?_)
  have HG := Lib.hid (below_call HG.out hb)
  clear hb
  (first | (have hcall := zmul_ar (CR.keep Hf1.out (Keep.call HG.out)).ar (CR.keep Hp1.out (Keep.call HG.out)).ar (by decide) (by decide); refine Calls.mono hcall ?_; clear hcall) | refine Calls.mono (zmul_ar (CR.keep Hf1.out (Keep.call HG.out)).ar (CR.keep Hp1.out (Keep.call HG.out)).ar (by decide) (by decide)) ?_)
  rintro e w21 ⟨v21, rfl, hv3, hb⟩
  obtain ⟨v3_b, v3_a, v3_n, v3_c, v3_d, v3_m, v3_e, rfl⟩ := hv3.litb
  refine ⟨_, rfl, ?_, hb⟩
  have HG := Lib.hid (below_call HG.out hb)
  have Hv3 := Lib.hid hv3
  clear hb hv3
  simp only [Act.put, List.setIfInBounds_toArray, List.set_cons_zero, List.set_cons_succ]
  refine good_callX 7 24 (some 66) #[Go.Operand.tmp 64, Go.Operand.tmp 65] #[25, 25] (some (2, false)) #[.agg #[.bool v3_b, .slice v3_a v3_n v3_c, .slice v3_d v3_m v3_e], .agg #[.bool r1_b, .slice r1_a r1_n r1_c, .slice r1_d r1_m r1_e]] (by kernel_rfl) Hok.out (by kernel_rfl) (by kernel_rfl) (by kernel_rfl) (by kernel_rfl) rfl rfl rfl (by kernel_rfl) (fun w22 hb => ?_)
  have Hv3 := Lib.hid (CR.keep Hv3.out (Keep.call hb))
  have HG := Lib.hid (below_call HG.out hb)
  clear hb
  (first | (have hcall := zcmp_ar k Hv3.out.ar (CR.keep Hr1.out (Keep.call HG.out)).ar Hk.out (by decide) (by decide); refine Calls.mono hcall ?_; clear hcall) | refine Calls.mono (zcmp_ar k Hv3.out.ar (CR.keep Hr1.out (Keep.call HG.out)).ar Hk.out (by decide) (by decide)) ?_)
  rintro e w23 ⟨v23, rfl, ⟨⟩, hb⟩
  refine ⟨_, rfl, ?_, hb⟩
  have HG := Lib.hid (below_call HG.out hb)
  clear hb
  simp only [Act.put, List.setIfInBounds_toArray, List.set_cons_zero, List.set_cons_succ]
  refine good_pureX 8 (some 67) (Go.Op.binOp Go.BinOp.gtr 3 (Go.Operand.tmp 66) (Go.Operand.const (Go.Value.int Go.IntKind.i64 0)) 3) (some (2, false)) (.bool false) (by kernel_rfl) (by kernel_rfl) (by kernel_rfl) (fun _ _ _ h => h) (fun w' hw' => ?_) ?_
  · first | (go_simp; done) | (go_simp; simp_all; done) | (go_simp; rfl)
  simp only [Act.put, List.setIfInBounds_toArray, List.set_cons_zero, List.set_cons_succ]
  refine good_pureX 9 (some 68) (Go.Op.pick (Go.Operand.tmp 61) (Go.Operand.const (Go.Value.bool true)) (Go.Operand.tmp 67)) (none) (.bool false) (by kernel_rfl) (by kernel_rfl) (by kernel_rfl) (fun _ _ _ h => h) (fun w' hw' => ?_) ?_
  · first | (go_simp; done) | (go_simp; simp_all; done) | (go_simp; rfl)
  simp only [Act.put, List.setIfInBounds_toArray, List.set_cons_zero, List.set_cons_succ]
  refine good_pureX 10 (some 69) (Go.Op.move (Go.Operand.tmp 68)) (none) (.bool false) (by kernel_rfl) (by kernel_rfl) (by kernel_rfl) (fun _ _ _ h => h) (fun w' hw' => ?_) ?_
  · first | (go_simp; done) | (go_simp; simp_all; done) | (go_simp; rfl)
  simp only [Act.put, List.setIfInBounds_toArray, List.set_cons_zero, List.set_cons_succ]
  refine good_pureX 11 (some 70) (Go.Op.load 25 (Go.Operand.tmp 14)) (some (10, false)) (.agg #[.bool r1_b, .slice r1_a r1_n r1_c, .slice r1_d r1_m r1_e]) (by kernel_rfl) (by kernel_rfl) (by kernel_rfl) (fun _ _ _ h => h) (fun w' hw' => ?_) ?_
  · obtain ⟨cg00, cg01, cg02, fg00, fg01, fg02⟩ := (Box.se hw' Xg0.out notin0).c3
    first | (go_simp; done) | (go_simp; simp_all; done) | (go_simp; rfl)
  simp only [Act.put, List.setIfInBounds_toArray, List.set_cons_zero, List.set_cons_succ]
  refine good_pureX 12 (some 71) (Go.Op.load 25 (Go.Operand.tmp 17)) (some (10, false)) (.agg #[.bool v2_b, .slice v2_a v2_n v2_c, .slice v2_d v2_m v2_e]) (by kernel_rfl) (by kernel_rfl) (by kernel_rfl) (fun _ _ _ h => h) (fun w' hw' => ?_) ?_
  · obtain ⟨ci00, ci01, ci02, fi00, fi01, fi02⟩ := (Box.se hw' Xi0.out notin0).c3
    first | (go_simp; done) | (go_simp; simp_all; done) | (go_simp; rfl)
  simp only [Act.put, List.setIfInBounds_toArray, List.set_cons_zero, List.set_cons_succ]
  refine good_callX 13 24 (some 72) #[Go.Operand.tmp 70, Go.Operand.tmp 71] #[25, 25] (some (10, false)) #[.agg #[.bool r1_b, .slice r1_a r1_n r1_c, .slice r1_d r1_m r1_e], .agg #[.bool v2_b, .slice v2_a v2_n v2_c, .slice v2_d v2_m v2_e]] (by kernel_rfl) Hok.out (by kernel_rfl) (by kernel_rfl) (by kernel_rfl) (by kernel_rfl) rfl rfl rfl (by kernel_rfl) (fun w24 hb => ?_)
  have HG := Lib.hid (below_call HG.out hb)
  clear hb
  (first | (have hcall := zcmp_ar m (CR.keep Hr1.out (Keep.call HG.out)).ar (CR.keep Hv2.out (Keep.call HG.out)).ar Hm.out (by decide) (by decide); refine Calls.mono hcall ?_; clear hcall) | refine Calls.mono (zcmp_ar m (CR.keep Hr1.out (Keep.call HG.out)).ar (CR.keep Hv2.out (Keep.call HG.out)).ar Hm.out (by decide) (by decide)) ?_)
  rintro e w25 ⟨v25, rfl, ⟨⟩, hb⟩
  refine ⟨_, rfl, ?_, hb⟩
  have HG := Lib.hid (below_call HG.out hb)
  clear hb
  simp only [Act.put, List.setIfInBounds_toArray, List.set_cons_zero, List.set_cons_succ]
  refine good_pureX 14 (some 73) (Go.Op.binOp Go.BinOp.gtr 3 (Go.Operand.tmp 72) (Go.Operand.const (Go.Value.int Go.IntKind.i64 0)) 3) (some (10, false)) (.bool false) (by kernel_rfl) (by kernel_rfl) (by kernel_rfl) (fun _ _ _ h => h) (fun w' hw' => ?_) ?_
  · first | (go_simp; done) | (go_simp; simp_all; done) | (go_simp; rfl)
  simp only [Act.put, List.setIfInBounds_toArray, List.set_cons_zero, List.set_cons_succ]
  refine good_pureX 15 (some 74) (Go.Op.pick (Go.Operand.tmp 69) (Go.Operand.const (Go.Value.bool true)) (Go.Operand.tmp 73)) (none) (.bool false) (by kernel_rfl) (by kernel_rfl) (by kernel_rfl) (fun _ _ _ h => h) (fun w' hw' => ?_) ?_
  · first | (go_simp; done) | (go_simp; simp_all; done) | (go_simp; rfl)
  simp only [Act.put, List.setIfInBounds_toArray, List.set_cons_zero, List.set_cons_succ]
  refine good_end0 0 (by kernel_rfl) (fun _ w26 hb => ?_)
  have HG := Lib.hid (below_call HG.out hb)
  clear hb
  have Hr1 := Lib.hid (CR.keep Hr1.out (Keep.call HG.out))
  have Hv2 := Lib.hid (CR.keep Hv2.out (Keep.call HG.out))
  have Xa0 := Lib.hid (Box.pcall HG.out Xa0.out)
  have Xb0 := Lib.hid (Box.pcall HG.out Xb0.out)
  have Xc0 := Lib.hid (Box.pcall HG.out Xc0.out)
  have Xd0 := Lib.hid (Box.pcall HG.out Xd0.out)
  have Xe0 := Lib.hid (Box.pcall HG.out Xe0.out)
  have Xf0 := Lib.hid (Box.pcall HG.out Xf0.out)
  have Xg0 := Lib.hid (Box.pcall HG.out Xg0.out)
  have Xh0 := Lib.hid (Box.pcall HG.out Xh0.out)
  have Xi0 := Lib.hid (Box.pcall HG.out Xi0.out)
  have HB := Lib.hid (below_call HB.out HG.out)
  have HS := Lib.hid (SE.of (E := []) HG.out)
  refine wpAnyH_done (by kernel_rfl) ?_ _
  clear HG HS Hok 
  obtain ⟨ca00, ca01, ca02, fa00, fa01, fa02⟩ := Xa0.out.c3
  have la0 := Xa0.out.lt
  obtain ⟨cb00, cb01, cb02, fb00, fb01, fb02⟩ := Xb0.out.c3
  have lb0 := Xb0.out.lt
  obtain ⟨cd00, cd01, cd02, fd00, fd01, fd02⟩ := Xd0.out.c3
  have ld0 := Xd0.out.lt
  obtain ⟨ce00, ce01, ce02, fe00, fe01, fe02⟩ := Xe0.out.c3
  have le0 := Xe0.out.lt
  obtain ⟨cf00, cf01, cf02, ff00, ff01, ff02⟩ := Xf0.out.c3
  have lf0 := Xf0.out.lt
  obtain ⟨cg00, cg01, cg02, fg00, fg01, fg02⟩ := Xg0.out.c3
  have lg0 := Xg0.out.lt
  obtain ⟨ch00, ch01, ch02, fh00, fh01, fh02⟩ := Xh0.out.c3
  have lh0 := Xh0.out.lt
  obtain ⟨ci00, ci01, ci02, fi00, fi01, fi02⟩ := Xi0.out.c3
  have li0 := Xi0.out.lt
  go_wp2_with fail
  clear ca00 ca01 ca02 fa00 fa01 fa02 la0 cb00 cb01 cb02 fb00 fb01 fb02 lb0 cd00 cd01 cd02 fd00 fd01 fd02 ld0 ce00 ce01 ce02 fe00 fe01 fe02 le0 cf00 cf01 cf02 ff00 ff01 ff02 lf0 cg00 cg01 cg02 fg00 fg01 fg02 lg0 ch00 ch01 ch02 fh00 fh01 fh02 lh0 ci00 ci01 ci02 fi00 fi01 fi02 li0
  (first | (have hcall := zcmp_ar m Hr1.out.ar Hv2.out.ar Hm.out (by decide) (by decide); refine Calls.mono hcall ?_; clear hcall) | refine Calls.mono (zcmp_ar m Hr1.out.ar Hv2.out.ar Hm.out (by decide) (by decide)) ?_)
  rintro e w27 ⟨v27, rfl, ⟨⟩, hb⟩
  have Xa0 := Lib.hid (Box.pcall hb Xa0.out)
  have Xb0 := Lib.hid (Box.pcall hb Xb0.out)
  have Xc0 := Lib.hid (Box.pcall hb Xc0.out)
  have Xd0 := Lib.hid (Box.pcall hb Xd0.out)
  have Xe0 := Lib.hid (Box.pcall hb Xe0.out)
  have Xf0 := Lib.hid (Box.pcall hb Xf0.out)
  have Xg0 := Lib.hid (Box.pcall hb Xg0.out)
  have Xh0 := Lib.hid (Box.pcall hb Xh0.out)
  have Xi0 := Lib.hid (Box.pcall hb Xi0.out)
  have HB := Lib.hid (below_call HB.out hb)
  clear hb
  obtain ⟨ca00, ca01, ca02, fa00, fa01, fa02⟩ := Xa0.out.c3
  have la0 := Xa0.out.lt
  obtain ⟨cb00, cb01, cb02, fb00, fb01, fb02⟩ := Xb0.out.c3
  have lb0 := Xb0.out.lt
  obtain ⟨cd00, cd01, cd02, fd00, fd01, fd02⟩ := Xd0.out.c3
  have ld0 := Xd0.out.lt
  obtain ⟨ce00, ce01, ce02, fe00, fe01, fe02⟩ := Xe0.out.c3
  have le0 := Xe0.out.lt
  obtain ⟨cf00, cf01, cf02, ff00, ff01, ff02⟩ := Xf0.out.c3
  have lf0 := Xf0.out.lt
  obtain ⟨cg00, cg01, cg02, fg00, fg01, fg02⟩ := Xg0.out.c3
  have lg0 := Xg0.out.lt
  obtain ⟨ch00, ch01, ch02, fh00, fh01, fh02⟩ := Xh0.out.c3
  have lh0 := Xh0.out.lt
  obtain ⟨ci00, ci01, ci02, fi00, fi01, fi02⟩ := Xi0.out.c3
  have li0 := Xi0.out.lt
  go_wp2
  clear ca00 ca01 ca02 fa00 fa01 fa02 la0 cb00 cb01 cb02 fb00 fb01 fb02 lb0 cd00 cd01 cd02 fd00 fd01 fd02 ld0 ce00 ce01 ce02 fe00 fe01 fe02 le0 cf00 cf01 cf02 ff00 ff01 ff02 lf0 cg00 cg01 cg02 fg00 fg01 fg02 lg0 ch00 ch01 ch02 fh00 fh01 fh02 lh0 ci00 ci01 ci02 fi00 fi01 fi02 li0
  go_ret
  exact ⟨_, rfl, rfl, HB.out⟩


set_option maxRecDepth 100000 in
set_option maxHeartbeats 4000000 in
theorem lbou_y2 {x y : Int} {qa : Rat} {ba : Bool} {sa ta : Option Addr} {na ca ma ea : Nat} {qb : Rat} {bb : Bool} {sb tb : Option Addr} {nb cb mb eb : Nat}  {w : World} (x0 : 0 ≤ x) (x1 : x < 256) (y0 : 0 ≤ y) (y1 : y < 256) (hu : unst qa qb = true) (j : Int) (hj : slopeQ qa qb = j) (k : Int) (hk : cmpQ (((y % 9 : Int) : Rat) / ((8 : Int) : Rat) * (btw qa qb (x % 17) 16)) (relu (btw qa qb (x % 17) 16)) = k) (hk0 : decide (0 < k) = false) (m : Int) (hm : cmpQ (relu (btw qa qb (x % 17) 16)) (upQ qa qb * (btw qa qb (x % 17) 16) + gapQ qa qb) = m) (hm0 : decide (0 < m) = false) (hm1 : (m == 0) = false) (d1 : (x % 17 == 0) = false) (d2 : (x % 17 == 16) = false) (hB8 : ([⟨ba, sa, na, ca, ta, ma, ea⟩, ⟨bb, sb, nb, cb, tb, mb, eb⟩] : List Rw).any Rw.big = false) (ha : AR qa 8 w (.agg #[.bool ba, .slice sa na ca, .slice ta ma ea])) (hb : AR qb 8 w (.agg #[.bool bb, .slice sb nb cb, .slice tb mb eb])) :
    Calls Try.prog 5 #[.agg #[.bool ba, .slice sa na ca, .slice ta ma ea], .agg #[.bool bb, .slice sb nb cb, .slice tb mb eb], .int .u8 x, .int .u8 y] w (Ret w (Val (.bool true))) := by
  have Ha := Lib.hid ha
  have Hb := Lib.hid hb
  have HB8 := Lib.hid hB8
  have Hu := Lib.hid hu
  have Hj := Lib.hid hj
  have Hk := Lib.hid hk
  have Hm := Lib.hid hm
  clear ha hb hB8 hu hj hk hm
  go_enter Try.func5, Try.ntmps5
  have HB := Lib.hid (Below.refl w.heap.size w)
  go_wp2_with fail
  obtain ⟨W1, hW⟩ : ∃ W1, W1 = (World.alloc (World.alloc w (.cells #[.bool ba, .slice sa na ca, .slice ta ma ea] 25)) (.cells #[.bool bb, .slice sb nb cb, .slice tb mb eb] 25)) := ⟨_, rfl⟩
  rw [← hW]
  obtain ⟨xa0, xb0, hk, hb⟩ := boxes_2 _ _ _ _ _ hW
  clear hW
  have Ha := Lib.hid (AR.keep Ha.out hk)
  have Hb := Lib.hid (AR.keep Hb.out hk)
  have Ga0 := Lib.hid (show w.heap.size ≤ w.heap.size from Nat.le_trans HB.out.size (by omega))
  have Gb0 := Lib.hid (show w.heap.size ≤ w.heap.size + 1 from Nat.le_trans HB.out.size (by omega))
  have Xa0 := Lib.hid xa0
  have Xb0 := Lib.hid xb0
  have HB := Lib.hid (below_call HB.out hb)
  clear hk hb xa0 xb0
  refine Calls.mono (awake25) ?_
  rintro e w2 ⟨v2, rfl, rfl, hb⟩
  have Ha := Lib.hid (AR.keep Ha.out (Keep.call hb))
  have Hb := Lib.hid (AR.keep Hb.out (Keep.call hb))
  have Xa0 := Lib.hid (Box.pcall hb Xa0.out)
  have Xb0 := Lib.hid (Box.pcall hb Xb0.out)
  have HB := Lib.hid (below_call HB.out hb)
  clear hb
  obtain ⟨ca00, ca01, ca02, fa00, fa01, fa02⟩ := Xa0.out.c3
  have la0 := Xa0.out.lt
  obtain ⟨cb00, cb01, cb02, fb00, fb01, fb02⟩ := Xb0.out.c3
  have lb0 := Xb0.out.lt
  go_wp2_with fail
  clear ca00 ca01 ca02 fa00 fa01 fa02 la0 cb00 cb01 cb02 fb00 fb01 fb02 lb0
  obtain ⟨W3, hW⟩ : ∃ W3, W3 = (World.alloc w2 (.cells #[.bool ba, .slice sa na ca, .slice ta ma ea, .bool bb, .slice sb nb cb, .slice tb mb eb] 25)) := ⟨_, rfl⟩
  rw [← hW]
  obtain ⟨xc0, hk, hb⟩ := boxes_1 _ _ _ hW
  clear hW
  have Ha := Lib.hid (AR.keep Ha.out hk)
  have Hb := Lib.hid (AR.keep Hb.out hk)
  have Na0c0 := Lib.hid (show w.heap.size ≠ w2.heap.size from Nat.ne_of_lt (Nat.lt_of_lt_of_le Xa0.out.lt (by omega)))
  have Nb0c0 := Lib.hid (show w.heap.size + 1 ≠ w2.heap.size from Nat.ne_of_lt (Nat.lt_of_lt_of_le Xb0.out.lt (by omega)))
  have Gc0 := Lib.hid (show w.heap.size ≤ w2.heap.size from Nat.le_trans HB.out.size (by omega))
  have Xa0 := Lib.hid (Box.pcall hb Xa0.out)
  have Xb0 := Lib.hid (Box.pcall hb Xb0.out)
  have Xc0 := Lib.hid xc0
  have HB := Lib.hid (below_call HB.out hb)
  clear hk hb xc0
  refine Calls.mono (large2 Xc0.out HB8.out) ?_
  rintro e w4 ⟨v4, rfl, rfl, hb⟩
  have Ha := Lib.hid (AR.keep Ha.out (Keep.call hb))
  have Hb := Lib.hid (AR.keep Hb.out (Keep.call hb))
  have Xa0 := Lib.hid (Box.pcall hb Xa0.out)
  have Xb0 := Lib.hid (Box.pcall hb Xb0.out)
  have Xc0 := Lib.hid (Box.pcall hb Xc0.out)
  have HB := Lib.hid (below_call HB.out hb)
  clear hb
  obtain ⟨ca00, ca01, ca02, fa00, fa01, fa02⟩ := Xa0.out.c3
  have la0 := Xa0.out.lt
  obtain ⟨cb00, cb01, cb02, fb00, fb01, fb02⟩ := Xb0.out.c3
  have lb0 := Xb0.out.lt
  go_wp2_with fail
  clear ca00 ca01 ca02 fa00 fa01 fa02 la0 cb00 cb01 cb02 fb00 fb01 fb02 lb0
  (first | (have hcall := zluns_ar Hu.out Ha.out Hb.out (by decide); refine Calls.mono hcall ?_; clear hcall) | refine Calls.mono (zluns_ar Hu.out Ha.out Hb.out (by decide)) ?_)
  rintro e w5 ⟨v5, rfl, rfl, hb⟩
  have Ha := Lib.hid (AR.keep Ha.out (Keep.call hb))
  have Hb := Lib.hid (AR.keep Hb.out (Keep.call hb))
  have Xa0 := Lib.hid (Box.pcall hb Xa0.out)
  have Xb0 := Lib.hid (Box.pcall hb Xb0.out)
  have Xc0 := Lib.hid (Box.pcall hb Xc0.out)
  have HB := Lib.hid (below_call HB.out hb)
  clear hb
  obtain ⟨ca00, ca01, ca02, fa00, fa01, fa02⟩ := Xa0.out.c3
  have la0 := Xa0.out.lt
  obtain ⟨cb00, cb01, cb02, fb00, fb01, fb02⟩ := Xb0.out.c3
  have lb0 := Xb0.out.lt
  go_wp2_with fail
  clear ca00 ca01 ca02 fa00 fa01 fa02 la0 cb00 cb01 cb02 fb00 fb01 fb02 lb0
  (first | (have hcall := rllin_k j Hj.out Hu.out Ha.out Hb.out (by decide); refine Calls.mono hcall ?_; clear hcall) | refine Calls.mono (rllin_k j Hj.out Hu.out Ha.out Hb.out (by decide)) ?_)
  rintro e w6 ⟨t6, rfl, ⟨v6, u6, rfl, hu1, hg1⟩, hb⟩
  obtain ⟨u1_b, u1_a, u1_n, u1_c, u1_d, u1_m, u1_e, rfl⟩ := hu1.litb
  obtain ⟨g1_b, g1_a, g1_n, g1_c, g1_d, g1_m, g1_e, rfl⟩ := hg1.litb
  have Ha := Lib.hid (AR.keep Ha.out (Keep.call hb))
  have Hb := Lib.hid (AR.keep Hb.out (Keep.call hb))
  have Xa0 := Lib.hid (Box.pcall hb Xa0.out)
  have Xb0 := Lib.hid (Box.pcall hb Xb0.out)
  have Xc0 := Lib.hid (Box.pcall hb Xc0.out)
  have HB := Lib.hid (below_call HB.out hb)
  have Hu1 := Lib.hid hu1
  have Hg1 := Lib.hid hg1
  clear hb hu1 hg1
  obtain ⟨ca00, ca01, ca02, fa00, fa01, fa02⟩ := Xa0.out.c3
  have la0 := Xa0.out.lt
  obtain ⟨cb00, cb01, cb02, fb00, fb01, fb02⟩ := Xb0.out.c3
  have lb0 := Xb0.out.lt
  go_wp2_with fail
  clear ca00 ca01 ca02 fa00 fa01 fa02 la0 cb00 cb01 cb02 fb00 fb01 fb02 lb0
  obtain ⟨W7, hW⟩ : ∃ W7, W7 = (World.alloc (World.alloc w6 (.cells #[.bool u1_b, .slice u1_a u1_n u1_c, .slice u1_d u1_m u1_e] 25)) (.cells #[.bool g1_b, .slice g1_a g1_n g1_c, .slice g1_d g1_m g1_e] 25)) := ⟨_, rfl⟩
  rw [← hW]
  obtain ⟨xd0, xe0, hk, hb⟩ := boxes_2 _ _ _ _ _ hW
  clear hW
  have Ha := Lib.hid (AR.keep Ha.out hk)
  have Hb := Lib.hid (AR.keep Hb.out hk)
  have Hu1 := Lib.hid (CR.keep Hu1.out hk)
  have Hg1 := Lib.hid (CR.keep Hg1.out hk)
  have Na0d0 := Lib.hid (show w.heap.size ≠ w6.heap.size from Nat.ne_of_lt (Nat.lt_of_lt_of_le Xa0.out.lt (by omega)))
  have Nb0d0 := Lib.hid (show w.heap.size + 1 ≠ w6.heap.size from Nat.ne_of_lt (Nat.lt_of_lt_of_le Xb0.out.lt (by omega)))
  have Nc0d0 := Lib.hid (show w2.heap.size ≠ w6.heap.size from Nat.ne_of_lt (Nat.lt_of_lt_of_le Xc0.out.lt (by omega)))
  have Gd0 := Lib.hid (show w.heap.size ≤ w6.heap.size from Nat.le_trans HB.out.size (by omega))
  have Na0e0 := Lib.hid (show w.heap.size ≠ w6.heap.size + 1 from Nat.ne_of_lt (Nat.lt_of_lt_of_le Xa0.out.lt (by omega)))
  have Nb0e0 := Lib.hid (show w.heap.size + 1 ≠ w6.heap.size + 1 from Nat.ne_of_lt (Nat.lt_of_lt_of_le Xb0.out.lt (by omega)))
  have Nc0e0 := Lib.hid (show w2.heap.size ≠ w6.heap.size + 1 from Nat.ne_of_lt (Nat.lt_of_lt_of_le Xc0.out.lt (by omega)))
  have Ge0 := Lib.hid (show w.heap.size ≤ w6.heap.size + 1 from Nat.le_trans HB.out.size (by omega))
  have Xa0 := Lib.hid (Box.pcall hb Xa0.out)
  have Xb0 := Lib.hid (Box.pcall hb Xb0.out)
  have Xc0 := Lib.hid (Box.pcall hb Xc0.out)
  have Xd0 := Lib.hid xd0
  have Xe0 := Lib.hid xe0
  have HB := Lib.hid (below_call HB.out hb)
  clear hk hb xd0 xe0
  (first | (have hcall := btw_ar (x % 17) 16 (by omega) (by omega) (by decide) (by decide) (by decide) Ha.out Hb.out (by decide); refine Calls.mono hcall ?_; clear hcall) | refine Calls.mono (btw_ar (x % 17) 16 (by omega) (by omega) (by decide) (by decide) (by decide) Ha.out Hb.out (by decide)) ?_)
  rintro e w8 ⟨v8, rfl, hp1, hb⟩
  obtain ⟨p1_b, p1_a, p1_n, p1_c, p1_d, p1_m, p1_e, rfl⟩ := hp1.litb
  have Hu1 := Lib.hid (CR.keep Hu1.out (Keep.call hb))
  have Hg1 := Lib.hid (CR.keep Hg1.out (Keep.call hb))
  have Xa0 := Lib.hid (Box.pcall hb Xa0.out)
  have Xb0 := Lib.hid (Box.pcall hb Xb0.out)
  have Xc0 := Lib.hid (Box.pcall hb Xc0.out)
  have Xd0 := Lib.hid (Box.pcall hb Xd0.out)
  have Xe0 := Lib.hid (Box.pcall hb Xe0.out)
  have HB := Lib.hid (below_call HB.out hb)
  have Hp1 := Lib.hid hp1
  clear hb hp1
  obtain ⟨ca00, ca01, ca02, fa00, fa01, fa02⟩ := Xa0.out.c3
  have la0 := Xa0.out.lt
  obtain ⟨cb00, cb01, cb02, fb00, fb01, fb02⟩ := Xb0.out.c3
  have lb0 := Xb0.out.lt
  obtain ⟨cd00, cd01, cd02, fd00, fd01, fd02⟩ := Xd0.out.c3
  have ld0 := Xd0.out.lt
  obtain ⟨ce00, ce01, ce02, fe00, fe01, fe02⟩ := Xe0.out.c3
  have le0 := Xe0.out.lt
  go_wp2_with fail
  clear ca00 ca01 ca02 fa00 fa01 fa02 la0 cb00 cb01 cb02 fb00 fb01 fb02 lb0 cd00 cd01 cd02 fd00 fd01 fd02 ld0 ce00 ce01 ce02 fe00 fe01 fe02 le0
  obtain ⟨W9, hW⟩ : ∃ W9, W9 = (World.alloc w8 (.cells #[.bool p1_b, .slice p1_a p1_n p1_c, .slice p1_d p1_m p1_e] 25)) := ⟨_, rfl⟩
  rw [← hW]
  obtain ⟨xf0, hk, hb⟩ := boxes_1 _ _ _ hW
  clear hW
  have Hu1 := Lib.hid (CR.keep Hu1.out hk)
  have Hg1 := Lib.hid (CR.keep Hg1.out hk)
  have Hp1 := Lib.hid (CR.keep Hp1.out hk)
  have Na0f0 := Lib.hid (show w.heap.size ≠ w8.heap.size from Nat.ne_of_lt (Nat.lt_of_lt_of_le Xa0.out.lt (by omega)))
  have Nb0f0 := Lib.hid (show w.heap.size + 1 ≠ w8.heap.size from Nat.ne_of_lt (Nat.lt_of_lt_of_le Xb0.out.lt (by omega)))
  have Nc0f0 := Lib.hid (show w2.heap.size ≠ w8.heap.size from Nat.ne_of_lt (Nat.lt_of_lt_of_le Xc0.out.lt (by omega)))
  have Nd0f0 := Lib.hid (show w6.heap.size ≠ w8.heap.size from Nat.ne_of_lt (Nat.lt_of_lt_of_le Xd0.out.lt (by omega)))
  have Ne0f0 := Lib.hid (show w6.heap.size + 1 ≠ w8.heap.size from Nat.ne_of_lt (Nat.lt_of_lt_of_le Xe0.out.lt (by omega)))
  have Gf0 := Lib.hid (show w.heap.size ≤ w8.heap.size from Nat.le_trans HB.out.size (by omega))
  have Xa0 := Lib.hid (Box.pcall hb Xa0.out)
  have Xb0 := Lib.hid (Box.pcall hb Xb0.out)
  have Xc0 := Lib.hid (Box.pcall hb Xc0.out)
  have Xd0 := Lib.hid (Box.pcall hb Xd0.out)
  have Xe0 := Lib.hid (Box.pcall hb Xe0.out)
  have Xf0 := Lib.hid xf0
  have HB := Lib.hid (below_call HB.out hb)
  clear hk hb xf0
  (first | (have hcall := rect_ar Hp1.out.ar (by decide); refine Calls.mono hcall ?_; clear hcall) | refine Calls.mono (rect_ar Hp1.out.ar (by decide)) ?_)
  rintro e w10 ⟨v10, rfl, hr1, hb⟩
  obtain ⟨r1_b, r1_a, r1_n, r1_c, r1_d, r1_m, r1_e, rfl⟩ := hr1.litb
  have Hu1 := Lib.hid (CR.keep Hu1.out (Keep.call hb))
  have Hg1 := Lib.hid (CR.keep Hg1.out (Keep.call hb))
  have Hp1 := Lib.hid (CR.keep Hp1.out (Keep.call hb))
  have Xa0 := Lib.hid (Box.pcall hb Xa0.out)
  have Xb0 := Lib.hid (Box.pcall hb Xb0.out)
  have Xc0 := Lib.hid (Box.pcall hb Xc0.out)
  have Xd0 := Lib.hid (Box.pcall hb Xd0.out)
  have Xe0 := Lib.hid (Box.pcall hb Xe0.out)
  have Xf0 := Lib.hid (Box.pcall hb Xf0.out)
  have HB := Lib.hid (below_call HB.out hb)
  have Hr1 := Lib.hid hr1
  clear hb hr1
  obtain ⟨ca00, ca01, ca02, fa00, fa01, fa02⟩ := Xa0.out.c3
  have la0 := Xa0.out.lt
  obtain ⟨cb00, cb01, cb02, fb00, fb01, fb02⟩ := Xb0.out.c3
  have lb0 := Xb0.out.lt
  obtain ⟨cd00, cd01, cd02, fd00, fd01, fd02⟩ := Xd0.out.c3
  have ld0 := Xd0.out.lt
  obtain ⟨ce00, ce01, ce02, fe00, fe01, fe02⟩ := Xe0.out.c3
  have le0 := Xe0.out.lt
  obtain ⟨cf00, cf01, cf02, ff00, ff01, ff02⟩ := Xf0.out.c3
  have lf0 := Xf0.out.lt
  go_wp2_with fail
  clear ca00 ca01 ca02 fa00 fa01 fa02 la0 cb00 cb01 cb02 fb00 fb01 fb02 lb0 cd00 cd01 cd02 fd00 fd01 fd02 ld0 ce00 ce01 ce02 fe00 fe01 fe02 le0 cf00 cf01 cf02 ff00 ff01 ff02 lf0
  obtain ⟨W11, hW⟩ : ∃ W11, W11 = (World.alloc w10 (.cells #[.bool r1_b, .slice r1_a r1_n r1_c, .slice r1_d r1_m r1_e] 25)) := ⟨_, rfl⟩
  rw [← hW]
  obtain ⟨xg0, hk, hb⟩ := boxes_1 _ _ _ hW
  clear hW
  have Hu1 := Lib.hid (CR.keep Hu1.out hk)
  have Hg1 := Lib.hid (CR.keep Hg1.out hk)
  have Hp1 := Lib.hid (CR.keep Hp1.out hk)
  have Hr1 := Lib.hid (CR.keep Hr1.out hk)
  have Na0g0 := Lib.hid (show w.heap.size ≠ w10.heap.size from Nat.ne_of_lt (Nat.lt_of_lt_of_le Xa0.out.lt (by omega)))
  have Nb0g0 := Lib.hid (show w.heap.size + 1 ≠ w10.heap.size from Nat.ne_of_lt (Nat.lt_of_lt_of_le Xb0.out.lt (by omega)))
  have Nc0g0 := Lib.hid (show w2.heap.size ≠ w10.heap.size from Nat.ne_of_lt (Nat.lt_of_lt_of_le Xc0.out.lt (by omega)))
  have Nd0g0 := Lib.hid (show w6.heap.size ≠ w10.heap.size from Nat.ne_of_lt (Nat.lt_of_lt_of_le Xd0.out.lt (by omega)))
  have Ne0g0 := Lib.hid (show w6.heap.size + 1 ≠ w10.heap.size from Nat.ne_of_lt (Nat.lt_of_lt_of_le Xe0.out.lt (by omega)))
  have Nf0g0 := Lib.hid (show w8.heap.size ≠ w10.heap.size from Nat.ne_of_lt (Nat.lt_of_lt_of_le Xf0.out.lt (by omega)))
  have Gg0 := Lib.hid (show w.heap.size ≤ w10.heap.size from Nat.le_trans HB.out.size (by omega))
  have Xa0 := Lib.hid (Box.pcall hb Xa0.out)
  have Xb0 := Lib.hid (Box.pcall hb Xb0.out)
  have Xc0 := Lib.hid (Box.pcall hb Xc0.out)
  have Xd0 := Lib.hid (Box.pcall hb Xd0.out)
  have Xe0 := Lib.hid (Box.pcall hb Xe0.out)
  have Xf0 := Lib.hid (Box.pcall hb Xf0.out)
  have Xg0 := Lib.hid xg0
  have HB := Lib.hid (below_call HB.out hb)
  clear hk hb xg0
  refine Calls.mono (zfrac_1 (x := y % 9) (y := 8) (by omega) (by omega) (by decide) (by decide) (by decide)) ?_
  rintro e w12 ⟨t12, rfl, ⟨v12, rfl, hf1⟩, hb⟩
  obtain ⟨f1_b, f1_a, f1_n, f1_c, f1_d, f1_m, f1_e, rfl⟩ := hf1.litb
  have Hu1 := Lib.hid (CR.keep Hu1.out (Keep.call hb))
  have Hg1 := Lib.hid (CR.keep Hg1.out (Keep.call hb))
  have Hp1 := Lib.hid (CR.keep Hp1.out (Keep.call hb))
  have Hr1 := Lib.hid (CR.keep Hr1.out (Keep.call hb))
  have Xa0 := Lib.hid (Box.pcall hb Xa0.out)
  have Xb0 := Lib.hid (Box.pcall hb Xb0.out)
  have Xc0 := Lib.hid (Box.pcall hb Xc0.out)
  have Xd0 := Lib.hid (Box.pcall hb Xd0.out)
  have Xe0 := Lib.hid (Box.pcall hb Xe0.out)
  have Xf0 := Lib.hid (Box.pcall hb Xf0.out)
  have Xg0 := Lib.hid (Box.pcall hb Xg0.out)
  have HB := Lib.hid (below_call HB.out hb)
  have Hf1 := Lib.hid hf1
  clear hb hf1
  obtain ⟨ca00, ca01, ca02, fa00, fa01, fa02⟩ := Xa0.out.c3
  have la0 := Xa0.out.lt
  obtain ⟨cb00, cb01, cb02, fb00, fb01, fb02⟩ := Xb0.out.c3
  have lb0 := Xb0.out.lt
  obtain ⟨cd00, cd01, cd02, fd00, fd01, fd02⟩ := Xd0.out.c3
  have ld0 := Xd0.out.lt
  obtain ⟨ce00, ce01, ce02, fe00, fe01, fe02⟩ := Xe0.out.c3
  have le0 := Xe0.out.lt
  obtain ⟨cf00, cf01, cf02, ff00, ff01, ff02⟩ := Xf0.out.c3
  have lf0 := Xf0.out.lt
  obtain ⟨cg00, cg01, cg02, fg00, fg01, fg02⟩ := Xg0.out.c3
  have lg0 := Xg0.out.lt
  go_wp2_with fail
  clear ca00 ca01 ca02 fa00 fa01 fa02 la0 cb00 cb01 cb02 fb00 fb01 fb02 lb0 cd00 cd01 cd02 fd00 fd01 fd02 ld0 ce00 ce01 ce02 fe00 fe01 fe02 le0 cf00 cf01 cf02 ff00 ff01 ff02 lf0 cg00 cg01 cg02 fg00 fg01 fg02 lg0
  obtain ⟨W13, hW⟩ : ∃ W13, W13 = (World.alloc w12 (.cells #[.bool f1_b, .slice f1_a f1_n f1_c, .slice f1_d f1_m f1_e] 25)) := ⟨_, rfl⟩
  rw [← hW]
  obtain ⟨xh0, hk, hb⟩ := boxes_1 _ _ _ hW
  clear hW
  have Hu1 := Lib.hid (CR.keep Hu1.out hk)
  have Hg1 := Lib.hid (CR.keep Hg1.out hk)
  have Hp1 := Lib.hid (CR.keep Hp1.out hk)
  have Hr1 := Lib.hid (CR.keep Hr1.out hk)
  have Hf1 := Lib.hid (CR.keep Hf1.out hk)
  have Na0h0 := Lib.hid (show w.heap.size ≠ w12.heap.size from Nat.ne_of_lt (Nat.lt_of_lt_of_le Xa0.out.lt (by omega)))
  have Nb0h0 := Lib.hid (show w.heap.size + 1 ≠ w12.heap.size from Nat.ne_of_lt (Nat.lt_of_lt_of_le Xb0.out.lt (by omega)))
  have Nc0h0 := Lib.hid (show w2.heap.size ≠ w12.heap.size from Nat.ne_of_lt (Nat.lt_of_lt_of_le Xc0.out.lt (by omega)))
  have Nd0h0 := Lib.hid (show w6.heap.size ≠ w12.heap.size from Nat.ne_of_lt (Nat.lt_of_lt_of_le Xd0.out.lt (by omega)))
  have Ne0h0 := Lib.hid (show w6.heap.size + 1 ≠ w12.heap.size from Nat.ne_of_lt (Nat.lt_of_lt_of_le Xe0.out.lt (by omega)))
  have Nf0h0 := Lib.hid (show w8.heap.size ≠ w12.heap.size from Nat.ne_of_lt (Nat.lt_of_lt_of_le Xf0.out.lt (by omega)))
  have Ng0h0 := Lib.hid (show w10.heap.size ≠ w12.heap.size from Nat.ne_of_lt (Nat.lt_of_lt_of_le Xg0.out.lt (by omega)))
  have Gh0 := Lib.hid (show w.heap.size ≤ w12.heap.size from Nat.le_trans HB.out.size (by omega))
  have Xa0 := Lib.hid (Box.pcall hb Xa0.out)
  have Xb0 := Lib.hid (Box.pcall hb Xb0.out)
  have Xc0 := Lib.hid (Box.pcall hb Xc0.out)
  have Xd0 := Lib.hid (Box.pcall hb Xd0.out)
  have Xe0 := Lib.hid (Box.pcall hb Xe0.out)
  have Xf0 := Lib.hid (Box.pcall hb Xf0.out)
  have Xg0 := Lib.hid (Box.pcall hb Xg0.out)
  have Xh0 := Lib.hid xh0
  have HB := Lib.hid (below_call HB.out hb)
  clear hk hb xh0
  have Hu1 := Lib.hid (CR.keep Hu1.out (Keep.drew W13))
  have Hg1 := Lib.hid (CR.keep Hg1.out (Keep.drew W13))
  have Hp1 := Lib.hid (CR.keep Hp1.out (Keep.drew W13))
  have Hr1 := Lib.hid (CR.keep Hr1.out (Keep.drew W13))
  have Hf1 := Lib.hid (CR.keep Hf1.out (Keep.drew W13))
  have Xa0 := Lib.hid (Box.drew Xa0.out)
  have Xb0 := Lib.hid (Box.drew Xb0.out)
  have Xc0 := Lib.hid (Box.drew Xc0.out)
  have Xd0 := Lib.hid (Box.drew Xd0.out)
  have Xe0 := Lib.hid (Box.drew Xe0.out)
  have Xf0 := Lib.hid (Box.drew Xf0.out)
  have Xg0 := Lib.hid (Box.drew Xg0.out)
  have Xh0 := Lib.hid (Box.drew Xh0.out)
  have HB := Lib.hid (Below.drew HB.out)
  refine wp_region_float [] [⟨5, 17, 25, #[.bool false, .slice none 0 0, .slice none 0 0]⟩] (by kernel_rfl) (by kernel_rfl) 89 (by kernel_rfl) (Flok.one (by kernel_rfl) (by kernel_rfl) (by kernel_rfl) (by intro w; go_simp)) ?_
  intro ok
  have Hok := Lib.hid ok
  clear ok
  have HG := Lib.hid (Below.refl (W13.drew).heap.size (W13.drew))
  refine good_pureX 0 (some 54) (Go.Op.load 25 (Go.Operand.tmp 10)) (none) (.agg #[.bool u1_b, .slice u1_a u1_n u1_c, .slice u1_d u1_m u1_e]) (by kernel_rfl) (by kernel_rfl) (by kernel_rfl) (fun _ _ _ h => h) (fun w' hw' => ?_) ?_
  · obtain ⟨cd00, cd01, cd02, fd00, fd01, fd02⟩ := (Box.se hw' Xd0.out notin0).c3
    first | (go_simp; done) | (go_simp; simp_all; done) | (go_simp; rfl)
  simp only [Act.put, List.setIfInBounds_toArray, List.set_cons_zero, List.set_cons_succ]
  refine good_pureX 1 (some 55) (Go.Op.load 25 (Go.Operand.tmp 13)) (none) (.agg #[.bool p1_b, .slice p1_a p1_n p1_c, .slice p1_d p1_m p1_e]) (by kernel_rfl) (by kernel_rfl) (by kernel_rfl) (fun _ _ _ h => h) (fun w' hw' => ?_) ?_
  · obtain ⟨cf00, cf01, cf02, ff00, ff01, ff02⟩ := (Box.se hw' Xf0.out notin0).c3
    first | (go_simp; done) | (go_simp; simp_all; done) | (go_simp; rfl)
  simp only [Act.put, List.setIfInBounds_toArray, List.set_cons_zero, List.set_cons_succ]
  refine good_pureX 3 (some 57) (Go.Op.load 25 (Go.Operand.tmp 11)) (none) (.agg #[.bool g1_b, .slice g1_a g1_n g1_c, .slice g1_d g1_m g1_e]) (by kernel_rfl) (by kernel_rfl) (by kernel_rfl) (fun _ _ _ h => h) (fun w' hw' => ?_) ?_
  · obtain ⟨ce00, ce01, ce02, fe00, fe01, fe02⟩ := (Box.se hw' Xe0.out notin0).c3
    first | (go_simp; done) | (go_simp; simp_all; done) | (go_simp; rfl)
  simp only [Act.put, List.setIfInBounds_toArray, List.set_cons_zero, List.set_cons_succ]
  refine good_callX 2 29 (some 56) #[Go.Operand.tmp 54, Go.Operand.tmp 55] #[25, 25] (none) #[.agg #[.bool u1_b, .slice u1_a u1_n u1_c, .slice u1_d u1_m u1_e], .agg #[.bool p1_b, .slice p1_a p1_n p1_c, .slice p1_d p1_m p1_e]] (by kernel_rfl) Hok.out (by kernel_rfl) (by kernel_rfl) (by kernel_rfl) (by kernel_rfl) rfl rfl rfl (by kernel_rfl) (fun w14 hb => ?_)
  have HG := Lib.hid (below_call HG.out hb)
  clear hb
  (first | (have hcall := zmul_ar (CR.keep Hu1.out (Keep.call HG.out)).ar (CR.keep Hp1.out (Keep.call HG.out)).ar (by decide) (by decide); refine Calls.mono hcall ?_; clear hcall) | refine Calls.mono (zmul_ar (CR.keep Hu1.out (Keep.call HG.out)).ar (CR.keep Hp1.out (Keep.call HG.out)).ar (by decide) (by decide)) ?_)
  rintro e w15 ⟨v15, rfl, hv1, hb⟩
  obtain ⟨v1_b, v1_a, v1_n, v1_c, v1_d, v1_m, v1_e, rfl⟩ := hv1.litb
  refine ⟨_, rfl, ?_, hb⟩
  have HG := Lib.hid (below_call HG.out hb)
  have Hv1 := Lib.hid hv1
  clear hb hv1
  simp only [Act.put, List.setIfInBounds_toArray, List.set_cons_zero, List.set_cons_succ]
  refine good_callX 4 28 (some 58) #[Go.Operand.tmp 56, Go.Operand.tmp 57] #[25, 25] (none) #[.agg #[.bool v1_b, .slice v1_a v1_n v1_c, .slice v1_d v1_m v1_e], .agg #[.bool g1_b, .slice g1_a g1_n g1_c, .slice g1_d g1_m g1_e]] (by kernel_rfl) Hok.out (by kernel_rfl) (by kernel_rfl) (by kernel_rfl) (by kernel_rfl) rfl rfl rfl (by kernel_rfl) (fun w16 hb => ?_)
  have Hv1 := Lib.hid (CR.keep Hv1.out (Keep.call hb))
  have HG := Lib.hid (below_call HG.out hb)
  clear hb
  (first | (have hcall := zadd_ar Hv1.out.ar (CR.keep Hg1.out (Keep.call HG.out)).ar (by decide) (by decide); refine Calls.mono hcall ?_; clear hcall) | refine Calls.mono (zadd_ar Hv1.out.ar (CR.keep Hg1.out (Keep.call HG.out)).ar (by decide) (by decide)) ?_)
  rintro e w17 ⟨v17, rfl, hv2, hb⟩
  obtain ⟨v2_b, v2_a, v2_n, v2_c, v2_d, v2_m, v2_e, rfl⟩ := hv2.litb
  refine ⟨_, rfl, ?_, hb⟩
  have HG := Lib.hid (below_call HG.out hb)
  have Hv2 := Lib.hid hv2
  clear hb hv2
  simp only [Act.put, List.setIfInBounds_toArray, List.set_cons_zero, List.set_cons_succ]
  refine good_end1 1 Hok.out (by kernel_rfl) (by kernel_rfl) (by kernel_rfl) (fun _ gi0 w18 hb ei0 xi0 => ?_)
  have Hv2 := Lib.hid (CR.keep Hv2.out (Keep.call hb))
  have HG := Lib.hid (below_call HG.out hb)
  clear hb
  have Na0i0 := Lib.hid (show w.heap.size ≠ gi0 from Nat.ne_of_lt (Nat.lt_of_lt_of_le Xa0.out.lt ei0))
  have Nb0i0 := Lib.hid (show w.heap.size + 1 ≠ gi0 from Nat.ne_of_lt (Nat.lt_of_lt_of_le Xb0.out.lt ei0))
  have Nc0i0 := Lib.hid (show w2.heap.size ≠ gi0 from Nat.ne_of_lt (Nat.lt_of_lt_of_le Xc0.out.lt ei0))
  have Nd0i0 := Lib.hid (show w6.heap.size ≠ gi0 from Nat.ne_of_lt (Nat.lt_of_lt_of_le Xd0.out.lt ei0))
  have Ne0i0 := Lib.hid (show w6.heap.size + 1 ≠ gi0 from Nat.ne_of_lt (Nat.lt_of_lt_of_le Xe0.out.lt ei0))
  have Nf0i0 := Lib.hid (show w8.heap.size ≠ gi0 from Nat.ne_of_lt (Nat.lt_of_lt_of_le Xf0.out.lt ei0))
  have Ng0i0 := Lib.hid (show w10.heap.size ≠ gi0 from Nat.ne_of_lt (Nat.lt_of_lt_of_le Xg0.out.lt ei0))
  have Nh0i0 := Lib.hid (show w12.heap.size ≠ gi0 from Nat.ne_of_lt (Nat.lt_of_lt_of_le Xh0.out.lt ei0))
  have Gi0 := Lib.hid (show w.heap.size ≤ gi0 from Nat.le_trans HB.out.size ei0)
  have Ei0 := Lib.hid ei0
  clear ei0
  have Hp1 := Lib.hid (CR.keep Hp1.out (Keep.call HG.out))
  have Hr1 := Lib.hid (CR.keep Hr1.out (Keep.call HG.out))
  have Hf1 := Lib.hid (CR.keep Hf1.out (Keep.call HG.out))
  have Xa0 := Lib.hid (Box.pcall HG.out Xa0.out)
  have Xb0 := Lib.hid (Box.pcall HG.out Xb0.out)
  have Xc0 := Lib.hid (Box.pcall HG.out Xc0.out)
  have Xd0 := Lib.hid (Box.pcall HG.out Xd0.out)
  have Xe0 := Lib.hid (Box.pcall HG.out Xe0.out)
  have Xf0 := Lib.hid (Box.pcall HG.out Xf0.out)
  have Xg0 := Lib.hid (Box.pcall HG.out Xg0.out)
  have Xh0 := Lib.hid (Box.pcall HG.out Xh0.out)
  have HB := Lib.hid (below_call HB.out HG.out)
  have HS := Lib.hid (SE.of (E := []) HG.out)
  have Xi0 := Lib.hid xi0
  clear xi0
  simp only [Act.put, List.setIfInBounds_toArray, List.set_cons_zero, List.set_cons_succ]
  refine held_oneX 6 (Go.Op.store 25 (Go.Operand.tmp 17) (Go.Operand.tmp 58)) (none) (World.setCell (World.setCell (World.setCell w18 ⟨gi0, 0, none⟩ (.bool v2_b)) ⟨gi0, 1, none⟩ (.slice v2_a v2_n v2_c)) ⟨gi0, 2, none⟩ (.slice v2_d v2_m v2_e)) (by kernel_rfl) (by kernel_rfl) (by kernel_rfl) (by kernel_rfl) ?_ (HS.out.store3 (.inr Ei0.out)) ?_
  · obtain ⟨ci00, ci01, ci02, fi00, fi01, fi02⟩ := Xi0.out.c3
    first | (go_simp; done) | (go_simp; simp_all; done) | (go_simp; rfl)
  obtain ⟨W19, hW⟩ : ∃ W19, W19 = (World.setCell (World.setCell (World.setCell w18 ⟨gi0, 0, none⟩ (.bool v2_b)) ⟨gi0, 1, none⟩ (.slice v2_a v2_n v2_c)) ⟨gi0, 2, none⟩ (.slice v2_d v2_m v2_e)) := ⟨_, rfl⟩
  rw [← hW]
  obtain ⟨xi0, hk, hf, hbb, hz⟩ := stored3s hW Xi0.out (by first | exact NoInt.bool _ | exact NoInt.slice _ _ _) (by first | exact NoInt.bool _ | exact NoInt.slice _ _ _) (by first | exact NoInt.bool _ | exact NoInt.slice _ _ _)
  have Hp1 := Lib.hid (CR.keep Hp1.out hk)
  have Hr1 := Lib.hid (CR.keep Hr1.out hk)
  have Hf1 := Lib.hid (CR.keep Hf1.out hk)
  have Hv2 := Lib.hid (CR.keep Hv2.out hk)
  have Xa0 := Lib.hid (hf _ _ _ Xa0.out Na0i0.out)
  have Xb0 := Lib.hid (hf _ _ _ Xb0.out Nb0i0.out)
  have Xc0 := Lib.hid (hf _ _ _ Xc0.out Nc0i0.out)
  have Xd0 := Lib.hid (hf _ _ _ Xd0.out Nd0i0.out)
  have Xe0 := Lib.hid (hf _ _ _ Xe0.out Ne0i0.out)
  have Xf0 := Lib.hid (hf _ _ _ Xf0.out Nf0i0.out)
  have Xg0 := Lib.hid (hf _ _ _ Xg0.out Ng0i0.out)
  have Xh0 := Lib.hid (hf _ _ _ Xh0.out Nh0i0.out)
  have Xi0 := Lib.hid xi0
  have HB := Lib.hid (hbb _ HB.out Gi0.out)
  have HS := Lib.hid (show SE (W13.drew) [] W19 from by rw [hW]; exact HS.out.store3 (.inr Ei0.out))
  clear hW hk hf hbb xi0
  clear hz
  refine wpAnyH_done (by kernel_rfl) ?_ _
  clear HG HS Hok Ei0
  obtain ⟨ca00, ca01, ca02, fa00, fa01, fa02⟩ := Xa0.out.c3
  have la0 := Xa0.out.lt
  obtain ⟨cb00, cb01, cb02, fb00, fb01, fb02⟩ := Xb0.out.c3
  have lb0 := Xb0.out.lt
  obtain ⟨cd00, cd01, cd02, fd00, fd01, fd02⟩ := Xd0.out.c3
  have ld0 := Xd0.out.lt
  obtain ⟨ce00, ce01, ce02, fe00, fe01, fe02⟩ := Xe0.out.c3
  have le0 := Xe0.out.lt
  obtain ⟨cf00, cf01, cf02, ff00, ff01, ff02⟩ := Xf0.out.c3
  have lf0 := Xf0.out.lt
  obtain ⟨cg00, cg01, cg02, fg00, fg01, fg02⟩ := Xg0.out.c3
  have lg0 := Xg0.out.lt
  obtain ⟨ch00, ch01, ch02, fh00, fh01, fh02⟩ := Xh0.out.c3
  have lh0 := Xh0.out.lt
  obtain ⟨ci00, ci01, ci02, fi00, fi01, fi02⟩ := Xi0.out.c3
  have li0 := Xi0.out.lt
  go_wp2_with fail
  clear ca00 ca01 ca02 fa00 fa01 fa02 la0 cb00 cb01 cb02 fb00 fb01 fb02 lb0 cd00 cd01 cd02 fd00 fd01 fd02 ld0 ce00 ce01 ce02 fe00 fe01 fe02 le0 cf00 cf01 cf02 ff00 ff01 ff02 lf0 cg00 cg01 cg02 fg00 fg01 fg02 lg0 ch00 ch01 ch02 fh00 fh01 fh02 lh0 ci00 ci01 ci02 fi00 fi01 fi02 li0
  have Hp1 := Lib.hid (CR.keep Hp1.out (Keep.drew W19))
  have Hr1 := Lib.hid (CR.keep Hr1.out (Keep.drew W19))
  have Hf1 := Lib.hid (CR.keep Hf1.out (Keep.drew W19))
  have Hv2 := Lib.hid (CR.keep Hv2.out (Keep.drew W19))
  have Xa0 := Lib.hid (Box.drew Xa0.out)
  have Xb0 := Lib.hid (Box.drew Xb0.out)
  have Xc0 := Lib.hid (Box.drew Xc0.out)
  have Xd0 := Lib.hid (Box.drew Xd0.out)
  have Xe0 := Lib.hid (Box.drew Xe0.out)
  have Xf0 := Lib.hid (Box.drew Xf0.out)
  have Xg0 := Lib.hid (Box.drew Xg0.out)
  have Xh0 := Lib.hid (Box.drew Xh0.out)
  have Xi0 := Lib.hid (Box.drew Xi0.out)
  have HB := Lib.hid (Below.drew HB.out)
  refine wp_region_float [] [] (by kernel_rfl) (by kernel_rfl) 89 (by kernel_rfl) Flok.nil ?_
  intro ok
  have Hok := Lib.hid ok
  clear ok
  have HG := Lib.hid (Below.refl (W19.drew).heap.size (W19.drew))
  refine good_pureX 0 (some 59) (Go.Op.move (Go.Operand.tmp 12)) (none) (.int .i64 0) (by kernel_rfl) (by kernel_rfl) (by kernel_rfl) (fun _ _ _ h => h) (fun w' hw' => ?_) ?_
  · first | (go_simp; done) | (go_simp; simp_all; done) | (go_simp; rfl)
  simp only [Act.put, List.setIfInBounds_toArray, List.set_cons_zero, List.set_cons_succ]
  refine good_pureX 1 (some 60) (Go.Op.binOp Go.BinOp.neq 28 (Go.Operand.tmp 59) (Go.Operand.const (Go.Value.int Go.IntKind.i64 0)) 28) (none) (.bool false) (by kernel_rfl) (by kernel_rfl) (by kernel_rfl) (fun _ _ _ h => h) (fun w' hw' => ?_) ?_
  · first | (go_simp; done) | (go_simp; simp_all; done) | (go_simp; rfl)
  simp only [Act.put, List.setIfInBounds_toArray, List.set_cons_zero, List.set_cons_succ]
  refine good_pureX 2 (some 61) (Go.Op.move (Go.Operand.tmp 60)) (none) (.bool false) (by kernel_rfl) (by kernel_rfl) (by kernel_rfl) (fun _ _ _ h => h) (fun w' hw' => ?_) ?_
  · first | (go_simp; done) | (go_simp; simp_all; done) | (go_simp; rfl)
  simp only [Act.put, List.setIfInBounds_toArray, List.set_cons_zero, List.set_cons_succ]
  refine good_pureX 3 (some 62) (Go.Op.load 25 (Go.Operand.tmp 15)) (some (2, false)) (.agg #[.bool f1_b, .slice f1_a f1_n f1_c, .slice f1_d f1_m f1_e]) (by kernel_rfl) (by kernel_rfl) (by kernel_rfl) (fun _ _ _ h => h) (fun w' hw' => ?_) ?_
  · obtain ⟨ch00, ch01, ch02, fh00, fh01, fh02⟩ := (Box.se hw' Xh0.out notin0).c3
    first | (go_simp; done) | (go_simp; simp_all; done) | (go_simp; rfl)
  simp only [Act.put, List.setIfInBounds_toArray, List.set_cons_zero, List.set_cons_succ]
  refine good_pureX 4 (some 63) (Go.Op.load 25 (Go.Operand.tmp 13)) (some (2, false)) (.agg #[.bool p1_b, .slice p1_a p1_n p1_c, .slice p1_d p1_m p1_e]) (by kernel_rfl) (by kernel_rfl) (by kernel_rfl) (fun _ _ _ h => h) (fun w' hw' => ?_) ?_
  · obtain ⟨cf00, cf01, cf02, ff00, ff01, ff02⟩ := (Box.se hw' Xf0.out notin0).c3
    first | (go_simp; done) | (go_simp; simp_all; done) | (go_simp; rfl)
  simp only [Act.put, List.setIfInBounds_toArray, List.set_cons_zero, List.set_cons_succ]
  refine good_pureX 6 (some 65) (Go.Op.load 25 (Go.Operand.tmp 14)) (some (2, false)) (.agg #[.bool r1_b, .slice r1_a r1_n r1_c, .slice r1_d r1_m r1_e]) (by kernel_rfl) (by kernel_rfl) (by kernel_rfl) (fun _ _ _ h => h) (fun w' hw' => ?_) ?_
  · obtain ⟨cg00, cg01, cg02, fg00, fg01, fg02⟩ := (Box.se hw' Xg0.out notin0).c3
    first | (go_simp; done) | (go_simp; simp_all; done) | (go_simp; rfl)
  simp only [Act.put, List.setIfInBounds_toArray, List.set_cons_zero, List.set_cons_succ]
  refine good_callX 5 29 (some 64) #[Go.Operand.tmp 62, Go.Operand.tmp 63] #[25, 25] (some (2, false)) #[.agg #[.bool f1_b, .slice f1_a f1_n f1_c, .slice f1_d f1_m f1_e], .agg #[.bool p1_b, .slice p1_a p1_n p1_c, .slice p1_d p1_m p1_e]] (by kernel_rfl) Hok.out (by kernel_rfl) (by kernel_rfl) (by kernel_rfl) (by kernel_rfl) rfl rfl rfl (by kernel_rfl) (fun w20 hb => ?_)
  have HG := Lib.hid (below_call HG.out hb)
  clear hb
  (first | (have hcall := zmul_ar (CR.keep Hf1.out (Keep.call HG.out)).ar (CR.keep Hp1.out (Keep.call HG.out)).ar (by decide) (by decide); refine Calls.mono hcall ?_; clear hcall) | refine Calls.mono (zmul_ar (CR.keep Hf1.out (Keep.call HG.out)).ar (CR.keep Hp1.out (Keep.call HG.out)).ar (by decide) (by decide)) ?_)
  rintro e w21 ⟨v21, rfl, hv3, hb⟩
  obtain ⟨v3_b, v3_a, v3_n, v3_c, v3_d, v3_m, v3_e, rfl⟩ := hv3.litb
  refine ⟨_, rfl, ?_, hb⟩
  have HG := Lib.hid (below_call HG.out hb)
  have Hv3 := Lib.hid hv3
  clear hb hv3
  simp only [Act.put, List.setIfInBounds_toArray, List.set_cons_zero, List.set_cons_succ]
  refine good_callX 7 24 (some 66) #[Go.Operand.tmp 64, Go.Operand.tmp 65] #[25, 25] (some (2, false)) #[.agg #[.bool v3_b, .slice v3_a v3_n v3_c, .slice v3_d v3_m v3_e], .agg #[.bool r1_b, .slice r1_a r1_n r1_c, .slice r1_d r1_m r1_e]] (by kernel_rfl) Hok.out (by kernel_rfl) (by kernel_rfl) (by kernel_rfl) (by kernel_rfl) rfl rfl rfl (by kernel_rfl) (fun w22 hb => ?_)
  have Hv3 := Lib.hid (CR.keep Hv3.out (Keep.call hb))
  have HG := Lib.hid (below_call HG.out hb)
  clear hb
  (first | (have hcall := zcmp_ar k Hv3.out.ar (CR.keep Hr1.out (Keep.call HG.out)).ar Hk.out (by decide) (by decide); refine Calls.mono hcall ?_; clear hcall) | refine Calls.mono (zcmp_ar k Hv3.out.ar (CR.keep Hr1.out (Keep.call HG.out)).ar Hk.out (by decide) (by decide)) ?_)
  rintro e w23 ⟨v23, rfl, ⟨⟩, hb⟩
  refine ⟨_, rfl, ?_, hb⟩
  have HG := Lib.hid (below_call HG.out hb)
  clear hb
  simp only [Act.put, List.setIfInBounds_toArray, List.set_cons_zero, List.set_cons_succ]
  refine good_pureX 8 (some 67) (Go.Op.binOp Go.BinOp.gtr 3 (Go.Operand.tmp 66) (Go.Operand.const (Go.Value.int Go.IntKind.i64 0)) 3) (some (2, false)) (.bool false) (by kernel_rfl) (by kernel_rfl) (by kernel_rfl) (fun _ _ _ h => h) (fun w' hw' => ?_) ?_
  · first | (go_simp; done) | (go_simp; simp_all; done) | (go_simp; rfl)
  simp only [Act.put, List.setIfInBounds_toArray, List.set_cons_zero, List.set_cons_succ]
  refine good_pureX 9 (some 68) (Go.Op.pick (Go.Operand.tmp 61) (Go.Operand.const (Go.Value.bool true)) (Go.Operand.tmp 67)) (none) (.bool false) (by kernel_rfl) (by kernel_rfl) (by kernel_rfl) (fun _ _ _ h => h) (fun w' hw' => ?_) ?_
  · first | (go_simp; done) | (go_simp; simp_all; done) | (go_simp; rfl)
  simp only [Act.put, List.setIfInBounds_toArray, List.set_cons_zero, List.set_cons_succ]
  refine good_pureX 10 (some 69) (Go.Op.move (Go.Operand.tmp 68)) (none) (.bool false) (by kernel_rfl) (by kernel_rfl) (by kernel_rfl) (fun _ _ _ h => h) (fun w' hw' => ?_) ?_
  · first | (go_simp; done) | (go_simp; simp_all; done) | (go_simp; rfl)
  simp only [Act.put, List.setIfInBounds_toArray, List.set_cons_zero, List.set_cons_succ]
  refine good_pureX 11 (some 70) (Go.Op.load 25 (Go.Operand.tmp 14)) (some (10, false)) (.agg #[.bool r1_b, .slice r1_a r1_n r1_c, .slice r1_d r1_m r1_e]) (by kernel_rfl) (by kernel_rfl) (by kernel_rfl) (fun _ _ _ h => h) (fun w' hw' => ?_) ?_
  · obtain ⟨cg00, cg01, cg02, fg00, fg01, fg02⟩ := (Box.se hw' Xg0.out notin0).c3
    first | (go_simp; done) | (go_simp; simp_all; done) | (go_simp; rfl)
  simp only [Act.put, List.setIfInBounds_toArray, List.set_cons_zero, List.set_cons_succ]
  refine good_pureX 12 (some 71) (Go.Op.load 25 (Go.Operand.tmp 17)) (some (10, false)) (.agg #[.bool v2_b, .slice v2_a v2_n v2_c, .slice v2_d v2_m v2_e]) (by kernel_rfl) (by kernel_rfl) (by kernel_rfl) (fun _ _ _ h => h) (fun w' hw' => ?_) ?_
  · obtain ⟨ci00, ci01, ci02, fi00, fi01, fi02⟩ := (Box.se hw' Xi0.out notin0).c3
    first | (go_simp; done) | (go_simp; simp_all; done) | (go_simp; rfl)
  simp only [Act.put, List.setIfInBounds_toArray, List.set_cons_zero, List.set_cons_succ]
  refine good_callX 13 24 (some 72) #[Go.Operand.tmp 70, Go.Operand.tmp 71] #[25, 25] (some (10, false)) #[.agg #[.bool r1_b, .slice r1_a r1_n r1_c, .slice r1_d r1_m r1_e], .agg #[.bool v2_b, .slice v2_a v2_n v2_c, .slice v2_d v2_m v2_e]] (by kernel_rfl) Hok.out (by kernel_rfl) (by kernel_rfl) (by kernel_rfl) (by kernel_rfl) rfl rfl rfl (by kernel_rfl) (fun w24 hb => ?_)
  have HG := Lib.hid (below_call HG.out hb)
  clear hb
  (first | (have hcall := zcmp_ar m (CR.keep Hr1.out (Keep.call HG.out)).ar (CR.keep Hv2.out (Keep.call HG.out)).ar Hm.out (by decide) (by decide); refine Calls.mono hcall ?_; clear hcall) | refine Calls.mono (zcmp_ar m (CR.keep Hr1.out (Keep.call HG.out)).ar (CR.keep Hv2.out (Keep.call HG.out)).ar Hm.out (by decide) (by decide)) ?_)
  rintro e w25 ⟨v25, rfl, ⟨⟩, hb⟩
  refine ⟨_, rfl, ?_, hb⟩
  have HG := Lib.hid (below_call HG.out hb)
  clear hb
  simp only [Act.put, List.setIfInBounds_toArray, List.set_cons_zero, List.set_cons_succ]
  refine good_pureX 14 (some 73) (Go.Op.binOp Go.BinOp.gtr 3 (Go.Operand.tmp 72) (Go.Operand.const (Go.Value.int Go.IntKind.i64 0)) 3) (some (10, false)) (.bool false) (by kernel_rfl) (by kernel_rfl) (by kernel_rfl) (fun _ _ _ h => h) (fun w' hw' => ?_) ?_
  · first | (go_simp; done) | (go_simp; simp_all; done) | (go_simp; rfl)
  simp only [Act.put, List.setIfInBounds_toArray, List.set_cons_zero, List.set_cons_succ]
  refine good_pureX 15 (some 74) (Go.Op.pick (Go.Operand.tmp 69) (Go.Operand.const (Go.Value.bool true)) (Go.Operand.tmp 73)) (none) (.bool false) (by kernel_rfl) (by kernel_rfl) (by kernel_rfl) (fun _ _ _ h => h) (fun w' hw' => ?_) ?_
  · first | (go_simp; done) | (go_simp; simp_all; done) | (go_simp; rfl)
  simp only [Act.put, List.setIfInBounds_toArray, List.set_cons_zero, List.set_cons_succ]
  refine good_end0 0 (by kernel_rfl) (fun _ w26 hb => ?_)
  have HG := Lib.hid (below_call HG.out hb)
  clear hb
  have Hr1 := Lib.hid (CR.keep Hr1.out (Keep.call HG.out))
  have Hv2 := Lib.hid (CR.keep Hv2.out (Keep.call HG.out))
  have Xa0 := Lib.hid (Box.pcall HG.out Xa0.out)
  have Xb0 := Lib.hid (Box.pcall HG.out Xb0.out)
  have Xc0 := Lib.hid (Box.pcall HG.out Xc0.out)
  have Xd0 := Lib.hid (Box.pcall HG.out Xd0.out)
  have Xe0 := Lib.hid (Box.pcall HG.out Xe0.out)
  have Xf0 := Lib.hid (Box.pcall HG.out Xf0.out)
  have Xg0 := Lib.hid (Box.pcall HG.out Xg0.out)
  have Xh0 := Lib.hid (Box.pcall HG.out Xh0.out)
  have Xi0 := Lib.hid (Box.pcall HG.out Xi0.out)
  have HB := Lib.hid (below_call HB.out HG.out)
  have HS := Lib.hid (SE.of (E := []) HG.out)
  refine wpAnyH_done (by kernel_rfl) ?_ _
  clear HG HS Hok 
  obtain ⟨ca00, ca01, ca02, fa00, fa01, fa02⟩ := Xa0.out.c3
  have la0 := Xa0.out.lt
  obtain ⟨cb00, cb01, cb02, fb00, fb01, fb02⟩ := Xb0.out.c3
  have lb0 := Xb0.out.lt
  obtain ⟨cd00, cd01, cd02, fd00, fd01, fd02⟩ := Xd0.out.c3
  have ld0 := Xd0.out.lt
  obtain ⟨ce00, ce01, ce02, fe00, fe01, fe02⟩ := Xe0.out.c3
  have le0 := Xe0.out.lt
  obtain ⟨cf00, cf01, cf02, ff00, ff01, ff02⟩ := Xf0.out.c3
  have lf0 := Xf0.out.lt
  obtain ⟨cg00, cg01, cg02, fg00, fg01, fg02⟩ := Xg0.out.c3
  have lg0 := Xg0.out.lt
  obtain ⟨ch00, ch01, ch02, fh00, fh01, fh02⟩ := Xh0.out.c3
  have lh0 := Xh0.out.lt
  obtain ⟨ci00, ci01, ci02, fi00, fi01, fi02⟩ := Xi0.out.c3
  have li0 := Xi0.out.lt
  go_wp2_with fail
  clear ca00 ca01 ca02 fa00 fa01 fa02 la0 cb00 cb01 cb02 fb00 fb01 fb02 lb0 cd00 cd01 cd02 fd00 fd01 fd02 ld0 ce00 ce01 ce02 fe00 fe01 fe02 le0 cf00 cf01 cf02 ff00 ff01 ff02 lf0 cg00 cg01 cg02 fg00 fg01 fg02 lg0 ch00 ch01 ch02 fh00 fh01 fh02 lh0 ci00 ci01 ci02 fi00 fi01 fi02 li0
  (first | (have hcall := zcmp_ar m Hr1.out.ar Hv2.out.ar Hm.out (by decide) (by decide); refine Calls.mono hcall ?_; clear hcall) | refine Calls.mono (zcmp_ar m Hr1.out.ar Hv2.out.ar Hm.out (by decide) (by decide)) ?_)
  rintro e w27 ⟨v27, rfl, ⟨⟩, hb⟩
  have Xa0 := Lib.hid (Box.pcall hb Xa0.out)
  have Xb0 := Lib.hid (Box.pcall hb Xb0.out)
  have Xc0 := Lib.hid (Box.pcall hb Xc0.out)
  have Xd0 := Lib.hid (Box.pcall hb Xd0.out)
  have Xe0 := Lib.hid (Box.pcall hb Xe0.out)
  have Xf0 := Lib.hid (Box.pcall hb Xf0.out)
  have Xg0 := Lib.hid (Box.pcall hb Xg0.out)
  have Xh0 := Lib.hid (Box.pcall hb Xh0.out)
  have Xi0 := Lib.hid (Box.pcall hb Xi0.out)
  have HB := Lib.hid (below_call HB.out hb)
  clear hb
  obtain ⟨ca00, ca01, ca02, fa00, fa01, fa02⟩ := Xa0.out.c3
  have la0 := Xa0.out.lt
  obtain ⟨cb00, cb01, cb02, fb00, fb01, fb02⟩ := Xb0.out.c3
  have lb0 := Xb0.out.lt
  obtain ⟨cd00, cd01, cd02, fd00, fd01, fd02⟩ := Xd0.out.c3
  have ld0 := Xd0.out.lt
  obtain ⟨ce00, ce01, ce02, fe00, fe01, fe02⟩ := Xe0.out.c3
  have le0 := Xe0.out.lt
  obtain ⟨cf00, cf01, cf02, ff00, ff01, ff02⟩ := Xf0.out.c3
  have lf0 := Xf0.out.lt
  obtain ⟨cg00, cg01, cg02, fg00, fg01, fg02⟩ := Xg0.out.c3
  have lg0 := Xg0.out.lt
  obtain ⟨ch00, ch01, ch02, fh00, fh01, fh02⟩ := Xh0.out.c3
  have lh0 := Xh0.out.lt
  obtain ⟨ci00, ci01, ci02, fi00, fi01, fi02⟩ := Xi0.out.c3
  have li0 := Xi0.out.lt
  go_wp2
  clear ca00 ca01 ca02 fa00 fa01 fa02 la0 cb00 cb01 cb02 fb00 fb01 fb02 lb0 cd00 cd01 cd02 fd00 fd01 fd02 ld0 ce00 ce01 ce02 fe00 fe01 fe02 le0 cf00 cf01 cf02 ff00 ff01 ff02 lf0 cg00 cg01 cg02 fg00 fg01 fg02 lg0 ch00 ch01 ch02 fh00 fh01 fh02 lh0 ci00 ci01 ci02 fi00 fi01 fi02 li0
  go_ret
  exact ⟨_, rfl, rfl, HB.out⟩


theorem RelaxBounds_all (ba : Bool) (sa : Option Addr) (na ca : Nat) (ta : Option Addr) (ma ea : Nat) (bb : Bool) (sb : Option Addr) (nb cb : Nat) (tb : Option Addr) (mb eb : Nat) (x y : Int) (w : World) (ra : Row w (.slice sa na ca) na) (ua : Row w (.slice ta ma ea) ma) (rb : Row w (.slice sb nb cb) nb) (ub : Row w (.slice tb mb eb) mb) (hx : (Lit.int .u8 x).wf = true) (hy : (Lit.int .u8 y).wf = true) : Calls Try.prog 5 #[.agg #[.bool ba, .slice sa na ca, .slice ta ma ea], .agg #[.bool bb, .slice sb nb cb, .slice tb mb eb], .int .u8 x, .int .u8 y] w (Ret w (Val (.bool true))) := by
  cases hB : ([⟨ba, sa, na, ca, ta, ma, ea⟩, ⟨bb, sb, nb, cb, tb, mb, eb⟩] : List Rw).any Rw.big
  case true => exact lbou_big hB
  have hs : na ≤ 8 ∧ ma ≤ 8 ∧ nb ≤ 8 ∧ mb ≤ 8 := by
    simp [Rw.big] at hB
    omega
  obtain ⟨qa, ha⟩ := ra.ar (b := ba) ua 8 (by omega) (by omega) (by decide)
  obtain ⟨qb, hb⟩ := rb.ar (b := bb) ub 8 (by omega) (by omega) (by decide)
  have wx := wf_u8 hx
  have wy := wf_u8 hy
  cases hu : unst qa qb
  · exact lbou_n hu hB ha hb
  have hs := unst_t hu
  have hd := unst_d hu
  obtain ⟨i1, i2⟩ := btw_in (a := qa) (b := qb) (t := x % 17) (n := 16) (by grind) (by decide) (by omega) (by omega)
  obtain ⟨u1, u2⟩ := up_ge hu i1 i2
  obtain ⟨s0, s1⟩ := share (t := y % 9) (n := 8) (by decide) (by omega) (by omega)
  have lo := low_le (p := btw qa qb (x % 17) 16) s0 s1
  have k0 : decide (0 < cmpQ (((y % 9 : Int) : Rat) / ((8 : Int) : Rat) * btw qa qb (x % 17) 16) (relu (btw qa qb (x % 17) 16))) = false := decide_eq_false (by have := cmpQ_le.2 lo; omega)
  have m0 : decide (0 < cmpQ (relu (btw qa qb (x % 17) 16)) (upQ qa qb * btw qa qb (x % 17) 16 + gapQ qa qb)) = false := decide_eq_false (by have := cmpQ_le.2 u1; omega)
  have ends : btw qa qb (x % 17) 16 = qa ∨ btw qa qb (x % 17) 16 = qb ↔ x % 17 = 0 ∨ x % 17 = 16 := by
    constructor
    · intro h
      by_cases e0 : x % 17 = 0
      · exact .inl e0
      by_cases e1 : x % 17 = 16
      · exact .inr e1
      have p := Rat.mul_pos (share_pos (t := x % 17) (n := 16) (by decide) (by omega)) hd
      have q := Rat.mul_pos (show 0 < 1 - ((x % 17 : Int) : Rat) / ((16 : Int) : Rat) by have := share_lt (t := x % 17) (n := 16) (by decide) (by omega); grind) hd
      unfold btw at h
      generalize ((x % 17 : Int) : Rat) / ((16 : Int) : Rat) = c at *
      rcases h with h | h <;> grind
    · intro h
      unfold btw
      rcases h with h | h
      · left; rw [h, show ((0 : Int) : Rat) / ((16 : Int) : Rat) = 0 by decide +kernel]; grind
      · right; rw [h, show ((16 : Int) : Rat) / ((16 : Int) : Rat) = 1 by decide +kernel]; grind
  have mz : cmpQ (relu (btw qa qb (x % 17) 16)) (upQ qa qb * btw qa qb (x % 17) 16 + gapQ qa qb) = 0 ↔ x % 17 = 0 ∨ x % 17 = 16 := cmpQ_zero.trans (u2.trans ends)
  by_cases e0 : x % 17 = 0
  · exact lbou_y0 wx.1 wx.2 wy.1 wy.2 hu _ rfl _ rfl k0 _ rfl m0 (beq_iff_eq.2 (mz.2 (.inl e0))) (beq_iff_eq.2 e0) hB ha hb
  · by_cases e1 : x % 17 = 16
    · exact lbou_y1 wx.1 wx.2 wy.1 wy.2 hu _ rfl _ rfl k0 _ rfl m0 (beq_iff_eq.2 (mz.2 (.inr e1))) (beq_eq_false_iff_ne.2 e0) (beq_iff_eq.2 e1) hB ha hb
    · exact lbou_y2 wx.1 wx.2 wy.1 wy.2 hu _ rfl _ rfl k0 _ rfl m0 (beq_eq_false_iff_ne.2 fun h => (mz.1 h).elim e0 e1) (beq_eq_false_iff_ne.2 e0) (beq_eq_false_iff_ne.2 e1) hB ha hb

set_option maxRecDepth 100000 in
set_option maxHeartbeats 4000000 in
theorem lshr_big {x y z : Int} {ba : Bool} {sa ta : Option Addr} {na ca ma ea : Nat} {bb : Bool} {sb tb : Option Addr} {nb cb mb eb : Nat}  {w : World} (hB8 : ([⟨ba, sa, na, ca, ta, ma, ea⟩, ⟨bb, sb, nb, cb, tb, mb, eb⟩] : List Rw).any Rw.big = true)  :
    Calls Try.prog 7 #[.agg #[.bool ba, .slice sa na ca, .slice ta ma ea], .agg #[.bool bb, .slice sb nb cb, .slice tb mb eb], .int .u8 x, .int .u8 y, .int .u8 z] w (Ret w (Val (.bool true))) := by
  have HB8 := Lib.hid hB8
  clear hB8
  go_enter Try.func7, Try.ntmps7
  have HB := Lib.hid (Below.refl w.heap.size w)
  go_wp2_with fail
  obtain ⟨W1, hW⟩ : ∃ W1, W1 = (World.alloc (World.alloc w (.cells #[.bool ba, .slice sa na ca, .slice ta ma ea] 25)) (.cells #[.bool bb, .slice sb nb cb, .slice tb mb eb] 25)) := ⟨_, rfl⟩
  rw [← hW]
  obtain ⟨xa0, xb0, hk, hb⟩ := boxes_2 _ _ _ _ _ hW
  clear hW
  have Ga0 := Lib.hid (show w.heap.size ≤ w.heap.size from Nat.le_trans HB.out.size (by omega))
  have Gb0 := Lib.hid (show w.heap.size ≤ w.heap.size + 1 from Nat.le_trans HB.out.size (by omega))
  have Xa0 := Lib.hid xa0
  have Xb0 := Lib.hid xb0
  have HB := Lib.hid (below_call HB.out hb)
  clear hk hb xa0 xb0
  refine Calls.mono (awake25) ?_
  rintro e w2 ⟨v2, rfl, rfl, hb⟩
  have Xa0 := Lib.hid (Box.pcall hb Xa0.out)
  have Xb0 := Lib.hid (Box.pcall hb Xb0.out)
  have HB := Lib.hid (below_call HB.out hb)
  clear hb
  obtain ⟨ca00, ca01, ca02, fa00, fa01, fa02⟩ := Xa0.out.c3
  have la0 := Xa0.out.lt
  obtain ⟨cb00, cb01, cb02, fb00, fb01, fb02⟩ := Xb0.out.c3
  have lb0 := Xb0.out.lt
  go_wp2_with fail
  clear ca00 ca01 ca02 fa00 fa01 fa02 la0 cb00 cb01 cb02 fb00 fb01 fb02 lb0
  obtain ⟨W3, hW⟩ : ∃ W3, W3 = (World.alloc w2 (.cells #[.bool ba, .slice sa na ca, .slice ta ma ea, .bool bb, .slice sb nb cb, .slice tb mb eb] 25)) := ⟨_, rfl⟩
  rw [← hW]
  obtain ⟨xc0, hk, hb⟩ := boxes_1 _ _ _ hW
  clear hW
  have Na0c0 := Lib.hid (show w.heap.size ≠ w2.heap.size from Nat.ne_of_lt (Nat.lt_of_lt_of_le Xa0.out.lt (by omega)))
  have Nb0c0 := Lib.hid (show w.heap.size + 1 ≠ w2.heap.size from Nat.ne_of_lt (Nat.lt_of_lt_of_le Xb0.out.lt (by omega)))
  have Gc0 := Lib.hid (show w.heap.size ≤ w2.heap.size from Nat.le_trans HB.out.size (by omega))
  have Xa0 := Lib.hid (Box.pcall hb Xa0.out)
  have Xb0 := Lib.hid (Box.pcall hb Xb0.out)
  have Xc0 := Lib.hid xc0
  have HB := Lib.hid (below_call HB.out hb)
  clear hk hb xc0
  refine Calls.mono (large2 Xc0.out HB8.out) ?_
  rintro e w4 ⟨v4, rfl, rfl, hb⟩
  have Xa0 := Lib.hid (Box.pcall hb Xa0.out)
  have Xb0 := Lib.hid (Box.pcall hb Xb0.out)
  have Xc0 := Lib.hid (Box.pcall hb Xc0.out)
  have HB := Lib.hid (below_call HB.out hb)
  clear hb
  obtain ⟨ca00, ca01, ca02, fa00, fa01, fa02⟩ := Xa0.out.c3
  have la0 := Xa0.out.lt
  obtain ⟨cb00, cb01, cb02, fb00, fb01, fb02⟩ := Xb0.out.c3
  have lb0 := Xb0.out.lt
  go_wp2
  clear ca00 ca01 ca02 fa00 fa01 fa02 la0 cb00 cb01 cb02 fb00 fb01 fb02 lb0
  go_ret
  exact ⟨_, rfl, rfl, HB.out⟩


set_option maxRecDepth 100000 in
set_option maxHeartbeats 4000000 in
theorem lshr_n {x y z : Int} {qa : Rat} {ba : Bool} {sa ta : Option Addr} {na ca ma ea : Nat} {qb : Rat} {bb : Bool} {sb tb : Option Addr} {nb cb mb eb : Nat}  {w : World} (hu : unst qa qb = false) (hB8 : ([⟨ba, sa, na, ca, ta, ma, ea⟩, ⟨bb, sb, nb, cb, tb, mb, eb⟩] : List Rw).any Rw.big = false) (ha : AR qa 8 w (.agg #[.bool ba, .slice sa na ca, .slice ta ma ea])) (hb : AR qb 8 w (.agg #[.bool bb, .slice sb nb cb, .slice tb mb eb])) :
    Calls Try.prog 7 #[.agg #[.bool ba, .slice sa na ca, .slice ta ma ea], .agg #[.bool bb, .slice sb nb cb, .slice tb mb eb], .int .u8 x, .int .u8 y, .int .u8 z] w (Ret w (Val (.bool true))) := by
  have Ha := Lib.hid ha
  have Hb := Lib.hid hb
  have HB8 := Lib.hid hB8
  have Hu := Lib.hid hu
  clear ha hb hB8 hu
  go_enter Try.func7, Try.ntmps7
  have HB := Lib.hid (Below.refl w.heap.size w)
  go_wp2_with fail
  obtain ⟨W1, hW⟩ : ∃ W1, W1 = (World.alloc (World.alloc w (.cells #[.bool ba, .slice sa na ca, .slice ta ma ea] 25)) (.cells #[.bool bb, .slice sb nb cb, .slice tb mb eb] 25)) := ⟨_, rfl⟩
  rw [← hW]
  obtain ⟨xa0, xb0, hk, hb⟩ := boxes_2 _ _ _ _ _ hW
  clear hW
  have Ha := Lib.hid (AR.keep Ha.out hk)
  have Hb := Lib.hid (AR.keep Hb.out hk)
  have Ga0 := Lib.hid (show w.heap.size ≤ w.heap.size from Nat.le_trans HB.out.size (by omega))
  have Gb0 := Lib.hid (show w.heap.size ≤ w.heap.size + 1 from Nat.le_trans HB.out.size (by omega))
  have Xa0 := Lib.hid xa0
  have Xb0 := Lib.hid xb0
  have HB := Lib.hid (below_call HB.out hb)
  clear hk hb xa0 xb0
  refine Calls.mono (awake25) ?_
  rintro e w2 ⟨v2, rfl, rfl, hb⟩
  have Ha := Lib.hid (AR.keep Ha.out (Keep.call hb))
  have Hb := Lib.hid (AR.keep Hb.out (Keep.call hb))
  have Xa0 := Lib.hid (Box.pcall hb Xa0.out)
  have Xb0 := Lib.hid (Box.pcall hb Xb0.out)
  have HB := Lib.hid (below_call HB.out hb)
  clear hb
  obtain ⟨ca00, ca01, ca02, fa00, fa01, fa02⟩ := Xa0.out.c3
  have la0 := Xa0.out.lt
  obtain ⟨cb00, cb01, cb02, fb00, fb01, fb02⟩ := Xb0.out.c3
  have lb0 := Xb0.out.lt
  go_wp2_with fail
  clear ca00 ca01 ca02 fa00 fa01 fa02 la0 cb00 cb01 cb02 fb00 fb01 fb02 lb0
  obtain ⟨W3, hW⟩ : ∃ W3, W3 = (World.alloc w2 (.cells #[.bool ba, .slice sa na ca, .slice ta ma ea, .bool bb, .slice sb nb cb, .slice tb mb eb] 25)) := ⟨_, rfl⟩
  rw [← hW]
  obtain ⟨xc0, hk, hb⟩ := boxes_1 _ _ _ hW
  clear hW
  have Ha := Lib.hid (AR.keep Ha.out hk)
  have Hb := Lib.hid (AR.keep Hb.out hk)
  have Na0c0 := Lib.hid (show w.heap.size ≠ w2.heap.size from Nat.ne_of_lt (Nat.lt_of_lt_of_le Xa0.out.lt (by omega)))
  have Nb0c0 := Lib.hid (show w.heap.size + 1 ≠ w2.heap.size from Nat.ne_of_lt (Nat.lt_of_lt_of_le Xb0.out.lt (by omega)))
  have Gc0 := Lib.hid (show w.heap.size ≤ w2.heap.size from Nat.le_trans HB.out.size (by omega))
  have Xa0 := Lib.hid (Box.pcall hb Xa0.out)
  have Xb0 := Lib.hid (Box.pcall hb Xb0.out)
  have Xc0 := Lib.hid xc0
  have HB := Lib.hid (below_call HB.out hb)
  clear hk hb xc0
  refine Calls.mono (large2 Xc0.out HB8.out) ?_
  rintro e w4 ⟨v4, rfl, rfl, hb⟩
  have Ha := Lib.hid (AR.keep Ha.out (Keep.call hb))
  have Hb := Lib.hid (AR.keep Hb.out (Keep.call hb))
  have Xa0 := Lib.hid (Box.pcall hb Xa0.out)
  have Xb0 := Lib.hid (Box.pcall hb Xb0.out)
  have Xc0 := Lib.hid (Box.pcall hb Xc0.out)
  have HB := Lib.hid (below_call HB.out hb)
  clear hb
  obtain ⟨ca00, ca01, ca02, fa00, fa01, fa02⟩ := Xa0.out.c3
  have la0 := Xa0.out.lt
  obtain ⟨cb00, cb01, cb02, fb00, fb01, fb02⟩ := Xb0.out.c3
  have lb0 := Xb0.out.lt
  go_wp2_with fail
  clear ca00 ca01 ca02 fa00 fa01 fa02 la0 cb00 cb01 cb02 fb00 fb01 fb02 lb0
  (first | (have hcall := zluns_ar Hu.out Ha.out Hb.out (by decide); refine Calls.mono hcall ?_; clear hcall) | refine Calls.mono (zluns_ar Hu.out Ha.out Hb.out (by decide)) ?_)
  rintro e w5 ⟨v5, rfl, rfl, hb⟩
  have Xa0 := Lib.hid (Box.pcall hb Xa0.out)
  have Xb0 := Lib.hid (Box.pcall hb Xb0.out)
  have Xc0 := Lib.hid (Box.pcall hb Xc0.out)
  have HB := Lib.hid (below_call HB.out hb)
  clear hb
  obtain ⟨ca00, ca01, ca02, fa00, fa01, fa02⟩ := Xa0.out.c3
  have la0 := Xa0.out.lt
  obtain ⟨cb00, cb01, cb02, fb00, fb01, fb02⟩ := Xb0.out.c3
  have lb0 := Xb0.out.lt
  go_wp2
  clear ca00 ca01 ca02 fa00 fa01 fa02 la0 cb00 cb01 cb02 fb00 fb01 fb02 lb0
  go_ret
  exact ⟨_, rfl, rfl, HB.out⟩


set_option maxRecDepth 100000 in
set_option maxHeartbeats 4000000 in
theorem lshr_y {x y z : Int} {qa : Rat} {ba : Bool} {sa ta : Option Addr} {na ca ma ea : Nat} {qb : Rat} {bb : Bool} {sb tb : Option Addr} {nb cb mb eb : Nat}  {w : World} (x0 : 0 ≤ x) (x1 : x < 256) (y0 : 0 ≤ y) (y1 : y < 256) (z0 : 0 ≤ z) (z1 : z < 256) (hu : unst qa qb = true) (hu2 : unst (btw qa 0 (x % 8) 8) (btw 0 qb (1 + y % 8) 8) = true) (j : Int) (hj : slopeQ qa qb = j) (i : Int) (hi : slopeQ (btw qa 0 (x % 8) 8) (btw 0 qb (1 + y % 8) 8) = i) (m : Int) (hm : cmpQ (upQ (btw qa 0 (x % 8) 8) (btw 0 qb (1 + y % 8) 8) * (btw (btw qa 0 (x % 8) 8) (btw 0 qb (1 + y % 8) 8) (z % 17) 16) + gapQ (btw qa 0 (x % 8) 8) (btw 0 qb (1 + y % 8) 8)) (upQ qa qb * (btw (btw qa 0 (x % 8) 8) (btw 0 qb (1 + y % 8) 8) (z % 17) 16) + gapQ qa qb) = m) (hm0 : decide (m ≤ 0) = true) (n : Int) (hn : cmpQ (gapQ (btw qa 0 (x % 8) 8) (btw 0 qb (1 + y % 8) 8)) (gapQ qa qb) = n) (hn0 : decide (n ≤ 0) = true) (hB8 : ([⟨ba, sa, na, ca, ta, ma, ea⟩, ⟨bb, sb, nb, cb, tb, mb, eb⟩] : List Rw).any Rw.big = false) (ha : AR qa 8 w (.agg #[.bool ba, .slice sa na ca, .slice ta ma ea])) (hb : AR qb 8 w (.agg #[.bool bb, .slice sb nb cb, .slice tb mb eb])) :
    Calls Try.prog 7 #[.agg #[.bool ba, .slice sa na ca, .slice ta ma ea], .agg #[.bool bb, .slice sb nb cb, .slice tb mb eb], .int .u8 x, .int .u8 y, .int .u8 z] w (Ret w (Val (.bool true))) := by
  have Ha := Lib.hid ha
  have Hb := Lib.hid hb
  have HB8 := Lib.hid hB8
  have Hu := Lib.hid hu
  have Hu2 := Lib.hid hu2
  have Hj := Lib.hid hj
  have Hi := Lib.hid hi
  have Hm := Lib.hid hm
  have Hn := Lib.hid hn
  clear ha hb hB8 hu hu2 hj hi hm hn
  have hrx : x.tmod 8 = x % 8 := (by first | exact Int.tmod_eq_emod_of_nonneg x0 | omega)
  have hry : y.tmod 8 = y % 8 := (by first | exact Int.tmod_eq_emod_of_nonneg y0 | omega)
  have hw1 : IntKind.i64.wrap (x % 8) = x % 8 := IntWalk.i64_in _ (by omega)
  have hw2 : IntKind.i64.wrap (y % 8) = y % 8 := IntWalk.i64_in _ (by omega)
  have hw3 : IntKind.i64.wrap (1 + y % 8) = 1 + y % 8 := IntWalk.i64_in _ (by omega)
  go_enter Try.func7, Try.ntmps7
  have HB := Lib.hid (Below.refl w.heap.size w)
  go_wp2_with fail
  obtain ⟨W1, hW⟩ : ∃ W1, W1 = (World.alloc (World.alloc w (.cells #[.bool ba, .slice sa na ca, .slice ta ma ea] 25)) (.cells #[.bool bb, .slice sb nb cb, .slice tb mb eb] 25)) := ⟨_, rfl⟩
  rw [← hW]
  obtain ⟨xa0, xb0, hk, hb⟩ := boxes_2 _ _ _ _ _ hW
  clear hW
  have Ha := Lib.hid (AR.keep Ha.out hk)
  have Hb := Lib.hid (AR.keep Hb.out hk)
  have Ga0 := Lib.hid (show w.heap.size ≤ w.heap.size from Nat.le_trans HB.out.size (by omega))
  have Gb0 := Lib.hid (show w.heap.size ≤ w.heap.size + 1 from Nat.le_trans HB.out.size (by omega))
  have Xa0 := Lib.hid xa0
  have Xb0 := Lib.hid xb0
  have HB := Lib.hid (below_call HB.out hb)
  clear hk hb xa0 xb0
  refine Calls.mono (awake25) ?_
  rintro e w2 ⟨v2, rfl, rfl, hb⟩
  have Ha := Lib.hid (AR.keep Ha.out (Keep.call hb))
  have Hb := Lib.hid (AR.keep Hb.out (Keep.call hb))
  have Xa0 := Lib.hid (Box.pcall hb Xa0.out)
  have Xb0 := Lib.hid (Box.pcall hb Xb0.out)
  have HB := Lib.hid (below_call HB.out hb)
  clear hb
  obtain ⟨ca00, ca01, ca02, fa00, fa01, fa02⟩ := Xa0.out.c3
  have la0 := Xa0.out.lt
  obtain ⟨cb00, cb01, cb02, fb00, fb01, fb02⟩ := Xb0.out.c3
  have lb0 := Xb0.out.lt
  go_wp2_with fail
  clear ca00 ca01 ca02 fa00 fa01 fa02 la0 cb00 cb01 cb02 fb00 fb01 fb02 lb0
  obtain ⟨W3, hW⟩ : ∃ W3, W3 = (World.alloc w2 (.cells #[.bool ba, .slice sa na ca, .slice ta ma ea, .bool bb, .slice sb nb cb, .slice tb mb eb] 25)) := ⟨_, rfl⟩
  rw [← hW]
  obtain ⟨xc0, hk, hb⟩ := boxes_1 _ _ _ hW
  clear hW
  have Ha := Lib.hid (AR.keep Ha.out hk)
  have Hb := Lib.hid (AR.keep Hb.out hk)
  have Na0c0 := Lib.hid (show w.heap.size ≠ w2.heap.size from Nat.ne_of_lt (Nat.lt_of_lt_of_le Xa0.out.lt (by omega)))
  have Nb0c0 := Lib.hid (show w.heap.size + 1 ≠ w2.heap.size from Nat.ne_of_lt (Nat.lt_of_lt_of_le Xb0.out.lt (by omega)))
  have Gc0 := Lib.hid (show w.heap.size ≤ w2.heap.size from Nat.le_trans HB.out.size (by omega))
  have Xa0 := Lib.hid (Box.pcall hb Xa0.out)
  have Xb0 := Lib.hid (Box.pcall hb Xb0.out)
  have Xc0 := Lib.hid xc0
  have HB := Lib.hid (below_call HB.out hb)
  clear hk hb xc0
  refine Calls.mono (large2 Xc0.out HB8.out) ?_
  rintro e w4 ⟨v4, rfl, rfl, hb⟩
  have Ha := Lib.hid (AR.keep Ha.out (Keep.call hb))
  have Hb := Lib.hid (AR.keep Hb.out (Keep.call hb))
  have Xa0 := Lib.hid (Box.pcall hb Xa0.out)
  have Xb0 := Lib.hid (Box.pcall hb Xb0.out)
  have Xc0 := Lib.hid (Box.pcall hb Xc0.out)
  have HB := Lib.hid (below_call HB.out hb)
  clear hb
  obtain ⟨ca00, ca01, ca02, fa00, fa01, fa02⟩ := Xa0.out.c3
  have la0 := Xa0.out.lt
  obtain ⟨cb00, cb01, cb02, fb00, fb01, fb02⟩ := Xb0.out.c3
  have lb0 := Xb0.out.lt
  go_wp2_with fail
  clear ca00 ca01 ca02 fa00 fa01 fa02 la0 cb00 cb01 cb02 fb00 fb01 fb02 lb0
  (first | (have hcall := zluns_ar Hu.out Ha.out Hb.out (by decide); refine Calls.mono hcall ?_; clear hcall) | refine Calls.mono (zluns_ar Hu.out Ha.out Hb.out (by decide)) ?_)
  rintro e w5 ⟨v5, rfl, rfl, hb⟩
  have Ha := Lib.hid (AR.keep Ha.out (Keep.call hb))
  have Hb := Lib.hid (AR.keep Hb.out (Keep.call hb))
  have Xa0 := Lib.hid (Box.pcall hb Xa0.out)
  have Xb0 := Lib.hid (Box.pcall hb Xb0.out)
  have Xc0 := Lib.hid (Box.pcall hb Xc0.out)
  have HB := Lib.hid (below_call HB.out hb)
  clear hb
  obtain ⟨ca00, ca01, ca02, fa00, fa01, fa02⟩ := Xa0.out.c3
  have la0 := Xa0.out.lt
  obtain ⟨cb00, cb01, cb02, fb00, fb01, fb02⟩ := Xb0.out.c3
  have lb0 := Xb0.out.lt
  go_wp2_with fail
  clear ca00 ca01 ca02 fa00 fa01 fa02 la0 cb00 cb01 cb02 fb00 fb01 fb02 lb0
  obtain ⟨W6, hW⟩ : ∃ W6, W6 = (World.alloc w5 (.cells #[.bool false, .slice none 0 0, .slice none 0 0] 25)) := ⟨_, rfl⟩
  rw [← hW]
  obtain ⟨xd0, hk, hb⟩ := boxes_1 _ _ _ hW
  clear hW
  have Ha := Lib.hid (AR.keep Ha.out hk)
  have Hb := Lib.hid (AR.keep Hb.out hk)
  have Na0d0 := Lib.hid (show w.heap.size ≠ w5.heap.size from Nat.ne_of_lt (Nat.lt_of_lt_of_le Xa0.out.lt (by omega)))
  have Nb0d0 := Lib.hid (show w.heap.size + 1 ≠ w5.heap.size from Nat.ne_of_lt (Nat.lt_of_lt_of_le Xb0.out.lt (by omega)))
  have Nc0d0 := Lib.hid (show w2.heap.size ≠ w5.heap.size from Nat.ne_of_lt (Nat.lt_of_lt_of_le Xc0.out.lt (by omega)))
  have Gd0 := Lib.hid (show w.heap.size ≤ w5.heap.size from Nat.le_trans HB.out.size (by omega))
  have Xa0 := Lib.hid (Box.pcall hb Xa0.out)
  have Xb0 := Lib.hid (Box.pcall hb Xb0.out)
  have Xc0 := Lib.hid (Box.pcall hb Xc0.out)
  have Xd0 := Lib.hid xd0
  have HB := Lib.hid (below_call HB.out hb)
  clear hk hb xd0
  have Ha := Lib.hid (AR.keep Ha.out (Keep.drew W6))
  have Hb := Lib.hid (AR.keep Hb.out (Keep.drew W6))
  have Xa0 := Lib.hid (Box.drew Xa0.out)
  have Xb0 := Lib.hid (Box.drew Xb0.out)
  have Xc0 := Lib.hid (Box.drew Xc0.out)
  have Xd0 := Lib.hid (Box.drew Xd0.out)
  have HB := Lib.hid (Below.drew HB.out)
  refine wp_region_float [] [⟨13, 12, 25, #[.bool false, .slice none 0 0, .slice none 0 0]⟩, ⟨14, 13, 25, #[.bool false, .slice none 0 0, .slice none 0 0]⟩] (by kernel_rfl) (by kernel_rfl) 105 (by kernel_rfl) (Flok.cons (Flok.one (by kernel_rfl) (by kernel_rfl) (by kernel_rfl) (by intro w; go_simp)) (Flok.one (by kernel_rfl) (by kernel_rfl) (by kernel_rfl) (by intro w; go_simp)) (by kernel_rfl)) ?_
  intro ok
  have Hok := Lib.hid ok
  clear ok
  have HG := Lib.hid (Below.refl (W6.drew).heap.size (W6.drew))
  refine good_pureX 0 (some 38) (Go.Op.load 25 (Go.Operand.tmp 5)) (none) (.agg #[.bool ba, .slice sa na ca, .slice ta ma ea]) (by kernel_rfl) (by kernel_rfl) (by kernel_rfl) (fun _ _ _ h => h) (fun w' hw' => ?_) ?_
  · obtain ⟨ca00, ca01, ca02, fa00, fa01, fa02⟩ := (Box.se hw' Xa0.out notin0).c3
    first | (go_simp; done) | (go_simp; simp_all; done) | (go_simp; rfl)
  simp only [Act.put, List.setIfInBounds_toArray, List.set_cons_zero, List.set_cons_succ]
  refine good_pureX 1 (some 39) (Go.Op.load 25 (Go.Operand.tmp 11)) (none) (.agg #[.bool false, .slice none 0 0, .slice none 0 0]) (by kernel_rfl) (by kernel_rfl) (by kernel_rfl) (fun _ _ _ h => h) (fun w' hw' => ?_) ?_
  · obtain ⟨cd00, cd01, cd02, fd00, fd01, fd02⟩ := (Box.se hw' Xd0.out notin0).c3
    first | (go_simp; done) | (go_simp; simp_all; done) | (go_simp; rfl)
  simp only [Act.put, List.setIfInBounds_toArray, List.set_cons_zero, List.set_cons_succ]
  refine good_pureX 2 (some 40) (Go.Op.move (Go.Operand.tmp 2)) (none) (.int .u8 x) (by kernel_rfl) (by kernel_rfl) (by kernel_rfl) (fun _ _ _ h => h) (fun w' hw' => ?_) ?_
  · first | (go_simp; done) | (go_simp; simp_all; done) | (go_simp; rfl)
  simp only [Act.put, List.setIfInBounds_toArray, List.set_cons_zero, List.set_cons_succ]
  refine good_pureX 3 (some 41) (Go.Op.binOp Go.BinOp.rem 5 (Go.Operand.tmp 40) (Go.Operand.const (Go.Value.int Go.IntKind.u8 8)) 5) (none) (.int .u8 (x % 8)) (by kernel_rfl) (by kernel_rfl) (by kernel_rfl) (fun _ _ _ h => h) (fun w' hw' => ?_) ?_
  · first | (go_simp; done) | (go_simp; simp_all; done) | (go_simp; rfl)
  simp only [Act.put, List.setIfInBounds_toArray, List.set_cons_zero, List.set_cons_succ]
  refine good_pureX 4 (some 42) (Go.Op.convert 5 3 (Go.Operand.tmp 41)) (none) (.int .i64 (x % 8)) (by kernel_rfl) (by kernel_rfl) (by kernel_rfl) (fun _ _ _ h => h) (fun w' hw' => ?_) ?_
  · first | (go_simp; done) | (go_simp; simp_all; done) | (go_simp; rfl)
  simp only [Act.put, List.setIfInBounds_toArray, List.set_cons_zero, List.set_cons_succ]
  refine good_pureX 6 (some 44) (Go.Op.load 25 (Go.Operand.tmp 11)) (none) (.agg #[.bool false, .slice none 0 0, .slice none 0 0]) (by kernel_rfl) (by kernel_rfl) (by kernel_rfl) (fun _ _ _ h => h) (fun w' hw' => ?_) ?_
  · obtain ⟨cd00, cd01, cd02, fd00, fd01, fd02⟩ := (Box.se hw' Xd0.out notin0).c3
    first | (go_simp; done) | (go_simp; simp_all; done) | (go_simp; rfl)
  simp only [Act.put, List.setIfInBounds_toArray, List.set_cons_zero, List.set_cons_succ]
  refine good_pureX 7 (some 45) (Go.Op.load 25 (Go.Operand.tmp 6)) (none) (.agg #[.bool bb, .slice sb nb cb, .slice tb mb eb]) (by kernel_rfl) (by kernel_rfl) (by kernel_rfl) (fun _ _ _ h => h) (fun w' hw' => ?_) ?_
  · obtain ⟨cb00, cb01, cb02, fb00, fb01, fb02⟩ := (Box.se hw' Xb0.out notin0).c3
    first | (go_simp; done) | (go_simp; simp_all; done) | (go_simp; rfl)
  simp only [Act.put, List.setIfInBounds_toArray, List.set_cons_zero, List.set_cons_succ]
  refine good_pureX 8 (some 46) (Go.Op.move (Go.Operand.tmp 3)) (none) (.int .u8 y) (by kernel_rfl) (by kernel_rfl) (by kernel_rfl) (fun _ _ _ h => h) (fun w' hw' => ?_) ?_
  · first | (go_simp; done) | (go_simp; simp_all; done) | (go_simp; rfl)
  simp only [Act.put, List.setIfInBounds_toArray, List.set_cons_zero, List.set_cons_succ]
  refine good_pureX 9 (some 47) (Go.Op.binOp Go.BinOp.rem 5 (Go.Operand.tmp 46) (Go.Operand.const (Go.Value.int Go.IntKind.u8 8)) 5) (none) (.int .u8 (y % 8)) (by kernel_rfl) (by kernel_rfl) (by kernel_rfl) (fun _ _ _ h => h) (fun w' hw' => ?_) ?_
  · first | (go_simp; done) | (go_simp; simp_all; done) | (go_simp; rfl)
  simp only [Act.put, List.setIfInBounds_toArray, List.set_cons_zero, List.set_cons_succ]
  refine good_pureX 10 (some 48) (Go.Op.convert 5 3 (Go.Operand.tmp 47)) (none) (.int .i64 (y % 8)) (by kernel_rfl) (by kernel_rfl) (by kernel_rfl) (fun _ _ _ h => h) (fun w' hw' => ?_) ?_
  · first | (go_simp; done) | (go_simp; simp_all; done) | (go_simp; rfl)
  simp only [Act.put, List.setIfInBounds_toArray, List.set_cons_zero, List.set_cons_succ]
  refine good_pureX 11 (some 49) (Go.Op.binOp Go.BinOp.add 3 (Go.Operand.const (Go.Value.int Go.IntKind.i64 1)) (Go.Operand.tmp 48) 3) (none) (.int .i64 (1 + y % 8)) (by kernel_rfl) (by kernel_rfl) (by kernel_rfl) (fun _ _ _ h => h) (fun w' hw' => ?_) ?_
  · first | (go_simp; done) | (go_simp; simp_all; done) | (go_simp; rfl)
  simp only [Act.put, List.setIfInBounds_toArray, List.set_cons_zero, List.set_cons_succ]
  refine good_callX 5 25 (some 43) #[Go.Operand.tmp 38, Go.Operand.tmp 39, Go.Operand.tmp 42, Go.Operand.const (Go.Value.int Go.IntKind.i64 8)] #[25, 25, 3, 3] (none) #[.agg #[.bool ba, .slice sa na ca, .slice ta ma ea], .agg #[.bool false, .slice none 0 0, .slice none 0 0], .int .i64 (x % 8), .int .i64 8] (by kernel_rfl) Hok.out (by kernel_rfl) (by kernel_rfl) (by kernel_rfl) (by kernel_rfl) rfl rfl rfl (by kernel_rfl) (fun w7 hb => ?_)
  have HG := Lib.hid (below_call HG.out hb)
  clear hb
  refine Calls.mono (btw_ar (x % 8) 8 (by omega) (by omega) (by decide) (by decide) (by decide) (AR.keep Ha.out (Keep.call HG.out)) (AR.mono (CR.zero _).ar (by decide)) (by decide)) ?_
  rintro e w8 ⟨v8, rfl, hl1, hb⟩
  obtain ⟨l1_b, l1_a, l1_n, l1_c, l1_d, l1_m, l1_e, rfl⟩ := hl1.litb
  refine ⟨_, rfl, ?_, hb⟩
  have HG := Lib.hid (below_call HG.out hb)
  have Hl1 := Lib.hid hl1
  clear hb hl1
  simp only [Act.put, List.setIfInBounds_toArray, List.set_cons_zero, List.set_cons_succ]
  refine good_callX 12 25 (some 50) #[Go.Operand.tmp 44, Go.Operand.tmp 45, Go.Operand.tmp 49, Go.Operand.const (Go.Value.int Go.IntKind.i64 8)] #[25, 25, 3, 3] (none) #[.agg #[.bool false, .slice none 0 0, .slice none 0 0], .agg #[.bool bb, .slice sb nb cb, .slice tb mb eb], .int .i64 (1 + y % 8), .int .i64 8] (by kernel_rfl) Hok.out (by kernel_rfl) (by kernel_rfl) (by kernel_rfl) (by kernel_rfl) rfl rfl rfl (by kernel_rfl) (fun w9 hb => ?_)
  have Hl1 := Lib.hid (CR.keep Hl1.out (Keep.call hb))
  have HG := Lib.hid (below_call HG.out hb)
  clear hb
  refine Calls.mono (btw_ar (1 + y % 8) 8 (by omega) (by omega) (by decide) (by decide) (by decide) (AR.mono (CR.zero _).ar (by decide)) (AR.keep Hb.out (Keep.call HG.out)) (by decide)) ?_
  rintro e w10 ⟨v10, rfl, hu1, hb⟩
  obtain ⟨u1_b, u1_a, u1_n, u1_c, u1_d, u1_m, u1_e, rfl⟩ := hu1.litb
  refine ⟨_, rfl, ?_, hb⟩
  have Hl1 := Lib.hid (CR.keep Hl1.out (Keep.call hb))
  have HG := Lib.hid (below_call HG.out hb)
  have Hu1 := Lib.hid hu1
  clear hb hu1
  simp only [Act.put, List.setIfInBounds_toArray, List.set_cons_zero, List.set_cons_succ]
  refine good_end2 2 Hok.out (by kernel_rfl) (by kernel_rfl) (by kernel_rfl) (by kernel_rfl) (by kernel_rfl) (fun _ ge0 gf0 w11 hb ee0 ef0 hne xe0 xf0 => ?_)
  have Hl1 := Lib.hid (CR.keep Hl1.out (Keep.call hb))
  have Hu1 := Lib.hid (CR.keep Hu1.out (Keep.call hb))
  have HG := Lib.hid (below_call HG.out hb)
  clear hb
  have Na0e0 := Lib.hid (show w.heap.size ≠ ge0 from Nat.ne_of_lt (Nat.lt_of_lt_of_le Xa0.out.lt ee0))
  have Nb0e0 := Lib.hid (show w.heap.size + 1 ≠ ge0 from Nat.ne_of_lt (Nat.lt_of_lt_of_le Xb0.out.lt ee0))
  have Nc0e0 := Lib.hid (show w2.heap.size ≠ ge0 from Nat.ne_of_lt (Nat.lt_of_lt_of_le Xc0.out.lt ee0))
  have Nd0e0 := Lib.hid (show w5.heap.size ≠ ge0 from Nat.ne_of_lt (Nat.lt_of_lt_of_le Xd0.out.lt ee0))
  have Ge0 := Lib.hid (show w.heap.size ≤ ge0 from Nat.le_trans HB.out.size ee0)
  have Ee0 := Lib.hid ee0
  clear ee0
  have Na0f0 := Lib.hid (show w.heap.size ≠ gf0 from Nat.ne_of_lt (Nat.lt_of_lt_of_le Xa0.out.lt ef0))
  have Nb0f0 := Lib.hid (show w.heap.size + 1 ≠ gf0 from Nat.ne_of_lt (Nat.lt_of_lt_of_le Xb0.out.lt ef0))
  have Nc0f0 := Lib.hid (show w2.heap.size ≠ gf0 from Nat.ne_of_lt (Nat.lt_of_lt_of_le Xc0.out.lt ef0))
  have Nd0f0 := Lib.hid (show w5.heap.size ≠ gf0 from Nat.ne_of_lt (Nat.lt_of_lt_of_le Xd0.out.lt ef0))
  have Gf0 := Lib.hid (show w.heap.size ≤ gf0 from Nat.le_trans HB.out.size ef0)
  have Ef0 := Lib.hid ef0
  clear ef0
  have Ha := Lib.hid (AR.keep Ha.out (Keep.call HG.out))
  have Hb := Lib.hid (AR.keep Hb.out (Keep.call HG.out))
  have Xa0 := Lib.hid (Box.pcall HG.out Xa0.out)
  have Xb0 := Lib.hid (Box.pcall HG.out Xb0.out)
  have Xc0 := Lib.hid (Box.pcall HG.out Xc0.out)
  have Xd0 := Lib.hid (Box.pcall HG.out Xd0.out)
  have HB := Lib.hid (below_call HB.out HG.out)
  have HS := Lib.hid (SE.of (E := []) HG.out)
  have Ne0f0 := Lib.hid hne
  clear hne
  have Xe0 := Lib.hid xe0
  clear xe0
  have Xf0 := Lib.hid xf0
  clear xf0
  simp only [Act.put, List.setIfInBounds_toArray, List.set_cons_zero, List.set_cons_succ]
  refine held_oneX 15 (Go.Op.store 25 (Go.Operand.tmp 12) (Go.Operand.tmp 43)) (none) (World.setCell (World.setCell (World.setCell w11 ⟨ge0, 0, none⟩ (.bool l1_b)) ⟨ge0, 1, none⟩ (.slice l1_a l1_n l1_c)) ⟨ge0, 2, none⟩ (.slice l1_d l1_m l1_e)) (by kernel_rfl) (by kernel_rfl) (by kernel_rfl) (by kernel_rfl) ?_ (HS.out.store3 (.inr Ee0.out)) ?_
  · obtain ⟨ce00, ce01, ce02, fe00, fe01, fe02⟩ := Xe0.out.c3
    first | (go_simp; done) | (go_simp; simp_all; done) | (go_simp; rfl)
  obtain ⟨W12, hW⟩ : ∃ W12, W12 = (World.setCell (World.setCell (World.setCell w11 ⟨ge0, 0, none⟩ (.bool l1_b)) ⟨ge0, 1, none⟩ (.slice l1_a l1_n l1_c)) ⟨ge0, 2, none⟩ (.slice l1_d l1_m l1_e)) := ⟨_, rfl⟩
  rw [← hW]
  obtain ⟨xe0, hk, hf, hbb, hz⟩ := stored3s hW Xe0.out (by first | exact NoInt.bool _ | exact NoInt.slice _ _ _) (by first | exact NoInt.bool _ | exact NoInt.slice _ _ _) (by first | exact NoInt.bool _ | exact NoInt.slice _ _ _)
  have Ha := Lib.hid (AR.keep Ha.out hk)
  have Hb := Lib.hid (AR.keep Hb.out hk)
  have Hl1 := Lib.hid (CR.keep Hl1.out hk)
  have Hu1 := Lib.hid (CR.keep Hu1.out hk)
  have Xa0 := Lib.hid (hf _ _ _ Xa0.out Na0e0.out)
  have Xb0 := Lib.hid (hf _ _ _ Xb0.out Nb0e0.out)
  have Xc0 := Lib.hid (hf _ _ _ Xc0.out Nc0e0.out)
  have Xd0 := Lib.hid (hf _ _ _ Xd0.out Nd0e0.out)
  have Xe0 := Lib.hid xe0
  have Xf0 := Lib.hid (hf _ _ _ Xf0.out Ne0f0.out.symm)
  have HB := Lib.hid (hbb _ HB.out Ge0.out)
  have HS := Lib.hid (show SE (W6.drew) [] W12 from by rw [hW]; exact HS.out.store3 (.inr Ee0.out))
  clear hW hk hf hbb xe0
  clear hz
  refine held_oneX 16 (Go.Op.store 25 (Go.Operand.tmp 13) (Go.Operand.tmp 50)) (none) (World.setCell (World.setCell (World.setCell W12 ⟨gf0, 0, none⟩ (.bool u1_b)) ⟨gf0, 1, none⟩ (.slice u1_a u1_n u1_c)) ⟨gf0, 2, none⟩ (.slice u1_d u1_m u1_e)) (by kernel_rfl) (by kernel_rfl) (by kernel_rfl) (by kernel_rfl) ?_ (HS.out.store3 (.inr Ef0.out)) ?_
  · obtain ⟨cf00, cf01, cf02, ff00, ff01, ff02⟩ := Xf0.out.c3
    first | (go_simp; done) | (go_simp; simp_all; done) | (go_simp; rfl)
  obtain ⟨W13, hW⟩ : ∃ W13, W13 = (World.setCell (World.setCell (World.setCell W12 ⟨gf0, 0, none⟩ (.bool u1_b)) ⟨gf0, 1, none⟩ (.slice u1_a u1_n u1_c)) ⟨gf0, 2, none⟩ (.slice u1_d u1_m u1_e)) := ⟨_, rfl⟩
  rw [← hW]
  obtain ⟨xf0, hk, hf, hbb, hz⟩ := stored3s hW Xf0.out (by first | exact NoInt.bool _ | exact NoInt.slice _ _ _) (by first | exact NoInt.bool _ | exact NoInt.slice _ _ _) (by first | exact NoInt.bool _ | exact NoInt.slice _ _ _)
  have Ha := Lib.hid (AR.keep Ha.out hk)
  have Hb := Lib.hid (AR.keep Hb.out hk)
  have Hl1 := Lib.hid (CR.keep Hl1.out hk)
  have Hu1 := Lib.hid (CR.keep Hu1.out hk)
  have Xa0 := Lib.hid (hf _ _ _ Xa0.out Na0f0.out)
  have Xb0 := Lib.hid (hf _ _ _ Xb0.out Nb0f0.out)
  have Xc0 := Lib.hid (hf _ _ _ Xc0.out Nc0f0.out)
  have Xd0 := Lib.hid (hf _ _ _ Xd0.out Nd0f0.out)
  have Xe0 := Lib.hid (hf _ _ _ Xe0.out Ne0f0.out)
  have Xf0 := Lib.hid xf0
  have HB := Lib.hid (hbb _ HB.out Gf0.out)
  have HS := Lib.hid (show SE (W6.drew) [] W13 from by rw [hW]; exact HS.out.store3 (.inr Ef0.out))
  clear hW hk hf hbb xf0
  clear hz
  refine wpAnyH_done (by kernel_rfl) ?_ _
  clear HG HS Hok Ee0 Ef0
  obtain ⟨ca00, ca01, ca02, fa00, fa01, fa02⟩ := Xa0.out.c3
  have la0 := Xa0.out.lt
  obtain ⟨cb00, cb01, cb02, fb00, fb01, fb02⟩ := Xb0.out.c3
  have lb0 := Xb0.out.lt
  obtain ⟨cd00, cd01, cd02, fd00, fd01, fd02⟩ := Xd0.out.c3
  have ld0 := Xd0.out.lt
  obtain ⟨ce00, ce01, ce02, fe00, fe01, fe02⟩ := Xe0.out.c3
  have le0 := Xe0.out.lt
  obtain ⟨cf00, cf01, cf02, ff00, ff01, ff02⟩ := Xf0.out.c3
  have lf0 := Xf0.out.lt
  go_wp2_with fail
  clear ca00 ca01 ca02 fa00 fa01 fa02 la0 cb00 cb01 cb02 fb00 fb01 fb02 lb0 cd00 cd01 cd02 fd00 fd01 fd02 ld0 ce00 ce01 ce02 fe00 fe01 fe02 le0 cf00 cf01 cf02 ff00 ff01 ff02 lf0
  (first | (have hcall := rllin_k j Hj.out Hu.out Ha.out Hb.out (by decide); refine Calls.mono hcall ?_; clear hcall) | refine Calls.mono (rllin_k j Hj.out Hu.out Ha.out Hb.out (by decide)) ?_)
  rintro e w14 ⟨t14, rfl, ⟨v14, u14, rfl, ha1, hb1⟩, hb⟩
  obtain ⟨a1_b, a1_a, a1_n, a1_c, a1_d, a1_m, a1_e, rfl⟩ := ha1.litb
  obtain ⟨b1_b, b1_a, b1_n, b1_c, b1_d, b1_m, b1_e, rfl⟩ := hb1.litb
  have Ha := Lib.hid (AR.keep Ha.out (Keep.call hb))
  have Hb := Lib.hid (AR.keep Hb.out (Keep.call hb))
  have Hl1 := Lib.hid (CR.keep Hl1.out (Keep.call hb))
  have Hu1 := Lib.hid (CR.keep Hu1.out (Keep.call hb))
  have Xa0 := Lib.hid (Box.pcall hb Xa0.out)
  have Xb0 := Lib.hid (Box.pcall hb Xb0.out)
  have Xc0 := Lib.hid (Box.pcall hb Xc0.out)
  have Xd0 := Lib.hid (Box.pcall hb Xd0.out)
  have Xe0 := Lib.hid (Box.pcall hb Xe0.out)
  have Xf0 := Lib.hid (Box.pcall hb Xf0.out)
  have HB := Lib.hid (below_call HB.out hb)
  have Ha1 := Lib.hid ha1
  have Hb1 := Lib.hid hb1
  clear hb ha1 hb1
  obtain ⟨ca00, ca01, ca02, fa00, fa01, fa02⟩ := Xa0.out.c3
  have la0 := Xa0.out.lt
  obtain ⟨cb00, cb01, cb02, fb00, fb01, fb02⟩ := Xb0.out.c3
  have lb0 := Xb0.out.lt
  obtain ⟨cd00, cd01, cd02, fd00, fd01, fd02⟩ := Xd0.out.c3
  have ld0 := Xd0.out.lt
  obtain ⟨ce00, ce01, ce02, fe00, fe01, fe02⟩ := Xe0.out.c3
  have le0 := Xe0.out.lt
  obtain ⟨cf00, cf01, cf02, ff00, ff01, ff02⟩ := Xf0.out.c3
  have lf0 := Xf0.out.lt
  go_wp2_with fail
  clear ca00 ca01 ca02 fa00 fa01 fa02 la0 cb00 cb01 cb02 fb00 fb01 fb02 lb0 cd00 cd01 cd02 fd00 fd01 fd02 ld0 ce00 ce01 ce02 fe00 fe01 fe02 le0 cf00 cf01 cf02 ff00 ff01 ff02 lf0
  obtain ⟨W15, hW⟩ : ∃ W15, W15 = (World.alloc (World.alloc w14 (.cells #[.bool a1_b, .slice a1_a a1_n a1_c, .slice a1_d a1_m a1_e] 25)) (.cells #[.bool b1_b, .slice b1_a b1_n b1_c, .slice b1_d b1_m b1_e] 25)) := ⟨_, rfl⟩
  rw [← hW]
  obtain ⟨xg0, xh0, hk, hb⟩ := boxes_2 _ _ _ _ _ hW
  clear hW
  have Ha := Lib.hid (AR.keep Ha.out hk)
  have Hb := Lib.hid (AR.keep Hb.out hk)
  have Hl1 := Lib.hid (CR.keep Hl1.out hk)
  have Hu1 := Lib.hid (CR.keep Hu1.out hk)
  have Ha1 := Lib.hid (CR.keep Ha1.out hk)
  have Hb1 := Lib.hid (CR.keep Hb1.out hk)
  have Na0g0 := Lib.hid (show w.heap.size ≠ w14.heap.size from Nat.ne_of_lt (Nat.lt_of_lt_of_le Xa0.out.lt (by omega)))
  have Nb0g0 := Lib.hid (show w.heap.size + 1 ≠ w14.heap.size from Nat.ne_of_lt (Nat.lt_of_lt_of_le Xb0.out.lt (by omega)))
  have Nc0g0 := Lib.hid (show w2.heap.size ≠ w14.heap.size from Nat.ne_of_lt (Nat.lt_of_lt_of_le Xc0.out.lt (by omega)))
  have Nd0g0 := Lib.hid (show w5.heap.size ≠ w14.heap.size from Nat.ne_of_lt (Nat.lt_of_lt_of_le Xd0.out.lt (by omega)))
  have Ne0g0 := Lib.hid (show ge0 ≠ w14.heap.size from Nat.ne_of_lt (Nat.lt_of_lt_of_le Xe0.out.lt (by omega)))
  have Nf0g0 := Lib.hid (show gf0 ≠ w14.heap.size from Nat.ne_of_lt (Nat.lt_of_lt_of_le Xf0.out.lt (by omega)))
  have Gg0 := Lib.hid (show w.heap.size ≤ w14.heap.size from Nat.le_trans HB.out.size (by omega))
  have Na0h0 := Lib.hid (show w.heap.size ≠ w14.heap.size + 1 from Nat.ne_of_lt (Nat.lt_of_lt_of_le Xa0.out.lt (by omega)))
  have Nb0h0 := Lib.hid (show w.heap.size + 1 ≠ w14.heap.size + 1 from Nat.ne_of_lt (Nat.lt_of_lt_of_le Xb0.out.lt (by omega)))
  have Nc0h0 := Lib.hid (show w2.heap.size ≠ w14.heap.size + 1 from Nat.ne_of_lt (Nat.lt_of_lt_of_le Xc0.out.lt (by omega)))
  have Nd0h0 := Lib.hid (show w5.heap.size ≠ w14.heap.size + 1 from Nat.ne_of_lt (Nat.lt_of_lt_of_le Xd0.out.lt (by omega)))
  have Ne0h0 := Lib.hid (show ge0 ≠ w14.heap.size + 1 from Nat.ne_of_lt (Nat.lt_of_lt_of_le Xe0.out.lt (by omega)))
  have Nf0h0 := Lib.hid (show gf0 ≠ w14.heap.size + 1 from Nat.ne_of_lt (Nat.lt_of_lt_of_le Xf0.out.lt (by omega)))
  have Gh0 := Lib.hid (show w.heap.size ≤ w14.heap.size + 1 from Nat.le_trans HB.out.size (by omega))
  have Xa0 := Lib.hid (Box.pcall hb Xa0.out)
  have Xb0 := Lib.hid (Box.pcall hb Xb0.out)
  have Xc0 := Lib.hid (Box.pcall hb Xc0.out)
  have Xd0 := Lib.hid (Box.pcall hb Xd0.out)
  have Xe0 := Lib.hid (Box.pcall hb Xe0.out)
  have Xf0 := Lib.hid (Box.pcall hb Xf0.out)
  have Xg0 := Lib.hid xg0
  have Xh0 := Lib.hid xh0
  have HB := Lib.hid (below_call HB.out hb)
  clear hk hb xg0 xh0
  (first | (have hcall := rllin_k i Hi.out Hu2.out Hl1.out.ar Hu1.out.ar (by decide); refine Calls.mono hcall ?_; clear hcall) | refine Calls.mono (rllin_k i Hi.out Hu2.out Hl1.out.ar Hu1.out.ar (by decide)) ?_)
  rintro e w16 ⟨t16, rfl, ⟨v16, u16, rfl, hc1, hd1⟩, hb⟩
  obtain ⟨c1_b, c1_a, c1_n, c1_c, c1_d, c1_m, c1_e, rfl⟩ := hc1.litb
  obtain ⟨d1_b, d1_a, d1_n, d1_c, d1_d, d1_m, d1_e, rfl⟩ := hd1.litb
  have Ha := Lib.hid (AR.keep Ha.out (Keep.call hb))
  have Hb := Lib.hid (AR.keep Hb.out (Keep.call hb))
  have Hl1 := Lib.hid (CR.keep Hl1.out (Keep.call hb))
  have Hu1 := Lib.hid (CR.keep Hu1.out (Keep.call hb))
  have Ha1 := Lib.hid (CR.keep Ha1.out (Keep.call hb))
  have Hb1 := Lib.hid (CR.keep Hb1.out (Keep.call hb))
  have Xa0 := Lib.hid (Box.pcall hb Xa0.out)
  have Xb0 := Lib.hid (Box.pcall hb Xb0.out)
  have Xc0 := Lib.hid (Box.pcall hb Xc0.out)
  have Xd0 := Lib.hid (Box.pcall hb Xd0.out)
  have Xe0 := Lib.hid (Box.pcall hb Xe0.out)
  have Xf0 := Lib.hid (Box.pcall hb Xf0.out)
  have Xg0 := Lib.hid (Box.pcall hb Xg0.out)
  have Xh0 := Lib.hid (Box.pcall hb Xh0.out)
  have HB := Lib.hid (below_call HB.out hb)
  have Hc1 := Lib.hid hc1
  have Hd1 := Lib.hid hd1
  clear hb hc1 hd1
  obtain ⟨ca00, ca01, ca02, fa00, fa01, fa02⟩ := Xa0.out.c3
  have la0 := Xa0.out.lt
  obtain ⟨cb00, cb01, cb02, fb00, fb01, fb02⟩ := Xb0.out.c3
  have lb0 := Xb0.out.lt
  obtain ⟨cd00, cd01, cd02, fd00, fd01, fd02⟩ := Xd0.out.c3
  have ld0 := Xd0.out.lt
  obtain ⟨ce00, ce01, ce02, fe00, fe01, fe02⟩ := Xe0.out.c3
  have le0 := Xe0.out.lt
  obtain ⟨cf00, cf01, cf02, ff00, ff01, ff02⟩ := Xf0.out.c3
  have lf0 := Xf0.out.lt
  obtain ⟨cg00, cg01, cg02, fg00, fg01, fg02⟩ := Xg0.out.c3
  have lg0 := Xg0.out.lt
  obtain ⟨ch00, ch01, ch02, fh00, fh01, fh02⟩ := Xh0.out.c3
  have lh0 := Xh0.out.lt
  go_wp2_with fail
  clear ca00 ca01 ca02 fa00 fa01 fa02 la0 cb00 cb01 cb02 fb00 fb01 fb02 lb0 cd00 cd01 cd02 fd00 fd01 fd02 ld0 ce00 ce01 ce02 fe00 fe01 fe02 le0 cf00 cf01 cf02 ff00 ff01 ff02 lf0 cg00 cg01 cg02 fg00 fg01 fg02 lg0 ch00 ch01 ch02 fh00 fh01 fh02 lh0
  obtain ⟨W17, hW⟩ : ∃ W17, W17 = (World.alloc (World.alloc w16 (.cells #[.bool c1_b, .slice c1_a c1_n c1_c, .slice c1_d c1_m c1_e] 25)) (.cells #[.bool d1_b, .slice d1_a d1_n d1_c, .slice d1_d d1_m d1_e] 25)) := ⟨_, rfl⟩
  rw [← hW]
  obtain ⟨xi0, xj0, hk, hb⟩ := boxes_2 _ _ _ _ _ hW
  clear hW
  have Ha := Lib.hid (AR.keep Ha.out hk)
  have Hb := Lib.hid (AR.keep Hb.out hk)
  have Hl1 := Lib.hid (CR.keep Hl1.out hk)
  have Hu1 := Lib.hid (CR.keep Hu1.out hk)
  have Ha1 := Lib.hid (CR.keep Ha1.out hk)
  have Hb1 := Lib.hid (CR.keep Hb1.out hk)
  have Hc1 := Lib.hid (CR.keep Hc1.out hk)
  have Hd1 := Lib.hid (CR.keep Hd1.out hk)
  have Na0i0 := Lib.hid (show w.heap.size ≠ w16.heap.size from Nat.ne_of_lt (Nat.lt_of_lt_of_le Xa0.out.lt (by omega)))
  have Nb0i0 := Lib.hid (show w.heap.size + 1 ≠ w16.heap.size from Nat.ne_of_lt (Nat.lt_of_lt_of_le Xb0.out.lt (by omega)))
  have Nc0i0 := Lib.hid (show w2.heap.size ≠ w16.heap.size from Nat.ne_of_lt (Nat.lt_of_lt_of_le Xc0.out.lt (by omega)))
  have Nd0i0 := Lib.hid (show w5.heap.size ≠ w16.heap.size from Nat.ne_of_lt (Nat.lt_of_lt_of_le Xd0.out.lt (by omega)))
  have Ne0i0 := Lib.hid (show ge0 ≠ w16.heap.size from Nat.ne_of_lt (Nat.lt_of_lt_of_le Xe0.out.lt (by omega)))
  have Nf0i0 := Lib.hid (show gf0 ≠ w16.heap.size from Nat.ne_of_lt (Nat.lt_of_lt_of_le Xf0.out.lt (by omega)))
  have Ng0i0 := Lib.hid (show w14.heap.size ≠ w16.heap.size from Nat.ne_of_lt (Nat.lt_of_lt_of_le Xg0.out.lt (by omega)))
  have Nh0i0 := Lib.hid (show w14.heap.size + 1 ≠ w16.heap.size from Nat.ne_of_lt (Nat.lt_of_lt_of_le Xh0.out.lt (by omega)))
  have Gi0 := Lib.hid (show w.heap.size ≤ w16.heap.size from Nat.le_trans HB.out.size (by omega))
  have Na0j0 := Lib.hid (show w.heap.size ≠ w16.heap.size + 1 from Nat.ne_of_lt (Nat.lt_of_lt_of_le Xa0.out.lt (by omega)))
  have Nb0j0 := Lib.hid (show w.heap.size + 1 ≠ w16.heap.size + 1 from Nat.ne_of_lt (Nat.lt_of_lt_of_le Xb0.out.lt (by omega)))
  have Nc0j0 := Lib.hid (show w2.heap.size ≠ w16.heap.size + 1 from Nat.ne_of_lt (Nat.lt_of_lt_of_le Xc0.out.lt (by omega)))
  have Nd0j0 := Lib.hid (show w5.heap.size ≠ w16.heap.size + 1 from Nat.ne_of_lt (Nat.lt_of_lt_of_le Xd0.out.lt (by omega)))
  have Ne0j0 := Lib.hid (show ge0 ≠ w16.heap.size + 1 from Nat.ne_of_lt (Nat.lt_of_lt_of_le Xe0.out.lt (by omega)))
  have Nf0j0 := Lib.hid (show gf0 ≠ w16.heap.size + 1 from Nat.ne_of_lt (Nat.lt_of_lt_of_le Xf0.out.lt (by omega)))
  have Ng0j0 := Lib.hid (show w14.heap.size ≠ w16.heap.size + 1 from Nat.ne_of_lt (Nat.lt_of_lt_of_le Xg0.out.lt (by omega)))
  have Nh0j0 := Lib.hid (show w14.heap.size + 1 ≠ w16.heap.size + 1 from Nat.ne_of_lt (Nat.lt_of_lt_of_le Xh0.out.lt (by omega)))
  have Gj0 := Lib.hid (show w.heap.size ≤ w16.heap.size + 1 from Nat.le_trans HB.out.size (by omega))
  have Xa0 := Lib.hid (Box.pcall hb Xa0.out)
  have Xb0 := Lib.hid (Box.pcall hb Xb0.out)
  have Xc0 := Lib.hid (Box.pcall hb Xc0.out)
  have Xd0 := Lib.hid (Box.pcall hb Xd0.out)
  have Xe0 := Lib.hid (Box.pcall hb Xe0.out)
  have Xf0 := Lib.hid (Box.pcall hb Xf0.out)
  have Xg0 := Lib.hid (Box.pcall hb Xg0.out)
  have Xh0 := Lib.hid (Box.pcall hb Xh0.out)
  have Xi0 := Lib.hid xi0
  have Xj0 := Lib.hid xj0
  have HB := Lib.hid (below_call HB.out hb)
  clear hk hb xi0 xj0
  (first | (have hcall := btw_ar (z % 17) 16 (by omega) (by omega) (by decide) (by decide) (by decide) Hl1.out.ar Hu1.out.ar (by decide); refine Calls.mono hcall ?_; clear hcall) | refine Calls.mono (btw_ar (z % 17) 16 (by omega) (by omega) (by decide) (by decide) (by decide) Hl1.out.ar Hu1.out.ar (by decide)) ?_)
  rintro e w18 ⟨v18, rfl, hp1, hb⟩
  obtain ⟨p1_b, p1_a, p1_n, p1_c, p1_d, p1_m, p1_e, rfl⟩ := hp1.litb
  have Ha := Lib.hid (AR.keep Ha.out (Keep.call hb))
  have Hb := Lib.hid (AR.keep Hb.out (Keep.call hb))
  have Hl1 := Lib.hid (CR.keep Hl1.out (Keep.call hb))
  have Hu1 := Lib.hid (CR.keep Hu1.out (Keep.call hb))
  have Ha1 := Lib.hid (CR.keep Ha1.out (Keep.call hb))
  have Hb1 := Lib.hid (CR.keep Hb1.out (Keep.call hb))
  have Hc1 := Lib.hid (CR.keep Hc1.out (Keep.call hb))
  have Hd1 := Lib.hid (CR.keep Hd1.out (Keep.call hb))
  have Xa0 := Lib.hid (Box.pcall hb Xa0.out)
  have Xb0 := Lib.hid (Box.pcall hb Xb0.out)
  have Xc0 := Lib.hid (Box.pcall hb Xc0.out)
  have Xd0 := Lib.hid (Box.pcall hb Xd0.out)
  have Xe0 := Lib.hid (Box.pcall hb Xe0.out)
  have Xf0 := Lib.hid (Box.pcall hb Xf0.out)
  have Xg0 := Lib.hid (Box.pcall hb Xg0.out)
  have Xh0 := Lib.hid (Box.pcall hb Xh0.out)
  have Xi0 := Lib.hid (Box.pcall hb Xi0.out)
  have Xj0 := Lib.hid (Box.pcall hb Xj0.out)
  have HB := Lib.hid (below_call HB.out hb)
  have Hp1 := Lib.hid hp1
  clear hb hp1
  obtain ⟨ca00, ca01, ca02, fa00, fa01, fa02⟩ := Xa0.out.c3
  have la0 := Xa0.out.lt
  obtain ⟨cb00, cb01, cb02, fb00, fb01, fb02⟩ := Xb0.out.c3
  have lb0 := Xb0.out.lt
  obtain ⟨cd00, cd01, cd02, fd00, fd01, fd02⟩ := Xd0.out.c3
  have ld0 := Xd0.out.lt
  obtain ⟨ce00, ce01, ce02, fe00, fe01, fe02⟩ := Xe0.out.c3
  have le0 := Xe0.out.lt
  obtain ⟨cf00, cf01, cf02, ff00, ff01, ff02⟩ := Xf0.out.c3
  have lf0 := Xf0.out.lt
  obtain ⟨cg00, cg01, cg02, fg00, fg01, fg02⟩ := Xg0.out.c3
  have lg0 := Xg0.out.lt
  obtain ⟨ch00, ch01, ch02, fh00, fh01, fh02⟩ := Xh0.out.c3
  have lh0 := Xh0.out.lt
  obtain ⟨ci00, ci01, ci02, fi00, fi01, fi02⟩ := Xi0.out.c3
  have li0 := Xi0.out.lt
  obtain ⟨cj00, cj01, cj02, fj00, fj01, fj02⟩ := Xj0.out.c3
  have lj0 := Xj0.out.lt
  go_wp2_with fail
  clear ca00 ca01 ca02 fa00 fa01 fa02 la0 cb00 cb01 cb02 fb00 fb01 fb02 lb0 cd00 cd01 cd02 fd00 fd01 fd02 ld0 ce00 ce01 ce02 fe00 fe01 fe02 le0 cf00 cf01 cf02 ff00 ff01 ff02 lf0 cg00 cg01 cg02 fg00 fg01 fg02 lg0 ch00 ch01 ch02 fh00 fh01 fh02 lh0 ci00 ci01 ci02 fi00 fi01 fi02 li0 cj00 cj01 cj02 fj00 fj01 fj02 lj0
  obtain ⟨W19, hW⟩ : ∃ W19, W19 = (World.alloc w18 (.cells #[.bool p1_b, .slice p1_a p1_n p1_c, .slice p1_d p1_m p1_e] 25)) := ⟨_, rfl⟩
  rw [← hW]
  obtain ⟨xk0, hk, hb⟩ := boxes_1 _ _ _ hW
  clear hW
  have Ha := Lib.hid (AR.keep Ha.out hk)
  have Hb := Lib.hid (AR.keep Hb.out hk)
  have Hl1 := Lib.hid (CR.keep Hl1.out hk)
  have Hu1 := Lib.hid (CR.keep Hu1.out hk)
  have Ha1 := Lib.hid (CR.keep Ha1.out hk)
  have Hb1 := Lib.hid (CR.keep Hb1.out hk)
  have Hc1 := Lib.hid (CR.keep Hc1.out hk)
  have Hd1 := Lib.hid (CR.keep Hd1.out hk)
  have Hp1 := Lib.hid (CR.keep Hp1.out hk)
  have Na0k0 := Lib.hid (show w.heap.size ≠ w18.heap.size from Nat.ne_of_lt (Nat.lt_of_lt_of_le Xa0.out.lt (by omega)))
  have Nb0k0 := Lib.hid (show w.heap.size + 1 ≠ w18.heap.size from Nat.ne_of_lt (Nat.lt_of_lt_of_le Xb0.out.lt (by omega)))
  have Nc0k0 := Lib.hid (show w2.heap.size ≠ w18.heap.size from Nat.ne_of_lt (Nat.lt_of_lt_of_le Xc0.out.lt (by omega)))
  have Nd0k0 := Lib.hid (show w5.heap.size ≠ w18.heap.size from Nat.ne_of_lt (Nat.lt_of_lt_of_le Xd0.out.lt (by omega)))
  have Ne0k0 := Lib.hid (show ge0 ≠ w18.heap.size from Nat.ne_of_lt (Nat.lt_of_lt_of_le Xe0.out.lt (by omega)))
  have Nf0k0 := Lib.hid (show gf0 ≠ w18.heap.size from Nat.ne_of_lt (Nat.lt_of_lt_of_le Xf0.out.lt (by omega)))
  have Ng0k0 := Lib.hid (show w14.heap.size ≠ w18.heap.size from Nat.ne_of_lt (Nat.lt_of_lt_of_le Xg0.out.lt (by omega)))
  have Nh0k0 := Lib.hid (show w14.heap.size + 1 ≠ w18.heap.size from Nat.ne_of_lt (Nat.lt_of_lt_of_le Xh0.out.lt (by omega)))
  have Ni0k0 := Lib.hid (show w16.heap.size ≠ w18.heap.size from Nat.ne_of_lt (Nat.lt_of_lt_of_le Xi0.out.lt (by omega)))
  have Nj0k0 := Lib.hid (show w16.heap.size + 1 ≠ w18.heap.size from Nat.ne_of_lt (Nat.lt_of_lt_of_le Xj0.out.lt (by omega)))
  have Gk0 := Lib.hid (show w.heap.size ≤ w18.heap.size from Nat.le_trans HB.out.size (by omega))
  have Xa0 := Lib.hid (Box.pcall hb Xa0.out)
  have Xb0 := Lib.hid (Box.pcall hb Xb0.out)
  have Xc0 := Lib.hid (Box.pcall hb Xc0.out)
  have Xd0 := Lib.hid (Box.pcall hb Xd0.out)
  have Xe0 := Lib.hid (Box.pcall hb Xe0.out)
  have Xf0 := Lib.hid (Box.pcall hb Xf0.out)
  have Xg0 := Lib.hid (Box.pcall hb Xg0.out)
  have Xh0 := Lib.hid (Box.pcall hb Xh0.out)
  have Xi0 := Lib.hid (Box.pcall hb Xi0.out)
  have Xj0 := Lib.hid (Box.pcall hb Xj0.out)
  have Xk0 := Lib.hid xk0
  have HB := Lib.hid (below_call HB.out hb)
  clear hk hb xk0
  have Ha := Lib.hid (AR.keep Ha.out (Keep.drew W19))
  have Hb := Lib.hid (AR.keep Hb.out (Keep.drew W19))
  have Hl1 := Lib.hid (CR.keep Hl1.out (Keep.drew W19))
  have Hu1 := Lib.hid (CR.keep Hu1.out (Keep.drew W19))
  have Ha1 := Lib.hid (CR.keep Ha1.out (Keep.drew W19))
  have Hb1 := Lib.hid (CR.keep Hb1.out (Keep.drew W19))
  have Hc1 := Lib.hid (CR.keep Hc1.out (Keep.drew W19))
  have Hd1 := Lib.hid (CR.keep Hd1.out (Keep.drew W19))
  have Hp1 := Lib.hid (CR.keep Hp1.out (Keep.drew W19))
  have Xa0 := Lib.hid (Box.drew Xa0.out)
  have Xb0 := Lib.hid (Box.drew Xb0.out)
  have Xc0 := Lib.hid (Box.drew Xc0.out)
  have Xd0 := Lib.hid (Box.drew Xd0.out)
  have Xe0 := Lib.hid (Box.drew Xe0.out)
  have Xf0 := Lib.hid (Box.drew Xf0.out)
  have Xg0 := Lib.hid (Box.drew Xg0.out)
  have Xh0 := Lib.hid (Box.drew Xh0.out)
  have Xi0 := Lib.hid (Box.drew Xi0.out)
  have Xj0 := Lib.hid (Box.drew Xj0.out)
  have Xk0 := Lib.hid (Box.drew Xk0.out)
  have HB := Lib.hid (Below.drew HB.out)
  refine wp_region_float [] [⟨10, 23, 25, #[.bool false, .slice none 0 0, .slice none 0 0]⟩, ⟨11, 24, 25, #[.bool false, .slice none 0 0, .slice none 0 0]⟩] (by kernel_rfl) (by kernel_rfl) 105 (by kernel_rfl) (Flok.cons (Flok.one (by kernel_rfl) (by kernel_rfl) (by kernel_rfl) (by intro w; go_simp)) (Flok.one (by kernel_rfl) (by kernel_rfl) (by kernel_rfl) (by intro w; go_simp)) (by kernel_rfl)) ?_
  intro ok
  have Hok := Lib.hid ok
  clear ok
  have HG := Lib.hid (Below.refl (W19.drew).heap.size (W19.drew))
  refine good_pureX 0 (some 73) (Go.Op.load 25 (Go.Operand.tmp 15)) (none) (.agg #[.bool a1_b, .slice a1_a a1_n a1_c, .slice a1_d a1_m a1_e]) (by kernel_rfl) (by kernel_rfl) (by kernel_rfl) (fun _ _ _ h => h) (fun w' hw' => ?_) ?_
  · obtain ⟨cg00, cg01, cg02, fg00, fg01, fg02⟩ := (Box.se hw' Xg0.out notin0).c3
    first | (go_simp; done) | (go_simp; simp_all; done) | (go_simp; rfl)
  simp only [Act.put, List.setIfInBounds_toArray, List.set_cons_zero, List.set_cons_succ]
  refine good_pureX 1 (some 74) (Go.Op.load 25 (Go.Operand.tmp 22)) (none) (.agg #[.bool p1_b, .slice p1_a p1_n p1_c, .slice p1_d p1_m p1_e]) (by kernel_rfl) (by kernel_rfl) (by kernel_rfl) (fun _ _ _ h => h) (fun w' hw' => ?_) ?_
  · obtain ⟨ck00, ck01, ck02, fk00, fk01, fk02⟩ := (Box.se hw' Xk0.out notin0).c3
    first | (go_simp; done) | (go_simp; simp_all; done) | (go_simp; rfl)
  simp only [Act.put, List.setIfInBounds_toArray, List.set_cons_zero, List.set_cons_succ]
  refine good_pureX 3 (some 76) (Go.Op.load 25 (Go.Operand.tmp 16)) (none) (.agg #[.bool b1_b, .slice b1_a b1_n b1_c, .slice b1_d b1_m b1_e]) (by kernel_rfl) (by kernel_rfl) (by kernel_rfl) (fun _ _ _ h => h) (fun w' hw' => ?_) ?_
  · obtain ⟨ch00, ch01, ch02, fh00, fh01, fh02⟩ := (Box.se hw' Xh0.out notin0).c3
    first | (go_simp; done) | (go_simp; simp_all; done) | (go_simp; rfl)
  simp only [Act.put, List.setIfInBounds_toArray, List.set_cons_zero, List.set_cons_succ]
  refine good_pureX 5 (some 78) (Go.Op.load 25 (Go.Operand.tmp 19)) (none) (.agg #[.bool c1_b, .slice c1_a c1_n c1_c, .slice c1_d c1_m c1_e]) (by kernel_rfl) (by kernel_rfl) (by kernel_rfl) (fun _ _ _ h => h) (fun w' hw' => ?_) ?_
  · obtain ⟨ci00, ci01, ci02, fi00, fi01, fi02⟩ := (Box.se hw' Xi0.out notin0).c3
    first | (go_simp; done) | (go_simp; simp_all; done) | (go_simp; rfl)
  simp only [Act.put, List.setIfInBounds_toArray, List.set_cons_zero, List.set_cons_succ]
  refine good_pureX 6 (some 79) (Go.Op.load 25 (Go.Operand.tmp 22)) (none) (.agg #[.bool p1_b, .slice p1_a p1_n p1_c, .slice p1_d p1_m p1_e]) (by kernel_rfl) (by kernel_rfl) (by kernel_rfl) (fun _ _ _ h => h) (fun w' hw' => ?_) ?_
  · obtain ⟨ck00, ck01, ck02, fk00, fk01, fk02⟩ := (Box.se hw' Xk0.out notin0).c3
    first | (go_simp; done) | (go_simp; simp_all; done) | (go_simp; rfl)
  simp only [Act.put, List.setIfInBounds_toArray, List.set_cons_zero, List.set_cons_succ]
  refine good_pureX 8 (some 81) (Go.Op.load 25 (Go.Operand.tmp 20)) (none) (.agg #[.bool d1_b, .slice d1_a d1_n d1_c, .slice d1_d d1_m d1_e]) (by kernel_rfl) (by kernel_rfl) (by kernel_rfl) (fun _ _ _ h => h) (fun w' hw' => ?_) ?_
  · obtain ⟨cj00, cj01, cj02, fj00, fj01, fj02⟩ := (Box.se hw' Xj0.out notin0).c3
    first | (go_simp; done) | (go_simp; simp_all; done) | (go_simp; rfl)
  simp only [Act.put, List.setIfInBounds_toArray, List.set_cons_zero, List.set_cons_succ]
  refine good_callX 2 29 (some 75) #[Go.Operand.tmp 73, Go.Operand.tmp 74] #[25, 25] (none) #[.agg #[.bool a1_b, .slice a1_a a1_n a1_c, .slice a1_d a1_m a1_e], .agg #[.bool p1_b, .slice p1_a p1_n p1_c, .slice p1_d p1_m p1_e]] (by kernel_rfl) Hok.out (by kernel_rfl) (by kernel_rfl) (by kernel_rfl) (by kernel_rfl) rfl rfl rfl (by kernel_rfl) (fun w20 hb => ?_)
  have HG := Lib.hid (below_call HG.out hb)
  clear hb
  (first | (have hcall := zmul_ar (CR.keep Ha1.out (Keep.call HG.out)).ar (CR.keep Hp1.out (Keep.call HG.out)).ar (by decide) (by decide); refine Calls.mono hcall ?_; clear hcall) | refine Calls.mono (zmul_ar (CR.keep Ha1.out (Keep.call HG.out)).ar (CR.keep Hp1.out (Keep.call HG.out)).ar (by decide) (by decide)) ?_)
  rintro e w21 ⟨v21, rfl, hv1, hb⟩
  obtain ⟨v1_b, v1_a, v1_n, v1_c, v1_d, v1_m, v1_e, rfl⟩ := hv1.litb
  refine ⟨_, rfl, ?_, hb⟩
  have HG := Lib.hid (below_call HG.out hb)
  have Hv1 := Lib.hid hv1
  clear hb hv1
  simp only [Act.put, List.setIfInBounds_toArray, List.set_cons_zero, List.set_cons_succ]
  refine good_callX 4 28 (some 77) #[Go.Operand.tmp 75, Go.Operand.tmp 76] #[25, 25] (none) #[.agg #[.bool v1_b, .slice v1_a v1_n v1_c, .slice v1_d v1_m v1_e], .agg #[.bool b1_b, .slice b1_a b1_n b1_c, .slice b1_d b1_m b1_e]] (by kernel_rfl) Hok.out (by kernel_rfl) (by kernel_rfl) (by kernel_rfl) (by kernel_rfl) rfl rfl rfl (by kernel_rfl) (fun w22 hb => ?_)
  have Hv1 := Lib.hid (CR.keep Hv1.out (Keep.call hb))
  have HG := Lib.hid (below_call HG.out hb)
  clear hb
  (first | (have hcall := zadd_ar Hv1.out.ar (CR.keep Hb1.out (Keep.call HG.out)).ar (by decide) (by decide); refine Calls.mono hcall ?_; clear hcall) | refine Calls.mono (zadd_ar Hv1.out.ar (CR.keep Hb1.out (Keep.call HG.out)).ar (by decide) (by decide)) ?_)
  rintro e w23 ⟨v23, rfl, hv2, hb⟩
  obtain ⟨v2_b, v2_a, v2_n, v2_c, v2_d, v2_m, v2_e, rfl⟩ := hv2.litb
  refine ⟨_, rfl, ?_, hb⟩
  have HG := Lib.hid (below_call HG.out hb)
  have Hv2 := Lib.hid hv2
  clear hb hv2
  simp only [Act.put, List.setIfInBounds_toArray, List.set_cons_zero, List.set_cons_succ]
  refine good_callX 7 29 (some 80) #[Go.Operand.tmp 78, Go.Operand.tmp 79] #[25, 25] (none) #[.agg #[.bool c1_b, .slice c1_a c1_n c1_c, .slice c1_d c1_m c1_e], .agg #[.bool p1_b, .slice p1_a p1_n p1_c, .slice p1_d p1_m p1_e]] (by kernel_rfl) Hok.out (by kernel_rfl) (by kernel_rfl) (by kernel_rfl) (by kernel_rfl) rfl rfl rfl (by kernel_rfl) (fun w24 hb => ?_)
  have Hv2 := Lib.hid (CR.keep Hv2.out (Keep.call hb))
  have HG := Lib.hid (below_call HG.out hb)
  clear hb
  (first | (have hcall := zmul_ar (CR.keep Hc1.out (Keep.call HG.out)).ar (CR.keep Hp1.out (Keep.call HG.out)).ar (by decide) (by decide); refine Calls.mono hcall ?_; clear hcall) | refine Calls.mono (zmul_ar (CR.keep Hc1.out (Keep.call HG.out)).ar (CR.keep Hp1.out (Keep.call HG.out)).ar (by decide) (by decide)) ?_)
  rintro e w25 ⟨v25, rfl, hv3, hb⟩
  obtain ⟨v3_b, v3_a, v3_n, v3_c, v3_d, v3_m, v3_e, rfl⟩ := hv3.litb
  refine ⟨_, rfl, ?_, hb⟩
  have Hv2 := Lib.hid (CR.keep Hv2.out (Keep.call hb))
  have HG := Lib.hid (below_call HG.out hb)
  have Hv3 := Lib.hid hv3
  clear hb hv3
  simp only [Act.put, List.setIfInBounds_toArray, List.set_cons_zero, List.set_cons_succ]
  refine good_callX 9 28 (some 82) #[Go.Operand.tmp 80, Go.Operand.tmp 81] #[25, 25] (none) #[.agg #[.bool v3_b, .slice v3_a v3_n v3_c, .slice v3_d v3_m v3_e], .agg #[.bool d1_b, .slice d1_a d1_n d1_c, .slice d1_d d1_m d1_e]] (by kernel_rfl) Hok.out (by kernel_rfl) (by kernel_rfl) (by kernel_rfl) (by kernel_rfl) rfl rfl rfl (by kernel_rfl) (fun w26 hb => ?_)
  have Hv2 := Lib.hid (CR.keep Hv2.out (Keep.call hb))
  have Hv3 := Lib.hid (CR.keep Hv3.out (Keep.call hb))
  have HG := Lib.hid (below_call HG.out hb)
  clear hb
  (first | (have hcall := zadd_ar Hv3.out.ar (CR.keep Hd1.out (Keep.call HG.out)).ar (by decide) (by decide); refine Calls.mono hcall ?_; clear hcall) | refine Calls.mono (zadd_ar Hv3.out.ar (CR.keep Hd1.out (Keep.call HG.out)).ar (by decide) (by decide)) ?_)
  rintro e w27 ⟨v27, rfl, hv4, hb⟩
  obtain ⟨v4_b, v4_a, v4_n, v4_c, v4_d, v4_m, v4_e, rfl⟩ := hv4.litb
  refine ⟨_, rfl, ?_, hb⟩
  have Hv2 := Lib.hid (CR.keep Hv2.out (Keep.call hb))
  have HG := Lib.hid (below_call HG.out hb)
  have Hv4 := Lib.hid hv4
  clear hb hv4
  simp only [Act.put, List.setIfInBounds_toArray, List.set_cons_zero, List.set_cons_succ]
  refine good_end2 2 Hok.out (by kernel_rfl) (by kernel_rfl) (by kernel_rfl) (by kernel_rfl) (by kernel_rfl) (fun _ gl0 gm0 w28 hb el0 em0 hne xl0 xm0 => ?_)
  have Hv2 := Lib.hid (CR.keep Hv2.out (Keep.call hb))
  have Hv4 := Lib.hid (CR.keep Hv4.out (Keep.call hb))
  have HG := Lib.hid (below_call HG.out hb)
  clear hb
  have Na0l0 := Lib.hid (show w.heap.size ≠ gl0 from Nat.ne_of_lt (Nat.lt_of_lt_of_le Xa0.out.lt el0))
  have Nb0l0 := Lib.hid (show w.heap.size + 1 ≠ gl0 from Nat.ne_of_lt (Nat.lt_of_lt_of_le Xb0.out.lt el0))
  have Nc0l0 := Lib.hid (show w2.heap.size ≠ gl0 from Nat.ne_of_lt (Nat.lt_of_lt_of_le Xc0.out.lt el0))
  have Nd0l0 := Lib.hid (show w5.heap.size ≠ gl0 from Nat.ne_of_lt (Nat.lt_of_lt_of_le Xd0.out.lt el0))
  have Ne0l0 := Lib.hid (show ge0 ≠ gl0 from Nat.ne_of_lt (Nat.lt_of_lt_of_le Xe0.out.lt el0))
  have Nf0l0 := Lib.hid (show gf0 ≠ gl0 from Nat.ne_of_lt (Nat.lt_of_lt_of_le Xf0.out.lt el0))
  have Ng0l0 := Lib.hid (show w14.heap.size ≠ gl0 from Nat.ne_of_lt (Nat.lt_of_lt_of_le Xg0.out.lt el0))
  have Nh0l0 := Lib.hid (show w14.heap.size + 1 ≠ gl0 from Nat.ne_of_lt (Nat.lt_of_lt_of_le Xh0.out.lt el0))
  have Ni0l0 := Lib.hid (show w16.heap.size ≠ gl0 from Nat.ne_of_lt (Nat.lt_of_lt_of_le Xi0.out.lt el0))
  have Nj0l0 := Lib.hid (show w16.heap.size + 1 ≠ gl0 from Nat.ne_of_lt (Nat.lt_of_lt_of_le Xj0.out.lt el0))
  have Nk0l0 := Lib.hid (show w18.heap.size ≠ gl0 from Nat.ne_of_lt (Nat.lt_of_lt_of_le Xk0.out.lt el0))
  have Gl0 := Lib.hid (show w.heap.size ≤ gl0 from Nat.le_trans HB.out.size el0)
  have El0 := Lib.hid el0
  clear el0
  have Na0m0 := Lib.hid (show w.heap.size ≠ gm0 from Nat.ne_of_lt (Nat.lt_of_lt_of_le Xa0.out.lt em0))
  have Nb0m0 := Lib.hid (show w.heap.size + 1 ≠ gm0 from Nat.ne_of_lt (Nat.lt_of_lt_of_le Xb0.out.lt em0))
  have Nc0m0 := Lib.hid (show w2.heap.size ≠ gm0 from Nat.ne_of_lt (Nat.lt_of_lt_of_le Xc0.out.lt em0))
  have Nd0m0 := Lib.hid (show w5.heap.size ≠ gm0 from Nat.ne_of_lt (Nat.lt_of_lt_of_le Xd0.out.lt em0))
  have Ne0m0 := Lib.hid (show ge0 ≠ gm0 from Nat.ne_of_lt (Nat.lt_of_lt_of_le Xe0.out.lt em0))
  have Nf0m0 := Lib.hid (show gf0 ≠ gm0 from Nat.ne_of_lt (Nat.lt_of_lt_of_le Xf0.out.lt em0))
  have Ng0m0 := Lib.hid (show w14.heap.size ≠ gm0 from Nat.ne_of_lt (Nat.lt_of_lt_of_le Xg0.out.lt em0))
  have Nh0m0 := Lib.hid (show w14.heap.size + 1 ≠ gm0 from Nat.ne_of_lt (Nat.lt_of_lt_of_le Xh0.out.lt em0))
  have Ni0m0 := Lib.hid (show w16.heap.size ≠ gm0 from Nat.ne_of_lt (Nat.lt_of_lt_of_le Xi0.out.lt em0))
  have Nj0m0 := Lib.hid (show w16.heap.size + 1 ≠ gm0 from Nat.ne_of_lt (Nat.lt_of_lt_of_le Xj0.out.lt em0))
  have Nk0m0 := Lib.hid (show w18.heap.size ≠ gm0 from Nat.ne_of_lt (Nat.lt_of_lt_of_le Xk0.out.lt em0))
  have Gm0 := Lib.hid (show w.heap.size ≤ gm0 from Nat.le_trans HB.out.size em0)
  have Em0 := Lib.hid em0
  clear em0
  have Ha := Lib.hid (AR.keep Ha.out (Keep.call HG.out))
  have Hb := Lib.hid (AR.keep Hb.out (Keep.call HG.out))
  have Hl1 := Lib.hid (CR.keep Hl1.out (Keep.call HG.out))
  have Hu1 := Lib.hid (CR.keep Hu1.out (Keep.call HG.out))
  have Xa0 := Lib.hid (Box.pcall HG.out Xa0.out)
  have Xb0 := Lib.hid (Box.pcall HG.out Xb0.out)
  have Xc0 := Lib.hid (Box.pcall HG.out Xc0.out)
  have Xd0 := Lib.hid (Box.pcall HG.out Xd0.out)
  have Xe0 := Lib.hid (Box.pcall HG.out Xe0.out)
  have Xf0 := Lib.hid (Box.pcall HG.out Xf0.out)
  have Xg0 := Lib.hid (Box.pcall HG.out Xg0.out)
  have Xh0 := Lib.hid (Box.pcall HG.out Xh0.out)
  have Xi0 := Lib.hid (Box.pcall HG.out Xi0.out)
  have Xj0 := Lib.hid (Box.pcall HG.out Xj0.out)
  have Xk0 := Lib.hid (Box.pcall HG.out Xk0.out)
  have HB := Lib.hid (below_call HB.out HG.out)
  have HS := Lib.hid (SE.of (E := []) HG.out)
  have Nl0m0 := Lib.hid hne
  clear hne
  have Xl0 := Lib.hid xl0
  clear xl0
  have Xm0 := Lib.hid xm0
  clear xm0
  simp only [Act.put, List.setIfInBounds_toArray, List.set_cons_zero, List.set_cons_succ]
  refine held_oneX 12 (Go.Op.store 25 (Go.Operand.tmp 23) (Go.Operand.tmp 77)) (none) (World.setCell (World.setCell (World.setCell w28 ⟨gl0, 0, none⟩ (.bool v2_b)) ⟨gl0, 1, none⟩ (.slice v2_a v2_n v2_c)) ⟨gl0, 2, none⟩ (.slice v2_d v2_m v2_e)) (by kernel_rfl) (by kernel_rfl) (by kernel_rfl) (by kernel_rfl) ?_ (HS.out.store3 (.inr El0.out)) ?_
  · obtain ⟨cl00, cl01, cl02, fl00, fl01, fl02⟩ := Xl0.out.c3
    first | (go_simp; done) | (go_simp; simp_all; done) | (go_simp; rfl)
  obtain ⟨W29, hW⟩ : ∃ W29, W29 = (World.setCell (World.setCell (World.setCell w28 ⟨gl0, 0, none⟩ (.bool v2_b)) ⟨gl0, 1, none⟩ (.slice v2_a v2_n v2_c)) ⟨gl0, 2, none⟩ (.slice v2_d v2_m v2_e)) := ⟨_, rfl⟩
  rw [← hW]
  obtain ⟨xl0, hk, hf, hbb, hz⟩ := stored3s hW Xl0.out (by first | exact NoInt.bool _ | exact NoInt.slice _ _ _) (by first | exact NoInt.bool _ | exact NoInt.slice _ _ _) (by first | exact NoInt.bool _ | exact NoInt.slice _ _ _)
  have Ha := Lib.hid (AR.keep Ha.out hk)
  have Hb := Lib.hid (AR.keep Hb.out hk)
  have Hl1 := Lib.hid (CR.keep Hl1.out hk)
  have Hu1 := Lib.hid (CR.keep Hu1.out hk)
  have Hv2 := Lib.hid (CR.keep Hv2.out hk)
  have Hv4 := Lib.hid (CR.keep Hv4.out hk)
  have Xa0 := Lib.hid (hf _ _ _ Xa0.out Na0l0.out)
  have Xb0 := Lib.hid (hf _ _ _ Xb0.out Nb0l0.out)
  have Xc0 := Lib.hid (hf _ _ _ Xc0.out Nc0l0.out)
  have Xd0 := Lib.hid (hf _ _ _ Xd0.out Nd0l0.out)
  have Xe0 := Lib.hid (hf _ _ _ Xe0.out Ne0l0.out)
  have Xf0 := Lib.hid (hf _ _ _ Xf0.out Nf0l0.out)
  have Xg0 := Lib.hid (hf _ _ _ Xg0.out Ng0l0.out)
  have Xh0 := Lib.hid (hf _ _ _ Xh0.out Nh0l0.out)
  have Xi0 := Lib.hid (hf _ _ _ Xi0.out Ni0l0.out)
  have Xj0 := Lib.hid (hf _ _ _ Xj0.out Nj0l0.out)
  have Xk0 := Lib.hid (hf _ _ _ Xk0.out Nk0l0.out)
  have Xl0 := Lib.hid xl0
  have Xm0 := Lib.hid (hf _ _ _ Xm0.out Nl0m0.out.symm)
  have HB := Lib.hid (hbb _ HB.out Gl0.out)
  have HS := Lib.hid (show SE (W19.drew) [] W29 from by rw [hW]; exact HS.out.store3 (.inr El0.out))
  clear hW hk hf hbb xl0
  clear hz
  refine held_oneX 13 (Go.Op.store 25 (Go.Operand.tmp 24) (Go.Operand.tmp 82)) (none) (World.setCell (World.setCell (World.setCell W29 ⟨gm0, 0, none⟩ (.bool v4_b)) ⟨gm0, 1, none⟩ (.slice v4_a v4_n v4_c)) ⟨gm0, 2, none⟩ (.slice v4_d v4_m v4_e)) (by kernel_rfl) (by kernel_rfl) (by kernel_rfl) (by kernel_rfl) ?_ (HS.out.store3 (.inr Em0.out)) ?_
  · obtain ⟨cm00, cm01, cm02, fm00, fm01, fm02⟩ := Xm0.out.c3
    first | (go_simp; done) | (go_simp; simp_all; done) | (go_simp; rfl)
  obtain ⟨W30, hW⟩ : ∃ W30, W30 = (World.setCell (World.setCell (World.setCell W29 ⟨gm0, 0, none⟩ (.bool v4_b)) ⟨gm0, 1, none⟩ (.slice v4_a v4_n v4_c)) ⟨gm0, 2, none⟩ (.slice v4_d v4_m v4_e)) := ⟨_, rfl⟩
  rw [← hW]
  obtain ⟨xm0, hk, hf, hbb, hz⟩ := stored3s hW Xm0.out (by first | exact NoInt.bool _ | exact NoInt.slice _ _ _) (by first | exact NoInt.bool _ | exact NoInt.slice _ _ _) (by first | exact NoInt.bool _ | exact NoInt.slice _ _ _)
  have Ha := Lib.hid (AR.keep Ha.out hk)
  have Hb := Lib.hid (AR.keep Hb.out hk)
  have Hl1 := Lib.hid (CR.keep Hl1.out hk)
  have Hu1 := Lib.hid (CR.keep Hu1.out hk)
  have Hv2 := Lib.hid (CR.keep Hv2.out hk)
  have Hv4 := Lib.hid (CR.keep Hv4.out hk)
  have Xa0 := Lib.hid (hf _ _ _ Xa0.out Na0m0.out)
  have Xb0 := Lib.hid (hf _ _ _ Xb0.out Nb0m0.out)
  have Xc0 := Lib.hid (hf _ _ _ Xc0.out Nc0m0.out)
  have Xd0 := Lib.hid (hf _ _ _ Xd0.out Nd0m0.out)
  have Xe0 := Lib.hid (hf _ _ _ Xe0.out Ne0m0.out)
  have Xf0 := Lib.hid (hf _ _ _ Xf0.out Nf0m0.out)
  have Xg0 := Lib.hid (hf _ _ _ Xg0.out Ng0m0.out)
  have Xh0 := Lib.hid (hf _ _ _ Xh0.out Nh0m0.out)
  have Xi0 := Lib.hid (hf _ _ _ Xi0.out Ni0m0.out)
  have Xj0 := Lib.hid (hf _ _ _ Xj0.out Nj0m0.out)
  have Xk0 := Lib.hid (hf _ _ _ Xk0.out Nk0m0.out)
  have Xl0 := Lib.hid (hf _ _ _ Xl0.out Nl0m0.out)
  have Xm0 := Lib.hid xm0
  have HB := Lib.hid (hbb _ HB.out Gm0.out)
  have HS := Lib.hid (show SE (W19.drew) [] W30 from by rw [hW]; exact HS.out.store3 (.inr Em0.out))
  clear hW hk hf hbb xm0
  clear hz
  refine wpAnyH_done (by kernel_rfl) ?_ _
  clear HG HS Hok El0 Em0
  obtain ⟨ca00, ca01, ca02, fa00, fa01, fa02⟩ := Xa0.out.c3
  have la0 := Xa0.out.lt
  obtain ⟨cb00, cb01, cb02, fb00, fb01, fb02⟩ := Xb0.out.c3
  have lb0 := Xb0.out.lt
  obtain ⟨cd00, cd01, cd02, fd00, fd01, fd02⟩ := Xd0.out.c3
  have ld0 := Xd0.out.lt
  obtain ⟨ce00, ce01, ce02, fe00, fe01, fe02⟩ := Xe0.out.c3
  have le0 := Xe0.out.lt
  obtain ⟨cf00, cf01, cf02, ff00, ff01, ff02⟩ := Xf0.out.c3
  have lf0 := Xf0.out.lt
  obtain ⟨cg00, cg01, cg02, fg00, fg01, fg02⟩ := Xg0.out.c3
  have lg0 := Xg0.out.lt
  obtain ⟨ch00, ch01, ch02, fh00, fh01, fh02⟩ := Xh0.out.c3
  have lh0 := Xh0.out.lt
  obtain ⟨ci00, ci01, ci02, fi00, fi01, fi02⟩ := Xi0.out.c3
  have li0 := Xi0.out.lt
  obtain ⟨cj00, cj01, cj02, fj00, fj01, fj02⟩ := Xj0.out.c3
  have lj0 := Xj0.out.lt
  obtain ⟨ck00, ck01, ck02, fk00, fk01, fk02⟩ := Xk0.out.c3
  have lk0 := Xk0.out.lt
  obtain ⟨cl00, cl01, cl02, fl00, fl01, fl02⟩ := Xl0.out.c3
  have ll0 := Xl0.out.lt
  obtain ⟨cm00, cm01, cm02, fm00, fm01, fm02⟩ := Xm0.out.c3
  have lm0 := Xm0.out.lt
  go_wp2_with fail
  clear ca00 ca01 ca02 fa00 fa01 fa02 la0 cb00 cb01 cb02 fb00 fb01 fb02 lb0 cd00 cd01 cd02 fd00 fd01 fd02 ld0 ce00 ce01 ce02 fe00 fe01 fe02 le0 cf00 cf01 cf02 ff00 ff01 ff02 lf0 cg00 cg01 cg02 fg00 fg01 fg02 lg0 ch00 ch01 ch02 fh00 fh01 fh02 lh0 ci00 ci01 ci02 fi00 fi01 fi02 li0 cj00 cj01 cj02 fj00 fj01 fj02 lj0 ck00 ck01 ck02 fk00 fk01 fk02 lk0 cl00 cl01 cl02 fl00 fl01 fl02 ll0 cm00 cm01 cm02 fm00 fm01 fm02 lm0
  have Ha := Lib.hid (AR.keep Ha.out (Keep.drew W30))
  have Hb := Lib.hid (AR.keep Hb.out (Keep.drew W30))
  have Hl1 := Lib.hid (CR.keep Hl1.out (Keep.drew W30))
  have Hu1 := Lib.hid (CR.keep Hu1.out (Keep.drew W30))
  have Hv2 := Lib.hid (CR.keep Hv2.out (Keep.drew W30))
  have Hv4 := Lib.hid (CR.keep Hv4.out (Keep.drew W30))
  have Xa0 := Lib.hid (Box.drew Xa0.out)
  have Xb0 := Lib.hid (Box.drew Xb0.out)
  have Xc0 := Lib.hid (Box.drew Xc0.out)
  have Xd0 := Lib.hid (Box.drew Xd0.out)
  have Xe0 := Lib.hid (Box.drew Xe0.out)
  have Xf0 := Lib.hid (Box.drew Xf0.out)
  have Xg0 := Lib.hid (Box.drew Xg0.out)
  have Xh0 := Lib.hid (Box.drew Xh0.out)
  have Xi0 := Lib.hid (Box.drew Xi0.out)
  have Xj0 := Lib.hid (Box.drew Xj0.out)
  have Xk0 := Lib.hid (Box.drew Xk0.out)
  have Xl0 := Lib.hid (Box.drew Xl0.out)
  have Xm0 := Lib.hid (Box.drew Xm0.out)
  have HB := Lib.hid (Below.drew HB.out)
  refine wp_region_float [] [] (by kernel_rfl) (by kernel_rfl) 105 (by kernel_rfl) Flok.nil ?_
  intro ok
  have Hok := Lib.hid ok
  clear ok
  have HG := Lib.hid (Below.refl (W30.drew).heap.size (W30.drew))
  refine good_pureX 0 (some 83) (Go.Op.move (Go.Operand.tmp 17)) (none) (.int .i64 0) (by kernel_rfl) (by kernel_rfl) (by kernel_rfl) (fun _ _ _ h => h) (fun w' hw' => ?_) ?_
  · first | (go_simp; done) | (go_simp; simp_all; done) | (go_simp; rfl)
  simp only [Act.put, List.setIfInBounds_toArray, List.set_cons_zero, List.set_cons_succ]
  refine good_pureX 1 (some 84) (Go.Op.binOp Go.BinOp.eql 28 (Go.Operand.tmp 83) (Go.Operand.const (Go.Value.int Go.IntKind.i64 0)) 28) (none) (.bool true) (by kernel_rfl) (by kernel_rfl) (by kernel_rfl) (fun _ _ _ h => h) (fun w' hw' => ?_) ?_
  · first | (go_simp; done) | (go_simp; simp_all; done) | (go_simp; rfl)
  simp only [Act.put, List.setIfInBounds_toArray, List.set_cons_zero, List.set_cons_succ]
  refine good_pureX 2 (some 85) (Go.Op.move (Go.Operand.tmp 84)) (none) (.bool true) (by kernel_rfl) (by kernel_rfl) (by kernel_rfl) (fun _ _ _ h => h) (fun w' hw' => ?_) ?_
  · first | (go_simp; done) | (go_simp; simp_all; done) | (go_simp; rfl)
  simp only [Act.put, List.setIfInBounds_toArray, List.set_cons_zero, List.set_cons_succ]
  refine good_pureX 3 (some 86) (Go.Op.move (Go.Operand.tmp 21)) (some (2, true)) (.int .i64 0) (by kernel_rfl) (by kernel_rfl) (by kernel_rfl) (fun _ _ _ h => h) (fun w' hw' => ?_) ?_
  · first | (go_simp; done) | (go_simp; simp_all; done) | (go_simp; rfl)
  simp only [Act.put, List.setIfInBounds_toArray, List.set_cons_zero, List.set_cons_succ]
  refine good_pureX 4 (some 87) (Go.Op.binOp Go.BinOp.eql 28 (Go.Operand.tmp 86) (Go.Operand.const (Go.Value.int Go.IntKind.i64 0)) 28) (some (2, true)) (.bool true) (by kernel_rfl) (by kernel_rfl) (by kernel_rfl) (fun _ _ _ h => h) (fun w' hw' => ?_) ?_
  · first | (go_simp; done) | (go_simp; simp_all; done) | (go_simp; rfl)
  simp only [Act.put, List.setIfInBounds_toArray, List.set_cons_zero, List.set_cons_succ]
  refine good_pureX 5 (some 88) (Go.Op.pick (Go.Operand.tmp 85) (Go.Operand.tmp 87) (Go.Operand.const (Go.Value.bool false))) (none) (.bool true) (by kernel_rfl) (by kernel_rfl) (by kernel_rfl) (fun _ _ _ h => h) (fun w' hw' => ?_) ?_
  · first | (go_simp; done) | (go_simp; simp_all; done) | (go_simp; rfl)
  simp only [Act.put, List.setIfInBounds_toArray, List.set_cons_zero, List.set_cons_succ]
  refine good_pureX 6 (some 89) (Go.Op.move (Go.Operand.tmp 88)) (none) (.bool true) (by kernel_rfl) (by kernel_rfl) (by kernel_rfl) (fun _ _ _ h => h) (fun w' hw' => ?_) ?_
  · first | (go_simp; done) | (go_simp; simp_all; done) | (go_simp; rfl)
  simp only [Act.put, List.setIfInBounds_toArray, List.set_cons_zero, List.set_cons_succ]
  refine good_pureX 7 (some 90) (Go.Op.load 25 (Go.Operand.tmp 24)) (some (6, true)) (.agg #[.bool v4_b, .slice v4_a v4_n v4_c, .slice v4_d v4_m v4_e]) (by kernel_rfl) (by kernel_rfl) (by kernel_rfl) (fun _ _ _ h => h) (fun w' hw' => ?_) ?_
  · obtain ⟨cm00, cm01, cm02, fm00, fm01, fm02⟩ := (Box.se hw' Xm0.out notin0).c3
    first | (go_simp; done) | (go_simp; simp_all; done) | (go_simp; rfl)
  simp only [Act.put, List.setIfInBounds_toArray, List.set_cons_zero, List.set_cons_succ]
  refine good_pureX 8 (some 91) (Go.Op.load 25 (Go.Operand.tmp 23)) (some (6, true)) (.agg #[.bool v2_b, .slice v2_a v2_n v2_c, .slice v2_d v2_m v2_e]) (by kernel_rfl) (by kernel_rfl) (by kernel_rfl) (fun _ _ _ h => h) (fun w' hw' => ?_) ?_
  · obtain ⟨cl00, cl01, cl02, fl00, fl01, fl02⟩ := (Box.se hw' Xl0.out notin0).c3
    first | (go_simp; done) | (go_simp; simp_all; done) | (go_simp; rfl)
  simp only [Act.put, List.setIfInBounds_toArray, List.set_cons_zero, List.set_cons_succ]
  refine good_callX 9 24 (some 92) #[Go.Operand.tmp 90, Go.Operand.tmp 91] #[25, 25] (some (6, true)) #[.agg #[.bool v4_b, .slice v4_a v4_n v4_c, .slice v4_d v4_m v4_e], .agg #[.bool v2_b, .slice v2_a v2_n v2_c, .slice v2_d v2_m v2_e]] (by kernel_rfl) Hok.out (by kernel_rfl) (by kernel_rfl) (by kernel_rfl) (by kernel_rfl) rfl rfl rfl (by kernel_rfl) (fun w31 hb => ?_)
  have HG := Lib.hid (below_call HG.out hb)
  clear hb
  (first | (have hcall := zcmp_ar m (CR.keep Hv4.out (Keep.call HG.out)).ar (CR.keep Hv2.out (Keep.call HG.out)).ar Hm.out (by decide) (by decide); refine Calls.mono hcall ?_; clear hcall) | refine Calls.mono (zcmp_ar m (CR.keep Hv4.out (Keep.call HG.out)).ar (CR.keep Hv2.out (Keep.call HG.out)).ar Hm.out (by decide) (by decide)) ?_)
  rintro e w32 ⟨v32, rfl, ⟨⟩, hb⟩
  refine ⟨_, rfl, ?_, hb⟩
  have HG := Lib.hid (below_call HG.out hb)
  clear hb
  simp only [Act.put, List.setIfInBounds_toArray, List.set_cons_zero, List.set_cons_succ]
  refine good_pureX 10 (some 93) (Go.Op.binOp Go.BinOp.leq 3 (Go.Operand.tmp 92) (Go.Operand.const (Go.Value.int Go.IntKind.i64 0)) 3) (some (6, true)) (.bool true) (by kernel_rfl) (by kernel_rfl) (by kernel_rfl) (fun _ _ _ h => h) (fun w' hw' => ?_) ?_
  · first | (go_simp; done) | (go_simp; simp_all; done) | (go_simp; rfl)
  simp only [Act.put, List.setIfInBounds_toArray, List.set_cons_zero, List.set_cons_succ]
  refine good_pureX 11 (some 94) (Go.Op.pick (Go.Operand.tmp 89) (Go.Operand.tmp 93) (Go.Operand.const (Go.Value.bool false))) (none) (.bool true) (by kernel_rfl) (by kernel_rfl) (by kernel_rfl) (fun _ _ _ h => h) (fun w' hw' => ?_) ?_
  · first | (go_simp; done) | (go_simp; simp_all; done) | (go_simp; rfl)
  simp only [Act.put, List.setIfInBounds_toArray, List.set_cons_zero, List.set_cons_succ]
  refine good_pureX 12 (some 95) (Go.Op.move (Go.Operand.tmp 94)) (none) (.bool true) (by kernel_rfl) (by kernel_rfl) (by kernel_rfl) (fun _ _ _ h => h) (fun w' hw' => ?_) ?_
  · first | (go_simp; done) | (go_simp; simp_all; done) | (go_simp; rfl)
  simp only [Act.put, List.setIfInBounds_toArray, List.set_cons_zero, List.set_cons_succ]
  refine good_pureX 13 (some 96) (Go.Op.load 25 (Go.Operand.tmp 12)) (some (12, true)) (.agg #[.bool l1_b, .slice l1_a l1_n l1_c, .slice l1_d l1_m l1_e]) (by kernel_rfl) (by kernel_rfl) (by kernel_rfl) (fun _ _ _ h => h) (fun w' hw' => ?_) ?_
  · obtain ⟨ce00, ce01, ce02, fe00, fe01, fe02⟩ := (Box.se hw' Xe0.out notin0).c3
    first | (go_simp; done) | (go_simp; simp_all; done) | (go_simp; rfl)
  simp only [Act.put, List.setIfInBounds_toArray, List.set_cons_zero, List.set_cons_succ]
  refine good_pureX 14 (some 97) (Go.Op.load 25 (Go.Operand.tmp 13)) (some (12, true)) (.agg #[.bool u1_b, .slice u1_a u1_n u1_c, .slice u1_d u1_m u1_e]) (by kernel_rfl) (by kernel_rfl) (by kernel_rfl) (fun _ _ _ h => h) (fun w' hw' => ?_) ?_
  · obtain ⟨cf00, cf01, cf02, ff00, ff01, ff02⟩ := (Box.se hw' Xf0.out notin0).c3
    first | (go_simp; done) | (go_simp; simp_all; done) | (go_simp; rfl)
  simp only [Act.put, List.setIfInBounds_toArray, List.set_cons_zero, List.set_cons_succ]
  refine good_pureX 16 (some 99) (Go.Op.load 25 (Go.Operand.tmp 5)) (some (12, true)) (.agg #[.bool ba, .slice sa na ca, .slice ta ma ea]) (by kernel_rfl) (by kernel_rfl) (by kernel_rfl) (fun _ _ _ h => h) (fun w' hw' => ?_) ?_
  · obtain ⟨ca00, ca01, ca02, fa00, fa01, fa02⟩ := (Box.se hw' Xa0.out notin0).c3
    first | (go_simp; done) | (go_simp; simp_all; done) | (go_simp; rfl)
  simp only [Act.put, List.setIfInBounds_toArray, List.set_cons_zero, List.set_cons_succ]
  refine good_pureX 17 (some 100) (Go.Op.load 25 (Go.Operand.tmp 6)) (some (12, true)) (.agg #[.bool bb, .slice sb nb cb, .slice tb mb eb]) (by kernel_rfl) (by kernel_rfl) (by kernel_rfl) (fun _ _ _ h => h) (fun w' hw' => ?_) ?_
  · obtain ⟨cb00, cb01, cb02, fb00, fb01, fb02⟩ := (Box.se hw' Xb0.out notin0).c3
    first | (go_simp; done) | (go_simp; simp_all; done) | (go_simp; rfl)
  simp only [Act.put, List.setIfInBounds_toArray, List.set_cons_zero, List.set_cons_succ]
  refine good_callX 15 19 (some 98) #[Go.Operand.tmp 96, Go.Operand.tmp 97] #[25, 25] (some (12, true)) #[.agg #[.bool l1_b, .slice l1_a l1_n l1_c, .slice l1_d l1_m l1_e], .agg #[.bool u1_b, .slice u1_a u1_n u1_c, .slice u1_d u1_m u1_e]] (by kernel_rfl) Hok.out (by kernel_rfl) (by kernel_rfl) (by kernel_rfl) (by kernel_rfl) rfl rfl rfl (by kernel_rfl) (fun w33 hb => ?_)
  have HG := Lib.hid (below_call HG.out hb)
  clear hb
  (first | (have hcall := rlgap_ar (CR.keep Hl1.out (Keep.call HG.out)).ar (CR.keep Hu1.out (Keep.call HG.out)).ar (by decide); refine Calls.mono hcall ?_; clear hcall) | refine Calls.mono (rlgap_ar (CR.keep Hl1.out (Keep.call HG.out)).ar (CR.keep Hu1.out (Keep.call HG.out)).ar (by decide)) ?_)
  rintro e w34 ⟨v34, rfl, he1, hb⟩
  obtain ⟨e1_b, e1_a, e1_n, e1_c, e1_d, e1_m, e1_e, rfl⟩ := he1.litb
  refine ⟨_, rfl, ?_, hb⟩
  have HG := Lib.hid (below_call HG.out hb)
  have He1 := Lib.hid he1
  clear hb he1
  simp only [Act.put, List.setIfInBounds_toArray, List.set_cons_zero, List.set_cons_succ]
  refine good_callX 18 19 (some 101) #[Go.Operand.tmp 99, Go.Operand.tmp 100] #[25, 25] (some (12, true)) #[.agg #[.bool ba, .slice sa na ca, .slice ta ma ea], .agg #[.bool bb, .slice sb nb cb, .slice tb mb eb]] (by kernel_rfl) Hok.out (by kernel_rfl) (by kernel_rfl) (by kernel_rfl) (by kernel_rfl) rfl rfl rfl (by kernel_rfl) (fun w35 hb => ?_)
  have He1 := Lib.hid (CR.keep He1.out (Keep.call hb))
  have HG := Lib.hid (below_call HG.out hb)
  clear hb
  (first | (have hcall := rlgap_ar (AR.keep Ha.out (Keep.call HG.out)) (AR.keep Hb.out (Keep.call HG.out)) (by decide); refine Calls.mono hcall ?_; clear hcall) | refine Calls.mono (rlgap_ar (AR.keep Ha.out (Keep.call HG.out)) (AR.keep Hb.out (Keep.call HG.out)) (by decide)) ?_)
  rintro e w36 ⟨v36, rfl, he2, hb⟩
  obtain ⟨e2_b, e2_a, e2_n, e2_c, e2_d, e2_m, e2_e, rfl⟩ := he2.litb
  refine ⟨_, rfl, ?_, hb⟩
  have He1 := Lib.hid (CR.keep He1.out (Keep.call hb))
  have HG := Lib.hid (below_call HG.out hb)
  have He2 := Lib.hid he2
  clear hb he2
  simp only [Act.put, List.setIfInBounds_toArray, List.set_cons_zero, List.set_cons_succ]
  refine good_callX 19 24 (some 102) #[Go.Operand.tmp 98, Go.Operand.tmp 101] #[25, 25] (some (12, true)) #[.agg #[.bool e1_b, .slice e1_a e1_n e1_c, .slice e1_d e1_m e1_e], .agg #[.bool e2_b, .slice e2_a e2_n e2_c, .slice e2_d e2_m e2_e]] (by kernel_rfl) Hok.out (by kernel_rfl) (by kernel_rfl) (by kernel_rfl) (by kernel_rfl) rfl rfl rfl (by kernel_rfl) (fun w37 hb => ?_)
  have He1 := Lib.hid (CR.keep He1.out (Keep.call hb))
  have He2 := Lib.hid (CR.keep He2.out (Keep.call hb))
  have HG := Lib.hid (below_call HG.out hb)
  clear hb
  (first | (have hcall := zcmp_ar n He1.out.ar He2.out.ar Hn.out (by decide) (by decide); refine Calls.mono hcall ?_; clear hcall) | refine Calls.mono (zcmp_ar n He1.out.ar He2.out.ar Hn.out (by decide) (by decide)) ?_)
  rintro e w38 ⟨v38, rfl, ⟨⟩, hb⟩
  refine ⟨_, rfl, ?_, hb⟩
  have HG := Lib.hid (below_call HG.out hb)
  clear hb
  simp only [Act.put, List.setIfInBounds_toArray, List.set_cons_zero, List.set_cons_succ]
  refine good_pureX 20 (some 103) (Go.Op.binOp Go.BinOp.leq 3 (Go.Operand.tmp 102) (Go.Operand.const (Go.Value.int Go.IntKind.i64 0)) 3) (some (12, true)) (.bool true) (by kernel_rfl) (by kernel_rfl) (by kernel_rfl) (fun _ _ _ h => h) (fun w' hw' => ?_) ?_
  · first | (go_simp; done) | (go_simp; simp_all; done) | (go_simp; rfl)
  simp only [Act.put, List.setIfInBounds_toArray, List.set_cons_zero, List.set_cons_succ]
  refine good_pureX 21 (some 104) (Go.Op.pick (Go.Operand.tmp 95) (Go.Operand.tmp 103) (Go.Operand.const (Go.Value.bool false))) (none) (.bool true) (by kernel_rfl) (by kernel_rfl) (by kernel_rfl) (fun _ _ _ h => h) (fun w' hw' => ?_) ?_
  · first | (go_simp; done) | (go_simp; simp_all; done) | (go_simp; rfl)
  simp only [Act.put, List.setIfInBounds_toArray, List.set_cons_zero, List.set_cons_succ]
  refine good_pureX 22 (some 10) (Go.Op.assign (Go.Operand.tmp 104)) (none) (.bool true) (by kernel_rfl) (by kernel_rfl) (by kernel_rfl) (fun _ _ _ h => h) (fun w' hw' => ?_) ?_
  · first | (go_simp; done) | (go_simp; simp_all; done) | (go_simp; rfl)
  simp only [Act.put, List.setIfInBounds_toArray, List.set_cons_zero, List.set_cons_succ]
  refine good_end0 0 (by kernel_rfl) (fun _ w39 hb => ?_)
  have HG := Lib.hid (below_call HG.out hb)
  clear hb
  have Xa0 := Lib.hid (Box.pcall HG.out Xa0.out)
  have Xb0 := Lib.hid (Box.pcall HG.out Xb0.out)
  have Xc0 := Lib.hid (Box.pcall HG.out Xc0.out)
  have Xd0 := Lib.hid (Box.pcall HG.out Xd0.out)
  have Xe0 := Lib.hid (Box.pcall HG.out Xe0.out)
  have Xf0 := Lib.hid (Box.pcall HG.out Xf0.out)
  have Xg0 := Lib.hid (Box.pcall HG.out Xg0.out)
  have Xh0 := Lib.hid (Box.pcall HG.out Xh0.out)
  have Xi0 := Lib.hid (Box.pcall HG.out Xi0.out)
  have Xj0 := Lib.hid (Box.pcall HG.out Xj0.out)
  have Xk0 := Lib.hid (Box.pcall HG.out Xk0.out)
  have Xl0 := Lib.hid (Box.pcall HG.out Xl0.out)
  have Xm0 := Lib.hid (Box.pcall HG.out Xm0.out)
  have HB := Lib.hid (below_call HB.out HG.out)
  have HS := Lib.hid (SE.of (E := []) HG.out)
  refine wpAnyH_done (by kernel_rfl) ?_ _
  clear HG HS Hok 
  obtain ⟨ca00, ca01, ca02, fa00, fa01, fa02⟩ := Xa0.out.c3
  have la0 := Xa0.out.lt
  obtain ⟨cb00, cb01, cb02, fb00, fb01, fb02⟩ := Xb0.out.c3
  have lb0 := Xb0.out.lt
  obtain ⟨cd00, cd01, cd02, fd00, fd01, fd02⟩ := Xd0.out.c3
  have ld0 := Xd0.out.lt
  obtain ⟨ce00, ce01, ce02, fe00, fe01, fe02⟩ := Xe0.out.c3
  have le0 := Xe0.out.lt
  obtain ⟨cf00, cf01, cf02, ff00, ff01, ff02⟩ := Xf0.out.c3
  have lf0 := Xf0.out.lt
  obtain ⟨cg00, cg01, cg02, fg00, fg01, fg02⟩ := Xg0.out.c3
  have lg0 := Xg0.out.lt
  obtain ⟨ch00, ch01, ch02, fh00, fh01, fh02⟩ := Xh0.out.c3
  have lh0 := Xh0.out.lt
  obtain ⟨ci00, ci01, ci02, fi00, fi01, fi02⟩ := Xi0.out.c3
  have li0 := Xi0.out.lt
  obtain ⟨cj00, cj01, cj02, fj00, fj01, fj02⟩ := Xj0.out.c3
  have lj0 := Xj0.out.lt
  obtain ⟨ck00, ck01, ck02, fk00, fk01, fk02⟩ := Xk0.out.c3
  have lk0 := Xk0.out.lt
  obtain ⟨cl00, cl01, cl02, fl00, fl01, fl02⟩ := Xl0.out.c3
  have ll0 := Xl0.out.lt
  obtain ⟨cm00, cm01, cm02, fm00, fm01, fm02⟩ := Xm0.out.c3
  have lm0 := Xm0.out.lt
  go_wp2
  clear ca00 ca01 ca02 fa00 fa01 fa02 la0 cb00 cb01 cb02 fb00 fb01 fb02 lb0 cd00 cd01 cd02 fd00 fd01 fd02 ld0 ce00 ce01 ce02 fe00 fe01 fe02 le0 cf00 cf01 cf02 ff00 ff01 ff02 lf0 cg00 cg01 cg02 fg00 fg01 fg02 lg0 ch00 ch01 ch02 fh00 fh01 fh02 lh0 ci00 ci01 ci02 fi00 fi01 fi02 li0 cj00 cj01 cj02 fj00 fj01 fj02 lj0 ck00 ck01 ck02 fk00 fk01 fk02 lk0 cl00 cl01 cl02 fl00 fl01 fl02 ll0 cm00 cm01 cm02 fm00 fm01 fm02 lm0
  go_ret
  exact ⟨_, rfl, rfl, HB.out⟩


theorem RelaxShrinks_all (ba : Bool) (sa : Option Addr) (na ca : Nat) (ta : Option Addr) (ma ea : Nat) (bb : Bool) (sb : Option Addr) (nb cb : Nat) (tb : Option Addr) (mb eb : Nat) (x y z : Int) (w : World) (ra : Row w (.slice sa na ca) na) (ua : Row w (.slice ta ma ea) ma) (rb : Row w (.slice sb nb cb) nb) (ub : Row w (.slice tb mb eb) mb) (hx : (Lit.int .u8 x).wf = true) (hy : (Lit.int .u8 y).wf = true) (hz : (Lit.int .u8 z).wf = true) : Calls Try.prog 7 #[.agg #[.bool ba, .slice sa na ca, .slice ta ma ea], .agg #[.bool bb, .slice sb nb cb, .slice tb mb eb], .int .u8 x, .int .u8 y, .int .u8 z] w (Ret w (Val (.bool true))) := by
  cases hB : ([⟨ba, sa, na, ca, ta, ma, ea⟩, ⟨bb, sb, nb, cb, tb, mb, eb⟩] : List Rw).any Rw.big
  case true => exact lshr_big hB
  have hs : na ≤ 8 ∧ ma ≤ 8 ∧ nb ≤ 8 ∧ mb ≤ 8 := by
    simp [Rw.big] at hB
    omega
  obtain ⟨qa, ha⟩ := ra.ar (b := ba) ua 8 (by omega) (by omega) (by decide)
  obtain ⟨qb, hb⟩ := rb.ar (b := bb) ub 8 (by omega) (by omega) (by decide)
  have wx := wf_u8 hx
  have wy := wf_u8 hy
  have wz := wf_u8 hz
  cases hu : unst qa qb
  · exact lshr_n hu hB ha hb
  have hs := unst_t hu
  obtain ⟨l1, l2⟩ := low_in (f := x % 8) hs.1 (by omega) (by omega)
  obtain ⟨k1, k2⟩ := high_in (g := y % 8) hs.2 (by omega) (by omega)
  have hu2 : unst (btw qa 0 (x % 8) 8) (btw 0 qb (1 + y % 8) 8) = true := by unfold unst; rw [decide_eq_true l2, decide_eq_true k1]; rfl
  obtain ⟨i1, i2⟩ := btw_in (a := btw qa 0 (x % 8) 8) (b := btw 0 qb (1 + y % 8) 8) (t := z % 17) (n := 16) (by grind) (by decide) (by omega) (by omega)
  exact lshr_y wx.1 wx.2 wy.1 wy.2 wz.1 wz.2 hu hu2 _ rfl _ rfl _ rfl (decide_eq_true (cmpQ_le.2 (close_up hu hu2 l1 k2 i1 i2))) _ rfl (decide_eq_true (cmpQ_le.2 (close_gap hu hu2 l1 k2))) hB ha hb

end Go.Proofs.Ytlpjgncaedffoaa
