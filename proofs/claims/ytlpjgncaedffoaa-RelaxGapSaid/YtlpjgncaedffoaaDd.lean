/- Texts RelC, in this order. -/
import Derived.Test.YtlpjgncaedffoaaDc
namespace Go.Proofs.Ytlpjgncaedffoaa
open Go.RowKit Nt
set_option linter.unusedVariables false
theorem area_best {a b s : Rat} (h0 : 0 ≤ s) (h1 : s ≤ ((1 : Int) : Rat)) (hu : unst a b = true) : areaQ a b ((slopeQ a b : Int) : Rat) ≤ areaQ a b s := by
  have o : ((1 : Int) : Rat) = 1 := rfl
  have z : ((0 : Int) : Rat) = 0 := rfl
  rw [o] at h1
  have two : (0 : Rat) < ((2 : Int) : Rat) := by decide
  have e : ∀ x, areaQ a b x * ((2 : Int) : Rat) = x * (a * a) + (1 - x) * (b * b) := by intro x; unfold areaQ; rw [div_mul' two_ne, o]
  have key : 0 ≤ (areaQ a b s - areaQ a b ((slopeQ a b : Int) : Rat)) * ((2 : Int) : Rat) := by
    have : (areaQ a b s - areaQ a b ((slopeQ a b : Int) : Rat)) * ((2 : Int) : Rat) = areaQ a b s * ((2 : Int) : Rat) - areaQ a b ((slopeQ a b : Int) : Rat) * ((2 : Int) : Rat) := by grind
    rw [this, e, e]
    have hs := unst_t hu
    unfold slopeQ
    rw [hu]
    by_cases hp : 0 < a + b
    · rw [decide_eq_true hp]
      show 0 ≤ _ - (((1 : Int) : Rat) * (a * a) + (1 - ((1 : Int) : Rat)) * (b * b))
      rw [o]
      have k := nn_mul (show 0 ≤ 1 - s by grind) (nn_mul (show 0 ≤ a + b by grind) (show 0 ≤ b - a by grind))
      grind
    · rw [decide_eq_false hp]
      show 0 ≤ _ - (((0 : Int) : Rat) * (a * a) + (1 - ((0 : Int) : Rat)) * (b * b))
      rw [z]
      have k := nn_mul h0 (nn_mul (show 0 ≤ -(a + b) by grind) (show 0 ≤ b - a by grind))
      grind
  have := of_mul_nn two key
  grind
theorem slope_bd (a b : Rat) : slopeQ a b = 0 ∨ slopeQ a b = 1 := by unfold slopeQ; split <;> simp

set_option maxRecDepth 100000 in
set_option maxHeartbeats 4000000 in
theorem llin_big {ba : Bool} {sa ta : Option Addr} {na ca ma ea : Nat} {bb : Bool} {sb tb : Option Addr} {nb cb mb eb : Nat}  {w : World} (hB8 : ([⟨ba, sa, na, ca, ta, ma, ea⟩, ⟨bb, sb, nb, cb, tb, mb, eb⟩] : List Rw).any Rw.big = true)  :
    Calls Try.prog 3 #[.agg #[.bool ba, .slice sa na ca, .slice ta ma ea], .agg #[.bool bb, .slice sb nb cb, .slice tb mb eb]] w (Ret w (Val (.bool true))) := by
  have HB8 := Lib.hid hB8
  clear hB8
  go_enter Try.func3, Try.ntmps3
  have HB := Lib.hid (Below.refl w.heap.size w)
  go_wp2_with fail
  obtain ⟨W1, hW⟩ : ∃ W1, W1 = (World.alloc (World.alloc w (.cells #[.bool ba, .slice sa na ca, .slice ta ma ea] 25)) (.cells #[.bool bb, .slice sb nb cb, .slice tb mb eb] 25)) := ⟨_, rfl⟩
  rw [← hW]
  obtain ⟨xa0, xb0, hk, hb⟩ := boxes_2 _ _ _ _ _ hW
  clear hW
  have Ga0 := Lib.hid (show w.heap.size ≤ w.heap.size from Nat.le_trans HB.out.size (by omega))
  have Gb0 := Lib.hid (show w.heap.size ≤ w.heap.size + 1 from Nat.le_trans HB.out.size (by omega))
  have Xa0 := Lib.hid xa0
  have Xb0 := Lib.hid xb0
  have HB := Lib.hid (below_call HB.out hb)
  clear hk hb xa0 xb0
  refine Calls.mono (awake25) ?_
  rintro e w2 ⟨v2, rfl, rfl, hb⟩
  have Xa0 := Lib.hid (Box.pcall hb Xa0.out)
  have Xb0 := Lib.hid (Box.pcall hb Xb0.out)
  have HB := Lib.hid (below_call HB.out hb)
  clear hb
  obtain ⟨ca00, ca01, ca02, fa00, fa01, fa02⟩ := Xa0.out.c3
  have la0 := Xa0.out.lt
  obtain ⟨cb00, cb01, cb02, fb00, fb01, fb02⟩ := Xb0.out.c3
  have lb0 := Xb0.out.lt
  go_wp2_with fail
  clear ca00 ca01 ca02 fa00 fa01 fa02 la0 cb00 cb01 cb02 fb00 fb01 fb02 lb0
  obtain ⟨W3, hW⟩ : ∃ W3, W3 = (World.alloc w2 (.cells #[.bool ba, .slice sa na ca, .slice ta ma ea, .bool bb, .slice sb nb cb, .slice tb mb eb] 25)) := ⟨_, rfl⟩
  rw [← hW]
  obtain ⟨xc0, hk, hb⟩ := boxes_1 _ _ _ hW
  clear hW
  have Na0c0 := Lib.hid (show w.heap.size ≠ w2.heap.size from Nat.ne_of_lt (Nat.lt_of_lt_of_le Xa0.out.lt (by omega)))
  have Nb0c0 := Lib.hid (show w.heap.size + 1 ≠ w2.heap.size from Nat.ne_of_lt (Nat.lt_of_lt_of_le Xb0.out.lt (by omega)))
  have Gc0 := Lib.hid (show w.heap.size ≤ w2.heap.size from Nat.le_trans HB.out.size (by omega))
  have Xa0 := Lib.hid (Box.pcall hb Xa0.out)
  have Xb0 := Lib.hid (Box.pcall hb Xb0.out)
  have Xc0 := Lib.hid xc0
  have HB := Lib.hid (below_call HB.out hb)
  clear hk hb xc0
  refine Calls.mono (large2 Xc0.out HB8.out) ?_
  rintro e w4 ⟨v4, rfl, rfl, hb⟩
  have Xa0 := Lib.hid (Box.pcall hb Xa0.out)
  have Xb0 := Lib.hid (Box.pcall hb Xb0.out)
  have Xc0 := Lib.hid (Box.pcall hb Xc0.out)
  have HB := Lib.hid (below_call HB.out hb)
  clear hb
  obtain ⟨ca00, ca01, ca02, fa00, fa01, fa02⟩ := Xa0.out.c3
  have la0 := Xa0.out.lt
  obtain ⟨cb00, cb01, cb02, fb00, fb01, fb02⟩ := Xb0.out.c3
  have lb0 := Xb0.out.lt
  go_wp2
  clear ca00 ca01 ca02 fa00 fa01 fa02 la0 cb00 cb01 cb02 fb00 fb01 fb02 lb0
  go_ret
  exact ⟨_, rfl, rfl, HB.out⟩


set_option maxRecDepth 100000 in
set_option maxHeartbeats 4000000 in
theorem llin_y {qa : Rat} {ba : Bool} {sa ta : Option Addr} {na ca ma ea : Nat} {qb : Rat} {bb : Bool} {sb tb : Option Addr} {nb cb mb eb : Nat}  {w : World} (k : Int) (hk : slopeQ qa qb = k) (hu : unst qa qb = true) (hB8 : ([⟨ba, sa, na, ca, ta, ma, ea⟩, ⟨bb, sb, nb, cb, tb, mb, eb⟩] : List Rw).any Rw.big = false) (ha : AR qa 8 w (.agg #[.bool ba, .slice sa na ca, .slice ta ma ea])) (hb : AR qb 8 w (.agg #[.bool bb, .slice sb nb cb, .slice tb mb eb])) :
    Calls Try.prog 3 #[.agg #[.bool ba, .slice sa na ca, .slice ta ma ea], .agg #[.bool bb, .slice sb nb cb, .slice tb mb eb]] w (Ret w (Val (.bool true))) := by
  have Ha := Lib.hid ha
  have Hb := Lib.hid hb
  have HB8 := Lib.hid hB8
  have Hk := Lib.hid hk
  have Hu := Lib.hid hu
  clear ha hb hB8 hk hu
  go_enter Try.func3, Try.ntmps3
  have HB := Lib.hid (Below.refl w.heap.size w)
  go_wp2_with fail
  obtain ⟨W1, hW⟩ : ∃ W1, W1 = (World.alloc (World.alloc w (.cells #[.bool ba, .slice sa na ca, .slice ta ma ea] 25)) (.cells #[.bool bb, .slice sb nb cb, .slice tb mb eb] 25)) := ⟨_, rfl⟩
  rw [← hW]
  obtain ⟨xa0, xb0, hk, hb⟩ := boxes_2 _ _ _ _ _ hW
  clear hW
  have Ha := Lib.hid (AR.keep Ha.out hk)
  have Hb := Lib.hid (AR.keep Hb.out hk)
  have Ga0 := Lib.hid (show w.heap.size ≤ w.heap.size from Nat.le_trans HB.out.size (by omega))
  have Gb0 := Lib.hid (show w.heap.size ≤ w.heap.size + 1 from Nat.le_trans HB.out.size (by omega))
  have Xa0 := Lib.hid xa0
  have Xb0 := Lib.hid xb0
  have HB := Lib.hid (below_call HB.out hb)
  clear hk hb xa0 xb0
  refine Calls.mono (awake25) ?_
  rintro e w2 ⟨v2, rfl, rfl, hb⟩
  have Ha := Lib.hid (AR.keep Ha.out (Keep.call hb))
  have Hb := Lib.hid (AR.keep Hb.out (Keep.call hb))
  have Xa0 := Lib.hid (Box.pcall hb Xa0.out)
  have Xb0 := Lib.hid (Box.pcall hb Xb0.out)
  have HB := Lib.hid (below_call HB.out hb)
  clear hb
  obtain ⟨ca00, ca01, ca02, fa00, fa01, fa02⟩ := Xa0.out.c3
  have la0 := Xa0.out.lt
  obtain ⟨cb00, cb01, cb02, fb00, fb01, fb02⟩ := Xb0.out.c3
  have lb0 := Xb0.out.lt
  go_wp2_with fail
  clear ca00 ca01 ca02 fa00 fa01 fa02 la0 cb00 cb01 cb02 fb00 fb01 fb02 lb0
  obtain ⟨W3, hW⟩ : ∃ W3, W3 = (World.alloc w2 (.cells #[.bool ba, .slice sa na ca, .slice ta ma ea, .bool bb, .slice sb nb cb, .slice tb mb eb] 25)) := ⟨_, rfl⟩
  rw [← hW]
  obtain ⟨xc0, hk, hb⟩ := boxes_1 _ _ _ hW
  clear hW
  have Ha := Lib.hid (AR.keep Ha.out hk)
  have Hb := Lib.hid (AR.keep Hb.out hk)
  have Na0c0 := Lib.hid (show w.heap.size ≠ w2.heap.size from Nat.ne_of_lt (Nat.lt_of_lt_of_le Xa0.out.lt (by omega)))
  have Nb0c0 := Lib.hid (show w.heap.size + 1 ≠ w2.heap.size from Nat.ne_of_lt (Nat.lt_of_lt_of_le Xb0.out.lt (by omega)))
  have Gc0 := Lib.hid (show w.heap.size ≤ w2.heap.size from Nat.le_trans HB.out.size (by omega))
  have Xa0 := Lib.hid (Box.pcall hb Xa0.out)
  have Xb0 := Lib.hid (Box.pcall hb Xb0.out)
  have Xc0 := Lib.hid xc0
  have HB := Lib.hid (below_call HB.out hb)
  clear hk hb xc0
  refine Calls.mono (large2 Xc0.out HB8.out) ?_
  rintro e w4 ⟨v4, rfl, rfl, hb⟩
  have Ha := Lib.hid (AR.keep Ha.out (Keep.call hb))
  have Hb := Lib.hid (AR.keep Hb.out (Keep.call hb))
  have Xa0 := Lib.hid (Box.pcall hb Xa0.out)
  have Xb0 := Lib.hid (Box.pcall hb Xb0.out)
  have Xc0 := Lib.hid (Box.pcall hb Xc0.out)
  have HB := Lib.hid (below_call HB.out hb)
  clear hb
  obtain ⟨ca00, ca01, ca02, fa00, fa01, fa02⟩ := Xa0.out.c3
  have la0 := Xa0.out.lt
  obtain ⟨cb00, cb01, cb02, fb00, fb01, fb02⟩ := Xb0.out.c3
  have lb0 := Xb0.out.lt
  go_wp2_with fail
  clear ca00 ca01 ca02 fa00 fa01 fa02 la0 cb00 cb01 cb02 fb00 fb01 fb02 lb0
  (first | (have hcall := rllin_k k Hk.out Hu.out Ha.out Hb.out (by decide); refine Calls.mono hcall ?_; clear hcall) | refine Calls.mono (rllin_k k Hk.out Hu.out Ha.out Hb.out (by decide)) ?_)
  rintro e w5 ⟨t5, rfl, ⟨v5, u5, rfl, hu1, hg1⟩, hb⟩
  obtain ⟨u1_b, u1_a, u1_n, u1_c, u1_d, u1_m, u1_e, rfl⟩ := hu1.litb
  obtain ⟨g1_b, g1_a, g1_n, g1_c, g1_d, g1_m, g1_e, rfl⟩ := hg1.litb
  have Ha := Lib.hid (AR.keep Ha.out (Keep.call hb))
  have Hb := Lib.hid (AR.keep Hb.out (Keep.call hb))
  have Xa0 := Lib.hid (Box.pcall hb Xa0.out)
  have Xb0 := Lib.hid (Box.pcall hb Xb0.out)
  have Xc0 := Lib.hid (Box.pcall hb Xc0.out)
  have HB := Lib.hid (below_call HB.out hb)
  have Hu1 := Lib.hid hu1
  have Hg1 := Lib.hid hg1
  clear hb hu1 hg1
  obtain ⟨ca00, ca01, ca02, fa00, fa01, fa02⟩ := Xa0.out.c3
  have la0 := Xa0.out.lt
  obtain ⟨cb00, cb01, cb02, fb00, fb01, fb02⟩ := Xb0.out.c3
  have lb0 := Xb0.out.lt
  go_wp2_with fail
  clear ca00 ca01 ca02 fa00 fa01 fa02 la0 cb00 cb01 cb02 fb00 fb01 fb02 lb0
  obtain ⟨W6, hW⟩ : ∃ W6, W6 = (World.alloc (World.alloc w5 (.cells #[.bool u1_b, .slice u1_a u1_n u1_c, .slice u1_d u1_m u1_e] 25)) (.cells #[.bool g1_b, .slice g1_a g1_n g1_c, .slice g1_d g1_m g1_e] 25)) := ⟨_, rfl⟩
  rw [← hW]
  obtain ⟨xd0, xe0, hk, hb⟩ := boxes_2 _ _ _ _ _ hW
  clear hW
  have Ha := Lib.hid (AR.keep Ha.out hk)
  have Hb := Lib.hid (AR.keep Hb.out hk)
  have Hu1 := Lib.hid (CR.keep Hu1.out hk)
  have Hg1 := Lib.hid (CR.keep Hg1.out hk)
  have Na0d0 := Lib.hid (show w.heap.size ≠ w5.heap.size from Nat.ne_of_lt (Nat.lt_of_lt_of_le Xa0.out.lt (by omega)))
  have Nb0d0 := Lib.hid (show w.heap.size + 1 ≠ w5.heap.size from Nat.ne_of_lt (Nat.lt_of_lt_of_le Xb0.out.lt (by omega)))
  have Nc0d0 := Lib.hid (show w2.heap.size ≠ w5.heap.size from Nat.ne_of_lt (Nat.lt_of_lt_of_le Xc0.out.lt (by omega)))
  have Gd0 := Lib.hid (show w.heap.size ≤ w5.heap.size from Nat.le_trans HB.out.size (by omega))
  have Na0e0 := Lib.hid (show w.heap.size ≠ w5.heap.size + 1 from Nat.ne_of_lt (Nat.lt_of_lt_of_le Xa0.out.lt (by omega)))
  have Nb0e0 := Lib.hid (show w.heap.size + 1 ≠ w5.heap.size + 1 from Nat.ne_of_lt (Nat.lt_of_lt_of_le Xb0.out.lt (by omega)))
  have Nc0e0 := Lib.hid (show w2.heap.size ≠ w5.heap.size + 1 from Nat.ne_of_lt (Nat.lt_of_lt_of_le Xc0.out.lt (by omega)))
  have Ge0 := Lib.hid (show w.heap.size ≤ w5.heap.size + 1 from Nat.le_trans HB.out.size (by omega))
  have Xa0 := Lib.hid (Box.pcall hb Xa0.out)
  have Xb0 := Lib.hid (Box.pcall hb Xb0.out)
  have Xc0 := Lib.hid (Box.pcall hb Xc0.out)
  have Xd0 := Lib.hid xd0
  have Xe0 := Lib.hid xe0
  have HB := Lib.hid (below_call HB.out hb)
  clear hk hb xd0 xe0
  (first | (have hcall := zllin_k k Hk.out Hu.out Ha.out Hb.out (by decide); refine Calls.mono hcall ?_; clear hcall) | refine Calls.mono (zllin_k k Hk.out Hu.out Ha.out Hb.out (by decide)) ?_)
  rintro e w7 ⟨t7, rfl, ⟨v7, u7, rfl, hu2, hg2⟩, hb⟩
  obtain ⟨u2_b, u2_a, u2_n, u2_c, u2_d, u2_m, u2_e, rfl⟩ := hu2.litb
  obtain ⟨g2_b, g2_a, g2_n, g2_c, g2_d, g2_m, g2_e, rfl⟩ := hg2.litb
  have Ha := Lib.hid (AR.keep Ha.out (Keep.call hb))
  have Hb := Lib.hid (AR.keep Hb.out (Keep.call hb))
  have Hu1 := Lib.hid (CR.keep Hu1.out (Keep.call hb))
  have Hg1 := Lib.hid (CR.keep Hg1.out (Keep.call hb))
  have Xa0 := Lib.hid (Box.pcall hb Xa0.out)
  have Xb0 := Lib.hid (Box.pcall hb Xb0.out)
  have Xc0 := Lib.hid (Box.pcall hb Xc0.out)
  have Xd0 := Lib.hid (Box.pcall hb Xd0.out)
  have Xe0 := Lib.hid (Box.pcall hb Xe0.out)
  have HB := Lib.hid (below_call HB.out hb)
  have Hu2 := Lib.hid hu2
  have Hg2 := Lib.hid hg2
  clear hb hu2 hg2
  obtain ⟨ca00, ca01, ca02, fa00, fa01, fa02⟩ := Xa0.out.c3
  have la0 := Xa0.out.lt
  obtain ⟨cb00, cb01, cb02, fb00, fb01, fb02⟩ := Xb0.out.c3
  have lb0 := Xb0.out.lt
  obtain ⟨cd00, cd01, cd02, fd00, fd01, fd02⟩ := Xd0.out.c3
  have ld0 := Xd0.out.lt
  obtain ⟨ce00, ce01, ce02, fe00, fe01, fe02⟩ := Xe0.out.c3
  have le0 := Xe0.out.lt
  go_wp2_with fail
  clear ca00 ca01 ca02 fa00 fa01 fa02 la0 cb00 cb01 cb02 fb00 fb01 fb02 lb0 cd00 cd01 cd02 fd00 fd01 fd02 ld0 ce00 ce01 ce02 fe00 fe01 fe02 le0
  obtain ⟨W8, hW⟩ : ∃ W8, W8 = (World.alloc (World.alloc w7 (.cells #[.bool u2_b, .slice u2_a u2_n u2_c, .slice u2_d u2_m u2_e] 25)) (.cells #[.bool g2_b, .slice g2_a g2_n g2_c, .slice g2_d g2_m g2_e] 25)) := ⟨_, rfl⟩
  rw [← hW]
  obtain ⟨xf0, xg0, hk, hb⟩ := boxes_2 _ _ _ _ _ hW
  clear hW
  have Ha := Lib.hid (AR.keep Ha.out hk)
  have Hb := Lib.hid (AR.keep Hb.out hk)
  have Hu1 := Lib.hid (CR.keep Hu1.out hk)
  have Hg1 := Lib.hid (CR.keep Hg1.out hk)
  have Hu2 := Lib.hid (CR.keep Hu2.out hk)
  have Hg2 := Lib.hid (CR.keep Hg2.out hk)
  have Na0f0 := Lib.hid (show w.heap.size ≠ w7.heap.size from Nat.ne_of_lt (Nat.lt_of_lt_of_le Xa0.out.lt (by omega)))
  have Nb0f0 := Lib.hid (show w.heap.size + 1 ≠ w7.heap.size from Nat.ne_of_lt (Nat.lt_of_lt_of_le Xb0.out.lt (by omega)))
  have Nc0f0 := Lib.hid (show w2.heap.size ≠ w7.heap.size from Nat.ne_of_lt (Nat.lt_of_lt_of_le Xc0.out.lt (by omega)))
  have Nd0f0 := Lib.hid (show w5.heap.size ≠ w7.heap.size from Nat.ne_of_lt (Nat.lt_of_lt_of_le Xd0.out.lt (by omega)))
  have Ne0f0 := Lib.hid (show w5.heap.size + 1 ≠ w7.heap.size from Nat.ne_of_lt (Nat.lt_of_lt_of_le Xe0.out.lt (by omega)))
  have Gf0 := Lib.hid (show w.heap.size ≤ w7.heap.size from Nat.le_trans HB.out.size (by omega))
  have Na0g0 := Lib.hid (show w.heap.size ≠ w7.heap.size + 1 from Nat.ne_of_lt (Nat.lt_of_lt_of_le Xa0.out.lt (by omega)))
  have Nb0g0 := Lib.hid (show w.heap.size + 1 ≠ w7.heap.size + 1 from Nat.ne_of_lt (Nat.lt_of_lt_of_le Xb0.out.lt (by omega)))
  have Nc0g0 := Lib.hid (show w2.heap.size ≠ w7.heap.size + 1 from Nat.ne_of_lt (Nat.lt_of_lt_of_le Xc0.out.lt (by omega)))
  have Nd0g0 := Lib.hid (show w5.heap.size ≠ w7.heap.size + 1 from Nat.ne_of_lt (Nat.lt_of_lt_of_le Xd0.out.lt (by omega)))
  have Ne0g0 := Lib.hid (show w5.heap.size + 1 ≠ w7.heap.size + 1 from Nat.ne_of_lt (Nat.lt_of_lt_of_le Xe0.out.lt (by omega)))
  have Gg0 := Lib.hid (show w.heap.size ≤ w7.heap.size + 1 from Nat.le_trans HB.out.size (by omega))
  have Xa0 := Lib.hid (Box.pcall hb Xa0.out)
  have Xb0 := Lib.hid (Box.pcall hb Xb0.out)
  have Xc0 := Lib.hid (Box.pcall hb Xc0.out)
  have Xd0 := Lib.hid (Box.pcall hb Xd0.out)
  have Xe0 := Lib.hid (Box.pcall hb Xe0.out)
  have Xf0 := Lib.hid xf0
  have Xg0 := Lib.hid xg0
  have HB := Lib.hid (below_call HB.out hb)
  clear hk hb xf0 xg0
  have Ha := Lib.hid (AR.keep Ha.out (Keep.drew W8))
  have Hb := Lib.hid (AR.keep Hb.out (Keep.drew W8))
  have Hu1 := Lib.hid (CR.keep Hu1.out (Keep.drew W8))
  have Hg1 := Lib.hid (CR.keep Hg1.out (Keep.drew W8))
  have Hu2 := Lib.hid (CR.keep Hu2.out (Keep.drew W8))
  have Hg2 := Lib.hid (CR.keep Hg2.out (Keep.drew W8))
  have Xa0 := Lib.hid (Box.drew Xa0.out)
  have Xb0 := Lib.hid (Box.drew Xb0.out)
  have Xc0 := Lib.hid (Box.drew Xc0.out)
  have Xd0 := Lib.hid (Box.drew Xd0.out)
  have Xe0 := Lib.hid (Box.drew Xe0.out)
  have Xf0 := Lib.hid (Box.drew Xf0.out)
  have Xg0 := Lib.hid (Box.drew Xg0.out)
  have HB := Lib.hid (Below.drew HB.out)
  refine wp_region_float [] [] (by kernel_rfl) (by kernel_rfl) 80 (by kernel_rfl) Flok.nil ?_
  intro ok
  have Hok := Lib.hid ok
  clear ok
  have HG := Lib.hid (Below.refl (W8.drew).heap.size (W8.drew))
  refine good_pureX 0 (some 35) (Go.Op.move (Go.Operand.tmp 5)) (none) (.int .i64 k) (by kernel_rfl) (by kernel_rfl) (by kernel_rfl) (fun _ _ _ h => h) (fun w' hw' => ?_) ?_
  · first | (go_simp; done) | (go_simp; simp_all; done) | (go_simp; rfl)
  simp only [Act.put, List.setIfInBounds_toArray, List.set_cons_zero, List.set_cons_succ]
  refine good_pureX 1 (some 36) (Go.Op.move (Go.Operand.tmp 9)) (none) (.int .i64 k) (by kernel_rfl) (by kernel_rfl) (by kernel_rfl) (fun _ _ _ h => h) (fun w' hw' => ?_) ?_
  · first | (go_simp; done) | (go_simp; simp_all; done) | (go_simp; rfl)
  simp only [Act.put, List.setIfInBounds_toArray, List.set_cons_zero, List.set_cons_succ]
  refine good_pureX 2 (some 37) (Go.Op.binOp Go.BinOp.eql 3 (Go.Operand.tmp 35) (Go.Operand.tmp 36) 3) (none) (.bool true) (by kernel_rfl) (by kernel_rfl) (by kernel_rfl) (fun _ _ _ h => h) (fun w' hw' => ?_) ?_
  · first | (go_simp; done) | (go_simp; simp_all; done) | (go_simp; rfl)
  simp only [Act.put, List.setIfInBounds_toArray, List.set_cons_zero, List.set_cons_succ]
  refine good_pureX 3 (some 38) (Go.Op.move (Go.Operand.tmp 37)) (none) (.bool true) (by kernel_rfl) (by kernel_rfl) (by kernel_rfl) (fun _ _ _ h => h) (fun w' hw' => ?_) ?_
  · first | (go_simp; done) | (go_simp; simp_all; done) | (go_simp; rfl)
  simp only [Act.put, List.setIfInBounds_toArray, List.set_cons_zero, List.set_cons_succ]
  refine good_pureX 4 (some 39) (Go.Op.move (Go.Operand.tmp 8)) (some (3, true)) (.int .i64 0) (by kernel_rfl) (by kernel_rfl) (by kernel_rfl) (fun _ _ _ h => h) (fun w' hw' => ?_) ?_
  · first | (go_simp; done) | (go_simp; simp_all; done) | (go_simp; rfl)
  simp only [Act.put, List.setIfInBounds_toArray, List.set_cons_zero, List.set_cons_succ]
  refine good_pureX 5 (some 40) (Go.Op.move (Go.Operand.tmp 12)) (some (3, true)) (.int .i64 0) (by kernel_rfl) (by kernel_rfl) (by kernel_rfl) (fun _ _ _ h => h) (fun w' hw' => ?_) ?_
  · first | (go_simp; done) | (go_simp; simp_all; done) | (go_simp; rfl)
  simp only [Act.put, List.setIfInBounds_toArray, List.set_cons_zero, List.set_cons_succ]
  refine good_pureX 6 (some 41) (Go.Op.binOp Go.BinOp.eql 28 (Go.Operand.tmp 39) (Go.Operand.tmp 40) 28) (some (3, true)) (.bool true) (by kernel_rfl) (by kernel_rfl) (by kernel_rfl) (fun _ _ _ h => h) (fun w' hw' => ?_) ?_
  · first | (go_simp; done) | (go_simp; simp_all; done) | (go_simp; rfl)
  simp only [Act.put, List.setIfInBounds_toArray, List.set_cons_zero, List.set_cons_succ]
  refine good_pureX 7 (some 42) (Go.Op.pick (Go.Operand.tmp 38) (Go.Operand.tmp 41) (Go.Operand.const (Go.Value.bool false))) (none) (.bool true) (by kernel_rfl) (by kernel_rfl) (by kernel_rfl) (fun _ _ _ h => h) (fun w' hw' => ?_) ?_
  · first | (go_simp; done) | (go_simp; simp_all; done) | (go_simp; rfl)
  simp only [Act.put, List.setIfInBounds_toArray, List.set_cons_zero, List.set_cons_succ]
  refine good_pureX 8 (some 43) (Go.Op.move (Go.Operand.tmp 42)) (none) (.bool true) (by kernel_rfl) (by kernel_rfl) (by kernel_rfl) (fun _ _ _ h => h) (fun w' hw' => ?_) ?_
  · first | (go_simp; done) | (go_simp; simp_all; done) | (go_simp; rfl)
  simp only [Act.put, List.setIfInBounds_toArray, List.set_cons_zero, List.set_cons_succ]
  refine good_pureX 9 (some 44) (Go.Op.load 25 (Go.Operand.tmp 6)) (some (8, true)) (.agg #[.bool u1_b, .slice u1_a u1_n u1_c, .slice u1_d u1_m u1_e]) (by kernel_rfl) (by kernel_rfl) (by kernel_rfl) (fun _ _ _ h => h) (fun w' hw' => ?_) ?_
  · obtain ⟨cd00, cd01, cd02, fd00, fd01, fd02⟩ := (Box.se hw' Xd0.out notin0).c3
    first | (go_simp; done) | (go_simp; simp_all; done) | (go_simp; rfl)
  simp only [Act.put, List.setIfInBounds_toArray, List.set_cons_zero, List.set_cons_succ]
  refine good_pureX 10 (some 45) (Go.Op.load 25 (Go.Operand.tmp 10)) (some (8, true)) (.agg #[.bool u2_b, .slice u2_a u2_n u2_c, .slice u2_d u2_m u2_e]) (by kernel_rfl) (by kernel_rfl) (by kernel_rfl) (fun _ _ _ h => h) (fun w' hw' => ?_) ?_
  · obtain ⟨cf00, cf01, cf02, ff00, ff01, ff02⟩ := (Box.se hw' Xf0.out notin0).c3
    first | (go_simp; done) | (go_simp; simp_all; done) | (go_simp; rfl)
  simp only [Act.put, List.setIfInBounds_toArray, List.set_cons_zero, List.set_cons_succ]
  refine good_callX 11 14 (some 46) #[Go.Operand.tmp 44, Go.Operand.tmp 45] #[25, 25] (some (8, true)) #[.agg #[.bool u1_b, .slice u1_a u1_n u1_c, .slice u1_d u1_m u1_e], .agg #[.bool u2_b, .slice u2_a u2_n u2_c, .slice u2_d u2_m u2_e]] (by kernel_rfl) Hok.out (by kernel_rfl) (by kernel_rfl) (by kernel_rfl) (by kernel_rfl) rfl rfl rfl (by kernel_rfl) (fun w9 hb => ?_)
  have HG := Lib.hid (below_call HG.out hb)
  clear hb
  (first | (have hcall := zsame_cr (CR.keep Hu1.out (Keep.call HG.out)) (CR.keep Hu2.out (Keep.call HG.out)) (rfl); refine Calls.mono hcall ?_; clear hcall) | refine Calls.mono (zsame_cr (CR.keep Hu1.out (Keep.call HG.out)) (CR.keep Hu2.out (Keep.call HG.out)) (rfl)) ?_)
  rintro e w10 ⟨v10, rfl, rfl, hb⟩
  refine ⟨_, rfl, ?_, hb⟩
  have HG := Lib.hid (below_call HG.out hb)
  clear hb
  simp only [Act.put, List.setIfInBounds_toArray, List.set_cons_zero, List.set_cons_succ]
  refine good_pureX 12 (some 47) (Go.Op.pick (Go.Operand.tmp 43) (Go.Operand.tmp 46) (Go.Operand.const (Go.Value.bool false))) (none) (.bool true) (by kernel_rfl) (by kernel_rfl) (by kernel_rfl) (fun _ _ _ h => h) (fun w' hw' => ?_) ?_
  · first | (go_simp; done) | (go_simp; simp_all; done) | (go_simp; rfl)
  simp only [Act.put, List.setIfInBounds_toArray, List.set_cons_zero, List.set_cons_succ]
  refine good_pureX 13 (some 48) (Go.Op.move (Go.Operand.tmp 47)) (none) (.bool true) (by kernel_rfl) (by kernel_rfl) (by kernel_rfl) (fun _ _ _ h => h) (fun w' hw' => ?_) ?_
  · first | (go_simp; done) | (go_simp; simp_all; done) | (go_simp; rfl)
  simp only [Act.put, List.setIfInBounds_toArray, List.set_cons_zero, List.set_cons_succ]
  refine good_pureX 14 (some 49) (Go.Op.load 25 (Go.Operand.tmp 7)) (some (13, true)) (.agg #[.bool g1_b, .slice g1_a g1_n g1_c, .slice g1_d g1_m g1_e]) (by kernel_rfl) (by kernel_rfl) (by kernel_rfl) (fun _ _ _ h => h) (fun w' hw' => ?_) ?_
  · obtain ⟨ce00, ce01, ce02, fe00, fe01, fe02⟩ := (Box.se hw' Xe0.out notin0).c3
    first | (go_simp; done) | (go_simp; simp_all; done) | (go_simp; rfl)
  simp only [Act.put, List.setIfInBounds_toArray, List.set_cons_zero, List.set_cons_succ]
  refine good_pureX 15 (some 50) (Go.Op.load 25 (Go.Operand.tmp 11)) (some (13, true)) (.agg #[.bool g2_b, .slice g2_a g2_n g2_c, .slice g2_d g2_m g2_e]) (by kernel_rfl) (by kernel_rfl) (by kernel_rfl) (fun _ _ _ h => h) (fun w' hw' => ?_) ?_
  · obtain ⟨cg00, cg01, cg02, fg00, fg01, fg02⟩ := (Box.se hw' Xg0.out notin0).c3
    first | (go_simp; done) | (go_simp; simp_all; done) | (go_simp; rfl)
  simp only [Act.put, List.setIfInBounds_toArray, List.set_cons_zero, List.set_cons_succ]
  refine good_callX 16 14 (some 51) #[Go.Operand.tmp 49, Go.Operand.tmp 50] #[25, 25] (some (13, true)) #[.agg #[.bool g1_b, .slice g1_a g1_n g1_c, .slice g1_d g1_m g1_e], .agg #[.bool g2_b, .slice g2_a g2_n g2_c, .slice g2_d g2_m g2_e]] (by kernel_rfl) Hok.out (by kernel_rfl) (by kernel_rfl) (by kernel_rfl) (by kernel_rfl) rfl rfl rfl (by kernel_rfl) (fun w11 hb => ?_)
  have HG := Lib.hid (below_call HG.out hb)
  clear hb
  (first | (have hcall := zsame_cr (CR.keep Hg1.out (Keep.call HG.out)) (CR.keep Hg2.out (Keep.call HG.out)) (rfl); refine Calls.mono hcall ?_; clear hcall) | refine Calls.mono (zsame_cr (CR.keep Hg1.out (Keep.call HG.out)) (CR.keep Hg2.out (Keep.call HG.out)) (rfl)) ?_)
  rintro e w12 ⟨v12, rfl, rfl, hb⟩
  refine ⟨_, rfl, ?_, hb⟩
  have HG := Lib.hid (below_call HG.out hb)
  clear hb
  simp only [Act.put, List.setIfInBounds_toArray, List.set_cons_zero, List.set_cons_succ]
  refine good_pureX 17 (some 52) (Go.Op.pick (Go.Operand.tmp 48) (Go.Operand.tmp 51) (Go.Operand.const (Go.Value.bool false))) (none) (.bool true) (by kernel_rfl) (by kernel_rfl) (by kernel_rfl) (fun _ _ _ h => h) (fun w' hw' => ?_) ?_
  · first | (go_simp; done) | (go_simp; simp_all; done) | (go_simp; rfl)
  simp only [Act.put, List.setIfInBounds_toArray, List.set_cons_zero, List.set_cons_succ]
  refine good_pureX 18 (some 53) (Go.Op.move (Go.Operand.tmp 52)) (none) (.bool true) (by kernel_rfl) (by kernel_rfl) (by kernel_rfl) (fun _ _ _ h => h) (fun w' hw' => ?_) ?_
  · first | (go_simp; done) | (go_simp; simp_all; done) | (go_simp; rfl)
  simp only [Act.put, List.setIfInBounds_toArray, List.set_cons_zero, List.set_cons_succ]
  refine good_pureX 19 (some 54) (Go.Op.load 25 (Go.Operand.tmp 2)) (some (18, true)) (.agg #[.bool ba, .slice sa na ca, .slice ta ma ea]) (by kernel_rfl) (by kernel_rfl) (by kernel_rfl) (fun _ _ _ h => h) (fun w' hw' => ?_) ?_
  · obtain ⟨ca00, ca01, ca02, fa00, fa01, fa02⟩ := (Box.se hw' Xa0.out notin0).c3
    first | (go_simp; done) | (go_simp; simp_all; done) | (go_simp; rfl)
  simp only [Act.put, List.setIfInBounds_toArray, List.set_cons_zero, List.set_cons_succ]
  refine good_pureX 20 (some 55) (Go.Op.load 25 (Go.Operand.tmp 3)) (some (18, true)) (.agg #[.bool bb, .slice sb nb cb, .slice tb mb eb]) (by kernel_rfl) (by kernel_rfl) (by kernel_rfl) (fun _ _ _ h => h) (fun w' hw' => ?_) ?_
  · obtain ⟨cb00, cb01, cb02, fb00, fb01, fb02⟩ := (Box.se hw' Xb0.out notin0).c3
    first | (go_simp; done) | (go_simp; simp_all; done) | (go_simp; rfl)
  simp only [Act.put, List.setIfInBounds_toArray, List.set_cons_zero, List.set_cons_succ]
  refine good_pureX 22 (some 57) (Go.Op.load 25 (Go.Operand.tmp 2)) (some (18, true)) (.agg #[.bool ba, .slice sa na ca, .slice ta ma ea]) (by kernel_rfl) (by kernel_rfl) (by kernel_rfl) (fun _ _ _ h => h) (fun w' hw' => ?_) ?_
  · obtain ⟨ca00, ca01, ca02, fa00, fa01, fa02⟩ := (Box.se hw' Xa0.out notin0).c3
    first | (go_simp; done) | (go_simp; simp_all; done) | (go_simp; rfl)
  simp only [Act.put, List.setIfInBounds_toArray, List.set_cons_zero, List.set_cons_succ]
  refine good_pureX 23 (some 58) (Go.Op.load 25 (Go.Operand.tmp 3)) (some (18, true)) (.agg #[.bool bb, .slice sb nb cb, .slice tb mb eb]) (by kernel_rfl) (by kernel_rfl) (by kernel_rfl) (fun _ _ _ h => h) (fun w' hw' => ?_) ?_
  · obtain ⟨cb00, cb01, cb02, fb00, fb01, fb02⟩ := (Box.se hw' Xb0.out notin0).c3
    first | (go_simp; done) | (go_simp; simp_all; done) | (go_simp; rfl)
  simp only [Act.put, List.setIfInBounds_toArray, List.set_cons_zero, List.set_cons_succ]
  refine good_callX 21 15 (some 56) #[Go.Operand.tmp 54, Go.Operand.tmp 55] #[25, 25] (some (18, true)) #[.agg #[.bool ba, .slice sa na ca, .slice ta ma ea], .agg #[.bool bb, .slice sb nb cb, .slice tb mb eb]] (by kernel_rfl) Hok.out (by kernel_rfl) (by kernel_rfl) (by kernel_rfl) (by kernel_rfl) rfl rfl rfl (by kernel_rfl) (fun w13 hb => ?_)
  have HG := Lib.hid (below_call HG.out hb)
  clear hb
  (first | (have hcall := rluns_ar Hu.out (AR.keep Ha.out (Keep.call HG.out)) (AR.keep Hb.out (Keep.call HG.out)) (by decide); refine Calls.mono hcall ?_; clear hcall) | refine Calls.mono (rluns_ar Hu.out (AR.keep Ha.out (Keep.call HG.out)) (AR.keep Hb.out (Keep.call HG.out)) (by decide)) ?_)
  rintro e w14 ⟨v14, rfl, rfl, hb⟩
  refine ⟨_, rfl, ?_, hb⟩
  have HG := Lib.hid (below_call HG.out hb)
  clear hb
  simp only [Act.put, List.setIfInBounds_toArray, List.set_cons_zero, List.set_cons_succ]
  refine good_callX 24 16 (some 59) #[Go.Operand.tmp 57, Go.Operand.tmp 58] #[25, 25] (some (18, true)) #[.agg #[.bool ba, .slice sa na ca, .slice ta ma ea], .agg #[.bool bb, .slice sb nb cb, .slice tb mb eb]] (by kernel_rfl) Hok.out (by kernel_rfl) (by kernel_rfl) (by kernel_rfl) (by kernel_rfl) rfl rfl rfl (by kernel_rfl) (fun w15 hb => ?_)
  have HG := Lib.hid (below_call HG.out hb)
  clear hb
  (first | (have hcall := zluns_ar Hu.out (AR.keep Ha.out (Keep.call HG.out)) (AR.keep Hb.out (Keep.call HG.out)) (by decide); refine Calls.mono hcall ?_; clear hcall) | refine Calls.mono (zluns_ar Hu.out (AR.keep Ha.out (Keep.call HG.out)) (AR.keep Hb.out (Keep.call HG.out)) (by decide)) ?_)
  rintro e w16 ⟨v16, rfl, rfl, hb⟩
  refine ⟨_, rfl, ?_, hb⟩
  have HG := Lib.hid (below_call HG.out hb)
  clear hb
  simp only [Act.put, List.setIfInBounds_toArray, List.set_cons_zero, List.set_cons_succ]
  refine good_pureX 25 (some 60) (Go.Op.binOp Go.BinOp.eql 4 (Go.Operand.tmp 56) (Go.Operand.tmp 59) 4) (some (18, true)) (.bool true) (by kernel_rfl) (by kernel_rfl) (by kernel_rfl) (fun _ _ _ h => h) (fun w' hw' => ?_) ?_
  · first | (go_simp; done) | (go_simp; simp_all; done) | (go_simp; rfl)
  simp only [Act.put, List.setIfInBounds_toArray, List.set_cons_zero, List.set_cons_succ]
  refine good_pureX 26 (some 61) (Go.Op.pick (Go.Operand.tmp 53) (Go.Operand.tmp 60) (Go.Operand.const (Go.Value.bool false))) (none) (.bool true) (by kernel_rfl) (by kernel_rfl) (by kernel_rfl) (fun _ _ _ h => h) (fun w' hw' => ?_) ?_
  · first | (go_simp; done) | (go_simp; simp_all; done) | (go_simp; rfl)
  simp only [Act.put, List.setIfInBounds_toArray, List.set_cons_zero, List.set_cons_succ]
  refine good_pureX 27 (some 62) (Go.Op.move (Go.Operand.tmp 61)) (none) (.bool true) (by kernel_rfl) (by kernel_rfl) (by kernel_rfl) (fun _ _ _ h => h) (fun w' hw' => ?_) ?_
  · first | (go_simp; done) | (go_simp; simp_all; done) | (go_simp; rfl)
  simp only [Act.put, List.setIfInBounds_toArray, List.set_cons_zero, List.set_cons_succ]
  refine good_pureX 28 (some 63) (Go.Op.load 25 (Go.Operand.tmp 2)) (some (27, true)) (.agg #[.bool ba, .slice sa na ca, .slice ta ma ea]) (by kernel_rfl) (by kernel_rfl) (by kernel_rfl) (fun _ _ _ h => h) (fun w' hw' => ?_) ?_
  · obtain ⟨ca00, ca01, ca02, fa00, fa01, fa02⟩ := (Box.se hw' Xa0.out notin0).c3
    first | (go_simp; done) | (go_simp; simp_all; done) | (go_simp; rfl)
  simp only [Act.put, List.setIfInBounds_toArray, List.set_cons_zero, List.set_cons_succ]
  refine good_pureX 29 (some 64) (Go.Op.load 25 (Go.Operand.tmp 3)) (some (27, true)) (.agg #[.bool bb, .slice sb nb cb, .slice tb mb eb]) (by kernel_rfl) (by kernel_rfl) (by kernel_rfl) (fun _ _ _ h => h) (fun w' hw' => ?_) ?_
  · obtain ⟨cb00, cb01, cb02, fb00, fb01, fb02⟩ := (Box.se hw' Xb0.out notin0).c3
    first | (go_simp; done) | (go_simp; simp_all; done) | (go_simp; rfl)
  simp only [Act.put, List.setIfInBounds_toArray, List.set_cons_zero, List.set_cons_succ]
  refine good_pureX 31 (some 66) (Go.Op.load 25 (Go.Operand.tmp 2)) (some (27, true)) (.agg #[.bool ba, .slice sa na ca, .slice ta ma ea]) (by kernel_rfl) (by kernel_rfl) (by kernel_rfl) (fun _ _ _ h => h) (fun w' hw' => ?_) ?_
  · obtain ⟨ca00, ca01, ca02, fa00, fa01, fa02⟩ := (Box.se hw' Xa0.out notin0).c3
    first | (go_simp; done) | (go_simp; simp_all; done) | (go_simp; rfl)
  simp only [Act.put, List.setIfInBounds_toArray, List.set_cons_zero, List.set_cons_succ]
  refine good_pureX 32 (some 67) (Go.Op.load 25 (Go.Operand.tmp 3)) (some (27, true)) (.agg #[.bool bb, .slice sb nb cb, .slice tb mb eb]) (by kernel_rfl) (by kernel_rfl) (by kernel_rfl) (fun _ _ _ h => h) (fun w' hw' => ?_) ?_
  · obtain ⟨cb00, cb01, cb02, fb00, fb01, fb02⟩ := (Box.se hw' Xb0.out notin0).c3
    first | (go_simp; done) | (go_simp; simp_all; done) | (go_simp; rfl)
  simp only [Act.put, List.setIfInBounds_toArray, List.set_cons_zero, List.set_cons_succ]
  refine good_callX 30 17 (some 65) #[Go.Operand.tmp 63, Go.Operand.tmp 64] #[25, 25] (some (27, true)) #[.agg #[.bool ba, .slice sa na ca, .slice ta ma ea], .agg #[.bool bb, .slice sb nb cb, .slice tb mb eb]] (by kernel_rfl) Hok.out (by kernel_rfl) (by kernel_rfl) (by kernel_rfl) (by kernel_rfl) rfl rfl rfl (by kernel_rfl) (fun w17 hb => ?_)
  have HG := Lib.hid (below_call HG.out hb)
  clear hb
  (first | (have hcall := rlslo_ar k Hk.out (AR.keep Ha.out (Keep.call HG.out)) (AR.keep Hb.out (Keep.call HG.out)) (by decide); refine Calls.mono hcall ?_; clear hcall) | refine Calls.mono (rlslo_ar k Hk.out (AR.keep Ha.out (Keep.call HG.out)) (AR.keep Hb.out (Keep.call HG.out)) (by decide)) ?_)
  rintro e w18 ⟨v18, rfl, ⟨⟩, hb⟩
  refine ⟨_, rfl, ?_, hb⟩
  have HG := Lib.hid (below_call HG.out hb)
  clear hb
  simp only [Act.put, List.setIfInBounds_toArray, List.set_cons_zero, List.set_cons_succ]
  refine good_callX 33 18 (some 68) #[Go.Operand.tmp 66, Go.Operand.tmp 67] #[25, 25] (some (27, true)) #[.agg #[.bool ba, .slice sa na ca, .slice ta ma ea], .agg #[.bool bb, .slice sb nb cb, .slice tb mb eb]] (by kernel_rfl) Hok.out (by kernel_rfl) (by kernel_rfl) (by kernel_rfl) (by kernel_rfl) rfl rfl rfl (by kernel_rfl) (fun w19 hb => ?_)
  have HG := Lib.hid (below_call HG.out hb)
  clear hb
  (first | (have hcall := zlslo_ar k Hk.out (AR.keep Ha.out (Keep.call HG.out)) (AR.keep Hb.out (Keep.call HG.out)) (by decide); refine Calls.mono hcall ?_; clear hcall) | refine Calls.mono (zlslo_ar k Hk.out (AR.keep Ha.out (Keep.call HG.out)) (AR.keep Hb.out (Keep.call HG.out)) (by decide)) ?_)
  rintro e w20 ⟨v20, rfl, ⟨⟩, hb⟩
  refine ⟨_, rfl, ?_, hb⟩
  have HG := Lib.hid (below_call HG.out hb)
  clear hb
  simp only [Act.put, List.setIfInBounds_toArray, List.set_cons_zero, List.set_cons_succ]
  refine good_pureX 34 (some 69) (Go.Op.binOp Go.BinOp.eql 3 (Go.Operand.tmp 65) (Go.Operand.tmp 68) 3) (some (27, true)) (.bool true) (by kernel_rfl) (by kernel_rfl) (by kernel_rfl) (fun _ _ _ h => h) (fun w' hw' => ?_) ?_
  · first | (go_simp; done) | (go_simp; simp_all; done) | (go_simp; rfl)
  simp only [Act.put, List.setIfInBounds_toArray, List.set_cons_zero, List.set_cons_succ]
  refine good_pureX 35 (some 70) (Go.Op.pick (Go.Operand.tmp 62) (Go.Operand.tmp 69) (Go.Operand.const (Go.Value.bool false))) (none) (.bool true) (by kernel_rfl) (by kernel_rfl) (by kernel_rfl) (fun _ _ _ h => h) (fun w' hw' => ?_) ?_
  · first | (go_simp; done) | (go_simp; simp_all; done) | (go_simp; rfl)
  simp only [Act.put, List.setIfInBounds_toArray, List.set_cons_zero, List.set_cons_succ]
  refine good_pureX 36 (some 71) (Go.Op.move (Go.Operand.tmp 70)) (none) (.bool true) (by kernel_rfl) (by kernel_rfl) (by kernel_rfl) (fun _ _ _ h => h) (fun w' hw' => ?_) ?_
  · first | (go_simp; done) | (go_simp; simp_all; done) | (go_simp; rfl)
  simp only [Act.put, List.setIfInBounds_toArray, List.set_cons_zero, List.set_cons_succ]
  refine good_pureX 37 (some 72) (Go.Op.load 25 (Go.Operand.tmp 2)) (some (36, true)) (.agg #[.bool ba, .slice sa na ca, .slice ta ma ea]) (by kernel_rfl) (by kernel_rfl) (by kernel_rfl) (fun _ _ _ h => h) (fun w' hw' => ?_) ?_
  · obtain ⟨ca00, ca01, ca02, fa00, fa01, fa02⟩ := (Box.se hw' Xa0.out notin0).c3
    first | (go_simp; done) | (go_simp; simp_all; done) | (go_simp; rfl)
  simp only [Act.put, List.setIfInBounds_toArray, List.set_cons_zero, List.set_cons_succ]
  refine good_pureX 38 (some 73) (Go.Op.load 25 (Go.Operand.tmp 3)) (some (36, true)) (.agg #[.bool bb, .slice sb nb cb, .slice tb mb eb]) (by kernel_rfl) (by kernel_rfl) (by kernel_rfl) (fun _ _ _ h => h) (fun w' hw' => ?_) ?_
  · obtain ⟨cb00, cb01, cb02, fb00, fb01, fb02⟩ := (Box.se hw' Xb0.out notin0).c3
    first | (go_simp; done) | (go_simp; simp_all; done) | (go_simp; rfl)
  simp only [Act.put, List.setIfInBounds_toArray, List.set_cons_zero, List.set_cons_succ]
  refine good_pureX 40 (some 75) (Go.Op.load 25 (Go.Operand.tmp 2)) (some (36, true)) (.agg #[.bool ba, .slice sa na ca, .slice ta ma ea]) (by kernel_rfl) (by kernel_rfl) (by kernel_rfl) (fun _ _ _ h => h) (fun w' hw' => ?_) ?_
  · obtain ⟨ca00, ca01, ca02, fa00, fa01, fa02⟩ := (Box.se hw' Xa0.out notin0).c3
    first | (go_simp; done) | (go_simp; simp_all; done) | (go_simp; rfl)
  simp only [Act.put, List.setIfInBounds_toArray, List.set_cons_zero, List.set_cons_succ]
  refine good_pureX 41 (some 76) (Go.Op.load 25 (Go.Operand.tmp 3)) (some (36, true)) (.agg #[.bool bb, .slice sb nb cb, .slice tb mb eb]) (by kernel_rfl) (by kernel_rfl) (by kernel_rfl) (fun _ _ _ h => h) (fun w' hw' => ?_) ?_
  · obtain ⟨cb00, cb01, cb02, fb00, fb01, fb02⟩ := (Box.se hw' Xb0.out notin0).c3
    first | (go_simp; done) | (go_simp; simp_all; done) | (go_simp; rfl)
  simp only [Act.put, List.setIfInBounds_toArray, List.set_cons_zero, List.set_cons_succ]
  refine good_callX 39 19 (some 74) #[Go.Operand.tmp 72, Go.Operand.tmp 73] #[25, 25] (some (36, true)) #[.agg #[.bool ba, .slice sa na ca, .slice ta ma ea], .agg #[.bool bb, .slice sb nb cb, .slice tb mb eb]] (by kernel_rfl) Hok.out (by kernel_rfl) (by kernel_rfl) (by kernel_rfl) (by kernel_rfl) rfl rfl rfl (by kernel_rfl) (fun w21 hb => ?_)
  have HG := Lib.hid (below_call HG.out hb)
  clear hb
  (first | (have hcall := rlgap_ar (AR.keep Ha.out (Keep.call HG.out)) (AR.keep Hb.out (Keep.call HG.out)) (by decide); refine Calls.mono hcall ?_; clear hcall) | refine Calls.mono (rlgap_ar (AR.keep Ha.out (Keep.call HG.out)) (AR.keep Hb.out (Keep.call HG.out)) (by decide)) ?_)
  rintro e w22 ⟨v22, rfl, hg3, hb⟩
  obtain ⟨g3_b, g3_a, g3_n, g3_c, g3_d, g3_m, g3_e, rfl⟩ := hg3.litb
  refine ⟨_, rfl, ?_, hb⟩
  have HG := Lib.hid (below_call HG.out hb)
  have Hg3 := Lib.hid hg3
  clear hb hg3
  simp only [Act.put, List.setIfInBounds_toArray, List.set_cons_zero, List.set_cons_succ]
  refine good_callX 42 20 (some 77) #[Go.Operand.tmp 75, Go.Operand.tmp 76] #[25, 25] (some (36, true)) #[.agg #[.bool ba, .slice sa na ca, .slice ta ma ea], .agg #[.bool bb, .slice sb nb cb, .slice tb mb eb]] (by kernel_rfl) Hok.out (by kernel_rfl) (by kernel_rfl) (by kernel_rfl) (by kernel_rfl) rfl rfl rfl (by kernel_rfl) (fun w23 hb => ?_)
  have Hg3 := Lib.hid (CR.keep Hg3.out (Keep.call hb))
  have HG := Lib.hid (below_call HG.out hb)
  clear hb
  (first | (have hcall := zlgap_ar (AR.keep Ha.out (Keep.call HG.out)) (AR.keep Hb.out (Keep.call HG.out)) (by decide); refine Calls.mono hcall ?_; clear hcall) | refine Calls.mono (zlgap_ar (AR.keep Ha.out (Keep.call HG.out)) (AR.keep Hb.out (Keep.call HG.out)) (by decide)) ?_)
  rintro e w24 ⟨v24, rfl, hg4, hb⟩
  obtain ⟨g4_b, g4_a, g4_n, g4_c, g4_d, g4_m, g4_e, rfl⟩ := hg4.litb
  refine ⟨_, rfl, ?_, hb⟩
  have Hg3 := Lib.hid (CR.keep Hg3.out (Keep.call hb))
  have HG := Lib.hid (below_call HG.out hb)
  have Hg4 := Lib.hid hg4
  clear hb hg4
  simp only [Act.put, List.setIfInBounds_toArray, List.set_cons_zero, List.set_cons_succ]
  refine good_callX 43 14 (some 78) #[Go.Operand.tmp 74, Go.Operand.tmp 77] #[25, 25] (some (36, true)) #[.agg #[.bool g3_b, .slice g3_a g3_n g3_c, .slice g3_d g3_m g3_e], .agg #[.bool g4_b, .slice g4_a g4_n g4_c, .slice g4_d g4_m g4_e]] (by kernel_rfl) Hok.out (by kernel_rfl) (by kernel_rfl) (by kernel_rfl) (by kernel_rfl) rfl rfl rfl (by kernel_rfl) (fun w25 hb => ?_)
  have Hg3 := Lib.hid (CR.keep Hg3.out (Keep.call hb))
  have Hg4 := Lib.hid (CR.keep Hg4.out (Keep.call hb))
  have HG := Lib.hid (below_call HG.out hb)
  clear hb
  (first | (have hcall := zsame_cr Hg3.out Hg4.out (rfl); refine Calls.mono hcall ?_; clear hcall) | refine Calls.mono (zsame_cr Hg3.out Hg4.out (rfl)) ?_)
  rintro e w26 ⟨v26, rfl, rfl, hb⟩
  refine ⟨_, rfl, ?_, hb⟩
  have HG := Lib.hid (below_call HG.out hb)
  clear hb
  simp only [Act.put, List.setIfInBounds_toArray, List.set_cons_zero, List.set_cons_succ]
  refine good_pureX 44 (some 79) (Go.Op.pick (Go.Operand.tmp 71) (Go.Operand.tmp 78) (Go.Operand.const (Go.Value.bool false))) (none) (.bool true) (by kernel_rfl) (by kernel_rfl) (by kernel_rfl) (fun _ _ _ h => h) (fun w' hw' => ?_) ?_
  · first | (go_simp; done) | (go_simp; simp_all; done) | (go_simp; rfl)
  simp only [Act.put, List.setIfInBounds_toArray, List.set_cons_zero, List.set_cons_succ]
  refine good_pureX 45 (some 4) (Go.Op.assign (Go.Operand.tmp 79)) (none) (.bool true) (by kernel_rfl) (by kernel_rfl) (by kernel_rfl) (fun _ _ _ h => h) (fun w' hw' => ?_) ?_
  · first | (go_simp; done) | (go_simp; simp_all; done) | (go_simp; rfl)
  simp only [Act.put, List.setIfInBounds_toArray, List.set_cons_zero, List.set_cons_succ]
  refine good_end0 0 (by kernel_rfl) (fun _ w27 hb => ?_)
  have HG := Lib.hid (below_call HG.out hb)
  clear hb
  have Xa0 := Lib.hid (Box.pcall HG.out Xa0.out)
  have Xb0 := Lib.hid (Box.pcall HG.out Xb0.out)
  have Xc0 := Lib.hid (Box.pcall HG.out Xc0.out)
  have Xd0 := Lib.hid (Box.pcall HG.out Xd0.out)
  have Xe0 := Lib.hid (Box.pcall HG.out Xe0.out)
  have Xf0 := Lib.hid (Box.pcall HG.out Xf0.out)
  have Xg0 := Lib.hid (Box.pcall HG.out Xg0.out)
  have HB := Lib.hid (below_call HB.out HG.out)
  have HS := Lib.hid (SE.of (E := []) HG.out)
  refine wpAnyH_done (by kernel_rfl) ?_ _
  clear HG HS Hok 
  obtain ⟨ca00, ca01, ca02, fa00, fa01, fa02⟩ := Xa0.out.c3
  have la0 := Xa0.out.lt
  obtain ⟨cb00, cb01, cb02, fb00, fb01, fb02⟩ := Xb0.out.c3
  have lb0 := Xb0.out.lt
  obtain ⟨cd00, cd01, cd02, fd00, fd01, fd02⟩ := Xd0.out.c3
  have ld0 := Xd0.out.lt
  obtain ⟨ce00, ce01, ce02, fe00, fe01, fe02⟩ := Xe0.out.c3
  have le0 := Xe0.out.lt
  obtain ⟨cf00, cf01, cf02, ff00, ff01, ff02⟩ := Xf0.out.c3
  have lf0 := Xf0.out.lt
  obtain ⟨cg00, cg01, cg02, fg00, fg01, fg02⟩ := Xg0.out.c3
  have lg0 := Xg0.out.lt
  go_wp2
  clear ca00 ca01 ca02 fa00 fa01 fa02 la0 cb00 cb01 cb02 fb00 fb01 fb02 lb0 cd00 cd01 cd02 fd00 fd01 fd02 ld0 ce00 ce01 ce02 fe00 fe01 fe02 le0 cf00 cf01 cf02 ff00 ff01 ff02 lf0 cg00 cg01 cg02 fg00 fg01 fg02 lg0
  go_ret
  exact ⟨_, rfl, rfl, HB.out⟩


set_option maxRecDepth 100000 in
set_option maxHeartbeats 4000000 in
theorem llin_n {qa : Rat} {ba : Bool} {sa ta : Option Addr} {na ca ma ea : Nat} {qb : Rat} {bb : Bool} {sb tb : Option Addr} {nb cb mb eb : Nat}  {w : World} (k : Int) (hk : slopeQ qa qb = k) (hu : unst qa qb = false) (hB8 : ([⟨ba, sa, na, ca, ta, ma, ea⟩, ⟨bb, sb, nb, cb, tb, mb, eb⟩] : List Rw).any Rw.big = false) (ha : AR qa 8 w (.agg #[.bool ba, .slice sa na ca, .slice ta ma ea])) (hb : AR qb 8 w (.agg #[.bool bb, .slice sb nb cb, .slice tb mb eb])) :
    Calls Try.prog 3 #[.agg #[.bool ba, .slice sa na ca, .slice ta ma ea], .agg #[.bool bb, .slice sb nb cb, .slice tb mb eb]] w (Ret w (Val (.bool true))) := by
  have Ha := Lib.hid ha
  have Hb := Lib.hid hb
  have HB8 := Lib.hid hB8
  have Hk := Lib.hid hk
  have Hu := Lib.hid hu
  clear ha hb hB8 hk hu
  go_enter Try.func3, Try.ntmps3
  have HB := Lib.hid (Below.refl w.heap.size w)
  go_wp2_with fail
  obtain ⟨W1, hW⟩ : ∃ W1, W1 = (World.alloc (World.alloc w (.cells #[.bool ba, .slice sa na ca, .slice ta ma ea] 25)) (.cells #[.bool bb, .slice sb nb cb, .slice tb mb eb] 25)) := ⟨_, rfl⟩
  rw [← hW]
  obtain ⟨xa0, xb0, hk, hb⟩ := boxes_2 _ _ _ _ _ hW
  clear hW
  have Ha := Lib.hid (AR.keep Ha.out hk)
  have Hb := Lib.hid (AR.keep Hb.out hk)
  have Ga0 := Lib.hid (show w.heap.size ≤ w.heap.size from Nat.le_trans HB.out.size (by omega))
  have Gb0 := Lib.hid (show w.heap.size ≤ w.heap.size + 1 from Nat.le_trans HB.out.size (by omega))
  have Xa0 := Lib.hid xa0
  have Xb0 := Lib.hid xb0
  have HB := Lib.hid (below_call HB.out hb)
  clear hk hb xa0 xb0
  refine Calls.mono (awake25) ?_
  rintro e w2 ⟨v2, rfl, rfl, hb⟩
  have Ha := Lib.hid (AR.keep Ha.out (Keep.call hb))
  have Hb := Lib.hid (AR.keep Hb.out (Keep.call hb))
  have Xa0 := Lib.hid (Box.pcall hb Xa0.out)
  have Xb0 := Lib.hid (Box.pcall hb Xb0.out)
  have HB := Lib.hid (below_call HB.out hb)
  clear hb
  obtain ⟨ca00, ca01, ca02, fa00, fa01, fa02⟩ := Xa0.out.c3
  have la0 := Xa0.out.lt
  obtain ⟨cb00, cb01, cb02, fb00, fb01, fb02⟩ := Xb0.out.c3
  have lb0 := Xb0.out.lt
  go_wp2_with fail
  clear ca00 ca01 ca02 fa00 fa01 fa02 la0 cb00 cb01 cb02 fb00 fb01 fb02 lb0
  obtain ⟨W3, hW⟩ : ∃ W3, W3 = (World.alloc w2 (.cells #[.bool ba, .slice sa na ca, .slice ta ma ea, .bool bb, .slice sb nb cb, .slice tb mb eb] 25)) := ⟨_, rfl⟩
  rw [← hW]
  obtain ⟨xc0, hk, hb⟩ := boxes_1 _ _ _ hW
  clear hW
  have Ha := Lib.hid (AR.keep Ha.out hk)
  have Hb := Lib.hid (AR.keep Hb.out hk)
  have Na0c0 := Lib.hid (show w.heap.size ≠ w2.heap.size from Nat.ne_of_lt (Nat.lt_of_lt_of_le Xa0.out.lt (by omega)))
  have Nb0c0 := Lib.hid (show w.heap.size + 1 ≠ w2.heap.size from Nat.ne_of_lt (Nat.lt_of_lt_of_le Xb0.out.lt (by omega)))
  have Gc0 := Lib.hid (show w.heap.size ≤ w2.heap.size from Nat.le_trans HB.out.size (by omega))
  have Xa0 := Lib.hid (Box.pcall hb Xa0.out)
  have Xb0 := Lib.hid (Box.pcall hb Xb0.out)
  have Xc0 := Lib.hid xc0
  have HB := Lib.hid (below_call HB.out hb)
  clear hk hb xc0
  refine Calls.mono (large2 Xc0.out HB8.out) ?_
  rintro e w4 ⟨v4, rfl, rfl, hb⟩
  have Ha := Lib.hid (AR.keep Ha.out (Keep.call hb))
  have Hb := Lib.hid (AR.keep Hb.out (Keep.call hb))
  have Xa0 := Lib.hid (Box.pcall hb Xa0.out)
  have Xb0 := Lib.hid (Box.pcall hb Xb0.out)
  have Xc0 := Lib.hid (Box.pcall hb Xc0.out)
  have HB := Lib.hid (below_call HB.out hb)
  clear hb
  obtain ⟨ca00, ca01, ca02, fa00, fa01, fa02⟩ := Xa0.out.c3
  have la0 := Xa0.out.lt
  obtain ⟨cb00, cb01, cb02, fb00, fb01, fb02⟩ := Xb0.out.c3
  have lb0 := Xb0.out.lt
  go_wp2_with fail
  clear ca00 ca01 ca02 fa00 fa01 fa02 la0 cb00 cb01 cb02 fb00 fb01 fb02 lb0
  (first | (have hcall := rllin_no_ar Hu.out Ha.out Hb.out (by decide); refine Calls.mono hcall ?_; clear hcall) | refine Calls.mono (rllin_no_ar Hu.out Ha.out Hb.out (by decide)) ?_)
  rintro e w5 ⟨v5, rfl, rfl, hb⟩
  have Ha := Lib.hid (AR.keep Ha.out (Keep.call hb))
  have Hb := Lib.hid (AR.keep Hb.out (Keep.call hb))
  have Xa0 := Lib.hid (Box.pcall hb Xa0.out)
  have Xb0 := Lib.hid (Box.pcall hb Xb0.out)
  have Xc0 := Lib.hid (Box.pcall hb Xc0.out)
  have HB := Lib.hid (below_call HB.out hb)
  clear hb
  obtain ⟨ca00, ca01, ca02, fa00, fa01, fa02⟩ := Xa0.out.c3
  have la0 := Xa0.out.lt
  obtain ⟨cb00, cb01, cb02, fb00, fb01, fb02⟩ := Xb0.out.c3
  have lb0 := Xb0.out.lt
  go_wp2_with fail
  clear ca00 ca01 ca02 fa00 fa01 fa02 la0 cb00 cb01 cb02 fb00 fb01 fb02 lb0
  obtain ⟨W6, hW⟩ : ∃ W6, W6 = (World.alloc (World.alloc w5 (.cells #[.bool false, .slice none 0 0, .slice none 0 0] 25)) (.cells #[.bool false, .slice none 0 0, .slice none 0 0] 25)) := ⟨_, rfl⟩
  rw [← hW]
  obtain ⟨xd0, xe0, hk, hb⟩ := boxes_2 _ _ _ _ _ hW
  clear hW
  have Ha := Lib.hid (AR.keep Ha.out hk)
  have Hb := Lib.hid (AR.keep Hb.out hk)
  have Na0d0 := Lib.hid (show w.heap.size ≠ w5.heap.size from Nat.ne_of_lt (Nat.lt_of_lt_of_le Xa0.out.lt (by omega)))
  have Nb0d0 := Lib.hid (show w.heap.size + 1 ≠ w5.heap.size from Nat.ne_of_lt (Nat.lt_of_lt_of_le Xb0.out.lt (by omega)))
  have Nc0d0 := Lib.hid (show w2.heap.size ≠ w5.heap.size from Nat.ne_of_lt (Nat.lt_of_lt_of_le Xc0.out.lt (by omega)))
  have Gd0 := Lib.hid (show w.heap.size ≤ w5.heap.size from Nat.le_trans HB.out.size (by omega))
  have Na0e0 := Lib.hid (show w.heap.size ≠ w5.heap.size + 1 from Nat.ne_of_lt (Nat.lt_of_lt_of_le Xa0.out.lt (by omega)))
  have Nb0e0 := Lib.hid (show w.heap.size + 1 ≠ w5.heap.size + 1 from Nat.ne_of_lt (Nat.lt_of_lt_of_le Xb0.out.lt (by omega)))
  have Nc0e0 := Lib.hid (show w2.heap.size ≠ w5.heap.size + 1 from Nat.ne_of_lt (Nat.lt_of_lt_of_le Xc0.out.lt (by omega)))
  have Ge0 := Lib.hid (show w.heap.size ≤ w5.heap.size + 1 from Nat.le_trans HB.out.size (by omega))
  have Xa0 := Lib.hid (Box.pcall hb Xa0.out)
  have Xb0 := Lib.hid (Box.pcall hb Xb0.out)
  have Xc0 := Lib.hid (Box.pcall hb Xc0.out)
  have Xd0 := Lib.hid xd0
  have Xe0 := Lib.hid xe0
  have HB := Lib.hid (below_call HB.out hb)
  clear hk hb xd0 xe0
  (first | (have hcall := zllin_no_ar Hu.out Ha.out Hb.out (by decide); refine Calls.mono hcall ?_; clear hcall) | refine Calls.mono (zllin_no_ar Hu.out Ha.out Hb.out (by decide)) ?_)
  rintro e w7 ⟨v7, rfl, rfl, hb⟩
  have Ha := Lib.hid (AR.keep Ha.out (Keep.call hb))
  have Hb := Lib.hid (AR.keep Hb.out (Keep.call hb))
  have Xa0 := Lib.hid (Box.pcall hb Xa0.out)
  have Xb0 := Lib.hid (Box.pcall hb Xb0.out)
  have Xc0 := Lib.hid (Box.pcall hb Xc0.out)
  have Xd0 := Lib.hid (Box.pcall hb Xd0.out)
  have Xe0 := Lib.hid (Box.pcall hb Xe0.out)
  have HB := Lib.hid (below_call HB.out hb)
  clear hb
  obtain ⟨ca00, ca01, ca02, fa00, fa01, fa02⟩ := Xa0.out.c3
  have la0 := Xa0.out.lt
  obtain ⟨cb00, cb01, cb02, fb00, fb01, fb02⟩ := Xb0.out.c3
  have lb0 := Xb0.out.lt
  obtain ⟨cd00, cd01, cd02, fd00, fd01, fd02⟩ := Xd0.out.c3
  have ld0 := Xd0.out.lt
  obtain ⟨ce00, ce01, ce02, fe00, fe01, fe02⟩ := Xe0.out.c3
  have le0 := Xe0.out.lt
  go_wp2_with fail
  clear ca00 ca01 ca02 fa00 fa01 fa02 la0 cb00 cb01 cb02 fb00 fb01 fb02 lb0 cd00 cd01 cd02 fd00 fd01 fd02 ld0 ce00 ce01 ce02 fe00 fe01 fe02 le0
  obtain ⟨W8, hW⟩ : ∃ W8, W8 = (World.alloc (World.alloc w7 (.cells #[.bool false, .slice none 0 0, .slice none 0 0] 25)) (.cells #[.bool false, .slice none 0 0, .slice none 0 0] 25)) := ⟨_, rfl⟩
  rw [← hW]
  obtain ⟨xf0, xg0, hk, hb⟩ := boxes_2 _ _ _ _ _ hW
  clear hW
  have Ha := Lib.hid (AR.keep Ha.out hk)
  have Hb := Lib.hid (AR.keep Hb.out hk)
  have Na0f0 := Lib.hid (show w.heap.size ≠ w7.heap.size from Nat.ne_of_lt (Nat.lt_of_lt_of_le Xa0.out.lt (by omega)))
  have Nb0f0 := Lib.hid (show w.heap.size + 1 ≠ w7.heap.size from Nat.ne_of_lt (Nat.lt_of_lt_of_le Xb0.out.lt (by omega)))
  have Nc0f0 := Lib.hid (show w2.heap.size ≠ w7.heap.size from Nat.ne_of_lt (Nat.lt_of_lt_of_le Xc0.out.lt (by omega)))
  have Nd0f0 := Lib.hid (show w5.heap.size ≠ w7.heap.size from Nat.ne_of_lt (Nat.lt_of_lt_of_le Xd0.out.lt (by omega)))
  have Ne0f0 := Lib.hid (show w5.heap.size + 1 ≠ w7.heap.size from Nat.ne_of_lt (Nat.lt_of_lt_of_le Xe0.out.lt (by omega)))
  have Gf0 := Lib.hid (show w.heap.size ≤ w7.heap.size from Nat.le_trans HB.out.size (by omega))
  have Na0g0 := Lib.hid (show w.heap.size ≠ w7.heap.size + 1 from Nat.ne_of_lt (Nat.lt_of_lt_of_le Xa0.out.lt (by omega)))
  have Nb0g0 := Lib.hid (show w.heap.size + 1 ≠ w7.heap.size + 1 from Nat.ne_of_lt (Nat.lt_of_lt_of_le Xb0.out.lt (by omega)))
  have Nc0g0 := Lib.hid (show w2.heap.size ≠ w7.heap.size + 1 from Nat.ne_of_lt (Nat.lt_of_lt_of_le Xc0.out.lt (by omega)))
  have Nd0g0 := Lib.hid (show w5.heap.size ≠ w7.heap.size + 1 from Nat.ne_of_lt (Nat.lt_of_lt_of_le Xd0.out.lt (by omega)))
  have Ne0g0 := Lib.hid (show w5.heap.size + 1 ≠ w7.heap.size + 1 from Nat.ne_of_lt (Nat.lt_of_lt_of_le Xe0.out.lt (by omega)))
  have Gg0 := Lib.hid (show w.heap.size ≤ w7.heap.size + 1 from Nat.le_trans HB.out.size (by omega))
  have Xa0 := Lib.hid (Box.pcall hb Xa0.out)
  have Xb0 := Lib.hid (Box.pcall hb Xb0.out)
  have Xc0 := Lib.hid (Box.pcall hb Xc0.out)
  have Xd0 := Lib.hid (Box.pcall hb Xd0.out)
  have Xe0 := Lib.hid (Box.pcall hb Xe0.out)
  have Xf0 := Lib.hid xf0
  have Xg0 := Lib.hid xg0
  have HB := Lib.hid (below_call HB.out hb)
  clear hk hb xf0 xg0
  have Ha := Lib.hid (AR.keep Ha.out (Keep.drew W8))
  have Hb := Lib.hid (AR.keep Hb.out (Keep.drew W8))
  have Xa0 := Lib.hid (Box.drew Xa0.out)
  have Xb0 := Lib.hid (Box.drew Xb0.out)
  have Xc0 := Lib.hid (Box.drew Xc0.out)
  have Xd0 := Lib.hid (Box.drew Xd0.out)
  have Xe0 := Lib.hid (Box.drew Xe0.out)
  have Xf0 := Lib.hid (Box.drew Xf0.out)
  have Xg0 := Lib.hid (Box.drew Xg0.out)
  have HB := Lib.hid (Below.drew HB.out)
  refine wp_region_float [] [] (by kernel_rfl) (by kernel_rfl) 80 (by kernel_rfl) Flok.nil ?_
  intro ok
  have Hok := Lib.hid ok
  clear ok
  have HG := Lib.hid (Below.refl (W8.drew).heap.size (W8.drew))
  refine good_pureX 0 (some 35) (Go.Op.move (Go.Operand.tmp 5)) (none) (.int .i64 0) (by kernel_rfl) (by kernel_rfl) (by kernel_rfl) (fun _ _ _ h => h) (fun w' hw' => ?_) ?_
  · first | (go_simp; done) | (go_simp; simp_all; done) | (go_simp; rfl)
  simp only [Act.put, List.setIfInBounds_toArray, List.set_cons_zero, List.set_cons_succ]
  refine good_pureX 1 (some 36) (Go.Op.move (Go.Operand.tmp 9)) (none) (.int .i64 0) (by kernel_rfl) (by kernel_rfl) (by kernel_rfl) (fun _ _ _ h => h) (fun w' hw' => ?_) ?_
  · first | (go_simp; done) | (go_simp; simp_all; done) | (go_simp; rfl)
  simp only [Act.put, List.setIfInBounds_toArray, List.set_cons_zero, List.set_cons_succ]
  refine good_pureX 2 (some 37) (Go.Op.binOp Go.BinOp.eql 3 (Go.Operand.tmp 35) (Go.Operand.tmp 36) 3) (none) (.bool true) (by kernel_rfl) (by kernel_rfl) (by kernel_rfl) (fun _ _ _ h => h) (fun w' hw' => ?_) ?_
  · first | (go_simp; done) | (go_simp; simp_all; done) | (go_simp; rfl)
  simp only [Act.put, List.setIfInBounds_toArray, List.set_cons_zero, List.set_cons_succ]
  refine good_pureX 3 (some 38) (Go.Op.move (Go.Operand.tmp 37)) (none) (.bool true) (by kernel_rfl) (by kernel_rfl) (by kernel_rfl) (fun _ _ _ h => h) (fun w' hw' => ?_) ?_
  · first | (go_simp; done) | (go_simp; simp_all; done) | (go_simp; rfl)
  simp only [Act.put, List.setIfInBounds_toArray, List.set_cons_zero, List.set_cons_succ]
  refine good_pureX 4 (some 39) (Go.Op.move (Go.Operand.tmp 8)) (some (3, true)) (.int .i64 2) (by kernel_rfl) (by kernel_rfl) (by kernel_rfl) (fun _ _ _ h => h) (fun w' hw' => ?_) ?_
  · first | (go_simp; done) | (go_simp; simp_all; done) | (go_simp; rfl)
  simp only [Act.put, List.setIfInBounds_toArray, List.set_cons_zero, List.set_cons_succ]
  refine good_pureX 5 (some 40) (Go.Op.move (Go.Operand.tmp 12)) (some (3, true)) (.int .i64 2) (by kernel_rfl) (by kernel_rfl) (by kernel_rfl) (fun _ _ _ h => h) (fun w' hw' => ?_) ?_
  · first | (go_simp; done) | (go_simp; simp_all; done) | (go_simp; rfl)
  simp only [Act.put, List.setIfInBounds_toArray, List.set_cons_zero, List.set_cons_succ]
  refine good_pureX 6 (some 41) (Go.Op.binOp Go.BinOp.eql 28 (Go.Operand.tmp 39) (Go.Operand.tmp 40) 28) (some (3, true)) (.bool true) (by kernel_rfl) (by kernel_rfl) (by kernel_rfl) (fun _ _ _ h => h) (fun w' hw' => ?_) ?_
  · first | (go_simp; done) | (go_simp; simp_all; done) | (go_simp; rfl)
  simp only [Act.put, List.setIfInBounds_toArray, List.set_cons_zero, List.set_cons_succ]
  refine good_pureX 7 (some 42) (Go.Op.pick (Go.Operand.tmp 38) (Go.Operand.tmp 41) (Go.Operand.const (Go.Value.bool false))) (none) (.bool true) (by kernel_rfl) (by kernel_rfl) (by kernel_rfl) (fun _ _ _ h => h) (fun w' hw' => ?_) ?_
  · first | (go_simp; done) | (go_simp; simp_all; done) | (go_simp; rfl)
  simp only [Act.put, List.setIfInBounds_toArray, List.set_cons_zero, List.set_cons_succ]
  refine good_pureX 8 (some 43) (Go.Op.move (Go.Operand.tmp 42)) (none) (.bool true) (by kernel_rfl) (by kernel_rfl) (by kernel_rfl) (fun _ _ _ h => h) (fun w' hw' => ?_) ?_
  · first | (go_simp; done) | (go_simp; simp_all; done) | (go_simp; rfl)
  simp only [Act.put, List.setIfInBounds_toArray, List.set_cons_zero, List.set_cons_succ]
  refine good_pureX 9 (some 44) (Go.Op.load 25 (Go.Operand.tmp 6)) (some (8, true)) (.agg #[.bool false, .slice none 0 0, .slice none 0 0]) (by kernel_rfl) (by kernel_rfl) (by kernel_rfl) (fun _ _ _ h => h) (fun w' hw' => ?_) ?_
  · obtain ⟨cd00, cd01, cd02, fd00, fd01, fd02⟩ := (Box.se hw' Xd0.out notin0).c3
    first | (go_simp; done) | (go_simp; simp_all; done) | (go_simp; rfl)
  simp only [Act.put, List.setIfInBounds_toArray, List.set_cons_zero, List.set_cons_succ]
  refine good_pureX 10 (some 45) (Go.Op.load 25 (Go.Operand.tmp 10)) (some (8, true)) (.agg #[.bool false, .slice none 0 0, .slice none 0 0]) (by kernel_rfl) (by kernel_rfl) (by kernel_rfl) (fun _ _ _ h => h) (fun w' hw' => ?_) ?_
  · obtain ⟨cf00, cf01, cf02, ff00, ff01, ff02⟩ := (Box.se hw' Xf0.out notin0).c3
    first | (go_simp; done) | (go_simp; simp_all; done) | (go_simp; rfl)
  simp only [Act.put, List.setIfInBounds_toArray, List.set_cons_zero, List.set_cons_succ]
  refine good_callX 11 14 (some 46) #[Go.Operand.tmp 44, Go.Operand.tmp 45] #[25, 25] (some (8, true)) #[.agg #[.bool false, .slice none 0 0, .slice none 0 0], .agg #[.bool false, .slice none 0 0, .slice none 0 0]] (by kernel_rfl) Hok.out (by kernel_rfl) (by kernel_rfl) (by kernel_rfl) (by kernel_rfl) rfl rfl rfl (by kernel_rfl) (fun w9 hb => ?_)
  have HG := Lib.hid (below_call HG.out hb)
  clear hb
  refine Calls.mono (zsame_cr (CR.zero _) (CR.zero _) rfl) ?_
  rintro e w10 ⟨v10, rfl, rfl, hb⟩
  refine ⟨_, rfl, ?_, hb⟩
  have HG := Lib.hid (below_call HG.out hb)
  clear hb
  simp only [Act.put, List.setIfInBounds_toArray, List.set_cons_zero, List.set_cons_succ]
  refine good_pureX 12 (some 47) (Go.Op.pick (Go.Operand.tmp 43) (Go.Operand.tmp 46) (Go.Operand.const (Go.Value.bool false))) (none) (.bool true) (by kernel_rfl) (by kernel_rfl) (by kernel_rfl) (fun _ _ _ h => h) (fun w' hw' => ?_) ?_
  · first | (go_simp; done) | (go_simp; simp_all; done) | (go_simp; rfl)
  simp only [Act.put, List.setIfInBounds_toArray, List.set_cons_zero, List.set_cons_succ]
  refine good_pureX 13 (some 48) (Go.Op.move (Go.Operand.tmp 47)) (none) (.bool true) (by kernel_rfl) (by kernel_rfl) (by kernel_rfl) (fun _ _ _ h => h) (fun w' hw' => ?_) ?_
  · first | (go_simp; done) | (go_simp; simp_all; done) | (go_simp; rfl)
  simp only [Act.put, List.setIfInBounds_toArray, List.set_cons_zero, List.set_cons_succ]
  refine good_pureX 14 (some 49) (Go.Op.load 25 (Go.Operand.tmp 7)) (some (13, true)) (.agg #[.bool false, .slice none 0 0, .slice none 0 0]) (by kernel_rfl) (by kernel_rfl) (by kernel_rfl) (fun _ _ _ h => h) (fun w' hw' => ?_) ?_
  · obtain ⟨ce00, ce01, ce02, fe00, fe01, fe02⟩ := (Box.se hw' Xe0.out notin0).c3
    first | (go_simp; done) | (go_simp; simp_all; done) | (go_simp; rfl)
  simp only [Act.put, List.setIfInBounds_toArray, List.set_cons_zero, List.set_cons_succ]
  refine good_pureX 15 (some 50) (Go.Op.load 25 (Go.Operand.tmp 11)) (some (13, true)) (.agg #[.bool false, .slice none 0 0, .slice none 0 0]) (by kernel_rfl) (by kernel_rfl) (by kernel_rfl) (fun _ _ _ h => h) (fun w' hw' => ?_) ?_
  · obtain ⟨cg00, cg01, cg02, fg00, fg01, fg02⟩ := (Box.se hw' Xg0.out notin0).c3
    first | (go_simp; done) | (go_simp; simp_all; done) | (go_simp; rfl)
  simp only [Act.put, List.setIfInBounds_toArray, List.set_cons_zero, List.set_cons_succ]
  refine good_callX 16 14 (some 51) #[Go.Operand.tmp 49, Go.Operand.tmp 50] #[25, 25] (some (13, true)) #[.agg #[.bool false, .slice none 0 0, .slice none 0 0], .agg #[.bool false, .slice none 0 0, .slice none 0 0]] (by kernel_rfl) Hok.out (by kernel_rfl) (by kernel_rfl) (by kernel_rfl) (by kernel_rfl) rfl rfl rfl (by kernel_rfl) (fun w11 hb => ?_)
  have HG := Lib.hid (below_call HG.out hb)
  clear hb
  refine Calls.mono (zsame_cr (CR.zero _) (CR.zero _) rfl) ?_
  rintro e w12 ⟨v12, rfl, rfl, hb⟩
  refine ⟨_, rfl, ?_, hb⟩
  have HG := Lib.hid (below_call HG.out hb)
  clear hb
  simp only [Act.put, List.setIfInBounds_toArray, List.set_cons_zero, List.set_cons_succ]
  refine good_pureX 17 (some 52) (Go.Op.pick (Go.Operand.tmp 48) (Go.Operand.tmp 51) (Go.Operand.const (Go.Value.bool false))) (none) (.bool true) (by kernel_rfl) (by kernel_rfl) (by kernel_rfl) (fun _ _ _ h => h) (fun w' hw' => ?_) ?_
  · first | (go_simp; done) | (go_simp; simp_all; done) | (go_simp; rfl)
  simp only [Act.put, List.setIfInBounds_toArray, List.set_cons_zero, List.set_cons_succ]
  refine good_pureX 18 (some 53) (Go.Op.move (Go.Operand.tmp 52)) (none) (.bool true) (by kernel_rfl) (by kernel_rfl) (by kernel_rfl) (fun _ _ _ h => h) (fun w' hw' => ?_) ?_
  · first | (go_simp; done) | (go_simp; simp_all; done) | (go_simp; rfl)
  simp only [Act.put, List.setIfInBounds_toArray, List.set_cons_zero, List.set_cons_succ]
  refine good_pureX 19 (some 54) (Go.Op.load 25 (Go.Operand.tmp 2)) (some (18, true)) (.agg #[.bool ba, .slice sa na ca, .slice ta ma ea]) (by kernel_rfl) (by kernel_rfl) (by kernel_rfl) (fun _ _ _ h => h) (fun w' hw' => ?_) ?_
  · obtain ⟨ca00, ca01, ca02, fa00, fa01, fa02⟩ := (Box.se hw' Xa0.out notin0).c3
    first | (go_simp; done) | (go_simp; simp_all; done) | (go_simp; rfl)
  simp only [Act.put, List.setIfInBounds_toArray, List.set_cons_zero, List.set_cons_succ]
  refine good_pureX 20 (some 55) (Go.Op.load 25 (Go.Operand.tmp 3)) (some (18, true)) (.agg #[.bool bb, .slice sb nb cb, .slice tb mb eb]) (by kernel_rfl) (by kernel_rfl) (by kernel_rfl) (fun _ _ _ h => h) (fun w' hw' => ?_) ?_
  · obtain ⟨cb00, cb01, cb02, fb00, fb01, fb02⟩ := (Box.se hw' Xb0.out notin0).c3
    first | (go_simp; done) | (go_simp; simp_all; done) | (go_simp; rfl)
  simp only [Act.put, List.setIfInBounds_toArray, List.set_cons_zero, List.set_cons_succ]
  refine good_pureX 22 (some 57) (Go.Op.load 25 (Go.Operand.tmp 2)) (some (18, true)) (.agg #[.bool ba, .slice sa na ca, .slice ta ma ea]) (by kernel_rfl) (by kernel_rfl) (by kernel_rfl) (fun _ _ _ h => h) (fun w' hw' => ?_) ?_
  · obtain ⟨ca00, ca01, ca02, fa00, fa01, fa02⟩ := (Box.se hw' Xa0.out notin0).c3
    first | (go_simp; done) | (go_simp; simp_all; done) | (go_simp; rfl)
  simp only [Act.put, List.setIfInBounds_toArray, List.set_cons_zero, List.set_cons_succ]
  refine good_pureX 23 (some 58) (Go.Op.load 25 (Go.Operand.tmp 3)) (some (18, true)) (.agg #[.bool bb, .slice sb nb cb, .slice tb mb eb]) (by kernel_rfl) (by kernel_rfl) (by kernel_rfl) (fun _ _ _ h => h) (fun w' hw' => ?_) ?_
  · obtain ⟨cb00, cb01, cb02, fb00, fb01, fb02⟩ := (Box.se hw' Xb0.out notin0).c3
    first | (go_simp; done) | (go_simp; simp_all; done) | (go_simp; rfl)
  simp only [Act.put, List.setIfInBounds_toArray, List.set_cons_zero, List.set_cons_succ]
  refine good_callX 21 15 (some 56) #[Go.Operand.tmp 54, Go.Operand.tmp 55] #[25, 25] (some (18, true)) #[.agg #[.bool ba, .slice sa na ca, .slice ta ma ea], .agg #[.bool bb, .slice sb nb cb, .slice tb mb eb]] (by kernel_rfl) Hok.out (by kernel_rfl) (by kernel_rfl) (by kernel_rfl) (by kernel_rfl) rfl rfl rfl (by kernel_rfl) (fun w13 hb => ?_)
  have HG := Lib.hid (below_call HG.out hb)
  clear hb
  (first | (have hcall := rluns_ar Hu.out (AR.keep Ha.out (Keep.call HG.out)) (AR.keep Hb.out (Keep.call HG.out)) (by decide); refine Calls.mono hcall ?_; clear hcall) | refine Calls.mono (rluns_ar Hu.out (AR.keep Ha.out (Keep.call HG.out)) (AR.keep Hb.out (Keep.call HG.out)) (by decide)) ?_)
  rintro e w14 ⟨v14, rfl, rfl, hb⟩
  refine ⟨_, rfl, ?_, hb⟩
  have HG := Lib.hid (below_call HG.out hb)
  clear hb
  simp only [Act.put, List.setIfInBounds_toArray, List.set_cons_zero, List.set_cons_succ]
  refine good_callX 24 16 (some 59) #[Go.Operand.tmp 57, Go.Operand.tmp 58] #[25, 25] (some (18, true)) #[.agg #[.bool ba, .slice sa na ca, .slice ta ma ea], .agg #[.bool bb, .slice sb nb cb, .slice tb mb eb]] (by kernel_rfl) Hok.out (by kernel_rfl) (by kernel_rfl) (by kernel_rfl) (by kernel_rfl) rfl rfl rfl (by kernel_rfl) (fun w15 hb => ?_)
  have HG := Lib.hid (below_call HG.out hb)
  clear hb
  (first | (have hcall := zluns_ar Hu.out (AR.keep Ha.out (Keep.call HG.out)) (AR.keep Hb.out (Keep.call HG.out)) (by decide); refine Calls.mono hcall ?_; clear hcall) | refine Calls.mono (zluns_ar Hu.out (AR.keep Ha.out (Keep.call HG.out)) (AR.keep Hb.out (Keep.call HG.out)) (by decide)) ?_)
  rintro e w16 ⟨v16, rfl, rfl, hb⟩
  refine ⟨_, rfl, ?_, hb⟩
  have HG := Lib.hid (below_call HG.out hb)
  clear hb
  simp only [Act.put, List.setIfInBounds_toArray, List.set_cons_zero, List.set_cons_succ]
  refine good_pureX 25 (some 60) (Go.Op.binOp Go.BinOp.eql 4 (Go.Operand.tmp 56) (Go.Operand.tmp 59) 4) (some (18, true)) (.bool true) (by kernel_rfl) (by kernel_rfl) (by kernel_rfl) (fun _ _ _ h => h) (fun w' hw' => ?_) ?_
  · first | (go_simp; done) | (go_simp; simp_all; done) | (go_simp; rfl)
  simp only [Act.put, List.setIfInBounds_toArray, List.set_cons_zero, List.set_cons_succ]
  refine good_pureX 26 (some 61) (Go.Op.pick (Go.Operand.tmp 53) (Go.Operand.tmp 60) (Go.Operand.const (Go.Value.bool false))) (none) (.bool true) (by kernel_rfl) (by kernel_rfl) (by kernel_rfl) (fun _ _ _ h => h) (fun w' hw' => ?_) ?_
  · first | (go_simp; done) | (go_simp; simp_all; done) | (go_simp; rfl)
  simp only [Act.put, List.setIfInBounds_toArray, List.set_cons_zero, List.set_cons_succ]
  refine good_pureX 27 (some 62) (Go.Op.move (Go.Operand.tmp 61)) (none) (.bool true) (by kernel_rfl) (by kernel_rfl) (by kernel_rfl) (fun _ _ _ h => h) (fun w' hw' => ?_) ?_
  · first | (go_simp; done) | (go_simp; simp_all; done) | (go_simp; rfl)
  simp only [Act.put, List.setIfInBounds_toArray, List.set_cons_zero, List.set_cons_succ]
  refine good_pureX 28 (some 63) (Go.Op.load 25 (Go.Operand.tmp 2)) (some (27, true)) (.agg #[.bool ba, .slice sa na ca, .slice ta ma ea]) (by kernel_rfl) (by kernel_rfl) (by kernel_rfl) (fun _ _ _ h => h) (fun w' hw' => ?_) ?_
  · obtain ⟨ca00, ca01, ca02, fa00, fa01, fa02⟩ := (Box.se hw' Xa0.out notin0).c3
    first | (go_simp; done) | (go_simp; simp_all; done) | (go_simp; rfl)
  simp only [Act.put, List.setIfInBounds_toArray, List.set_cons_zero, List.set_cons_succ]
  refine good_pureX 29 (some 64) (Go.Op.load 25 (Go.Operand.tmp 3)) (some (27, true)) (.agg #[.bool bb, .slice sb nb cb, .slice tb mb eb]) (by kernel_rfl) (by kernel_rfl) (by kernel_rfl) (fun _ _ _ h => h) (fun w' hw' => ?_) ?_
  · obtain ⟨cb00, cb01, cb02, fb00, fb01, fb02⟩ := (Box.se hw' Xb0.out notin0).c3
    first | (go_simp; done) | (go_simp; simp_all; done) | (go_simp; rfl)
  simp only [Act.put, List.setIfInBounds_toArray, List.set_cons_zero, List.set_cons_succ]
  refine good_pureX 31 (some 66) (Go.Op.load 25 (Go.Operand.tmp 2)) (some (27, true)) (.agg #[.bool ba, .slice sa na ca, .slice ta ma ea]) (by kernel_rfl) (by kernel_rfl) (by kernel_rfl) (fun _ _ _ h => h) (fun w' hw' => ?_) ?_
  · obtain ⟨ca00, ca01, ca02, fa00, fa01, fa02⟩ := (Box.se hw' Xa0.out notin0).c3
    first | (go_simp; done) | (go_simp; simp_all; done) | (go_simp; rfl)
  simp only [Act.put, List.setIfInBounds_toArray, List.set_cons_zero, List.set_cons_succ]
  refine good_pureX 32 (some 67) (Go.Op.load 25 (Go.Operand.tmp 3)) (some (27, true)) (.agg #[.bool bb, .slice sb nb cb, .slice tb mb eb]) (by kernel_rfl) (by kernel_rfl) (by kernel_rfl) (fun _ _ _ h => h) (fun w' hw' => ?_) ?_
  · obtain ⟨cb00, cb01, cb02, fb00, fb01, fb02⟩ := (Box.se hw' Xb0.out notin0).c3
    first | (go_simp; done) | (go_simp; simp_all; done) | (go_simp; rfl)
  simp only [Act.put, List.setIfInBounds_toArray, List.set_cons_zero, List.set_cons_succ]
  refine good_callX 30 17 (some 65) #[Go.Operand.tmp 63, Go.Operand.tmp 64] #[25, 25] (some (27, true)) #[.agg #[.bool ba, .slice sa na ca, .slice ta ma ea], .agg #[.bool bb, .slice sb nb cb, .slice tb mb eb]] (by kernel_rfl) Hok.out (by kernel_rfl) (by kernel_rfl) (by kernel_rfl) (by kernel_rfl) rfl rfl rfl (by kernel_rfl) (fun w17 hb => ?_)
  have HG := Lib.hid (below_call HG.out hb)
  clear hb
  (first | (have hcall := rlslo_ar k Hk.out (AR.keep Ha.out (Keep.call HG.out)) (AR.keep Hb.out (Keep.call HG.out)) (by decide); refine Calls.mono hcall ?_; clear hcall) | refine Calls.mono (rlslo_ar k Hk.out (AR.keep Ha.out (Keep.call HG.out)) (AR.keep Hb.out (Keep.call HG.out)) (by decide)) ?_)
  rintro e w18 ⟨v18, rfl, ⟨⟩, hb⟩
  refine ⟨_, rfl, ?_, hb⟩
  have HG := Lib.hid (below_call HG.out hb)
  clear hb
  simp only [Act.put, List.setIfInBounds_toArray, List.set_cons_zero, List.set_cons_succ]
  refine good_callX 33 18 (some 68) #[Go.Operand.tmp 66, Go.Operand.tmp 67] #[25, 25] (some (27, true)) #[.agg #[.bool ba, .slice sa na ca, .slice ta ma ea], .agg #[.bool bb, .slice sb nb cb, .slice tb mb eb]] (by kernel_rfl) Hok.out (by kernel_rfl) (by kernel_rfl) (by kernel_rfl) (by kernel_rfl) rfl rfl rfl (by kernel_rfl) (fun w19 hb => ?_)
  have HG := Lib.hid (below_call HG.out hb)
  clear hb
  (first | (have hcall := zlslo_ar k Hk.out (AR.keep Ha.out (Keep.call HG.out)) (AR.keep Hb.out (Keep.call HG.out)) (by decide); refine Calls.mono hcall ?_; clear hcall) | refine Calls.mono (zlslo_ar k Hk.out (AR.keep Ha.out (Keep.call HG.out)) (AR.keep Hb.out (Keep.call HG.out)) (by decide)) ?_)
  rintro e w20 ⟨v20, rfl, ⟨⟩, hb⟩
  refine ⟨_, rfl, ?_, hb⟩
  have HG := Lib.hid (below_call HG.out hb)
  clear hb
  simp only [Act.put, List.setIfInBounds_toArray, List.set_cons_zero, List.set_cons_succ]
  refine good_pureX 34 (some 69) (Go.Op.binOp Go.BinOp.eql 3 (Go.Operand.tmp 65) (Go.Operand.tmp 68) 3) (some (27, true)) (.bool true) (by kernel_rfl) (by kernel_rfl) (by kernel_rfl) (fun _ _ _ h => h) (fun w' hw' => ?_) ?_
  · first | (go_simp; done) | (go_simp; simp_all; done) | (go_simp; rfl)
  simp only [Act.put, List.setIfInBounds_toArray, List.set_cons_zero, List.set_cons_succ]
  refine good_pureX 35 (some 70) (Go.Op.pick (Go.Operand.tmp 62) (Go.Operand.tmp 69) (Go.Operand.const (Go.Value.bool false))) (none) (.bool true) (by kernel_rfl) (by kernel_rfl) (by kernel_rfl) (fun _ _ _ h => h) (fun w' hw' => ?_) ?_
  · first | (go_simp; done) | (go_simp; simp_all; done) | (go_simp; rfl)
  simp only [Act.put, List.setIfInBounds_toArray, List.set_cons_zero, List.set_cons_succ]
  refine good_pureX 36 (some 71) (Go.Op.move (Go.Operand.tmp 70)) (none) (.bool true) (by kernel_rfl) (by kernel_rfl) (by kernel_rfl) (fun _ _ _ h => h) (fun w' hw' => ?_) ?_
  · first | (go_simp; done) | (go_simp; simp_all; done) | (go_simp; rfl)
  simp only [Act.put, List.setIfInBounds_toArray, List.set_cons_zero, List.set_cons_succ]
  refine good_pureX 37 (some 72) (Go.Op.load 25 (Go.Operand.tmp 2)) (some (36, true)) (.agg #[.bool ba, .slice sa na ca, .slice ta ma ea]) (by kernel_rfl) (by kernel_rfl) (by kernel_rfl) (fun _ _ _ h => h) (fun w' hw' => ?_) ?_
  · obtain ⟨ca00, ca01, ca02, fa00, fa01, fa02⟩ := (Box.se hw' Xa0.out notin0).c3
    first | (go_simp; done) | (go_simp; simp_all; done) | (go_simp; rfl)
  simp only [Act.put, List.setIfInBounds_toArray, List.set_cons_zero, List.set_cons_succ]
  refine good_pureX 38 (some 73) (Go.Op.load 25 (Go.Operand.tmp 3)) (some (36, true)) (.agg #[.bool bb, .slice sb nb cb, .slice tb mb eb]) (by kernel_rfl) (by kernel_rfl) (by kernel_rfl) (fun _ _ _ h => h) (fun w' hw' => ?_) ?_
  · obtain ⟨cb00, cb01, cb02, fb00, fb01, fb02⟩ := (Box.se hw' Xb0.out notin0).c3
    first | (go_simp; done) | (go_simp; simp_all; done) | (go_simp; rfl)
  simp only [Act.put, List.setIfInBounds_toArray, List.set_cons_zero, List.set_cons_succ]
  refine good_pureX 40 (some 75) (Go.Op.load 25 (Go.Operand.tmp 2)) (some (36, true)) (.agg #[.bool ba, .slice sa na ca, .slice ta ma ea]) (by kernel_rfl) (by kernel_rfl) (by kernel_rfl) (fun _ _ _ h => h) (fun w' hw' => ?_) ?_
  · obtain ⟨ca00, ca01, ca02, fa00, fa01, fa02⟩ := (Box.se hw' Xa0.out notin0).c3
    first | (go_simp; done) | (go_simp; simp_all; done) | (go_simp; rfl)
  simp only [Act.put, List.setIfInBounds_toArray, List.set_cons_zero, List.set_cons_succ]
  refine good_pureX 41 (some 76) (Go.Op.load 25 (Go.Operand.tmp 3)) (some (36, true)) (.agg #[.bool bb, .slice sb nb cb, .slice tb mb eb]) (by kernel_rfl) (by kernel_rfl) (by kernel_rfl) (fun _ _ _ h => h) (fun w' hw' => ?_) ?_
  · obtain ⟨cb00, cb01, cb02, fb00, fb01, fb02⟩ := (Box.se hw' Xb0.out notin0).c3
    first | (go_simp; done) | (go_simp; simp_all; done) | (go_simp; rfl)
  simp only [Act.put, List.setIfInBounds_toArray, List.set_cons_zero, List.set_cons_succ]
  refine good_callX 39 19 (some 74) #[Go.Operand.tmp 72, Go.Operand.tmp 73] #[25, 25] (some (36, true)) #[.agg #[.bool ba, .slice sa na ca, .slice ta ma ea], .agg #[.bool bb, .slice sb nb cb, .slice tb mb eb]] (by kernel_rfl) Hok.out (by kernel_rfl) (by kernel_rfl) (by kernel_rfl) (by kernel_rfl) rfl rfl rfl (by kernel_rfl) (fun w21 hb => ?_)
  have HG := Lib.hid (below_call HG.out hb)
  clear hb
  (first | (have hcall := rlgap_ar (AR.keep Ha.out (Keep.call HG.out)) (AR.keep Hb.out (Keep.call HG.out)) (by decide); refine Calls.mono hcall ?_; clear hcall) | refine Calls.mono (rlgap_ar (AR.keep Ha.out (Keep.call HG.out)) (AR.keep Hb.out (Keep.call HG.out)) (by decide)) ?_)
  rintro e w22 ⟨v22, rfl, hg3, hb⟩
  obtain ⟨g3_b, g3_a, g3_n, g3_c, g3_d, g3_m, g3_e, rfl⟩ := hg3.litb
  refine ⟨_, rfl, ?_, hb⟩
  have HG := Lib.hid (below_call HG.out hb)
  have Hg3 := Lib.hid hg3
  clear hb hg3
  simp only [Act.put, List.setIfInBounds_toArray, List.set_cons_zero, List.set_cons_succ]
  refine good_callX 42 20 (some 77) #[Go.Operand.tmp 75, Go.Operand.tmp 76] #[25, 25] (some (36, true)) #[.agg #[.bool ba, .slice sa na ca, .slice ta ma ea], .agg #[.bool bb, .slice sb nb cb, .slice tb mb eb]] (by kernel_rfl) Hok.out (by kernel_rfl) (by kernel_rfl) (by kernel_rfl) (by kernel_rfl) rfl rfl rfl (by kernel_rfl) (fun w23 hb => ?_)
  have Hg3 := Lib.hid (CR.keep Hg3.out (Keep.call hb))
  have HG := Lib.hid (below_call HG.out hb)
  clear hb
  (first | (have hcall := zlgap_ar (AR.keep Ha.out (Keep.call HG.out)) (AR.keep Hb.out (Keep.call HG.out)) (by decide); refine Calls.mono hcall ?_; clear hcall) | refine Calls.mono (zlgap_ar (AR.keep Ha.out (Keep.call HG.out)) (AR.keep Hb.out (Keep.call HG.out)) (by decide)) ?_)
  rintro e w24 ⟨v24, rfl, hg4, hb⟩
  obtain ⟨g4_b, g4_a, g4_n, g4_c, g4_d, g4_m, g4_e, rfl⟩ := hg4.litb
  refine ⟨_, rfl, ?_, hb⟩
  have Hg3 := Lib.hid (CR.keep Hg3.out (Keep.call hb))
  have HG := Lib.hid (below_call HG.out hb)
  have Hg4 := Lib.hid hg4
  clear hb hg4
  simp only [Act.put, List.setIfInBounds_toArray, List.set_cons_zero, List.set_cons_succ]
  refine good_callX 43 14 (some 78) #[Go.Operand.tmp 74, Go.Operand.tmp 77] #[25, 25] (some (36, true)) #[.agg #[.bool g3_b, .slice g3_a g3_n g3_c, .slice g3_d g3_m g3_e], .agg #[.bool g4_b, .slice g4_a g4_n g4_c, .slice g4_d g4_m g4_e]] (by kernel_rfl) Hok.out (by kernel_rfl) (by kernel_rfl) (by kernel_rfl) (by kernel_rfl) rfl rfl rfl (by kernel_rfl) (fun w25 hb => ?_)
  have Hg3 := Lib.hid (CR.keep Hg3.out (Keep.call hb))
  have Hg4 := Lib.hid (CR.keep Hg4.out (Keep.call hb))
  have HG := Lib.hid (below_call HG.out hb)
  clear hb
  (first | (have hcall := zsame_cr Hg3.out Hg4.out (rfl); refine Calls.mono hcall ?_; clear hcall) | refine Calls.mono (zsame_cr Hg3.out Hg4.out (rfl)) ?_)
  rintro e w26 ⟨v26, rfl, rfl, hb⟩
  refine ⟨_, rfl, ?_, hb⟩
  have HG := Lib.hid (below_call HG.out hb)
  clear hb
  simp only [Act.put, List.setIfInBounds_toArray, List.set_cons_zero, List.set_cons_succ]
  refine good_pureX 44 (some 79) (Go.Op.pick (Go.Operand.tmp 71) (Go.Operand.tmp 78) (Go.Operand.const (Go.Value.bool false))) (none) (.bool true) (by kernel_rfl) (by kernel_rfl) (by kernel_rfl) (fun _ _ _ h => h) (fun w' hw' => ?_) ?_
  · first | (go_simp; done) | (go_simp; simp_all; done) | (go_simp; rfl)
  simp only [Act.put, List.setIfInBounds_toArray, List.set_cons_zero, List.set_cons_succ]
  refine good_pureX 45 (some 4) (Go.Op.assign (Go.Operand.tmp 79)) (none) (.bool true) (by kernel_rfl) (by kernel_rfl) (by kernel_rfl) (fun _ _ _ h => h) (fun w' hw' => ?_) ?_
  · first | (go_simp; done) | (go_simp; simp_all; done) | (go_simp; rfl)
  simp only [Act.put, List.setIfInBounds_toArray, List.set_cons_zero, List.set_cons_succ]
  refine good_end0 0 (by kernel_rfl) (fun _ w27 hb => ?_)
  have HG := Lib.hid (below_call HG.out hb)
  clear hb
  have Xa0 := Lib.hid (Box.pcall HG.out Xa0.out)
  have Xb0 := Lib.hid (Box.pcall HG.out Xb0.out)
  have Xc0 := Lib.hid (Box.pcall HG.out Xc0.out)
  have Xd0 := Lib.hid (Box.pcall HG.out Xd0.out)
  have Xe0 := Lib.hid (Box.pcall HG.out Xe0.out)
  have Xf0 := Lib.hid (Box.pcall HG.out Xf0.out)
  have Xg0 := Lib.hid (Box.pcall HG.out Xg0.out)
  have HB := Lib.hid (below_call HB.out HG.out)
  have HS := Lib.hid (SE.of (E := []) HG.out)
  refine wpAnyH_done (by kernel_rfl) ?_ _
  clear HG HS Hok 
  obtain ⟨ca00, ca01, ca02, fa00, fa01, fa02⟩ := Xa0.out.c3
  have la0 := Xa0.out.lt
  obtain ⟨cb00, cb01, cb02, fb00, fb01, fb02⟩ := Xb0.out.c3
  have lb0 := Xb0.out.lt
  obtain ⟨cd00, cd01, cd02, fd00, fd01, fd02⟩ := Xd0.out.c3
  have ld0 := Xd0.out.lt
  obtain ⟨ce00, ce01, ce02, fe00, fe01, fe02⟩ := Xe0.out.c3
  have le0 := Xe0.out.lt
  obtain ⟨cf00, cf01, cf02, ff00, ff01, ff02⟩ := Xf0.out.c3
  have lf0 := Xf0.out.lt
  obtain ⟨cg00, cg01, cg02, fg00, fg01, fg02⟩ := Xg0.out.c3
  have lg0 := Xg0.out.lt
  go_wp2
  clear ca00 ca01 ca02 fa00 fa01 fa02 la0 cb00 cb01 cb02 fb00 fb01 fb02 lb0 cd00 cd01 cd02 fd00 fd01 fd02 ld0 ce00 ce01 ce02 fe00 fe01 fe02 le0 cf00 cf01 cf02 ff00 ff01 ff02 lf0 cg00 cg01 cg02 fg00 fg01 fg02 lg0
  go_ret
  exact ⟨_, rfl, rfl, HB.out⟩


theorem RelaxLines_all (ba : Bool) (sa : Option Addr) (na ca : Nat) (ta : Option Addr) (ma ea : Nat) (bb : Bool) (sb : Option Addr) (nb cb : Nat) (tb : Option Addr) (mb eb : Nat) (w : World) (ra : Row w (.slice sa na ca) na) (ua : Row w (.slice ta ma ea) ma) (rb : Row w (.slice sb nb cb) nb) (ub : Row w (.slice tb mb eb) mb) : Calls Try.prog 3 #[.agg #[.bool ba, .slice sa na ca, .slice ta ma ea], .agg #[.bool bb, .slice sb nb cb, .slice tb mb eb]] w (Ret w (Val (.bool true))) := by
  cases hB : ([⟨ba, sa, na, ca, ta, ma, ea⟩, ⟨bb, sb, nb, cb, tb, mb, eb⟩] : List Rw).any Rw.big
  case true => exact llin_big hB
  have hs : na ≤ 8 ∧ ma ≤ 8 ∧ nb ≤ 8 ∧ mb ≤ 8 := by
    simp [Rw.big] at hB
    omega
  obtain ⟨qa, ha⟩ := ra.ar (b := ba) ua 8 (by omega) (by omega) (by decide)
  obtain ⟨qb, hb⟩ := rb.ar (b := bb) ub 8 (by omega) (by omega) (by decide)
  cases hu : unst qa qb
  · exact llin_n _ rfl hu hB ha hb
  · exact llin_y _ rfl hu hB ha hb

set_option maxRecDepth 100000 in
set_option maxHeartbeats 4000000 in
theorem lgap_big {ba : Bool} {sa ta : Option Addr} {na ca ma ea : Nat} {bb : Bool} {sb tb : Option Addr} {nb cb mb eb : Nat} {bc : Bool} {sc tc : Option Addr} {nc cc mc ec : Nat}  {w : World} (hB8 : ([⟨ba, sa, na, ca, ta, ma, ea⟩, ⟨bb, sb, nb, cb, tb, mb, eb⟩, ⟨bc, sc, nc, cc, tc, mc, ec⟩] : List Rw).any Rw.big = true)  :
    Calls Try.prog 6 #[.agg #[.bool ba, .slice sa na ca, .slice ta ma ea], .agg #[.bool bb, .slice sb nb cb, .slice tb mb eb], .agg #[.bool bc, .slice sc nc cc, .slice tc mc ec]] w (Ret w (Val (.bool true))) := by
  have HB8 := Lib.hid hB8
  clear hB8
  go_enter Try.func6, Try.ntmps6
  have HB := Lib.hid (Below.refl w.heap.size w)
  go_wp2_with fail
  obtain ⟨W1, hW⟩ : ∃ W1, W1 = (World.alloc (World.alloc (World.alloc w (.cells #[.bool ba, .slice sa na ca, .slice ta ma ea] 25)) (.cells #[.bool bb, .slice sb nb cb, .slice tb mb eb] 25)) (.cells #[.bool bc, .slice sc nc cc, .slice tc mc ec] 25)) := ⟨_, rfl⟩
  rw [← hW]
  obtain ⟨xa0, xb0, xc0, hk, hb⟩ := boxes_3 _ _ _ _ _ _ _ hW
  clear hW
  have Ga0 := Lib.hid (show w.heap.size ≤ w.heap.size from Nat.le_trans HB.out.size (by omega))
  have Gb0 := Lib.hid (show w.heap.size ≤ w.heap.size + 1 from Nat.le_trans HB.out.size (by omega))
  have Gc0 := Lib.hid (show w.heap.size ≤ w.heap.size + 1 + 1 from Nat.le_trans HB.out.size (by omega))
  have Xa0 := Lib.hid xa0
  have Xb0 := Lib.hid xb0
  have Xc0 := Lib.hid xc0
  have HB := Lib.hid (below_call HB.out hb)
  clear hk hb xa0 xb0 xc0
  refine Calls.mono (awake25) ?_
  rintro e w2 ⟨v2, rfl, rfl, hb⟩
  have Xa0 := Lib.hid (Box.pcall hb Xa0.out)
  have Xb0 := Lib.hid (Box.pcall hb Xb0.out)
  have Xc0 := Lib.hid (Box.pcall hb Xc0.out)
  have HB := Lib.hid (below_call HB.out hb)
  clear hb
  obtain ⟨ca00, ca01, ca02, fa00, fa01, fa02⟩ := Xa0.out.c3
  have la0 := Xa0.out.lt
  obtain ⟨cb00, cb01, cb02, fb00, fb01, fb02⟩ := Xb0.out.c3
  have lb0 := Xb0.out.lt
  obtain ⟨cc00, cc01, cc02, fc00, fc01, fc02⟩ := Xc0.out.c3
  have lc0 := Xc0.out.lt
  go_wp2_with fail
  clear ca00 ca01 ca02 fa00 fa01 fa02 la0 cb00 cb01 cb02 fb00 fb01 fb02 lb0 cc00 cc01 cc02 fc00 fc01 fc02 lc0
  obtain ⟨W3, hW⟩ : ∃ W3, W3 = (World.alloc w2 (.cells #[.bool ba, .slice sa na ca, .slice ta ma ea, .bool bb, .slice sb nb cb, .slice tb mb eb, .bool bc, .slice sc nc cc, .slice tc mc ec] 25)) := ⟨_, rfl⟩
  rw [← hW]
  obtain ⟨xd0, hk, hb⟩ := boxes_1 _ _ _ hW
  clear hW
  have Na0d0 := Lib.hid (show w.heap.size ≠ w2.heap.size from Nat.ne_of_lt (Nat.lt_of_lt_of_le Xa0.out.lt (by omega)))
  have Nb0d0 := Lib.hid (show w.heap.size + 1 ≠ w2.heap.size from Nat.ne_of_lt (Nat.lt_of_lt_of_le Xb0.out.lt (by omega)))
  have Nc0d0 := Lib.hid (show w.heap.size + 1 + 1 ≠ w2.heap.size from Nat.ne_of_lt (Nat.lt_of_lt_of_le Xc0.out.lt (by omega)))
  have Gd0 := Lib.hid (show w.heap.size ≤ w2.heap.size from Nat.le_trans HB.out.size (by omega))
  have Xa0 := Lib.hid (Box.pcall hb Xa0.out)
  have Xb0 := Lib.hid (Box.pcall hb Xb0.out)
  have Xc0 := Lib.hid (Box.pcall hb Xc0.out)
  have Xd0 := Lib.hid xd0
  have HB := Lib.hid (below_call HB.out hb)
  clear hk hb xd0
  refine Calls.mono (large3 Xd0.out HB8.out) ?_
  rintro e w4 ⟨v4, rfl, rfl, hb⟩
  have Xa0 := Lib.hid (Box.pcall hb Xa0.out)
  have Xb0 := Lib.hid (Box.pcall hb Xb0.out)
  have Xc0 := Lib.hid (Box.pcall hb Xc0.out)
  have Xd0 := Lib.hid (Box.pcall hb Xd0.out)
  have HB := Lib.hid (below_call HB.out hb)
  clear hb
  obtain ⟨ca00, ca01, ca02, fa00, fa01, fa02⟩ := Xa0.out.c3
  have la0 := Xa0.out.lt
  obtain ⟨cb00, cb01, cb02, fb00, fb01, fb02⟩ := Xb0.out.c3
  have lb0 := Xb0.out.lt
  obtain ⟨cc00, cc01, cc02, fc00, fc01, fc02⟩ := Xc0.out.c3
  have lc0 := Xc0.out.lt
  go_wp2
  clear ca00 ca01 ca02 fa00 fa01 fa02 la0 cb00 cb01 cb02 fb00 fb01 fb02 lb0 cc00 cc01 cc02 fc00 fc01 fc02 lc0
  go_ret
  exact ⟨_, rfl, rfl, HB.out⟩


set_option maxRecDepth 100000 in
set_option maxHeartbeats 4000000 in
theorem lgap_n {qa : Rat} {ba : Bool} {sa ta : Option Addr} {na ca ma ea : Nat} {qb : Rat} {bb : Bool} {sb tb : Option Addr} {nb cb mb eb : Nat} {qc : Rat} {bc : Bool} {sc tc : Option Addr} {nc cc mc ec : Nat}  {w : World} (hu : unst qa qb = false) (hB8 : ([⟨ba, sa, na, ca, ta, ma, ea⟩, ⟨bb, sb, nb, cb, tb, mb, eb⟩, ⟨bc, sc, nc, cc, tc, mc, ec⟩] : List Rw).any Rw.big = false) (ha : AR qa 8 w (.agg #[.bool ba, .slice sa na ca, .slice ta ma ea])) (hb : AR qb 8 w (.agg #[.bool bb, .slice sb nb cb, .slice tb mb eb])) (hc : AR qc 8 w (.agg #[.bool bc, .slice sc nc cc, .slice tc mc ec])) :
    Calls Try.prog 6 #[.agg #[.bool ba, .slice sa na ca, .slice ta ma ea], .agg #[.bool bb, .slice sb nb cb, .slice tb mb eb], .agg #[.bool bc, .slice sc nc cc, .slice tc mc ec]] w (Ret w (Val (.bool true))) := by
  have Ha := Lib.hid ha
  have Hb := Lib.hid hb
  have Hc := Lib.hid hc
  have HB8 := Lib.hid hB8
  have Hu := Lib.hid hu
  clear ha hb hc hB8 hu
  go_enter Try.func6, Try.ntmps6
  have HB := Lib.hid (Below.refl w.heap.size w)
  go_wp2_with fail
  obtain ⟨W1, hW⟩ : ∃ W1, W1 = (World.alloc (World.alloc (World.alloc w (.cells #[.bool ba, .slice sa na ca, .slice ta ma ea] 25)) (.cells #[.bool bb, .slice sb nb cb, .slice tb mb eb] 25)) (.cells #[.bool bc, .slice sc nc cc, .slice tc mc ec] 25)) := ⟨_, rfl⟩
  rw [← hW]
  obtain ⟨xa0, xb0, xc0, hk, hb⟩ := boxes_3 _ _ _ _ _ _ _ hW
  clear hW
  have Ha := Lib.hid (AR.keep Ha.out hk)
  have Hb := Lib.hid (AR.keep Hb.out hk)
  have Ga0 := Lib.hid (show w.heap.size ≤ w.heap.size from Nat.le_trans HB.out.size (by omega))
  have Gb0 := Lib.hid (show w.heap.size ≤ w.heap.size + 1 from Nat.le_trans HB.out.size (by omega))
  have Gc0 := Lib.hid (show w.heap.size ≤ w.heap.size + 1 + 1 from Nat.le_trans HB.out.size (by omega))
  have Xa0 := Lib.hid xa0
  have Xb0 := Lib.hid xb0
  have Xc0 := Lib.hid xc0
  have HB := Lib.hid (below_call HB.out hb)
  clear hk hb xa0 xb0 xc0
  refine Calls.mono (awake25) ?_
  rintro e w2 ⟨v2, rfl, rfl, hb⟩
  have Ha := Lib.hid (AR.keep Ha.out (Keep.call hb))
  have Hb := Lib.hid (AR.keep Hb.out (Keep.call hb))
  have Xa0 := Lib.hid (Box.pcall hb Xa0.out)
  have Xb0 := Lib.hid (Box.pcall hb Xb0.out)
  have Xc0 := Lib.hid (Box.pcall hb Xc0.out)
  have HB := Lib.hid (below_call HB.out hb)
  clear hb
  obtain ⟨ca00, ca01, ca02, fa00, fa01, fa02⟩ := Xa0.out.c3
  have la0 := Xa0.out.lt
  obtain ⟨cb00, cb01, cb02, fb00, fb01, fb02⟩ := Xb0.out.c3
  have lb0 := Xb0.out.lt
  obtain ⟨cc00, cc01, cc02, fc00, fc01, fc02⟩ := Xc0.out.c3
  have lc0 := Xc0.out.lt
  go_wp2_with fail
  clear ca00 ca01 ca02 fa00 fa01 fa02 la0 cb00 cb01 cb02 fb00 fb01 fb02 lb0 cc00 cc01 cc02 fc00 fc01 fc02 lc0
  obtain ⟨W3, hW⟩ : ∃ W3, W3 = (World.alloc w2 (.cells #[.bool ba, .slice sa na ca, .slice ta ma ea, .bool bb, .slice sb nb cb, .slice tb mb eb, .bool bc, .slice sc nc cc, .slice tc mc ec] 25)) := ⟨_, rfl⟩
  rw [← hW]
  obtain ⟨xd0, hk, hb⟩ := boxes_1 _ _ _ hW
  clear hW
  have Ha := Lib.hid (AR.keep Ha.out hk)
  have Hb := Lib.hid (AR.keep Hb.out hk)
  have Na0d0 := Lib.hid (show w.heap.size ≠ w2.heap.size from Nat.ne_of_lt (Nat.lt_of_lt_of_le Xa0.out.lt (by omega)))
  have Nb0d0 := Lib.hid (show w.heap.size + 1 ≠ w2.heap.size from Nat.ne_of_lt (Nat.lt_of_lt_of_le Xb0.out.lt (by omega)))
  have Nc0d0 := Lib.hid (show w.heap.size + 1 + 1 ≠ w2.heap.size from Nat.ne_of_lt (Nat.lt_of_lt_of_le Xc0.out.lt (by omega)))
  have Gd0 := Lib.hid (show w.heap.size ≤ w2.heap.size from Nat.le_trans HB.out.size (by omega))
  have Xa0 := Lib.hid (Box.pcall hb Xa0.out)
  have Xb0 := Lib.hid (Box.pcall hb Xb0.out)
  have Xc0 := Lib.hid (Box.pcall hb Xc0.out)
  have Xd0 := Lib.hid xd0
  have HB := Lib.hid (below_call HB.out hb)
  clear hk hb xd0
  refine Calls.mono (large3 Xd0.out HB8.out) ?_
  rintro e w4 ⟨v4, rfl, rfl, hb⟩
  have Ha := Lib.hid (AR.keep Ha.out (Keep.call hb))
  have Hb := Lib.hid (AR.keep Hb.out (Keep.call hb))
  have Xa0 := Lib.hid (Box.pcall hb Xa0.out)
  have Xb0 := Lib.hid (Box.pcall hb Xb0.out)
  have Xc0 := Lib.hid (Box.pcall hb Xc0.out)
  have Xd0 := Lib.hid (Box.pcall hb Xd0.out)
  have HB := Lib.hid (below_call HB.out hb)
  clear hb
  obtain ⟨ca00, ca01, ca02, fa00, fa01, fa02⟩ := Xa0.out.c3
  have la0 := Xa0.out.lt
  obtain ⟨cb00, cb01, cb02, fb00, fb01, fb02⟩ := Xb0.out.c3
  have lb0 := Xb0.out.lt
  obtain ⟨cc00, cc01, cc02, fc00, fc01, fc02⟩ := Xc0.out.c3
  have lc0 := Xc0.out.lt
  go_wp2_with fail
  clear ca00 ca01 ca02 fa00 fa01 fa02 la0 cb00 cb01 cb02 fb00 fb01 fb02 lb0 cc00 cc01 cc02 fc00 fc01 fc02 lc0
  (first | (have hcall := zluns_ar Hu.out Ha.out Hb.out (by decide); refine Calls.mono hcall ?_; clear hcall) | refine Calls.mono (zluns_ar Hu.out Ha.out Hb.out (by decide)) ?_)
  rintro e w5 ⟨v5, rfl, rfl, hb⟩
  have Xa0 := Lib.hid (Box.pcall hb Xa0.out)
  have Xb0 := Lib.hid (Box.pcall hb Xb0.out)
  have Xc0 := Lib.hid (Box.pcall hb Xc0.out)
  have Xd0 := Lib.hid (Box.pcall hb Xd0.out)
  have HB := Lib.hid (below_call HB.out hb)
  clear hb
  obtain ⟨ca00, ca01, ca02, fa00, fa01, fa02⟩ := Xa0.out.c3
  have la0 := Xa0.out.lt
  obtain ⟨cb00, cb01, cb02, fb00, fb01, fb02⟩ := Xb0.out.c3
  have lb0 := Xb0.out.lt
  obtain ⟨cc00, cc01, cc02, fc00, fc01, fc02⟩ := Xc0.out.c3
  have lc0 := Xc0.out.lt
  go_wp2
  clear ca00 ca01 ca02 fa00 fa01 fa02 la0 cb00 cb01 cb02 fb00 fb01 fb02 lb0 cc00 cc01 cc02 fc00 fc01 fc02 lc0
  go_ret
  exact ⟨_, rfl, rfl, HB.out⟩


set_option maxRecDepth 100000 in
set_option maxHeartbeats 4000000 in
theorem lgap_lt {qa : Rat} {ba : Bool} {sa ta : Option Addr} {na ca ma ea : Nat} {qb : Rat} {bb : Bool} {sb tb : Option Addr} {nb cb mb eb : Nat} {qc : Rat} {bc : Bool} {sc tc : Option Addr} {nc cc mc ec : Nat}  {w : World} (hu : unst qa qb = true) (k : Int) (hk : cmpQ qc qa = k) (hk0 : decide (k < 0) = true) (hB8 : ([⟨ba, sa, na, ca, ta, ma, ea⟩, ⟨bb, sb, nb, cb, tb, mb, eb⟩, ⟨bc, sc, nc, cc, tc, mc, ec⟩] : List Rw).any Rw.big = false) (ha : AR qa 8 w (.agg #[.bool ba, .slice sa na ca, .slice ta ma ea])) (hb : AR qb 8 w (.agg #[.bool bb, .slice sb nb cb, .slice tb mb eb])) (hc : AR qc 8 w (.agg #[.bool bc, .slice sc nc cc, .slice tc mc ec])) :
    Calls Try.prog 6 #[.agg #[.bool ba, .slice sa na ca, .slice ta ma ea], .agg #[.bool bb, .slice sb nb cb, .slice tb mb eb], .agg #[.bool bc, .slice sc nc cc, .slice tc mc ec]] w (Ret w (Val (.bool true))) := by
  have Ha := Lib.hid ha
  have Hb := Lib.hid hb
  have Hc := Lib.hid hc
  have HB8 := Lib.hid hB8
  have Hu := Lib.hid hu
  have Hk := Lib.hid hk
  clear ha hb hc hB8 hu hk
  go_enter Try.func6, Try.ntmps6
  have HB := Lib.hid (Below.refl w.heap.size w)
  go_wp2_with fail
  obtain ⟨W1, hW⟩ : ∃ W1, W1 = (World.alloc (World.alloc (World.alloc w (.cells #[.bool ba, .slice sa na ca, .slice ta ma ea] 25)) (.cells #[.bool bb, .slice sb nb cb, .slice tb mb eb] 25)) (.cells #[.bool bc, .slice sc nc cc, .slice tc mc ec] 25)) := ⟨_, rfl⟩
  rw [← hW]
  obtain ⟨xa0, xb0, xc0, hk, hb⟩ := boxes_3 _ _ _ _ _ _ _ hW
  clear hW
  have Ha := Lib.hid (AR.keep Ha.out hk)
  have Hb := Lib.hid (AR.keep Hb.out hk)
  have Hc := Lib.hid (AR.keep Hc.out hk)
  have Ga0 := Lib.hid (show w.heap.size ≤ w.heap.size from Nat.le_trans HB.out.size (by omega))
  have Gb0 := Lib.hid (show w.heap.size ≤ w.heap.size + 1 from Nat.le_trans HB.out.size (by omega))
  have Gc0 := Lib.hid (show w.heap.size ≤ w.heap.size + 1 + 1 from Nat.le_trans HB.out.size (by omega))
  have Xa0 := Lib.hid xa0
  have Xb0 := Lib.hid xb0
  have Xc0 := Lib.hid xc0
  have HB := Lib.hid (below_call HB.out hb)
  clear hk hb xa0 xb0 xc0
  refine Calls.mono (awake25) ?_
  rintro e w2 ⟨v2, rfl, rfl, hb⟩
  have Ha := Lib.hid (AR.keep Ha.out (Keep.call hb))
  have Hb := Lib.hid (AR.keep Hb.out (Keep.call hb))
  have Hc := Lib.hid (AR.keep Hc.out (Keep.call hb))
  have Xa0 := Lib.hid (Box.pcall hb Xa0.out)
  have Xb0 := Lib.hid (Box.pcall hb Xb0.out)
  have Xc0 := Lib.hid (Box.pcall hb Xc0.out)
  have HB := Lib.hid (below_call HB.out hb)
  clear hb
  obtain ⟨ca00, ca01, ca02, fa00, fa01, fa02⟩ := Xa0.out.c3
  have la0 := Xa0.out.lt
  obtain ⟨cb00, cb01, cb02, fb00, fb01, fb02⟩ := Xb0.out.c3
  have lb0 := Xb0.out.lt
  obtain ⟨cc00, cc01, cc02, fc00, fc01, fc02⟩ := Xc0.out.c3
  have lc0 := Xc0.out.lt
  go_wp2_with fail
  clear ca00 ca01 ca02 fa00 fa01 fa02 la0 cb00 cb01 cb02 fb00 fb01 fb02 lb0 cc00 cc01 cc02 fc00 fc01 fc02 lc0
  obtain ⟨W3, hW⟩ : ∃ W3, W3 = (World.alloc w2 (.cells #[.bool ba, .slice sa na ca, .slice ta ma ea, .bool bb, .slice sb nb cb, .slice tb mb eb, .bool bc, .slice sc nc cc, .slice tc mc ec] 25)) := ⟨_, rfl⟩
  rw [← hW]
  obtain ⟨xd0, hk, hb⟩ := boxes_1 _ _ _ hW
  clear hW
  have Ha := Lib.hid (AR.keep Ha.out hk)
  have Hb := Lib.hid (AR.keep Hb.out hk)
  have Hc := Lib.hid (AR.keep Hc.out hk)
  have Na0d0 := Lib.hid (show w.heap.size ≠ w2.heap.size from Nat.ne_of_lt (Nat.lt_of_lt_of_le Xa0.out.lt (by omega)))
  have Nb0d0 := Lib.hid (show w.heap.size + 1 ≠ w2.heap.size from Nat.ne_of_lt (Nat.lt_of_lt_of_le Xb0.out.lt (by omega)))
  have Nc0d0 := Lib.hid (show w.heap.size + 1 + 1 ≠ w2.heap.size from Nat.ne_of_lt (Nat.lt_of_lt_of_le Xc0.out.lt (by omega)))
  have Gd0 := Lib.hid (show w.heap.size ≤ w2.heap.size from Nat.le_trans HB.out.size (by omega))
  have Xa0 := Lib.hid (Box.pcall hb Xa0.out)
  have Xb0 := Lib.hid (Box.pcall hb Xb0.out)
  have Xc0 := Lib.hid (Box.pcall hb Xc0.out)
  have Xd0 := Lib.hid xd0
  have HB := Lib.hid (below_call HB.out hb)
  clear hk hb xd0
  refine Calls.mono (large3 Xd0.out HB8.out) ?_
  rintro e w4 ⟨v4, rfl, rfl, hb⟩
  have Ha := Lib.hid (AR.keep Ha.out (Keep.call hb))
  have Hb := Lib.hid (AR.keep Hb.out (Keep.call hb))
  have Hc := Lib.hid (AR.keep Hc.out (Keep.call hb))
  have Xa0 := Lib.hid (Box.pcall hb Xa0.out)
  have Xb0 := Lib.hid (Box.pcall hb Xb0.out)
  have Xc0 := Lib.hid (Box.pcall hb Xc0.out)
  have Xd0 := Lib.hid (Box.pcall hb Xd0.out)
  have HB := Lib.hid (below_call HB.out hb)
  clear hb
  obtain ⟨ca00, ca01, ca02, fa00, fa01, fa02⟩ := Xa0.out.c3
  have la0 := Xa0.out.lt
  obtain ⟨cb00, cb01, cb02, fb00, fb01, fb02⟩ := Xb0.out.c3
  have lb0 := Xb0.out.lt
  obtain ⟨cc00, cc01, cc02, fc00, fc01, fc02⟩ := Xc0.out.c3
  have lc0 := Xc0.out.lt
  go_wp2_with fail
  clear ca00 ca01 ca02 fa00 fa01 fa02 la0 cb00 cb01 cb02 fb00 fb01 fb02 lb0 cc00 cc01 cc02 fc00 fc01 fc02 lc0
  (first | (have hcall := zluns_ar Hu.out Ha.out Hb.out (by decide); refine Calls.mono hcall ?_; clear hcall) | refine Calls.mono (zluns_ar Hu.out Ha.out Hb.out (by decide)) ?_)
  rintro e w5 ⟨v5, rfl, rfl, hb⟩
  have Ha := Lib.hid (AR.keep Ha.out (Keep.call hb))
  have Hc := Lib.hid (AR.keep Hc.out (Keep.call hb))
  have Xa0 := Lib.hid (Box.pcall hb Xa0.out)
  have Xb0 := Lib.hid (Box.pcall hb Xb0.out)
  have Xc0 := Lib.hid (Box.pcall hb Xc0.out)
  have Xd0 := Lib.hid (Box.pcall hb Xd0.out)
  have HB := Lib.hid (below_call HB.out hb)
  clear hb
  obtain ⟨ca00, ca01, ca02, fa00, fa01, fa02⟩ := Xa0.out.c3
  have la0 := Xa0.out.lt
  obtain ⟨cb00, cb01, cb02, fb00, fb01, fb02⟩ := Xb0.out.c3
  have lb0 := Xb0.out.lt
  obtain ⟨cc00, cc01, cc02, fc00, fc01, fc02⟩ := Xc0.out.c3
  have lc0 := Xc0.out.lt
  go_wp2_with fail
  clear ca00 ca01 ca02 fa00 fa01 fa02 la0 cb00 cb01 cb02 fb00 fb01 fb02 lb0 cc00 cc01 cc02 fc00 fc01 fc02 lc0
  (first | (have hcall := zcmp_ar k Hc.out Ha.out Hk.out (by decide) (by decide); refine Calls.mono hcall ?_; clear hcall) | refine Calls.mono (zcmp_ar k Hc.out Ha.out Hk.out (by decide) (by decide)) ?_)
  rintro e w6 ⟨v6, rfl, ⟨⟩, hb⟩
  have Xa0 := Lib.hid (Box.pcall hb Xa0.out)
  have Xb0 := Lib.hid (Box.pcall hb Xb0.out)
  have Xc0 := Lib.hid (Box.pcall hb Xc0.out)
  have Xd0 := Lib.hid (Box.pcall hb Xd0.out)
  have HB := Lib.hid (below_call HB.out hb)
  clear hb
  obtain ⟨ca00, ca01, ca02, fa00, fa01, fa02⟩ := Xa0.out.c3
  have la0 := Xa0.out.lt
  obtain ⟨cb00, cb01, cb02, fb00, fb01, fb02⟩ := Xb0.out.c3
  have lb0 := Xb0.out.lt
  obtain ⟨cc00, cc01, cc02, fc00, fc01, fc02⟩ := Xc0.out.c3
  have lc0 := Xc0.out.lt
  go_wp2
  clear ca00 ca01 ca02 fa00 fa01 fa02 la0 cb00 cb01 cb02 fb00 fb01 fb02 lb0 cc00 cc01 cc02 fc00 fc01 fc02 lc0
  go_ret
  exact ⟨_, rfl, rfl, HB.out⟩


set_option maxRecDepth 100000 in
set_option maxHeartbeats 4000000 in
theorem lgap_gt {qa : Rat} {ba : Bool} {sa ta : Option Addr} {na ca ma ea : Nat} {qb : Rat} {bb : Bool} {sb tb : Option Addr} {nb cb mb eb : Nat} {qc : Rat} {bc : Bool} {sc tc : Option Addr} {nc cc mc ec : Nat}  {w : World} (hu : unst qa qb = true) (k : Int) (hk : cmpQ qc qa = k) (hk0 : decide (k < 0) = false) (m : Int) (hm : cmpQ qc qb = m) (hm0 : decide (0 < m) = true) (hB8 : ([⟨ba, sa, na, ca, ta, ma, ea⟩, ⟨bb, sb, nb, cb, tb, mb, eb⟩, ⟨bc, sc, nc, cc, tc, mc, ec⟩] : List Rw).any Rw.big = false) (ha : AR qa 8 w (.agg #[.bool ba, .slice sa na ca, .slice ta ma ea])) (hb : AR qb 8 w (.agg #[.bool bb, .slice sb nb cb, .slice tb mb eb])) (hc : AR qc 8 w (.agg #[.bool bc, .slice sc nc cc, .slice tc mc ec])) :
    Calls Try.prog 6 #[.agg #[.bool ba, .slice sa na ca, .slice ta ma ea], .agg #[.bool bb, .slice sb nb cb, .slice tb mb eb], .agg #[.bool bc, .slice sc nc cc, .slice tc mc ec]] w (Ret w (Val (.bool true))) := by
  have Ha := Lib.hid ha
  have Hb := Lib.hid hb
  have Hc := Lib.hid hc
  have HB8 := Lib.hid hB8
  have Hu := Lib.hid hu
  have Hk := Lib.hid hk
  have Hm := Lib.hid hm
  clear ha hb hc hB8 hu hk hm
  go_enter Try.func6, Try.ntmps6
  have HB := Lib.hid (Below.refl w.heap.size w)
  go_wp2_with fail
  obtain ⟨W1, hW⟩ : ∃ W1, W1 = (World.alloc (World.alloc (World.alloc w (.cells #[.bool ba, .slice sa na ca, .slice ta ma ea] 25)) (.cells #[.bool bb, .slice sb nb cb, .slice tb mb eb] 25)) (.cells #[.bool bc, .slice sc nc cc, .slice tc mc ec] 25)) := ⟨_, rfl⟩
  rw [← hW]
  obtain ⟨xa0, xb0, xc0, hk, hb⟩ := boxes_3 _ _ _ _ _ _ _ hW
  clear hW
  have Ha := Lib.hid (AR.keep Ha.out hk)
  have Hb := Lib.hid (AR.keep Hb.out hk)
  have Hc := Lib.hid (AR.keep Hc.out hk)
  have Ga0 := Lib.hid (show w.heap.size ≤ w.heap.size from Nat.le_trans HB.out.size (by omega))
  have Gb0 := Lib.hid (show w.heap.size ≤ w.heap.size + 1 from Nat.le_trans HB.out.size (by omega))
  have Gc0 := Lib.hid (show w.heap.size ≤ w.heap.size + 1 + 1 from Nat.le_trans HB.out.size (by omega))
  have Xa0 := Lib.hid xa0
  have Xb0 := Lib.hid xb0
  have Xc0 := Lib.hid xc0
  have HB := Lib.hid (below_call HB.out hb)
  clear hk hb xa0 xb0 xc0
  refine Calls.mono (awake25) ?_
  rintro e w2 ⟨v2, rfl, rfl, hb⟩
  have Ha := Lib.hid (AR.keep Ha.out (Keep.call hb))
  have Hb := Lib.hid (AR.keep Hb.out (Keep.call hb))
  have Hc := Lib.hid (AR.keep Hc.out (Keep.call hb))
  have Xa0 := Lib.hid (Box.pcall hb Xa0.out)
  have Xb0 := Lib.hid (Box.pcall hb Xb0.out)
  have Xc0 := Lib.hid (Box.pcall hb Xc0.out)
  have HB := Lib.hid (below_call HB.out hb)
  clear hb
  obtain ⟨ca00, ca01, ca02, fa00, fa01, fa02⟩ := Xa0.out.c3
  have la0 := Xa0.out.lt
  obtain ⟨cb00, cb01, cb02, fb00, fb01, fb02⟩ := Xb0.out.c3
  have lb0 := Xb0.out.lt
  obtain ⟨cc00, cc01, cc02, fc00, fc01, fc02⟩ := Xc0.out.c3
  have lc0 := Xc0.out.lt
  go_wp2_with fail
  clear ca00 ca01 ca02 fa00 fa01 fa02 la0 cb00 cb01 cb02 fb00 fb01 fb02 lb0 cc00 cc01 cc02 fc00 fc01 fc02 lc0
  obtain ⟨W3, hW⟩ : ∃ W3, W3 = (World.alloc w2 (.cells #[.bool ba, .slice sa na ca, .slice ta ma ea, .bool bb, .slice sb nb cb, .slice tb mb eb, .bool bc, .slice sc nc cc, .slice tc mc ec] 25)) := ⟨_, rfl⟩
  rw [← hW]
  obtain ⟨xd0, hk, hb⟩ := boxes_1 _ _ _ hW
  clear hW
  have Ha := Lib.hid (AR.keep Ha.out hk)
  have Hb := Lib.hid (AR.keep Hb.out hk)
  have Hc := Lib.hid (AR.keep Hc.out hk)
  have Na0d0 := Lib.hid (show w.heap.size ≠ w2.heap.size from Nat.ne_of_lt (Nat.lt_of_lt_of_le Xa0.out.lt (by omega)))
  have Nb0d0 := Lib.hid (show w.heap.size + 1 ≠ w2.heap.size from Nat.ne_of_lt (Nat.lt_of_lt_of_le Xb0.out.lt (by omega)))
  have Nc0d0 := Lib.hid (show w.heap.size + 1 + 1 ≠ w2.heap.size from Nat.ne_of_lt (Nat.lt_of_lt_of_le Xc0.out.lt (by omega)))
  have Gd0 := Lib.hid (show w.heap.size ≤ w2.heap.size from Nat.le_trans HB.out.size (by omega))
  have Xa0 := Lib.hid (Box.pcall hb Xa0.out)
  have Xb0 := Lib.hid (Box.pcall hb Xb0.out)
  have Xc0 := Lib.hid (Box.pcall hb Xc0.out)
  have Xd0 := Lib.hid xd0
  have HB := Lib.hid (below_call HB.out hb)
  clear hk hb xd0
  refine Calls.mono (large3 Xd0.out HB8.out) ?_
  rintro e w4 ⟨v4, rfl, rfl, hb⟩
  have Ha := Lib.hid (AR.keep Ha.out (Keep.call hb))
  have Hb := Lib.hid (AR.keep Hb.out (Keep.call hb))
  have Hc := Lib.hid (AR.keep Hc.out (Keep.call hb))
  have Xa0 := Lib.hid (Box.pcall hb Xa0.out)
  have Xb0 := Lib.hid (Box.pcall hb Xb0.out)
  have Xc0 := Lib.hid (Box.pcall hb Xc0.out)
  have Xd0 := Lib.hid (Box.pcall hb Xd0.out)
  have HB := Lib.hid (below_call HB.out hb)
  clear hb
  obtain ⟨ca00, ca01, ca02, fa00, fa01, fa02⟩ := Xa0.out.c3
  have la0 := Xa0.out.lt
  obtain ⟨cb00, cb01, cb02, fb00, fb01, fb02⟩ := Xb0.out.c3
  have lb0 := Xb0.out.lt
  obtain ⟨cc00, cc01, cc02, fc00, fc01, fc02⟩ := Xc0.out.c3
  have lc0 := Xc0.out.lt
  go_wp2_with fail
  clear ca00 ca01 ca02 fa00 fa01 fa02 la0 cb00 cb01 cb02 fb00 fb01 fb02 lb0 cc00 cc01 cc02 fc00 fc01 fc02 lc0
  (first | (have hcall := zluns_ar Hu.out Ha.out Hb.out (by decide); refine Calls.mono hcall ?_; clear hcall) | refine Calls.mono (zluns_ar Hu.out Ha.out Hb.out (by decide)) ?_)
  rintro e w5 ⟨v5, rfl, rfl, hb⟩
  have Ha := Lib.hid (AR.keep Ha.out (Keep.call hb))
  have Hb := Lib.hid (AR.keep Hb.out (Keep.call hb))
  have Hc := Lib.hid (AR.keep Hc.out (Keep.call hb))
  have Xa0 := Lib.hid (Box.pcall hb Xa0.out)
  have Xb0 := Lib.hid (Box.pcall hb Xb0.out)
  have Xc0 := Lib.hid (Box.pcall hb Xc0.out)
  have Xd0 := Lib.hid (Box.pcall hb Xd0.out)
  have HB := Lib.hid (below_call HB.out hb)
  clear hb
  obtain ⟨ca00, ca01, ca02, fa00, fa01, fa02⟩ := Xa0.out.c3
  have la0 := Xa0.out.lt
  obtain ⟨cb00, cb01, cb02, fb00, fb01, fb02⟩ := Xb0.out.c3
  have lb0 := Xb0.out.lt
  obtain ⟨cc00, cc01, cc02, fc00, fc01, fc02⟩ := Xc0.out.c3
  have lc0 := Xc0.out.lt
  go_wp2_with fail
  clear ca00 ca01 ca02 fa00 fa01 fa02 la0 cb00 cb01 cb02 fb00 fb01 fb02 lb0 cc00 cc01 cc02 fc00 fc01 fc02 lc0
  (first | (have hcall := zcmp_ar k Hc.out Ha.out Hk.out (by decide) (by decide); refine Calls.mono hcall ?_; clear hcall) | refine Calls.mono (zcmp_ar k Hc.out Ha.out Hk.out (by decide) (by decide)) ?_)
  rintro e w6 ⟨v6, rfl, ⟨⟩, hb⟩
  have Hb := Lib.hid (AR.keep Hb.out (Keep.call hb))
  have Hc := Lib.hid (AR.keep Hc.out (Keep.call hb))
  have Xa0 := Lib.hid (Box.pcall hb Xa0.out)
  have Xb0 := Lib.hid (Box.pcall hb Xb0.out)
  have Xc0 := Lib.hid (Box.pcall hb Xc0.out)
  have Xd0 := Lib.hid (Box.pcall hb Xd0.out)
  have HB := Lib.hid (below_call HB.out hb)
  clear hb
  obtain ⟨ca00, ca01, ca02, fa00, fa01, fa02⟩ := Xa0.out.c3
  have la0 := Xa0.out.lt
  obtain ⟨cb00, cb01, cb02, fb00, fb01, fb02⟩ := Xb0.out.c3
  have lb0 := Xb0.out.lt
  obtain ⟨cc00, cc01, cc02, fc00, fc01, fc02⟩ := Xc0.out.c3
  have lc0 := Xc0.out.lt
  go_wp2_with fail
  clear ca00 ca01 ca02 fa00 fa01 fa02 la0 cb00 cb01 cb02 fb00 fb01 fb02 lb0 cc00 cc01 cc02 fc00 fc01 fc02 lc0
  (first | (have hcall := zcmp_ar m Hc.out Hb.out Hm.out (by decide) (by decide); refine Calls.mono hcall ?_; clear hcall) | refine Calls.mono (zcmp_ar m Hc.out Hb.out Hm.out (by decide) (by decide)) ?_)
  rintro e w7 ⟨v7, rfl, ⟨⟩, hb⟩
  have Xa0 := Lib.hid (Box.pcall hb Xa0.out)
  have Xb0 := Lib.hid (Box.pcall hb Xb0.out)
  have Xc0 := Lib.hid (Box.pcall hb Xc0.out)
  have Xd0 := Lib.hid (Box.pcall hb Xd0.out)
  have HB := Lib.hid (below_call HB.out hb)
  clear hb
  obtain ⟨ca00, ca01, ca02, fa00, fa01, fa02⟩ := Xa0.out.c3
  have la0 := Xa0.out.lt
  obtain ⟨cb00, cb01, cb02, fb00, fb01, fb02⟩ := Xb0.out.c3
  have lb0 := Xb0.out.lt
  obtain ⟨cc00, cc01, cc02, fc00, fc01, fc02⟩ := Xc0.out.c3
  have lc0 := Xc0.out.lt
  go_wp2
  clear ca00 ca01 ca02 fa00 fa01 fa02 la0 cb00 cb01 cb02 fb00 fb01 fb02 lb0 cc00 cc01 cc02 fc00 fc01 fc02 lc0
  go_ret
  exact ⟨_, rfl, rfl, HB.out⟩


set_option maxRecDepth 100000 in
set_option maxHeartbeats 4000000 in
theorem lgap_yt {qa : Rat} {ba : Bool} {sa ta : Option Addr} {na ca ma ea : Nat} {qb : Rat} {bb : Bool} {sb tb : Option Addr} {nb cb mb eb : Nat} {qc : Rat} {bc : Bool} {sc tc : Option Addr} {nc cc mc ec : Nat}  {w : World} (hu : unst qa qb = true) (k : Int) (hk : cmpQ qc qa = k) (hk0 : decide (k < 0) = false) (m : Int) (hm : cmpQ qc qb = m) (hm0 : decide (0 < m) = false) (j : Int) (hj : slopeQ qa qb = j) (g : Int) (hg : cmpQ (upQ qa qb * qc + gapQ qa qb - relu qc) (gapQ qa qb) = g) (hg0 : decide (g ≤ 0) = true) (hg1 : (g == 0) = true) (e : Int) (he : qc.num.sign = e) (he0 : (e == 0) = true) (hB8 : ([⟨ba, sa, na, ca, ta, ma, ea⟩, ⟨bb, sb, nb, cb, tb, mb, eb⟩, ⟨bc, sc, nc, cc, tc, mc, ec⟩] : List Rw).any Rw.big = false) (ha : AR qa 8 w (.agg #[.bool ba, .slice sa na ca, .slice ta ma ea])) (hb : AR qb 8 w (.agg #[.bool bb, .slice sb nb cb, .slice tb mb eb])) (hc : AR qc 8 w (.agg #[.bool bc, .slice sc nc cc, .slice tc mc ec])) :
    Calls Try.prog 6 #[.agg #[.bool ba, .slice sa na ca, .slice ta ma ea], .agg #[.bool bb, .slice sb nb cb, .slice tb mb eb], .agg #[.bool bc, .slice sc nc cc, .slice tc mc ec]] w (Ret w (Val (.bool true))) := by
  have Ha := Lib.hid ha
  have Hb := Lib.hid hb
  have Hc := Lib.hid hc
  have HB8 := Lib.hid hB8
  have Hu := Lib.hid hu
  have Hk := Lib.hid hk
  have Hm := Lib.hid hm
  have Hj := Lib.hid hj
  have Hg := Lib.hid hg
  have He := Lib.hid he
  clear ha hb hc hB8 hu hk hm hj hg he
  go_enter Try.func6, Try.ntmps6
  have HB := Lib.hid (Below.refl w.heap.size w)
  go_wp2_with fail
  obtain ⟨W1, hW⟩ : ∃ W1, W1 = (World.alloc (World.alloc (World.alloc w (.cells #[.bool ba, .slice sa na ca, .slice ta ma ea] 25)) (.cells #[.bool bb, .slice sb nb cb, .slice tb mb eb] 25)) (.cells #[.bool bc, .slice sc nc cc, .slice tc mc ec] 25)) := ⟨_, rfl⟩
  rw [← hW]
  obtain ⟨xa0, xb0, xc0, hk, hb⟩ := boxes_3 _ _ _ _ _ _ _ hW
  clear hW
  have Ha := Lib.hid (AR.keep Ha.out hk)
  have Hb := Lib.hid (AR.keep Hb.out hk)
  have Hc := Lib.hid (AR.keep Hc.out hk)
  have Ga0 := Lib.hid (show w.heap.size ≤ w.heap.size from Nat.le_trans HB.out.size (by omega))
  have Gb0 := Lib.hid (show w.heap.size ≤ w.heap.size + 1 from Nat.le_trans HB.out.size (by omega))
  have Gc0 := Lib.hid (show w.heap.size ≤ w.heap.size + 1 + 1 from Nat.le_trans HB.out.size (by omega))
  have Xa0 := Lib.hid xa0
  have Xb0 := Lib.hid xb0
  have Xc0 := Lib.hid xc0
  have HB := Lib.hid (below_call HB.out hb)
  clear hk hb xa0 xb0 xc0
  refine Calls.mono (awake25) ?_
  rintro e w2 ⟨v2, rfl, rfl, hb⟩
  have Ha := Lib.hid (AR.keep Ha.out (Keep.call hb))
  have Hb := Lib.hid (AR.keep Hb.out (Keep.call hb))
  have Hc := Lib.hid (AR.keep Hc.out (Keep.call hb))
  have Xa0 := Lib.hid (Box.pcall hb Xa0.out)
  have Xb0 := Lib.hid (Box.pcall hb Xb0.out)
  have Xc0 := Lib.hid (Box.pcall hb Xc0.out)
  have HB := Lib.hid (below_call HB.out hb)
  clear hb
  obtain ⟨ca00, ca01, ca02, fa00, fa01, fa02⟩ := Xa0.out.c3
  have la0 := Xa0.out.lt
  obtain ⟨cb00, cb01, cb02, fb00, fb01, fb02⟩ := Xb0.out.c3
  have lb0 := Xb0.out.lt
  obtain ⟨cc00, cc01, cc02, fc00, fc01, fc02⟩ := Xc0.out.c3
  have lc0 := Xc0.out.lt
  go_wp2_with fail
  clear ca00 ca01 ca02 fa00 fa01 fa02 la0 cb00 cb01 cb02 fb00 fb01 fb02 lb0 cc00 cc01 cc02 fc00 fc01 fc02 lc0
  obtain ⟨W3, hW⟩ : ∃ W3, W3 = (World.alloc w2 (.cells #[.bool ba, .slice sa na ca, .slice ta ma ea, .bool bb, .slice sb nb cb, .slice tb mb eb, .bool bc, .slice sc nc cc, .slice tc mc ec] 25)) := ⟨_, rfl⟩
  rw [← hW]
  obtain ⟨xd0, hk, hb⟩ := boxes_1 _ _ _ hW
  clear hW
  have Ha := Lib.hid (AR.keep Ha.out hk)
  have Hb := Lib.hid (AR.keep Hb.out hk)
  have Hc := Lib.hid (AR.keep Hc.out hk)
  have Na0d0 := Lib.hid (show w.heap.size ≠ w2.heap.size from Nat.ne_of_lt (Nat.lt_of_lt_of_le Xa0.out.lt (by omega)))
  have Nb0d0 := Lib.hid (show w.heap.size + 1 ≠ w2.heap.size from Nat.ne_of_lt (Nat.lt_of_lt_of_le Xb0.out.lt (by omega)))
  have Nc0d0 := Lib.hid (show w.heap.size + 1 + 1 ≠ w2.heap.size from Nat.ne_of_lt (Nat.lt_of_lt_of_le Xc0.out.lt (by omega)))
  have Gd0 := Lib.hid (show w.heap.size ≤ w2.heap.size from Nat.le_trans HB.out.size (by omega))
  have Xa0 := Lib.hid (Box.pcall hb Xa0.out)
  have Xb0 := Lib.hid (Box.pcall hb Xb0.out)
  have Xc0 := Lib.hid (Box.pcall hb Xc0.out)
  have Xd0 := Lib.hid xd0
  have HB := Lib.hid (below_call HB.out hb)
  clear hk hb xd0
  refine Calls.mono (large3 Xd0.out HB8.out) ?_
  rintro e w4 ⟨v4, rfl, rfl, hb⟩
  have Ha := Lib.hid (AR.keep Ha.out (Keep.call hb))
  have Hb := Lib.hid (AR.keep Hb.out (Keep.call hb))
  have Hc := Lib.hid (AR.keep Hc.out (Keep.call hb))
  have Xa0 := Lib.hid (Box.pcall hb Xa0.out)
  have Xb0 := Lib.hid (Box.pcall hb Xb0.out)
  have Xc0 := Lib.hid (Box.pcall hb Xc0.out)
  have Xd0 := Lib.hid (Box.pcall hb Xd0.out)
  have HB := Lib.hid (below_call HB.out hb)
  clear hb
  obtain ⟨ca00, ca01, ca02, fa00, fa01, fa02⟩ := Xa0.out.c3
  have la0 := Xa0.out.lt
  obtain ⟨cb00, cb01, cb02, fb00, fb01, fb02⟩ := Xb0.out.c3
  have lb0 := Xb0.out.lt
  obtain ⟨cc00, cc01, cc02, fc00, fc01, fc02⟩ := Xc0.out.c3
  have lc0 := Xc0.out.lt
  go_wp2_with fail
  clear ca00 ca01 ca02 fa00 fa01 fa02 la0 cb00 cb01 cb02 fb00 fb01 fb02 lb0 cc00 cc01 cc02 fc00 fc01 fc02 lc0
  (first | (have hcall := zluns_ar Hu.out Ha.out Hb.out (by decide); refine Calls.mono hcall ?_; clear hcall) | refine Calls.mono (zluns_ar Hu.out Ha.out Hb.out (by decide)) ?_)
  rintro e w5 ⟨v5, rfl, rfl, hb⟩
  have Ha := Lib.hid (AR.keep Ha.out (Keep.call hb))
  have Hb := Lib.hid (AR.keep Hb.out (Keep.call hb))
  have Hc := Lib.hid (AR.keep Hc.out (Keep.call hb))
  have Xa0 := Lib.hid (Box.pcall hb Xa0.out)
  have Xb0 := Lib.hid (Box.pcall hb Xb0.out)
  have Xc0 := Lib.hid (Box.pcall hb Xc0.out)
  have Xd0 := Lib.hid (Box.pcall hb Xd0.out)
  have HB := Lib.hid (below_call HB.out hb)
  clear hb
  obtain ⟨ca00, ca01, ca02, fa00, fa01, fa02⟩ := Xa0.out.c3
  have la0 := Xa0.out.lt
  obtain ⟨cb00, cb01, cb02, fb00, fb01, fb02⟩ := Xb0.out.c3
  have lb0 := Xb0.out.lt
  obtain ⟨cc00, cc01, cc02, fc00, fc01, fc02⟩ := Xc0.out.c3
  have lc0 := Xc0.out.lt
  go_wp2_with fail
  clear ca00 ca01 ca02 fa00 fa01 fa02 la0 cb00 cb01 cb02 fb00 fb01 fb02 lb0 cc00 cc01 cc02 fc00 fc01 fc02 lc0
  (first | (have hcall := zcmp_ar k Hc.out Ha.out Hk.out (by decide) (by decide); refine Calls.mono hcall ?_; clear hcall) | refine Calls.mono (zcmp_ar k Hc.out Ha.out Hk.out (by decide) (by decide)) ?_)
  rintro e w6 ⟨v6, rfl, ⟨⟩, hb⟩
  have Ha := Lib.hid (AR.keep Ha.out (Keep.call hb))
  have Hb := Lib.hid (AR.keep Hb.out (Keep.call hb))
  have Hc := Lib.hid (AR.keep Hc.out (Keep.call hb))
  have Xa0 := Lib.hid (Box.pcall hb Xa0.out)
  have Xb0 := Lib.hid (Box.pcall hb Xb0.out)
  have Xc0 := Lib.hid (Box.pcall hb Xc0.out)
  have Xd0 := Lib.hid (Box.pcall hb Xd0.out)
  have HB := Lib.hid (below_call HB.out hb)
  clear hb
  obtain ⟨ca00, ca01, ca02, fa00, fa01, fa02⟩ := Xa0.out.c3
  have la0 := Xa0.out.lt
  obtain ⟨cb00, cb01, cb02, fb00, fb01, fb02⟩ := Xb0.out.c3
  have lb0 := Xb0.out.lt
  obtain ⟨cc00, cc01, cc02, fc00, fc01, fc02⟩ := Xc0.out.c3
  have lc0 := Xc0.out.lt
  go_wp2_with fail
  clear ca00 ca01 ca02 fa00 fa01 fa02 la0 cb00 cb01 cb02 fb00 fb01 fb02 lb0 cc00 cc01 cc02 fc00 fc01 fc02 lc0
  (first | (have hcall := zcmp_ar m Hc.out Hb.out Hm.out (by decide) (by decide); refine Calls.mono hcall ?_; clear hcall) | refine Calls.mono (zcmp_ar m Hc.out Hb.out Hm.out (by decide) (by decide)) ?_)
  rintro e w7 ⟨v7, rfl, ⟨⟩, hb⟩
  have Ha := Lib.hid (AR.keep Ha.out (Keep.call hb))
  have Hb := Lib.hid (AR.keep Hb.out (Keep.call hb))
  have Hc := Lib.hid (AR.keep Hc.out (Keep.call hb))
  have Xa0 := Lib.hid (Box.pcall hb Xa0.out)
  have Xb0 := Lib.hid (Box.pcall hb Xb0.out)
  have Xc0 := Lib.hid (Box.pcall hb Xc0.out)
  have Xd0 := Lib.hid (Box.pcall hb Xd0.out)
  have HB := Lib.hid (below_call HB.out hb)
  clear hb
  obtain ⟨ca00, ca01, ca02, fa00, fa01, fa02⟩ := Xa0.out.c3
  have la0 := Xa0.out.lt
  obtain ⟨cb00, cb01, cb02, fb00, fb01, fb02⟩ := Xb0.out.c3
  have lb0 := Xb0.out.lt
  obtain ⟨cc00, cc01, cc02, fc00, fc01, fc02⟩ := Xc0.out.c3
  have lc0 := Xc0.out.lt
  go_wp2_with fail
  clear ca00 ca01 ca02 fa00 fa01 fa02 la0 cb00 cb01 cb02 fb00 fb01 fb02 lb0 cc00 cc01 cc02 fc00 fc01 fc02 lc0
  (first | (have hcall := rllin_k j Hj.out Hu.out Ha.out Hb.out (by decide); refine Calls.mono hcall ?_; clear hcall) | refine Calls.mono (rllin_k j Hj.out Hu.out Ha.out Hb.out (by decide)) ?_)
  rintro e w8 ⟨t8, rfl, ⟨v8, u8, rfl, hu1, hg1⟩, hb⟩
  obtain ⟨u1_b, u1_a, u1_n, u1_c, u1_d, u1_m, u1_e, rfl⟩ := hu1.litb
  obtain ⟨g1_b, g1_a, g1_n, g1_c, g1_d, g1_m, g1_e, rfl⟩ := hg1.litb
  have Ha := Lib.hid (AR.keep Ha.out (Keep.call hb))
  have Hb := Lib.hid (AR.keep Hb.out (Keep.call hb))
  have Hc := Lib.hid (AR.keep Hc.out (Keep.call hb))
  have Xa0 := Lib.hid (Box.pcall hb Xa0.out)
  have Xb0 := Lib.hid (Box.pcall hb Xb0.out)
  have Xc0 := Lib.hid (Box.pcall hb Xc0.out)
  have Xd0 := Lib.hid (Box.pcall hb Xd0.out)
  have HB := Lib.hid (below_call HB.out hb)
  have Hu1 := Lib.hid hu1
  have Hg1 := Lib.hid hg1
  clear hb hu1 hg1
  obtain ⟨ca00, ca01, ca02, fa00, fa01, fa02⟩ := Xa0.out.c3
  have la0 := Xa0.out.lt
  obtain ⟨cb00, cb01, cb02, fb00, fb01, fb02⟩ := Xb0.out.c3
  have lb0 := Xb0.out.lt
  obtain ⟨cc00, cc01, cc02, fc00, fc01, fc02⟩ := Xc0.out.c3
  have lc0 := Xc0.out.lt
  go_wp2_with fail
  clear ca00 ca01 ca02 fa00 fa01 fa02 la0 cb00 cb01 cb02 fb00 fb01 fb02 lb0 cc00 cc01 cc02 fc00 fc01 fc02 lc0
  obtain ⟨W9, hW⟩ : ∃ W9, W9 = (World.alloc (World.alloc w8 (.cells #[.bool u1_b, .slice u1_a u1_n u1_c, .slice u1_d u1_m u1_e] 25)) (.cells #[.bool g1_b, .slice g1_a g1_n g1_c, .slice g1_d g1_m g1_e] 25)) := ⟨_, rfl⟩
  rw [← hW]
  obtain ⟨xe0, xf0, hk, hb⟩ := boxes_2 _ _ _ _ _ hW
  clear hW
  have Ha := Lib.hid (AR.keep Ha.out hk)
  have Hb := Lib.hid (AR.keep Hb.out hk)
  have Hc := Lib.hid (AR.keep Hc.out hk)
  have Hu1 := Lib.hid (CR.keep Hu1.out hk)
  have Hg1 := Lib.hid (CR.keep Hg1.out hk)
  have Na0e0 := Lib.hid (show w.heap.size ≠ w8.heap.size from Nat.ne_of_lt (Nat.lt_of_lt_of_le Xa0.out.lt (by omega)))
  have Nb0e0 := Lib.hid (show w.heap.size + 1 ≠ w8.heap.size from Nat.ne_of_lt (Nat.lt_of_lt_of_le Xb0.out.lt (by omega)))
  have Nc0e0 := Lib.hid (show w.heap.size + 1 + 1 ≠ w8.heap.size from Nat.ne_of_lt (Nat.lt_of_lt_of_le Xc0.out.lt (by omega)))
  have Nd0e0 := Lib.hid (show w2.heap.size ≠ w8.heap.size from Nat.ne_of_lt (Nat.lt_of_lt_of_le Xd0.out.lt (by omega)))
  have Ge0 := Lib.hid (show w.heap.size ≤ w8.heap.size from Nat.le_trans HB.out.size (by omega))
  have Na0f0 := Lib.hid (show w.heap.size ≠ w8.heap.size + 1 from Nat.ne_of_lt (Nat.lt_of_lt_of_le Xa0.out.lt (by omega)))
  have Nb0f0 := Lib.hid (show w.heap.size + 1 ≠ w8.heap.size + 1 from Nat.ne_of_lt (Nat.lt_of_lt_of_le Xb0.out.lt (by omega)))
  have Nc0f0 := Lib.hid (show w.heap.size + 1 + 1 ≠ w8.heap.size + 1 from Nat.ne_of_lt (Nat.lt_of_lt_of_le Xc0.out.lt (by omega)))
  have Nd0f0 := Lib.hid (show w2.heap.size ≠ w8.heap.size + 1 from Nat.ne_of_lt (Nat.lt_of_lt_of_le Xd0.out.lt (by omega)))
  have Gf0 := Lib.hid (show w.heap.size ≤ w8.heap.size + 1 from Nat.le_trans HB.out.size (by omega))
  have Xa0 := Lib.hid (Box.pcall hb Xa0.out)
  have Xb0 := Lib.hid (Box.pcall hb Xb0.out)
  have Xc0 := Lib.hid (Box.pcall hb Xc0.out)
  have Xd0 := Lib.hid (Box.pcall hb Xd0.out)
  have Xe0 := Lib.hid xe0
  have Xf0 := Lib.hid xf0
  have HB := Lib.hid (below_call HB.out hb)
  clear hk hb xe0 xf0
  have Ha := Lib.hid (AR.keep Ha.out (Keep.drew W9))
  have Hb := Lib.hid (AR.keep Hb.out (Keep.drew W9))
  have Hc := Lib.hid (AR.keep Hc.out (Keep.drew W9))
  have Hu1 := Lib.hid (CR.keep Hu1.out (Keep.drew W9))
  have Hg1 := Lib.hid (CR.keep Hg1.out (Keep.drew W9))
  have Xa0 := Lib.hid (Box.drew Xa0.out)
  have Xb0 := Lib.hid (Box.drew Xb0.out)
  have Xc0 := Lib.hid (Box.drew Xc0.out)
  have Xd0 := Lib.hid (Box.drew Xd0.out)
  have Xe0 := Lib.hid (Box.drew Xe0.out)
  have Xf0 := Lib.hid (Box.drew Xf0.out)
  have HB := Lib.hid (Below.drew HB.out)
  refine wp_region_float [] [⟨8, 11, 25, #[.bool false, .slice none 0 0, .slice none 0 0]⟩] (by kernel_rfl) (by kernel_rfl) 73 (by kernel_rfl) (Flok.one (by kernel_rfl) (by kernel_rfl) (by kernel_rfl) (by intro w; go_simp)) ?_
  intro ok
  have Hok := Lib.hid ok
  clear ok
  have HG := Lib.hid (Below.refl (W9.drew).heap.size (W9.drew))
  refine good_pureX 0 (some 46) (Go.Op.load 25 (Go.Operand.tmp 8)) (none) (.agg #[.bool u1_b, .slice u1_a u1_n u1_c, .slice u1_d u1_m u1_e]) (by kernel_rfl) (by kernel_rfl) (by kernel_rfl) (fun _ _ _ h => h) (fun w' hw' => ?_) ?_
  · obtain ⟨ce00, ce01, ce02, fe00, fe01, fe02⟩ := (Box.se hw' Xe0.out notin0).c3
    first | (go_simp; done) | (go_simp; simp_all; done) | (go_simp; rfl)
  simp only [Act.put, List.setIfInBounds_toArray, List.set_cons_zero, List.set_cons_succ]
  refine good_pureX 1 (some 47) (Go.Op.load 25 (Go.Operand.tmp 5)) (none) (.agg #[.bool bc, .slice sc nc cc, .slice tc mc ec]) (by kernel_rfl) (by kernel_rfl) (by kernel_rfl) (fun _ _ _ h => h) (fun w' hw' => ?_) ?_
  · obtain ⟨cc00, cc01, cc02, fc00, fc01, fc02⟩ := (Box.se hw' Xc0.out notin0).c3
    first | (go_simp; done) | (go_simp; simp_all; done) | (go_simp; rfl)
  simp only [Act.put, List.setIfInBounds_toArray, List.set_cons_zero, List.set_cons_succ]
  refine good_pureX 3 (some 49) (Go.Op.load 25 (Go.Operand.tmp 9)) (none) (.agg #[.bool g1_b, .slice g1_a g1_n g1_c, .slice g1_d g1_m g1_e]) (by kernel_rfl) (by kernel_rfl) (by kernel_rfl) (fun _ _ _ h => h) (fun w' hw' => ?_) ?_
  · obtain ⟨cf00, cf01, cf02, ff00, ff01, ff02⟩ := (Box.se hw' Xf0.out notin0).c3
    first | (go_simp; done) | (go_simp; simp_all; done) | (go_simp; rfl)
  simp only [Act.put, List.setIfInBounds_toArray, List.set_cons_zero, List.set_cons_succ]
  refine good_pureX 5 (some 51) (Go.Op.load 25 (Go.Operand.tmp 5)) (none) (.agg #[.bool bc, .slice sc nc cc, .slice tc mc ec]) (by kernel_rfl) (by kernel_rfl) (by kernel_rfl) (fun _ _ _ h => h) (fun w' hw' => ?_) ?_
  · obtain ⟨cc00, cc01, cc02, fc00, fc01, fc02⟩ := (Box.se hw' Xc0.out notin0).c3
    first | (go_simp; done) | (go_simp; simp_all; done) | (go_simp; rfl)
  simp only [Act.put, List.setIfInBounds_toArray, List.set_cons_zero, List.set_cons_succ]
  refine good_callX 2 29 (some 48) #[Go.Operand.tmp 46, Go.Operand.tmp 47] #[25, 25] (none) #[.agg #[.bool u1_b, .slice u1_a u1_n u1_c, .slice u1_d u1_m u1_e], .agg #[.bool bc, .slice sc nc cc, .slice tc mc ec]] (by kernel_rfl) Hok.out (by kernel_rfl) (by kernel_rfl) (by kernel_rfl) (by kernel_rfl) rfl rfl rfl (by kernel_rfl) (fun w10 hb => ?_)
  have HG := Lib.hid (below_call HG.out hb)
  clear hb
  (first | (have hcall := zmul_ar (CR.keep Hu1.out (Keep.call HG.out)).ar (AR.keep Hc.out (Keep.call HG.out)) (by decide) (by decide); refine Calls.mono hcall ?_; clear hcall) | refine Calls.mono (zmul_ar (CR.keep Hu1.out (Keep.call HG.out)).ar (AR.keep Hc.out (Keep.call HG.out)) (by decide) (by decide)) ?_)
  rintro e w11 ⟨v11, rfl, hv1, hb⟩
  obtain ⟨v1_b, v1_a, v1_n, v1_c, v1_d, v1_m, v1_e, rfl⟩ := hv1.litb
  refine ⟨_, rfl, ?_, hb⟩
  have HG := Lib.hid (below_call HG.out hb)
  have Hv1 := Lib.hid hv1
  clear hb hv1
  simp only [Act.put, List.setIfInBounds_toArray, List.set_cons_zero, List.set_cons_succ]
  refine good_callX 4 28 (some 50) #[Go.Operand.tmp 48, Go.Operand.tmp 49] #[25, 25] (none) #[.agg #[.bool v1_b, .slice v1_a v1_n v1_c, .slice v1_d v1_m v1_e], .agg #[.bool g1_b, .slice g1_a g1_n g1_c, .slice g1_d g1_m g1_e]] (by kernel_rfl) Hok.out (by kernel_rfl) (by kernel_rfl) (by kernel_rfl) (by kernel_rfl) rfl rfl rfl (by kernel_rfl) (fun w12 hb => ?_)
  have Hv1 := Lib.hid (CR.keep Hv1.out (Keep.call hb))
  have HG := Lib.hid (below_call HG.out hb)
  clear hb
  (first | (have hcall := zadd_ar Hv1.out.ar (CR.keep Hg1.out (Keep.call HG.out)).ar (by decide) (by decide); refine Calls.mono hcall ?_; clear hcall) | refine Calls.mono (zadd_ar Hv1.out.ar (CR.keep Hg1.out (Keep.call HG.out)).ar (by decide) (by decide)) ?_)
  rintro e w13 ⟨v13, rfl, hv2, hb⟩
  obtain ⟨v2_b, v2_a, v2_n, v2_c, v2_d, v2_m, v2_e, rfl⟩ := hv2.litb
  refine ⟨_, rfl, ?_, hb⟩
  have HG := Lib.hid (below_call HG.out hb)
  have Hv2 := Lib.hid hv2
  clear hb hv2
  simp only [Act.put, List.setIfInBounds_toArray, List.set_cons_zero, List.set_cons_succ]
  refine good_callX 6 26 (some 52) #[Go.Operand.tmp 51] #[25] (none) #[.agg #[.bool bc, .slice sc nc cc, .slice tc mc ec]] (by kernel_rfl) Hok.out (by kernel_rfl) (by kernel_rfl) (by kernel_rfl) (by kernel_rfl) rfl rfl rfl (by kernel_rfl) (fun w14 hb => ?_)
  have Hv2 := Lib.hid (CR.keep Hv2.out (Keep.call hb))
  have HG := Lib.hid (below_call HG.out hb)
  clear hb
  (first | (have hcall := rect_ar (AR.keep Hc.out (Keep.call HG.out)) (by decide); refine Calls.mono hcall ?_; clear hcall) | refine Calls.mono (rect_ar (AR.keep Hc.out (Keep.call HG.out)) (by decide)) ?_)
  rintro e w15 ⟨v15, rfl, hv3, hb⟩
  obtain ⟨v3_b, v3_a, v3_n, v3_c, v3_d, v3_m, v3_e, rfl⟩ := hv3.litb
  refine ⟨_, rfl, ?_, hb⟩
  have Hv2 := Lib.hid (CR.keep Hv2.out (Keep.call hb))
  have HG := Lib.hid (below_call HG.out hb)
  have Hv3 := Lib.hid hv3
  clear hb hv3
  simp only [Act.put, List.setIfInBounds_toArray, List.set_cons_zero, List.set_cons_succ]
  refine good_callX 7 30 (some 53) #[Go.Operand.tmp 50, Go.Operand.tmp 52] #[25, 25] (none) #[.agg #[.bool v2_b, .slice v2_a v2_n v2_c, .slice v2_d v2_m v2_e], .agg #[.bool v3_b, .slice v3_a v3_n v3_c, .slice v3_d v3_m v3_e]] (by kernel_rfl) Hok.out (by kernel_rfl) (by kernel_rfl) (by kernel_rfl) (by kernel_rfl) rfl rfl rfl (by kernel_rfl) (fun w16 hb => ?_)
  have Hv2 := Lib.hid (CR.keep Hv2.out (Keep.call hb))
  have Hv3 := Lib.hid (CR.keep Hv3.out (Keep.call hb))
  have HG := Lib.hid (below_call HG.out hb)
  clear hb
  (first | (have hcall := zsub_ar Hv2.out.ar Hv3.out.ar (by decide) (by decide); refine Calls.mono hcall ?_; clear hcall) | refine Calls.mono (zsub_ar Hv2.out.ar Hv3.out.ar (by decide) (by decide)) ?_)
  rintro e w17 ⟨v17, rfl, hv4, hb⟩
  obtain ⟨v4_b, v4_a, v4_n, v4_c, v4_d, v4_m, v4_e, rfl⟩ := hv4.litb
  refine ⟨_, rfl, ?_, hb⟩
  have HG := Lib.hid (below_call HG.out hb)
  have Hv4 := Lib.hid hv4
  clear hb hv4
  simp only [Act.put, List.setIfInBounds_toArray, List.set_cons_zero, List.set_cons_succ]
  refine good_end1 1 Hok.out (by kernel_rfl) (by kernel_rfl) (by kernel_rfl) (fun _ gg0 w18 hb eg0 xg0 => ?_)
  have Hv4 := Lib.hid (CR.keep Hv4.out (Keep.call hb))
  have HG := Lib.hid (below_call HG.out hb)
  clear hb
  have Na0g0 := Lib.hid (show w.heap.size ≠ gg0 from Nat.ne_of_lt (Nat.lt_of_lt_of_le Xa0.out.lt eg0))
  have Nb0g0 := Lib.hid (show w.heap.size + 1 ≠ gg0 from Nat.ne_of_lt (Nat.lt_of_lt_of_le Xb0.out.lt eg0))
  have Nc0g0 := Lib.hid (show w.heap.size + 1 + 1 ≠ gg0 from Nat.ne_of_lt (Nat.lt_of_lt_of_le Xc0.out.lt eg0))
  have Nd0g0 := Lib.hid (show w2.heap.size ≠ gg0 from Nat.ne_of_lt (Nat.lt_of_lt_of_le Xd0.out.lt eg0))
  have Ne0g0 := Lib.hid (show w8.heap.size ≠ gg0 from Nat.ne_of_lt (Nat.lt_of_lt_of_le Xe0.out.lt eg0))
  have Nf0g0 := Lib.hid (show w8.heap.size + 1 ≠ gg0 from Nat.ne_of_lt (Nat.lt_of_lt_of_le Xf0.out.lt eg0))
  have Gg0 := Lib.hid (show w.heap.size ≤ gg0 from Nat.le_trans HB.out.size eg0)
  have Eg0 := Lib.hid eg0
  clear eg0
  have Ha := Lib.hid (AR.keep Ha.out (Keep.call HG.out))
  have Hb := Lib.hid (AR.keep Hb.out (Keep.call HG.out))
  have Hc := Lib.hid (AR.keep Hc.out (Keep.call HG.out))
  have Xa0 := Lib.hid (Box.pcall HG.out Xa0.out)
  have Xb0 := Lib.hid (Box.pcall HG.out Xb0.out)
  have Xc0 := Lib.hid (Box.pcall HG.out Xc0.out)
  have Xd0 := Lib.hid (Box.pcall HG.out Xd0.out)
  have Xe0 := Lib.hid (Box.pcall HG.out Xe0.out)
  have Xf0 := Lib.hid (Box.pcall HG.out Xf0.out)
  have HB := Lib.hid (below_call HB.out HG.out)
  have HS := Lib.hid (SE.of (E := []) HG.out)
  have Xg0 := Lib.hid xg0
  clear xg0
  simp only [Act.put, List.setIfInBounds_toArray, List.set_cons_zero, List.set_cons_succ]
  refine held_oneX 9 (Go.Op.store 25 (Go.Operand.tmp 11) (Go.Operand.tmp 53)) (none) (World.setCell (World.setCell (World.setCell w18 ⟨gg0, 0, none⟩ (.bool v4_b)) ⟨gg0, 1, none⟩ (.slice v4_a v4_n v4_c)) ⟨gg0, 2, none⟩ (.slice v4_d v4_m v4_e)) (by kernel_rfl) (by kernel_rfl) (by kernel_rfl) (by kernel_rfl) ?_ (HS.out.store3 (.inr Eg0.out)) ?_
  · obtain ⟨cg00, cg01, cg02, fg00, fg01, fg02⟩ := Xg0.out.c3
    first | (go_simp; done) | (go_simp; simp_all; done) | (go_simp; rfl)
  obtain ⟨W19, hW⟩ : ∃ W19, W19 = (World.setCell (World.setCell (World.setCell w18 ⟨gg0, 0, none⟩ (.bool v4_b)) ⟨gg0, 1, none⟩ (.slice v4_a v4_n v4_c)) ⟨gg0, 2, none⟩ (.slice v4_d v4_m v4_e)) := ⟨_, rfl⟩
  rw [← hW]
  obtain ⟨xg0, hk, hf, hbb, hz⟩ := stored3s hW Xg0.out (by first | exact NoInt.bool _ | exact NoInt.slice _ _ _) (by first | exact NoInt.bool _ | exact NoInt.slice _ _ _) (by first | exact NoInt.bool _ | exact NoInt.slice _ _ _)
  have Ha := Lib.hid (AR.keep Ha.out hk)
  have Hb := Lib.hid (AR.keep Hb.out hk)
  have Hc := Lib.hid (AR.keep Hc.out hk)
  have Hv4 := Lib.hid (CR.keep Hv4.out hk)
  have Xa0 := Lib.hid (hf _ _ _ Xa0.out Na0g0.out)
  have Xb0 := Lib.hid (hf _ _ _ Xb0.out Nb0g0.out)
  have Xc0 := Lib.hid (hf _ _ _ Xc0.out Nc0g0.out)
  have Xd0 := Lib.hid (hf _ _ _ Xd0.out Nd0g0.out)
  have Xe0 := Lib.hid (hf _ _ _ Xe0.out Ne0g0.out)
  have Xf0 := Lib.hid (hf _ _ _ Xf0.out Nf0g0.out)
  have Xg0 := Lib.hid xg0
  have HB := Lib.hid (hbb _ HB.out Gg0.out)
  have HS := Lib.hid (show SE (W9.drew) [] W19 from by rw [hW]; exact HS.out.store3 (.inr Eg0.out))
  clear hW hk hf hbb xg0
  clear hz
  refine wpAnyH_done (by kernel_rfl) ?_ _
  clear HG HS Hok Eg0
  obtain ⟨ca00, ca01, ca02, fa00, fa01, fa02⟩ := Xa0.out.c3
  have la0 := Xa0.out.lt
  obtain ⟨cb00, cb01, cb02, fb00, fb01, fb02⟩ := Xb0.out.c3
  have lb0 := Xb0.out.lt
  obtain ⟨cc00, cc01, cc02, fc00, fc01, fc02⟩ := Xc0.out.c3
  have lc0 := Xc0.out.lt
  obtain ⟨ce00, ce01, ce02, fe00, fe01, fe02⟩ := Xe0.out.c3
  have le0 := Xe0.out.lt
  obtain ⟨cf00, cf01, cf02, ff00, ff01, ff02⟩ := Xf0.out.c3
  have lf0 := Xf0.out.lt
  obtain ⟨cg00, cg01, cg02, fg00, fg01, fg02⟩ := Xg0.out.c3
  have lg0 := Xg0.out.lt
  go_wp2_with fail
  clear ca00 ca01 ca02 fa00 fa01 fa02 la0 cb00 cb01 cb02 fb00 fb01 fb02 lb0 cc00 cc01 cc02 fc00 fc01 fc02 lc0 ce00 ce01 ce02 fe00 fe01 fe02 le0 cf00 cf01 cf02 ff00 ff01 ff02 lf0 cg00 cg01 cg02 fg00 fg01 fg02 lg0
  have Ha := Lib.hid (AR.keep Ha.out (Keep.drew W19))
  have Hb := Lib.hid (AR.keep Hb.out (Keep.drew W19))
  have Hc := Lib.hid (AR.keep Hc.out (Keep.drew W19))
  have Hv4 := Lib.hid (CR.keep Hv4.out (Keep.drew W19))
  have Xa0 := Lib.hid (Box.drew Xa0.out)
  have Xb0 := Lib.hid (Box.drew Xb0.out)
  have Xc0 := Lib.hid (Box.drew Xc0.out)
  have Xd0 := Lib.hid (Box.drew Xd0.out)
  have Xe0 := Lib.hid (Box.drew Xe0.out)
  have Xf0 := Lib.hid (Box.drew Xf0.out)
  have Xg0 := Lib.hid (Box.drew Xg0.out)
  have HB := Lib.hid (Below.drew HB.out)
  refine wp_region_float [] [] (by kernel_rfl) (by kernel_rfl) 73 (by kernel_rfl) Flok.nil ?_
  intro ok
  have Hok := Lib.hid ok
  clear ok
  have HG := Lib.hid (Below.refl (W19.drew).heap.size (W19.drew))
  refine good_pureX 0 (some 54) (Go.Op.load 25 (Go.Operand.tmp 11)) (none) (.agg #[.bool v4_b, .slice v4_a v4_n v4_c, .slice v4_d v4_m v4_e]) (by kernel_rfl) (by kernel_rfl) (by kernel_rfl) (fun _ _ _ h => h) (fun w' hw' => ?_) ?_
  · obtain ⟨cg00, cg01, cg02, fg00, fg01, fg02⟩ := (Box.se hw' Xg0.out notin0).c3
    first | (go_simp; done) | (go_simp; simp_all; done) | (go_simp; rfl)
  simp only [Act.put, List.setIfInBounds_toArray, List.set_cons_zero, List.set_cons_succ]
  refine good_pureX 1 (some 55) (Go.Op.load 25 (Go.Operand.tmp 3)) (none) (.agg #[.bool ba, .slice sa na ca, .slice ta ma ea]) (by kernel_rfl) (by kernel_rfl) (by kernel_rfl) (fun _ _ _ h => h) (fun w' hw' => ?_) ?_
  · obtain ⟨ca00, ca01, ca02, fa00, fa01, fa02⟩ := (Box.se hw' Xa0.out notin0).c3
    first | (go_simp; done) | (go_simp; simp_all; done) | (go_simp; rfl)
  simp only [Act.put, List.setIfInBounds_toArray, List.set_cons_zero, List.set_cons_succ]
  refine good_pureX 2 (some 56) (Go.Op.load 25 (Go.Operand.tmp 4)) (none) (.agg #[.bool bb, .slice sb nb cb, .slice tb mb eb]) (by kernel_rfl) (by kernel_rfl) (by kernel_rfl) (fun _ _ _ h => h) (fun w' hw' => ?_) ?_
  · obtain ⟨cb00, cb01, cb02, fb00, fb01, fb02⟩ := (Box.se hw' Xb0.out notin0).c3
    first | (go_simp; done) | (go_simp; simp_all; done) | (go_simp; rfl)
  simp only [Act.put, List.setIfInBounds_toArray, List.set_cons_zero, List.set_cons_succ]
  refine good_callX 3 19 (some 57) #[Go.Operand.tmp 55, Go.Operand.tmp 56] #[25, 25] (none) #[.agg #[.bool ba, .slice sa na ca, .slice ta ma ea], .agg #[.bool bb, .slice sb nb cb, .slice tb mb eb]] (by kernel_rfl) Hok.out (by kernel_rfl) (by kernel_rfl) (by kernel_rfl) (by kernel_rfl) rfl rfl rfl (by kernel_rfl) (fun w20 hb => ?_)
  have HG := Lib.hid (below_call HG.out hb)
  clear hb
  (first | (have hcall := rlgap_ar (AR.keep Ha.out (Keep.call HG.out)) (AR.keep Hb.out (Keep.call HG.out)) (by decide); refine Calls.mono hcall ?_; clear hcall) | refine Calls.mono (rlgap_ar (AR.keep Ha.out (Keep.call HG.out)) (AR.keep Hb.out (Keep.call HG.out)) (by decide)) ?_)
  rintro e w21 ⟨v21, rfl, hg2, hb⟩
  obtain ⟨g2_b, g2_a, g2_n, g2_c, g2_d, g2_m, g2_e, rfl⟩ := hg2.litb
  refine ⟨_, rfl, ?_, hb⟩
  have HG := Lib.hid (below_call HG.out hb)
  have Hg2 := Lib.hid hg2
  clear hb hg2
  simp only [Act.put, List.setIfInBounds_toArray, List.set_cons_zero, List.set_cons_succ]
  refine good_callX 4 24 (some 58) #[Go.Operand.tmp 54, Go.Operand.tmp 57] #[25, 25] (none) #[.agg #[.bool v4_b, .slice v4_a v4_n v4_c, .slice v4_d v4_m v4_e], .agg #[.bool g2_b, .slice g2_a g2_n g2_c, .slice g2_d g2_m g2_e]] (by kernel_rfl) Hok.out (by kernel_rfl) (by kernel_rfl) (by kernel_rfl) (by kernel_rfl) rfl rfl rfl (by kernel_rfl) (fun w22 hb => ?_)
  have Hg2 := Lib.hid (CR.keep Hg2.out (Keep.call hb))
  have HG := Lib.hid (below_call HG.out hb)
  clear hb
  (first | (have hcall := zcmp_ar g (CR.keep Hv4.out (Keep.call HG.out)).ar Hg2.out.ar Hg.out (by decide) (by decide); refine Calls.mono hcall ?_; clear hcall) | refine Calls.mono (zcmp_ar g (CR.keep Hv4.out (Keep.call HG.out)).ar Hg2.out.ar Hg.out (by decide) (by decide)) ?_)
  rintro e w23 ⟨v23, rfl, ⟨⟩, hb⟩
  refine ⟨_, rfl, ?_, hb⟩
  have HG := Lib.hid (below_call HG.out hb)
  clear hb
  simp only [Act.put, List.setIfInBounds_toArray, List.set_cons_zero, List.set_cons_succ]
  refine good_pureX 5 (some 12) (Go.Op.assign (Go.Operand.tmp 58)) (none) (.int .i64 g) (by kernel_rfl) (by kernel_rfl) (by kernel_rfl) (fun _ _ _ h => h) (fun w' hw' => ?_) ?_
  · first | (go_simp; done) | (go_simp; simp_all; done) | (go_simp; rfl)
  simp only [Act.put, List.setIfInBounds_toArray, List.set_cons_zero, List.set_cons_succ]
  refine good_end0 0 (by kernel_rfl) (fun _ w24 hb => ?_)
  have HG := Lib.hid (below_call HG.out hb)
  clear hb
  have Hc := Lib.hid (AR.keep Hc.out (Keep.call HG.out))
  have Xa0 := Lib.hid (Box.pcall HG.out Xa0.out)
  have Xb0 := Lib.hid (Box.pcall HG.out Xb0.out)
  have Xc0 := Lib.hid (Box.pcall HG.out Xc0.out)
  have Xd0 := Lib.hid (Box.pcall HG.out Xd0.out)
  have Xe0 := Lib.hid (Box.pcall HG.out Xe0.out)
  have Xf0 := Lib.hid (Box.pcall HG.out Xf0.out)
  have Xg0 := Lib.hid (Box.pcall HG.out Xg0.out)
  have HB := Lib.hid (below_call HB.out HG.out)
  have HS := Lib.hid (SE.of (E := []) HG.out)
  refine wpAnyH_done (by kernel_rfl) ?_ _
  clear HG HS Hok 
  obtain ⟨ca00, ca01, ca02, fa00, fa01, fa02⟩ := Xa0.out.c3
  have la0 := Xa0.out.lt
  obtain ⟨cb00, cb01, cb02, fb00, fb01, fb02⟩ := Xb0.out.c3
  have lb0 := Xb0.out.lt
  obtain ⟨cc00, cc01, cc02, fc00, fc01, fc02⟩ := Xc0.out.c3
  have lc0 := Xc0.out.lt
  obtain ⟨ce00, ce01, ce02, fe00, fe01, fe02⟩ := Xe0.out.c3
  have le0 := Xe0.out.lt
  obtain ⟨cf00, cf01, cf02, ff00, ff01, ff02⟩ := Xf0.out.c3
  have lf0 := Xf0.out.lt
  obtain ⟨cg00, cg01, cg02, fg00, fg01, fg02⟩ := Xg0.out.c3
  have lg0 := Xg0.out.lt
  go_wp2_with fail
  clear ca00 ca01 ca02 fa00 fa01 fa02 la0 cb00 cb01 cb02 fb00 fb01 fb02 lb0 cc00 cc01 cc02 fc00 fc01 fc02 lc0 ce00 ce01 ce02 fe00 fe01 fe02 le0 cf00 cf01 cf02 ff00 ff01 ff02 lf0 cg00 cg01 cg02 fg00 fg01 fg02 lg0
  (first | (have hcall := zsign_ar e Hc.out He.out; refine Calls.mono hcall ?_; clear hcall) | refine Calls.mono (zsign_ar e Hc.out He.out) ?_)
  rintro e w25 ⟨v25, rfl, ⟨⟩, hb⟩
  have Xa0 := Lib.hid (Box.pcall hb Xa0.out)
  have Xb0 := Lib.hid (Box.pcall hb Xb0.out)
  have Xc0 := Lib.hid (Box.pcall hb Xc0.out)
  have Xd0 := Lib.hid (Box.pcall hb Xd0.out)
  have Xe0 := Lib.hid (Box.pcall hb Xe0.out)
  have Xf0 := Lib.hid (Box.pcall hb Xf0.out)
  have Xg0 := Lib.hid (Box.pcall hb Xg0.out)
  have HB := Lib.hid (below_call HB.out hb)
  clear hb
  obtain ⟨ca00, ca01, ca02, fa00, fa01, fa02⟩ := Xa0.out.c3
  have la0 := Xa0.out.lt
  obtain ⟨cb00, cb01, cb02, fb00, fb01, fb02⟩ := Xb0.out.c3
  have lb0 := Xb0.out.lt
  obtain ⟨cc00, cc01, cc02, fc00, fc01, fc02⟩ := Xc0.out.c3
  have lc0 := Xc0.out.lt
  obtain ⟨ce00, ce01, ce02, fe00, fe01, fe02⟩ := Xe0.out.c3
  have le0 := Xe0.out.lt
  obtain ⟨cf00, cf01, cf02, ff00, ff01, ff02⟩ := Xf0.out.c3
  have lf0 := Xf0.out.lt
  obtain ⟨cg00, cg01, cg02, fg00, fg01, fg02⟩ := Xg0.out.c3
  have lg0 := Xg0.out.lt
  go_wp2
  clear ca00 ca01 ca02 fa00 fa01 fa02 la0 cb00 cb01 cb02 fb00 fb01 fb02 lb0 cc00 cc01 cc02 fc00 fc01 fc02 lc0 ce00 ce01 ce02 fe00 fe01 fe02 le0 cf00 cf01 cf02 ff00 ff01 ff02 lf0 cg00 cg01 cg02 fg00 fg01 fg02 lg0
  go_ret
  exact ⟨_, rfl, rfl, HB.out⟩


set_option maxRecDepth 100000 in
set_option maxHeartbeats 4000000 in
theorem lgap_yf {qa : Rat} {ba : Bool} {sa ta : Option Addr} {na ca ma ea : Nat} {qb : Rat} {bb : Bool} {sb tb : Option Addr} {nb cb mb eb : Nat} {qc : Rat} {bc : Bool} {sc tc : Option Addr} {nc cc mc ec : Nat}  {w : World} (hu : unst qa qb = true) (k : Int) (hk : cmpQ qc qa = k) (hk0 : decide (k < 0) = false) (m : Int) (hm : cmpQ qc qb = m) (hm0 : decide (0 < m) = false) (j : Int) (hj : slopeQ qa qb = j) (g : Int) (hg : cmpQ (upQ qa qb * qc + gapQ qa qb - relu qc) (gapQ qa qb) = g) (hg0 : decide (g ≤ 0) = true) (hg1 : (g == 0) = false) (e : Int) (he : qc.num.sign = e) (he0 : (e == 0) = false) (hB8 : ([⟨ba, sa, na, ca, ta, ma, ea⟩, ⟨bb, sb, nb, cb, tb, mb, eb⟩, ⟨bc, sc, nc, cc, tc, mc, ec⟩] : List Rw).any Rw.big = false) (ha : AR qa 8 w (.agg #[.bool ba, .slice sa na ca, .slice ta ma ea])) (hb : AR qb 8 w (.agg #[.bool bb, .slice sb nb cb, .slice tb mb eb])) (hc : AR qc 8 w (.agg #[.bool bc, .slice sc nc cc, .slice tc mc ec])) :
    Calls Try.prog 6 #[.agg #[.bool ba, .slice sa na ca, .slice ta ma ea], .agg #[.bool bb, .slice sb nb cb, .slice tb mb eb], .agg #[.bool bc, .slice sc nc cc, .slice tc mc ec]] w (Ret w (Val (.bool true))) := by
  have Ha := Lib.hid ha
  have Hb := Lib.hid hb
  have Hc := Lib.hid hc
  have HB8 := Lib.hid hB8
  have Hu := Lib.hid hu
  have Hk := Lib.hid hk
  have Hm := Lib.hid hm
  have Hj := Lib.hid hj
  have Hg := Lib.hid hg
  have He := Lib.hid he
  clear ha hb hc hB8 hu hk hm hj hg he
  go_enter Try.func6, Try.ntmps6
  have HB := Lib.hid (Below.refl w.heap.size w)
  go_wp2_with fail
  obtain ⟨W1, hW⟩ : ∃ W1, W1 = (World.alloc (World.alloc (World.alloc w (.cells #[.bool ba, .slice sa na ca, .slice ta ma ea] 25)) (.cells #[.bool bb, .slice sb nb cb, .slice tb mb eb] 25)) (.cells #[.bool bc, .slice sc nc cc, .slice tc mc ec] 25)) := ⟨_, rfl⟩
  rw [← hW]
  obtain ⟨xa0, xb0, xc0, hk, hb⟩ := boxes_3 _ _ _ _ _ _ _ hW
  clear hW
  have Ha := Lib.hid (AR.keep Ha.out hk)
  have Hb := Lib.hid (AR.keep Hb.out hk)
  have Hc := Lib.hid (AR.keep Hc.out hk)
  have Ga0 := Lib.hid (show w.heap.size ≤ w.heap.size from Nat.le_trans HB.out.size (by omega))
  have Gb0 := Lib.hid (show w.heap.size ≤ w.heap.size + 1 from Nat.le_trans HB.out.size (by omega))
  have Gc0 := Lib.hid (show w.heap.size ≤ w.heap.size + 1 + 1 from Nat.le_trans HB.out.size (by omega))
  have Xa0 := Lib.hid xa0
  have Xb0 := Lib.hid xb0
  have Xc0 := Lib.hid xc0
  have HB := Lib.hid (below_call HB.out hb)
  clear hk hb xa0 xb0 xc0
  refine Calls.mono (awake25) ?_
  rintro e w2 ⟨v2, rfl, rfl, hb⟩
  have Ha := Lib.hid (AR.keep Ha.out (Keep.call hb))
  have Hb := Lib.hid (AR.keep Hb.out (Keep.call hb))
  have Hc := Lib.hid (AR.keep Hc.out (Keep.call hb))
  have Xa0 := Lib.hid (Box.pcall hb Xa0.out)
  have Xb0 := Lib.hid (Box.pcall hb Xb0.out)
  have Xc0 := Lib.hid (Box.pcall hb Xc0.out)
  have HB := Lib.hid (below_call HB.out hb)
  clear hb
  obtain ⟨ca00, ca01, ca02, fa00, fa01, fa02⟩ := Xa0.out.c3
  have la0 := Xa0.out.lt
  obtain ⟨cb00, cb01, cb02, fb00, fb01, fb02⟩ := Xb0.out.c3
  have lb0 := Xb0.out.lt
  obtain ⟨cc00, cc01, cc02, fc00, fc01, fc02⟩ := Xc0.out.c3
  have lc0 := Xc0.out.lt
  go_wp2_with fail
  clear ca00 ca01 ca02 fa00 fa01 fa02 la0 cb00 cb01 cb02 fb00 fb01 fb02 lb0 cc00 cc01 cc02 fc00 fc01 fc02 lc0
  obtain ⟨W3, hW⟩ : ∃ W3, W3 = (World.alloc w2 (.cells #[.bool ba, .slice sa na ca, .slice ta ma ea, .bool bb, .slice sb nb cb, .slice tb mb eb, .bool bc, .slice sc nc cc, .slice tc mc ec] 25)) := ⟨_, rfl⟩
  rw [← hW]
  obtain ⟨xd0, hk, hb⟩ := boxes_1 _ _ _ hW
  clear hW
  have Ha := Lib.hid (AR.keep Ha.out hk)
  have Hb := Lib.hid (AR.keep Hb.out hk)
  have Hc := Lib.hid (AR.keep Hc.out hk)
  have Na0d0 := Lib.hid (show w.heap.size ≠ w2.heap.size from Nat.ne_of_lt (Nat.lt_of_lt_of_le Xa0.out.lt (by omega)))
  have Nb0d0 := Lib.hid (show w.heap.size + 1 ≠ w2.heap.size from Nat.ne_of_lt (Nat.lt_of_lt_of_le Xb0.out.lt (by omega)))
  have Nc0d0 := Lib.hid (show w.heap.size + 1 + 1 ≠ w2.heap.size from Nat.ne_of_lt (Nat.lt_of_lt_of_le Xc0.out.lt (by omega)))
  have Gd0 := Lib.hid (show w.heap.size ≤ w2.heap.size from Nat.le_trans HB.out.size (by omega))
  have Xa0 := Lib.hid (Box.pcall hb Xa0.out)
  have Xb0 := Lib.hid (Box.pcall hb Xb0.out)
  have Xc0 := Lib.hid (Box.pcall hb Xc0.out)
  have Xd0 := Lib.hid xd0
  have HB := Lib.hid (below_call HB.out hb)
  clear hk hb xd0
  refine Calls.mono (large3 Xd0.out HB8.out) ?_
  rintro e w4 ⟨v4, rfl, rfl, hb⟩
  have Ha := Lib.hid (AR.keep Ha.out (Keep.call hb))
  have Hb := Lib.hid (AR.keep Hb.out (Keep.call hb))
  have Hc := Lib.hid (AR.keep Hc.out (Keep.call hb))
  have Xa0 := Lib.hid (Box.pcall hb Xa0.out)
  have Xb0 := Lib.hid (Box.pcall hb Xb0.out)
  have Xc0 := Lib.hid (Box.pcall hb Xc0.out)
  have Xd0 := Lib.hid (Box.pcall hb Xd0.out)
  have HB := Lib.hid (below_call HB.out hb)
  clear hb
  obtain ⟨ca00, ca01, ca02, fa00, fa01, fa02⟩ := Xa0.out.c3
  have la0 := Xa0.out.lt
  obtain ⟨cb00, cb01, cb02, fb00, fb01, fb02⟩ := Xb0.out.c3
  have lb0 := Xb0.out.lt
  obtain ⟨cc00, cc01, cc02, fc00, fc01, fc02⟩ := Xc0.out.c3
  have lc0 := Xc0.out.lt
  go_wp2_with fail
  clear ca00 ca01 ca02 fa00 fa01 fa02 la0 cb00 cb01 cb02 fb00 fb01 fb02 lb0 cc00 cc01 cc02 fc00 fc01 fc02 lc0
  (first | (have hcall := zluns_ar Hu.out Ha.out Hb.out (by decide); refine Calls.mono hcall ?_; clear hcall) | refine Calls.mono (zluns_ar Hu.out Ha.out Hb.out (by decide)) ?_)
  rintro e w5 ⟨v5, rfl, rfl, hb⟩
  have Ha := Lib.hid (AR.keep Ha.out (Keep.call hb))
  have Hb := Lib.hid (AR.keep Hb.out (Keep.call hb))
  have Hc := Lib.hid (AR.keep Hc.out (Keep.call hb))
  have Xa0 := Lib.hid (Box.pcall hb Xa0.out)
  have Xb0 := Lib.hid (Box.pcall hb Xb0.out)
  have Xc0 := Lib.hid (Box.pcall hb Xc0.out)
  have Xd0 := Lib.hid (Box.pcall hb Xd0.out)
  have HB := Lib.hid (below_call HB.out hb)
  clear hb
  obtain ⟨ca00, ca01, ca02, fa00, fa01, fa02⟩ := Xa0.out.c3
  have la0 := Xa0.out.lt
  obtain ⟨cb00, cb01, cb02, fb00, fb01, fb02⟩ := Xb0.out.c3
  have lb0 := Xb0.out.lt
  obtain ⟨cc00, cc01, cc02, fc00, fc01, fc02⟩ := Xc0.out.c3
  have lc0 := Xc0.out.lt
  go_wp2_with fail
  clear ca00 ca01 ca02 fa00 fa01 fa02 la0 cb00 cb01 cb02 fb00 fb01 fb02 lb0 cc00 cc01 cc02 fc00 fc01 fc02 lc0
  (first | (have hcall := zcmp_ar k Hc.out Ha.out Hk.out (by decide) (by decide); refine Calls.mono hcall ?_; clear hcall) | refine Calls.mono (zcmp_ar k Hc.out Ha.out Hk.out (by decide) (by decide)) ?_)
  rintro e w6 ⟨v6, rfl, ⟨⟩, hb⟩
  have Ha := Lib.hid (AR.keep Ha.out (Keep.call hb))
  have Hb := Lib.hid (AR.keep Hb.out (Keep.call hb))
  have Hc := Lib.hid (AR.keep Hc.out (Keep.call hb))
  have Xa0 := Lib.hid (Box.pcall hb Xa0.out)
  have Xb0 := Lib.hid (Box.pcall hb Xb0.out)
  have Xc0 := Lib.hid (Box.pcall hb Xc0.out)
  have Xd0 := Lib.hid (Box.pcall hb Xd0.out)
  have HB := Lib.hid (below_call HB.out hb)
  clear hb
  obtain ⟨ca00, ca01, ca02, fa00, fa01, fa02⟩ := Xa0.out.c3
  have la0 := Xa0.out.lt
  obtain ⟨cb00, cb01, cb02, fb00, fb01, fb02⟩ := Xb0.out.c3
  have lb0 := Xb0.out.lt
  obtain ⟨cc00, cc01, cc02, fc00, fc01, fc02⟩ := Xc0.out.c3
  have lc0 := Xc0.out.lt
  go_wp2_with fail
  clear ca00 ca01 ca02 fa00 fa01 fa02 la0 cb00 cb01 cb02 fb00 fb01 fb02 lb0 cc00 cc01 cc02 fc00 fc01 fc02 lc0
  (first | (have hcall := zcmp_ar m Hc.out Hb.out Hm.out (by decide) (by decide); refine Calls.mono hcall ?_; clear hcall) | refine Calls.mono (zcmp_ar m Hc.out Hb.out Hm.out (by decide) (by decide)) ?_)
  rintro e w7 ⟨v7, rfl, ⟨⟩, hb⟩
  have Ha := Lib.hid (AR.keep Ha.out (Keep.call hb))
  have Hb := Lib.hid (AR.keep Hb.out (Keep.call hb))
  have Hc := Lib.hid (AR.keep Hc.out (Keep.call hb))
  have Xa0 := Lib.hid (Box.pcall hb Xa0.out)
  have Xb0 := Lib.hid (Box.pcall hb Xb0.out)
  have Xc0 := Lib.hid (Box.pcall hb Xc0.out)
  have Xd0 := Lib.hid (Box.pcall hb Xd0.out)
  have HB := Lib.hid (below_call HB.out hb)
  clear hb
  obtain ⟨ca00, ca01, ca02, fa00, fa01, fa02⟩ := Xa0.out.c3
  have la0 := Xa0.out.lt
  obtain ⟨cb00, cb01, cb02, fb00, fb01, fb02⟩ := Xb0.out.c3
  have lb0 := Xb0.out.lt
  obtain ⟨cc00, cc01, cc02, fc00, fc01, fc02⟩ := Xc0.out.c3
  have lc0 := Xc0.out.lt
  go_wp2_with fail
  clear ca00 ca01 ca02 fa00 fa01 fa02 la0 cb00 cb01 cb02 fb00 fb01 fb02 lb0 cc00 cc01 cc02 fc00 fc01 fc02 lc0
  (first | (have hcall := rllin_k j Hj.out Hu.out Ha.out Hb.out (by decide); refine Calls.mono hcall ?_; clear hcall) | refine Calls.mono (rllin_k j Hj.out Hu.out Ha.out Hb.out (by decide)) ?_)
  rintro e w8 ⟨t8, rfl, ⟨v8, u8, rfl, hu1, hg1⟩, hb⟩
  obtain ⟨u1_b, u1_a, u1_n, u1_c, u1_d, u1_m, u1_e, rfl⟩ := hu1.litb
  obtain ⟨g1_b, g1_a, g1_n, g1_c, g1_d, g1_m, g1_e, rfl⟩ := hg1.litb
  have Ha := Lib.hid (AR.keep Ha.out (Keep.call hb))
  have Hb := Lib.hid (AR.keep Hb.out (Keep.call hb))
  have Hc := Lib.hid (AR.keep Hc.out (Keep.call hb))
  have Xa0 := Lib.hid (Box.pcall hb Xa0.out)
  have Xb0 := Lib.hid (Box.pcall hb Xb0.out)
  have Xc0 := Lib.hid (Box.pcall hb Xc0.out)
  have Xd0 := Lib.hid (Box.pcall hb Xd0.out)
  have HB := Lib.hid (below_call HB.out hb)
  have Hu1 := Lib.hid hu1
  have Hg1 := Lib.hid hg1
  clear hb hu1 hg1
  obtain ⟨ca00, ca01, ca02, fa00, fa01, fa02⟩ := Xa0.out.c3
  have la0 := Xa0.out.lt
  obtain ⟨cb00, cb01, cb02, fb00, fb01, fb02⟩ := Xb0.out.c3
  have lb0 := Xb0.out.lt
  obtain ⟨cc00, cc01, cc02, fc00, fc01, fc02⟩ := Xc0.out.c3
  have lc0 := Xc0.out.lt
  go_wp2_with fail
  clear ca00 ca01 ca02 fa00 fa01 fa02 la0 cb00 cb01 cb02 fb00 fb01 fb02 lb0 cc00 cc01 cc02 fc00 fc01 fc02 lc0
  obtain ⟨W9, hW⟩ : ∃ W9, W9 = (World.alloc (World.alloc w8 (.cells #[.bool u1_b, .slice u1_a u1_n u1_c, .slice u1_d u1_m u1_e] 25)) (.cells #[.bool g1_b, .slice g1_a g1_n g1_c, .slice g1_d g1_m g1_e] 25)) := ⟨_, rfl⟩
  rw [← hW]
  obtain ⟨xe0, xf0, hk, hb⟩ := boxes_2 _ _ _ _ _ hW
  clear hW
  have Ha := Lib.hid (AR.keep Ha.out hk)
  have Hb := Lib.hid (AR.keep Hb.out hk)
  have Hc := Lib.hid (AR.keep Hc.out hk)
  have Hu1 := Lib.hid (CR.keep Hu1.out hk)
  have Hg1 := Lib.hid (CR.keep Hg1.out hk)
  have Na0e0 := Lib.hid (show w.heap.size ≠ w8.heap.size from Nat.ne_of_lt (Nat.lt_of_lt_of_le Xa0.out.lt (by omega)))
  have Nb0e0 := Lib.hid (show w.heap.size + 1 ≠ w8.heap.size from Nat.ne_of_lt (Nat.lt_of_lt_of_le Xb0.out.lt (by omega)))
  have Nc0e0 := Lib.hid (show w.heap.size + 1 + 1 ≠ w8.heap.size from Nat.ne_of_lt (Nat.lt_of_lt_of_le Xc0.out.lt (by omega)))
  have Nd0e0 := Lib.hid (show w2.heap.size ≠ w8.heap.size from Nat.ne_of_lt (Nat.lt_of_lt_of_le Xd0.out.lt (by omega)))
  have Ge0 := Lib.hid (show w.heap.size ≤ w8.heap.size from Nat.le_trans HB.out.size (by omega))
  have Na0f0 := Lib.hid (show w.heap.size ≠ w8.heap.size + 1 from Nat.ne_of_lt (Nat.lt_of_lt_of_le Xa0.out.lt (by omega)))
  have Nb0f0 := Lib.hid (show w.heap.size + 1 ≠ w8.heap.size + 1 from Nat.ne_of_lt (Nat.lt_of_lt_of_le Xb0.out.lt (by omega)))
  have Nc0f0 := Lib.hid (show w.heap.size + 1 + 1 ≠ w8.heap.size + 1 from Nat.ne_of_lt (Nat.lt_of_lt_of_le Xc0.out.lt (by omega)))
  have Nd0f0 := Lib.hid (show w2.heap.size ≠ w8.heap.size + 1 from Nat.ne_of_lt (Nat.lt_of_lt_of_le Xd0.out.lt (by omega)))
  have Gf0 := Lib.hid (show w.heap.size ≤ w8.heap.size + 1 from Nat.le_trans HB.out.size (by omega))
  have Xa0 := Lib.hid (Box.pcall hb Xa0.out)
  have Xb0 := Lib.hid (Box.pcall hb Xb0.out)
  have Xc0 := Lib.hid (Box.pcall hb Xc0.out)
  have Xd0 := Lib.hid (Box.pcall hb Xd0.out)
  have Xe0 := Lib.hid xe0
  have Xf0 := Lib.hid xf0
  have HB := Lib.hid (below_call HB.out hb)
  clear hk hb xe0 xf0
  have Ha := Lib.hid (AR.keep Ha.out (Keep.drew W9))
  have Hb := Lib.hid (AR.keep Hb.out (Keep.drew W9))
  have Hc := Lib.hid (AR.keep Hc.out (Keep.drew W9))
  have Hu1 := Lib.hid (CR.keep Hu1.out (Keep.drew W9))
  have Hg1 := Lib.hid (CR.keep Hg1.out (Keep.drew W9))
  have Xa0 := Lib.hid (Box.drew Xa0.out)
  have Xb0 := Lib.hid (Box.drew Xb0.out)
  have Xc0 := Lib.hid (Box.drew Xc0.out)
  have Xd0 := Lib.hid (Box.drew Xd0.out)
  have Xe0 := Lib.hid (Box.drew Xe0.out)
  have Xf0 := Lib.hid (Box.drew Xf0.out)
  have HB := Lib.hid (Below.drew HB.out)
  refine wp_region_float [] [⟨8, 11, 25, #[.bool false, .slice none 0 0, .slice none 0 0]⟩] (by kernel_rfl) (by kernel_rfl) 73 (by kernel_rfl) (Flok.one (by kernel_rfl) (by kernel_rfl) (by kernel_rfl) (by intro w; go_simp)) ?_
  intro ok
  have Hok := Lib.hid ok
  clear ok
  have HG := Lib.hid (Below.refl (W9.drew).heap.size (W9.drew))
  refine good_pureX 0 (some 46) (Go.Op.load 25 (Go.Operand.tmp 8)) (none) (.agg #[.bool u1_b, .slice u1_a u1_n u1_c, .slice u1_d u1_m u1_e]) (by kernel_rfl) (by kernel_rfl) (by kernel_rfl) (fun _ _ _ h => h) (fun w' hw' => ?_) ?_
  · obtain ⟨ce00, ce01, ce02, fe00, fe01, fe02⟩ := (Box.se hw' Xe0.out notin0).c3
    first | (go_simp; done) | (go_simp; simp_all; done) | (go_simp; rfl)
  simp only [Act.put, List.setIfInBounds_toArray, List.set_cons_zero, List.set_cons_succ]
  refine good_pureX 1 (some 47) (Go.Op.load 25 (Go.Operand.tmp 5)) (none) (.agg #[.bool bc, .slice sc nc cc, .slice tc mc ec]) (by kernel_rfl) (by kernel_rfl) (by kernel_rfl) (fun _ _ _ h => h) (fun w' hw' => ?_) ?_
  · obtain ⟨cc00, cc01, cc02, fc00, fc01, fc02⟩ := (Box.se hw' Xc0.out notin0).c3
    first | (go_simp; done) | (go_simp; simp_all; done) | (go_simp; rfl)
  simp only [Act.put, List.setIfInBounds_toArray, List.set_cons_zero, List.set_cons_succ]
  refine good_pureX 3 (some 49) (Go.Op.load 25 (Go.Operand.tmp 9)) (none) (.agg #[.bool g1_b, .slice g1_a g1_n g1_c, .slice g1_d g1_m g1_e]) (by kernel_rfl) (by kernel_rfl) (by kernel_rfl) (fun _ _ _ h => h) (fun w' hw' => ?_) ?_
  · obtain ⟨cf00, cf01, cf02, ff00, ff01, ff02⟩ := (Box.se hw' Xf0.out notin0).c3
    first | (go_simp; done) | (go_simp; simp_all; done) | (go_simp; rfl)
  simp only [Act.put, List.setIfInBounds_toArray, List.set_cons_zero, List.set_cons_succ]
  refine good_pureX 5 (some 51) (Go.Op.load 25 (Go.Operand.tmp 5)) (none) (.agg #[.bool bc, .slice sc nc cc, .slice tc mc ec]) (by kernel_rfl) (by kernel_rfl) (by kernel_rfl) (fun _ _ _ h => h) (fun w' hw' => ?_) ?_
  · obtain ⟨cc00, cc01, cc02, fc00, fc01, fc02⟩ := (Box.se hw' Xc0.out notin0).c3
    first | (go_simp; done) | (go_simp; simp_all; done) | (go_simp; rfl)
  simp only [Act.put, List.setIfInBounds_toArray, List.set_cons_zero, List.set_cons_succ]
  refine good_callX 2 29 (some 48) #[Go.Operand.tmp 46, Go.Operand.tmp 47] #[25, 25] (none) #[.agg #[.bool u1_b, .slice u1_a u1_n u1_c, .slice u1_d u1_m u1_e], .agg #[.bool bc, .slice sc nc cc, .slice tc mc ec]] (by kernel_rfl) Hok.out (by kernel_rfl) (by kernel_rfl) (by kernel_rfl) (by kernel_rfl) rfl rfl rfl (by kernel_rfl) (fun w10 hb => ?_)
  have HG := Lib.hid (below_call HG.out hb)
  clear hb
  (first | (have hcall := zmul_ar (CR.keep Hu1.out (Keep.call HG.out)).ar (AR.keep Hc.out (Keep.call HG.out)) (by decide) (by decide); refine Calls.mono hcall ?_; clear hcall) | refine Calls.mono (zmul_ar (CR.keep Hu1.out (Keep.call HG.out)).ar (AR.keep Hc.out (Keep.call HG.out)) (by decide) (by decide)) ?_)
  rintro e w11 ⟨v11, rfl, hv1, hb⟩
  obtain ⟨v1_b, v1_a, v1_n, v1_c, v1_d, v1_m, v1_e, rfl⟩ := hv1.litb
  refine ⟨_, rfl, ?_, hb⟩
  have HG := Lib.hid (below_call HG.out hb)
  have Hv1 := Lib.hid hv1
  clear hb hv1
  simp only [Act.put, List.setIfInBounds_toArray, List.set_cons_zero, List.set_cons_succ]
  refine good_callX 4 28 (some 50) #[Go.Operand.tmp 48, Go.Operand.tmp 49] #[25, 25] (none) #[.agg #[.bool v1_b, .slice v1_a v1_n v1_c, .slice v1_d v1_m v1_e], .agg #[.bool g1_b, .slice g1_a g1_n g1_c, .slice g1_d g1_m g1_e]] (by kernel_rfl) Hok.out (by kernel_rfl) (by kernel_rfl) (by kernel_rfl) (by kernel_rfl) rfl rfl rfl (by kernel_rfl) (fun w12 hb => ?_)
  have Hv1 := Lib.hid (CR.keep Hv1.out (Keep.call hb))
  have HG := Lib.hid (below_call HG.out hb)
  clear hb
  (first | (have hcall := zadd_ar Hv1.out.ar (CR.keep Hg1.out (Keep.call HG.out)).ar (by decide) (by decide); refine Calls.mono hcall ?_; clear hcall) | refine Calls.mono (zadd_ar Hv1.out.ar (CR.keep Hg1.out (Keep.call HG.out)).ar (by decide) (by decide)) ?_)
  rintro e w13 ⟨v13, rfl, hv2, hb⟩
  obtain ⟨v2_b, v2_a, v2_n, v2_c, v2_d, v2_m, v2_e, rfl⟩ := hv2.litb
  refine ⟨_, rfl, ?_, hb⟩
  have HG := Lib.hid (below_call HG.out hb)
  have Hv2 := Lib.hid hv2
  clear hb hv2
  simp only [Act.put, List.setIfInBounds_toArray, List.set_cons_zero, List.set_cons_succ]
  refine good_callX 6 26 (some 52) #[Go.Operand.tmp 51] #[25] (none) #[.agg #[.bool bc, .slice sc nc cc, .slice tc mc ec]] (by kernel_rfl) Hok.out (by kernel_rfl) (by kernel_rfl) (by kernel_rfl) (by kernel_rfl) rfl rfl rfl (by kernel_rfl) (fun w14 hb => ?_)
  have Hv2 := Lib.hid (CR.keep Hv2.out (Keep.call hb))
  have HG := Lib.hid (below_call HG.out hb)
  clear hb
  (first | (have hcall := rect_ar (AR.keep Hc.out (Keep.call HG.out)) (by decide); refine Calls.mono hcall ?_; clear hcall) | refine Calls.mono (rect_ar (AR.keep Hc.out (Keep.call HG.out)) (by decide)) ?_)
  rintro e w15 ⟨v15, rfl, hv3, hb⟩
  obtain ⟨v3_b, v3_a, v3_n, v3_c, v3_d, v3_m, v3_e, rfl⟩ := hv3.litb
  refine ⟨_, rfl, ?_, hb⟩
  have Hv2 := Lib.hid (CR.keep Hv2.out (Keep.call hb))
  have HG := Lib.hid (below_call HG.out hb)
  have Hv3 := Lib.hid hv3
  clear hb hv3
  simp only [Act.put, List.setIfInBounds_toArray, List.set_cons_zero, List.set_cons_succ]
  refine good_callX 7 30 (some 53) #[Go.Operand.tmp 50, Go.Operand.tmp 52] #[25, 25] (none) #[.agg #[.bool v2_b, .slice v2_a v2_n v2_c, .slice v2_d v2_m v2_e], .agg #[.bool v3_b, .slice v3_a v3_n v3_c, .slice v3_d v3_m v3_e]] (by kernel_rfl) Hok.out (by kernel_rfl) (by kernel_rfl) (by kernel_rfl) (by kernel_rfl) rfl rfl rfl (by kernel_rfl) (fun w16 hb => ?_)
  have Hv2 := Lib.hid (CR.keep Hv2.out (Keep.call hb))
  have Hv3 := Lib.hid (CR.keep Hv3.out (Keep.call hb))
  have HG := Lib.hid (below_call HG.out hb)
  clear hb
  (first | (have hcall := zsub_ar Hv2.out.ar Hv3.out.ar (by decide) (by decide); refine Calls.mono hcall ?_; clear hcall) | refine Calls.mono (zsub_ar Hv2.out.ar Hv3.out.ar (by decide) (by decide)) ?_)
  rintro e w17 ⟨v17, rfl, hv4, hb⟩
  obtain ⟨v4_b, v4_a, v4_n, v4_c, v4_d, v4_m, v4_e, rfl⟩ := hv4.litb
  refine ⟨_, rfl, ?_, hb⟩
  have HG := Lib.hid (below_call HG.out hb)
  have Hv4 := Lib.hid hv4
  clear hb hv4
  simp only [Act.put, List.setIfInBounds_toArray, List.set_cons_zero, List.set_cons_succ]
  refine good_end1 1 Hok.out (by kernel_rfl) (by kernel_rfl) (by kernel_rfl) (fun _ gg0 w18 hb eg0 xg0 => ?_)
  have Hv4 := Lib.hid (CR.keep Hv4.out (Keep.call hb))
  have HG := Lib.hid (below_call HG.out hb)
  clear hb
  have Na0g0 := Lib.hid (show w.heap.size ≠ gg0 from Nat.ne_of_lt (Nat.lt_of_lt_of_le Xa0.out.lt eg0))
  have Nb0g0 := Lib.hid (show w.heap.size + 1 ≠ gg0 from Nat.ne_of_lt (Nat.lt_of_lt_of_le Xb0.out.lt eg0))
  have Nc0g0 := Lib.hid (show w.heap.size + 1 + 1 ≠ gg0 from Nat.ne_of_lt (Nat.lt_of_lt_of_le Xc0.out.lt eg0))
  have Nd0g0 := Lib.hid (show w2.heap.size ≠ gg0 from Nat.ne_of_lt (Nat.lt_of_lt_of_le Xd0.out.lt eg0))
  have Ne0g0 := Lib.hid (show w8.heap.size ≠ gg0 from Nat.ne_of_lt (Nat.lt_of_lt_of_le Xe0.out.lt eg0))
  have Nf0g0 := Lib.hid (show w8.heap.size + 1 ≠ gg0 from Nat.ne_of_lt (Nat.lt_of_lt_of_le Xf0.out.lt eg0))
  have Gg0 := Lib.hid (show w.heap.size ≤ gg0 from Nat.le_trans HB.out.size eg0)
  have Eg0 := Lib.hid eg0
  clear eg0
  have Ha := Lib.hid (AR.keep Ha.out (Keep.call HG.out))
  have Hb := Lib.hid (AR.keep Hb.out (Keep.call HG.out))
  have Hc := Lib.hid (AR.keep Hc.out (Keep.call HG.out))
  have Xa0 := Lib.hid (Box.pcall HG.out Xa0.out)
  have Xb0 := Lib.hid (Box.pcall HG.out Xb0.out)
  have Xc0 := Lib.hid (Box.pcall HG.out Xc0.out)
  have Xd0 := Lib.hid (Box.pcall HG.out Xd0.out)
  have Xe0 := Lib.hid (Box.pcall HG.out Xe0.out)
  have Xf0 := Lib.hid (Box.pcall HG.out Xf0.out)
  have HB := Lib.hid (below_call HB.out HG.out)
  have HS := Lib.hid (SE.of (E := []) HG.out)
  have Xg0 := Lib.hid xg0
  clear xg0
  simp only [Act.put, List.setIfInBounds_toArray, List.set_cons_zero, List.set_cons_succ]
  refine held_oneX 9 (Go.Op.store 25 (Go.Operand.tmp 11) (Go.Operand.tmp 53)) (none) (World.setCell (World.setCell (World.setCell w18 ⟨gg0, 0, none⟩ (.bool v4_b)) ⟨gg0, 1, none⟩ (.slice v4_a v4_n v4_c)) ⟨gg0, 2, none⟩ (.slice v4_d v4_m v4_e)) (by kernel_rfl) (by kernel_rfl) (by kernel_rfl) (by kernel_rfl) ?_ (HS.out.store3 (.inr Eg0.out)) ?_
  · obtain ⟨cg00, cg01, cg02, fg00, fg01, fg02⟩ := Xg0.out.c3
    first | (go_simp; done) | (go_simp; simp_all; done) | (go_simp; rfl)
  obtain ⟨W19, hW⟩ : ∃ W19, W19 = (World.setCell (World.setCell (World.setCell w18 ⟨gg0, 0, none⟩ (.bool v4_b)) ⟨gg0, 1, none⟩ (.slice v4_a v4_n v4_c)) ⟨gg0, 2, none⟩ (.slice v4_d v4_m v4_e)) := ⟨_, rfl⟩
  rw [← hW]
  obtain ⟨xg0, hk, hf, hbb, hz⟩ := stored3s hW Xg0.out (by first | exact NoInt.bool _ | exact NoInt.slice _ _ _) (by first | exact NoInt.bool _ | exact NoInt.slice _ _ _) (by first | exact NoInt.bool _ | exact NoInt.slice _ _ _)
  have Ha := Lib.hid (AR.keep Ha.out hk)
  have Hb := Lib.hid (AR.keep Hb.out hk)
  have Hc := Lib.hid (AR.keep Hc.out hk)
  have Hv4 := Lib.hid (CR.keep Hv4.out hk)
  have Xa0 := Lib.hid (hf _ _ _ Xa0.out Na0g0.out)
  have Xb0 := Lib.hid (hf _ _ _ Xb0.out Nb0g0.out)
  have Xc0 := Lib.hid (hf _ _ _ Xc0.out Nc0g0.out)
  have Xd0 := Lib.hid (hf _ _ _ Xd0.out Nd0g0.out)
  have Xe0 := Lib.hid (hf _ _ _ Xe0.out Ne0g0.out)
  have Xf0 := Lib.hid (hf _ _ _ Xf0.out Nf0g0.out)
  have Xg0 := Lib.hid xg0
  have HB := Lib.hid (hbb _ HB.out Gg0.out)
  have HS := Lib.hid (show SE (W9.drew) [] W19 from by rw [hW]; exact HS.out.store3 (.inr Eg0.out))
  clear hW hk hf hbb xg0
  clear hz
  refine wpAnyH_done (by kernel_rfl) ?_ _
  clear HG HS Hok Eg0
  obtain ⟨ca00, ca01, ca02, fa00, fa01, fa02⟩ := Xa0.out.c3
  have la0 := Xa0.out.lt
  obtain ⟨cb00, cb01, cb02, fb00, fb01, fb02⟩ := Xb0.out.c3
  have lb0 := Xb0.out.lt
  obtain ⟨cc00, cc01, cc02, fc00, fc01, fc02⟩ := Xc0.out.c3
  have lc0 := Xc0.out.lt
  obtain ⟨ce00, ce01, ce02, fe00, fe01, fe02⟩ := Xe0.out.c3
  have le0 := Xe0.out.lt
  obtain ⟨cf00, cf01, cf02, ff00, ff01, ff02⟩ := Xf0.out.c3
  have lf0 := Xf0.out.lt
  obtain ⟨cg00, cg01, cg02, fg00, fg01, fg02⟩ := Xg0.out.c3
  have lg0 := Xg0.out.lt
  go_wp2_with fail
  clear ca00 ca01 ca02 fa00 fa01 fa02 la0 cb00 cb01 cb02 fb00 fb01 fb02 lb0 cc00 cc01 cc02 fc00 fc01 fc02 lc0 ce00 ce01 ce02 fe00 fe01 fe02 le0 cf00 cf01 cf02 ff00 ff01 ff02 lf0 cg00 cg01 cg02 fg00 fg01 fg02 lg0
  have Ha := Lib.hid (AR.keep Ha.out (Keep.drew W19))
  have Hb := Lib.hid (AR.keep Hb.out (Keep.drew W19))
  have Hc := Lib.hid (AR.keep Hc.out (Keep.drew W19))
  have Hv4 := Lib.hid (CR.keep Hv4.out (Keep.drew W19))
  have Xa0 := Lib.hid (Box.drew Xa0.out)
  have Xb0 := Lib.hid (Box.drew Xb0.out)
  have Xc0 := Lib.hid (Box.drew Xc0.out)
  have Xd0 := Lib.hid (Box.drew Xd0.out)
  have Xe0 := Lib.hid (Box.drew Xe0.out)
  have Xf0 := Lib.hid (Box.drew Xf0.out)
  have Xg0 := Lib.hid (Box.drew Xg0.out)
  have HB := Lib.hid (Below.drew HB.out)
  refine wp_region_float [] [] (by kernel_rfl) (by kernel_rfl) 73 (by kernel_rfl) Flok.nil ?_
  intro ok
  have Hok := Lib.hid ok
  clear ok
  have HG := Lib.hid (Below.refl (W19.drew).heap.size (W19.drew))
  refine good_pureX 0 (some 54) (Go.Op.load 25 (Go.Operand.tmp 11)) (none) (.agg #[.bool v4_b, .slice v4_a v4_n v4_c, .slice v4_d v4_m v4_e]) (by kernel_rfl) (by kernel_rfl) (by kernel_rfl) (fun _ _ _ h => h) (fun w' hw' => ?_) ?_
  · obtain ⟨cg00, cg01, cg02, fg00, fg01, fg02⟩ := (Box.se hw' Xg0.out notin0).c3
    first | (go_simp; done) | (go_simp; simp_all; done) | (go_simp; rfl)
  simp only [Act.put, List.setIfInBounds_toArray, List.set_cons_zero, List.set_cons_succ]
  refine good_pureX 1 (some 55) (Go.Op.load 25 (Go.Operand.tmp 3)) (none) (.agg #[.bool ba, .slice sa na ca, .slice ta ma ea]) (by kernel_rfl) (by kernel_rfl) (by kernel_rfl) (fun _ _ _ h => h) (fun w' hw' => ?_) ?_
  · obtain ⟨ca00, ca01, ca02, fa00, fa01, fa02⟩ := (Box.se hw' Xa0.out notin0).c3
    first | (go_simp; done) | (go_simp; simp_all; done) | (go_simp; rfl)
  simp only [Act.put, List.setIfInBounds_toArray, List.set_cons_zero, List.set_cons_succ]
  refine good_pureX 2 (some 56) (Go.Op.load 25 (Go.Operand.tmp 4)) (none) (.agg #[.bool bb, .slice sb nb cb, .slice tb mb eb]) (by kernel_rfl) (by kernel_rfl) (by kernel_rfl) (fun _ _ _ h => h) (fun w' hw' => ?_) ?_
  · obtain ⟨cb00, cb01, cb02, fb00, fb01, fb02⟩ := (Box.se hw' Xb0.out notin0).c3
    first | (go_simp; done) | (go_simp; simp_all; done) | (go_simp; rfl)
  simp only [Act.put, List.setIfInBounds_toArray, List.set_cons_zero, List.set_cons_succ]
  refine good_callX 3 19 (some 57) #[Go.Operand.tmp 55, Go.Operand.tmp 56] #[25, 25] (none) #[.agg #[.bool ba, .slice sa na ca, .slice ta ma ea], .agg #[.bool bb, .slice sb nb cb, .slice tb mb eb]] (by kernel_rfl) Hok.out (by kernel_rfl) (by kernel_rfl) (by kernel_rfl) (by kernel_rfl) rfl rfl rfl (by kernel_rfl) (fun w20 hb => ?_)
  have HG := Lib.hid (below_call HG.out hb)
  clear hb
  (first | (have hcall := rlgap_ar (AR.keep Ha.out (Keep.call HG.out)) (AR.keep Hb.out (Keep.call HG.out)) (by decide); refine Calls.mono hcall ?_; clear hcall) | refine Calls.mono (rlgap_ar (AR.keep Ha.out (Keep.call HG.out)) (AR.keep Hb.out (Keep.call HG.out)) (by decide)) ?_)
  rintro e w21 ⟨v21, rfl, hg2, hb⟩
  obtain ⟨g2_b, g2_a, g2_n, g2_c, g2_d, g2_m, g2_e, rfl⟩ := hg2.litb
  refine ⟨_, rfl, ?_, hb⟩
  have HG := Lib.hid (below_call HG.out hb)
  have Hg2 := Lib.hid hg2
  clear hb hg2
  simp only [Act.put, List.setIfInBounds_toArray, List.set_cons_zero, List.set_cons_succ]
  refine good_callX 4 24 (some 58) #[Go.Operand.tmp 54, Go.Operand.tmp 57] #[25, 25] (none) #[.agg #[.bool v4_b, .slice v4_a v4_n v4_c, .slice v4_d v4_m v4_e], .agg #[.bool g2_b, .slice g2_a g2_n g2_c, .slice g2_d g2_m g2_e]] (by kernel_rfl) Hok.out (by kernel_rfl) (by kernel_rfl) (by kernel_rfl) (by kernel_rfl) rfl rfl rfl (by kernel_rfl) (fun w22 hb => ?_)
  have Hg2 := Lib.hid (CR.keep Hg2.out (Keep.call hb))
  have HG := Lib.hid (below_call HG.out hb)
  clear hb
  (first | (have hcall := zcmp_ar g (CR.keep Hv4.out (Keep.call HG.out)).ar Hg2.out.ar Hg.out (by decide) (by decide); refine Calls.mono hcall ?_; clear hcall) | refine Calls.mono (zcmp_ar g (CR.keep Hv4.out (Keep.call HG.out)).ar Hg2.out.ar Hg.out (by decide) (by decide)) ?_)
  rintro e w23 ⟨v23, rfl, ⟨⟩, hb⟩
  refine ⟨_, rfl, ?_, hb⟩
  have HG := Lib.hid (below_call HG.out hb)
  clear hb
  simp only [Act.put, List.setIfInBounds_toArray, List.set_cons_zero, List.set_cons_succ]
  refine good_pureX 5 (some 12) (Go.Op.assign (Go.Operand.tmp 58)) (none) (.int .i64 g) (by kernel_rfl) (by kernel_rfl) (by kernel_rfl) (fun _ _ _ h => h) (fun w' hw' => ?_) ?_
  · first | (go_simp; done) | (go_simp; simp_all; done) | (go_simp; rfl)
  simp only [Act.put, List.setIfInBounds_toArray, List.set_cons_zero, List.set_cons_succ]
  refine good_end0 0 (by kernel_rfl) (fun _ w24 hb => ?_)
  have HG := Lib.hid (below_call HG.out hb)
  clear hb
  have Hc := Lib.hid (AR.keep Hc.out (Keep.call HG.out))
  have Xa0 := Lib.hid (Box.pcall HG.out Xa0.out)
  have Xb0 := Lib.hid (Box.pcall HG.out Xb0.out)
  have Xc0 := Lib.hid (Box.pcall HG.out Xc0.out)
  have Xd0 := Lib.hid (Box.pcall HG.out Xd0.out)
  have Xe0 := Lib.hid (Box.pcall HG.out Xe0.out)
  have Xf0 := Lib.hid (Box.pcall HG.out Xf0.out)
  have Xg0 := Lib.hid (Box.pcall HG.out Xg0.out)
  have HB := Lib.hid (below_call HB.out HG.out)
  have HS := Lib.hid (SE.of (E := []) HG.out)
  refine wpAnyH_done (by kernel_rfl) ?_ _
  clear HG HS Hok 
  obtain ⟨ca00, ca01, ca02, fa00, fa01, fa02⟩ := Xa0.out.c3
  have la0 := Xa0.out.lt
  obtain ⟨cb00, cb01, cb02, fb00, fb01, fb02⟩ := Xb0.out.c3
  have lb0 := Xb0.out.lt
  obtain ⟨cc00, cc01, cc02, fc00, fc01, fc02⟩ := Xc0.out.c3
  have lc0 := Xc0.out.lt
  obtain ⟨ce00, ce01, ce02, fe00, fe01, fe02⟩ := Xe0.out.c3
  have le0 := Xe0.out.lt
  obtain ⟨cf00, cf01, cf02, ff00, ff01, ff02⟩ := Xf0.out.c3
  have lf0 := Xf0.out.lt
  obtain ⟨cg00, cg01, cg02, fg00, fg01, fg02⟩ := Xg0.out.c3
  have lg0 := Xg0.out.lt
  go_wp2_with fail
  clear ca00 ca01 ca02 fa00 fa01 fa02 la0 cb00 cb01 cb02 fb00 fb01 fb02 lb0 cc00 cc01 cc02 fc00 fc01 fc02 lc0 ce00 ce01 ce02 fe00 fe01 fe02 le0 cf00 cf01 cf02 ff00 ff01 ff02 lf0 cg00 cg01 cg02 fg00 fg01 fg02 lg0
  (first | (have hcall := zsign_ar e Hc.out He.out; refine Calls.mono hcall ?_; clear hcall) | refine Calls.mono (zsign_ar e Hc.out He.out) ?_)
  rintro e w25 ⟨v25, rfl, ⟨⟩, hb⟩
  have Xa0 := Lib.hid (Box.pcall hb Xa0.out)
  have Xb0 := Lib.hid (Box.pcall hb Xb0.out)
  have Xc0 := Lib.hid (Box.pcall hb Xc0.out)
  have Xd0 := Lib.hid (Box.pcall hb Xd0.out)
  have Xe0 := Lib.hid (Box.pcall hb Xe0.out)
  have Xf0 := Lib.hid (Box.pcall hb Xf0.out)
  have Xg0 := Lib.hid (Box.pcall hb Xg0.out)
  have HB := Lib.hid (below_call HB.out hb)
  clear hb
  obtain ⟨ca00, ca01, ca02, fa00, fa01, fa02⟩ := Xa0.out.c3
  have la0 := Xa0.out.lt
  obtain ⟨cb00, cb01, cb02, fb00, fb01, fb02⟩ := Xb0.out.c3
  have lb0 := Xb0.out.lt
  obtain ⟨cc00, cc01, cc02, fc00, fc01, fc02⟩ := Xc0.out.c3
  have lc0 := Xc0.out.lt
  obtain ⟨ce00, ce01, ce02, fe00, fe01, fe02⟩ := Xe0.out.c3
  have le0 := Xe0.out.lt
  obtain ⟨cf00, cf01, cf02, ff00, ff01, ff02⟩ := Xf0.out.c3
  have lf0 := Xf0.out.lt
  obtain ⟨cg00, cg01, cg02, fg00, fg01, fg02⟩ := Xg0.out.c3
  have lg0 := Xg0.out.lt
  go_wp2
  clear ca00 ca01 ca02 fa00 fa01 fa02 la0 cb00 cb01 cb02 fb00 fb01 fb02 lb0 cc00 cc01 cc02 fc00 fc01 fc02 lc0 ce00 ce01 ce02 fe00 fe01 fe02 le0 cf00 cf01 cf02 ff00 ff01 ff02 lf0 cg00 cg01 cg02 fg00 fg01 fg02 lg0
  go_ret
  exact ⟨_, rfl, rfl, HB.out⟩


theorem RelaxGap_all (ba : Bool) (sa : Option Addr) (na ca : Nat) (ta : Option Addr) (ma ea : Nat) (bb : Bool) (sb : Option Addr) (nb cb : Nat) (tb : Option Addr) (mb eb : Nat) (bc : Bool) (sc : Option Addr) (nc cc : Nat) (tc : Option Addr) (mc ec : Nat) (w : World) (ra : Row w (.slice sa na ca) na) (ua : Row w (.slice ta ma ea) ma) (rb : Row w (.slice sb nb cb) nb) (ub : Row w (.slice tb mb eb) mb) (rc : Row w (.slice sc nc cc) nc) (uc : Row w (.slice tc mc ec) mc) : Calls Try.prog 6 #[.agg #[.bool ba, .slice sa na ca, .slice ta ma ea], .agg #[.bool bb, .slice sb nb cb, .slice tb mb eb], .agg #[.bool bc, .slice sc nc cc, .slice tc mc ec]] w (Ret w (Val (.bool true))) := by
  cases hB : ([⟨ba, sa, na, ca, ta, ma, ea⟩, ⟨bb, sb, nb, cb, tb, mb, eb⟩, ⟨bc, sc, nc, cc, tc, mc, ec⟩] : List Rw).any Rw.big
  case true => exact lgap_big hB
  have hs : na ≤ 8 ∧ ma ≤ 8 ∧ nb ≤ 8 ∧ mb ≤ 8 ∧ nc ≤ 8 ∧ mc ≤ 8 := by
    simp [Rw.big] at hB
    omega
  obtain ⟨qa, ha⟩ := ra.ar (b := ba) ua 8 (by omega) (by omega) (by decide)
  obtain ⟨qb, hb⟩ := rb.ar (b := bb) ub 8 (by omega) (by omega) (by decide)
  obtain ⟨qc, hc⟩ := rc.ar (b := bc) uc 8 (by omega) (by omega) (by decide)
  cases hu : unst qa qb
  · exact lgap_n hu hB ha hb hc
  by_cases h1 : cmpQ qc qa < 0
  · exact lgap_lt hu _ rfl (decide_eq_true h1) hB ha hb hc
  by_cases h2 : 0 < cmpQ qc qb
  · exact lgap_gt hu _ rfl (decide_eq_false h1) _ rfl (decide_eq_true h2) hB ha hb hc
  obtain ⟨f1, f2⟩ := gap_far (p := qc) hu
  by_cases h3 : cmpQ (upQ qa qb * qc + gapQ qa qb - relu qc) (gapQ qa qb) = 0
  · exact lgap_yt hu _ rfl (decide_eq_false h1) _ rfl (decide_eq_false h2) _ rfl _ rfl (decide_eq_true f1) (beq_iff_eq.2 h3) _ rfl (beq_iff_eq.2 (f2.1 h3)) hB ha hb hc
  · exact lgap_yf hu _ rfl (decide_eq_false h1) _ rfl (decide_eq_false h2) _ rfl _ rfl (decide_eq_true f1) (beq_eq_false_iff_ne.2 h3) _ rfl (beq_eq_false_iff_ne.2 (mt f2.2 h3)) hB ha hb hc

set_option maxRecDepth 100000 in
set_option maxHeartbeats 4000000 in
theorem lare_big {ba : Bool} {sa ta : Option Addr} {na ca ma ea : Nat} {bb : Bool} {sb tb : Option Addr} {nb cb mb eb : Nat} {bc : Bool} {sc tc : Option Addr} {nc cc mc ec : Nat}  {w : World} (hB8 : ([⟨ba, sa, na, ca, ta, ma, ea⟩, ⟨bb, sb, nb, cb, tb, mb, eb⟩, ⟨bc, sc, nc, cc, tc, mc, ec⟩] : List Rw).any Rw.big = true)  :
    Calls Try.prog 4 #[.agg #[.bool ba, .slice sa na ca, .slice ta ma ea], .agg #[.bool bb, .slice sb nb cb, .slice tb mb eb], .agg #[.bool bc, .slice sc nc cc, .slice tc mc ec]] w (Ret w (Val (.bool true))) := by
  have HB8 := Lib.hid hB8
  clear hB8
  go_enter Try.func4, Try.ntmps4
  have HB := Lib.hid (Below.refl w.heap.size w)
  go_wp2_with fail
  obtain ⟨W1, hW⟩ : ∃ W1, W1 = (World.alloc (World.alloc (World.alloc w (.cells #[.bool ba, .slice sa na ca, .slice ta ma ea] 25)) (.cells #[.bool bb, .slice sb nb cb, .slice tb mb eb] 25)) (.cells #[.bool bc, .slice sc nc cc, .slice tc mc ec] 25)) := ⟨_, rfl⟩
  rw [← hW]
  obtain ⟨xa0, xb0, xc0, hk, hb⟩ := boxes_3 _ _ _ _ _ _ _ hW
  clear hW
  have Ga0 := Lib.hid (show w.heap.size ≤ w.heap.size from Nat.le_trans HB.out.size (by omega))
  have Gb0 := Lib.hid (show w.heap.size ≤ w.heap.size + 1 from Nat.le_trans HB.out.size (by omega))
  have Gc0 := Lib.hid (show w.heap.size ≤ w.heap.size + 1 + 1 from Nat.le_trans HB.out.size (by omega))
  have Xa0 := Lib.hid xa0
  have Xb0 := Lib.hid xb0
  have Xc0 := Lib.hid xc0
  have HB := Lib.hid (below_call HB.out hb)
  clear hk hb xa0 xb0 xc0
  refine Calls.mono (awake25) ?_
  rintro e w2 ⟨v2, rfl, rfl, hb⟩
  have Xa0 := Lib.hid (Box.pcall hb Xa0.out)
  have Xb0 := Lib.hid (Box.pcall hb Xb0.out)
  have Xc0 := Lib.hid (Box.pcall hb Xc0.out)
  have HB := Lib.hid (below_call HB.out hb)
  clear hb
  obtain ⟨ca00, ca01, ca02, fa00, fa01, fa02⟩ := Xa0.out.c3
  have la0 := Xa0.out.lt
  obtain ⟨cb00, cb01, cb02, fb00, fb01, fb02⟩ := Xb0.out.c3
  have lb0 := Xb0.out.lt
  obtain ⟨cc00, cc01, cc02, fc00, fc01, fc02⟩ := Xc0.out.c3
  have lc0 := Xc0.out.lt
  go_wp2_with fail
  clear ca00 ca01 ca02 fa00 fa01 fa02 la0 cb00 cb01 cb02 fb00 fb01 fb02 lb0 cc00 cc01 cc02 fc00 fc01 fc02 lc0
  obtain ⟨W3, hW⟩ : ∃ W3, W3 = (World.alloc w2 (.cells #[.bool ba, .slice sa na ca, .slice ta ma ea, .bool bb, .slice sb nb cb, .slice tb mb eb, .bool bc, .slice sc nc cc, .slice tc mc ec] 25)) := ⟨_, rfl⟩
  rw [← hW]
  obtain ⟨xd0, hk, hb⟩ := boxes_1 _ _ _ hW
  clear hW
  have Na0d0 := Lib.hid (show w.heap.size ≠ w2.heap.size from Nat.ne_of_lt (Nat.lt_of_lt_of_le Xa0.out.lt (by omega)))
  have Nb0d0 := Lib.hid (show w.heap.size + 1 ≠ w2.heap.size from Nat.ne_of_lt (Nat.lt_of_lt_of_le Xb0.out.lt (by omega)))
  have Nc0d0 := Lib.hid (show w.heap.size + 1 + 1 ≠ w2.heap.size from Nat.ne_of_lt (Nat.lt_of_lt_of_le Xc0.out.lt (by omega)))
  have Gd0 := Lib.hid (show w.heap.size ≤ w2.heap.size from Nat.le_trans HB.out.size (by omega))
  have Xa0 := Lib.hid (Box.pcall hb Xa0.out)
  have Xb0 := Lib.hid (Box.pcall hb Xb0.out)
  have Xc0 := Lib.hid (Box.pcall hb Xc0.out)
  have Xd0 := Lib.hid xd0
  have HB := Lib.hid (below_call HB.out hb)
  clear hk hb xd0
  refine Calls.mono (large3 Xd0.out HB8.out) ?_
  rintro e w4 ⟨v4, rfl, rfl, hb⟩
  have Xa0 := Lib.hid (Box.pcall hb Xa0.out)
  have Xb0 := Lib.hid (Box.pcall hb Xb0.out)
  have Xc0 := Lib.hid (Box.pcall hb Xc0.out)
  have Xd0 := Lib.hid (Box.pcall hb Xd0.out)
  have HB := Lib.hid (below_call HB.out hb)
  clear hb
  obtain ⟨ca00, ca01, ca02, fa00, fa01, fa02⟩ := Xa0.out.c3
  have la0 := Xa0.out.lt
  obtain ⟨cb00, cb01, cb02, fb00, fb01, fb02⟩ := Xb0.out.c3
  have lb0 := Xb0.out.lt
  obtain ⟨cc00, cc01, cc02, fc00, fc01, fc02⟩ := Xc0.out.c3
  have lc0 := Xc0.out.lt
  go_wp2
  clear ca00 ca01 ca02 fa00 fa01 fa02 la0 cb00 cb01 cb02 fb00 fb01 fb02 lb0 cc00 cc01 cc02 fc00 fc01 fc02 lc0
  go_ret
  exact ⟨_, rfl, rfl, HB.out⟩


set_option maxRecDepth 100000 in
set_option maxHeartbeats 4000000 in
theorem lare_n {qa : Rat} {ba : Bool} {sa ta : Option Addr} {na ca ma ea : Nat} {qb : Rat} {bb : Bool} {sb tb : Option Addr} {nb cb mb eb : Nat} {qc : Rat} {bc : Bool} {sc tc : Option Addr} {nc cc mc ec : Nat}  {w : World} (hv : unst qa qb = false ∨ qc < 0 ∨ ((1 : Int) : Rat) < qc) (hB8 : ([⟨ba, sa, na, ca, ta, ma, ea⟩, ⟨bb, sb, nb, cb, tb, mb, eb⟩, ⟨bc, sc, nc, cc, tc, mc, ec⟩] : List Rw).any Rw.big = false) (ha : AR qa 8 w (.agg #[.bool ba, .slice sa na ca, .slice ta ma ea])) (hb : AR qb 8 w (.agg #[.bool bb, .slice sb nb cb, .slice tb mb eb])) (hc : AR qc 8 w (.agg #[.bool bc, .slice sc nc cc, .slice tc mc ec])) :
    Calls Try.prog 4 #[.agg #[.bool ba, .slice sa na ca, .slice ta ma ea], .agg #[.bool bb, .slice sb nb cb, .slice tb mb eb], .agg #[.bool bc, .slice sc nc cc, .slice tc mc ec]] w (Ret w (Val (.bool true))) := by
  have Ha := Lib.hid ha
  have Hb := Lib.hid hb
  have Hc := Lib.hid hc
  have HB8 := Lib.hid hB8
  have Hv := Lib.hid hv
  clear ha hb hc hB8 hv
  go_enter Try.func4, Try.ntmps4
  have HB := Lib.hid (Below.refl w.heap.size w)
  go_wp2_with fail
  obtain ⟨W1, hW⟩ : ∃ W1, W1 = (World.alloc (World.alloc (World.alloc w (.cells #[.bool ba, .slice sa na ca, .slice ta ma ea] 25)) (.cells #[.bool bb, .slice sb nb cb, .slice tb mb eb] 25)) (.cells #[.bool bc, .slice sc nc cc, .slice tc mc ec] 25)) := ⟨_, rfl⟩
  rw [← hW]
  obtain ⟨xa0, xb0, xc0, hk, hb⟩ := boxes_3 _ _ _ _ _ _ _ hW
  clear hW
  have Ha := Lib.hid (AR.keep Ha.out hk)
  have Hb := Lib.hid (AR.keep Hb.out hk)
  have Hc := Lib.hid (AR.keep Hc.out hk)
  have Ga0 := Lib.hid (show w.heap.size ≤ w.heap.size from Nat.le_trans HB.out.size (by omega))
  have Gb0 := Lib.hid (show w.heap.size ≤ w.heap.size + 1 from Nat.le_trans HB.out.size (by omega))
  have Gc0 := Lib.hid (show w.heap.size ≤ w.heap.size + 1 + 1 from Nat.le_trans HB.out.size (by omega))
  have Xa0 := Lib.hid xa0
  have Xb0 := Lib.hid xb0
  have Xc0 := Lib.hid xc0
  have HB := Lib.hid (below_call HB.out hb)
  clear hk hb xa0 xb0 xc0
  refine Calls.mono (awake25) ?_
  rintro e w2 ⟨v2, rfl, rfl, hb⟩
  have Ha := Lib.hid (AR.keep Ha.out (Keep.call hb))
  have Hb := Lib.hid (AR.keep Hb.out (Keep.call hb))
  have Hc := Lib.hid (AR.keep Hc.out (Keep.call hb))
  have Xa0 := Lib.hid (Box.pcall hb Xa0.out)
  have Xb0 := Lib.hid (Box.pcall hb Xb0.out)
  have Xc0 := Lib.hid (Box.pcall hb Xc0.out)
  have HB := Lib.hid (below_call HB.out hb)
  clear hb
  obtain ⟨ca00, ca01, ca02, fa00, fa01, fa02⟩ := Xa0.out.c3
  have la0 := Xa0.out.lt
  obtain ⟨cb00, cb01, cb02, fb00, fb01, fb02⟩ := Xb0.out.c3
  have lb0 := Xb0.out.lt
  obtain ⟨cc00, cc01, cc02, fc00, fc01, fc02⟩ := Xc0.out.c3
  have lc0 := Xc0.out.lt
  go_wp2_with fail
  clear ca00 ca01 ca02 fa00 fa01 fa02 la0 cb00 cb01 cb02 fb00 fb01 fb02 lb0 cc00 cc01 cc02 fc00 fc01 fc02 lc0
  obtain ⟨W3, hW⟩ : ∃ W3, W3 = (World.alloc w2 (.cells #[.bool ba, .slice sa na ca, .slice ta ma ea, .bool bb, .slice sb nb cb, .slice tb mb eb, .bool bc, .slice sc nc cc, .slice tc mc ec] 25)) := ⟨_, rfl⟩
  rw [← hW]
  obtain ⟨xd0, hk, hb⟩ := boxes_1 _ _ _ hW
  clear hW
  have Ha := Lib.hid (AR.keep Ha.out hk)
  have Hb := Lib.hid (AR.keep Hb.out hk)
  have Hc := Lib.hid (AR.keep Hc.out hk)
  have Na0d0 := Lib.hid (show w.heap.size ≠ w2.heap.size from Nat.ne_of_lt (Nat.lt_of_lt_of_le Xa0.out.lt (by omega)))
  have Nb0d0 := Lib.hid (show w.heap.size + 1 ≠ w2.heap.size from Nat.ne_of_lt (Nat.lt_of_lt_of_le Xb0.out.lt (by omega)))
  have Nc0d0 := Lib.hid (show w.heap.size + 1 + 1 ≠ w2.heap.size from Nat.ne_of_lt (Nat.lt_of_lt_of_le Xc0.out.lt (by omega)))
  have Gd0 := Lib.hid (show w.heap.size ≤ w2.heap.size from Nat.le_trans HB.out.size (by omega))
  have Xa0 := Lib.hid (Box.pcall hb Xa0.out)
  have Xb0 := Lib.hid (Box.pcall hb Xb0.out)
  have Xc0 := Lib.hid (Box.pcall hb Xc0.out)
  have Xd0 := Lib.hid xd0
  have HB := Lib.hid (below_call HB.out hb)
  clear hk hb xd0
  refine Calls.mono (large3 Xd0.out HB8.out) ?_
  rintro e w4 ⟨v4, rfl, rfl, hb⟩
  have Ha := Lib.hid (AR.keep Ha.out (Keep.call hb))
  have Hb := Lib.hid (AR.keep Hb.out (Keep.call hb))
  have Hc := Lib.hid (AR.keep Hc.out (Keep.call hb))
  have Xa0 := Lib.hid (Box.pcall hb Xa0.out)
  have Xb0 := Lib.hid (Box.pcall hb Xb0.out)
  have Xc0 := Lib.hid (Box.pcall hb Xc0.out)
  have Xd0 := Lib.hid (Box.pcall hb Xd0.out)
  have HB := Lib.hid (below_call HB.out hb)
  clear hb
  obtain ⟨ca00, ca01, ca02, fa00, fa01, fa02⟩ := Xa0.out.c3
  have la0 := Xa0.out.lt
  obtain ⟨cb00, cb01, cb02, fb00, fb01, fb02⟩ := Xb0.out.c3
  have lb0 := Xb0.out.lt
  obtain ⟨cc00, cc01, cc02, fc00, fc01, fc02⟩ := Xc0.out.c3
  have lc0 := Xc0.out.lt
  go_wp2_with fail
  clear ca00 ca01 ca02 fa00 fa01 fa02 la0 cb00 cb01 cb02 fb00 fb01 fb02 lb0 cc00 cc01 cc02 fc00 fc01 fc02 lc0
  (first | (have hcall := rlare_no_ar Hv.out Ha.out Hb.out Hc.out (by decide); refine Calls.mono hcall ?_; clear hcall) | refine Calls.mono (rlare_no_ar Hv.out Ha.out Hb.out Hc.out (by decide)) ?_)
  rintro e w5 ⟨v5, rfl, rfl, hb⟩
  have Ha := Lib.hid (AR.keep Ha.out (Keep.call hb))
  have Hb := Lib.hid (AR.keep Hb.out (Keep.call hb))
  have Hc := Lib.hid (AR.keep Hc.out (Keep.call hb))
  have Xa0 := Lib.hid (Box.pcall hb Xa0.out)
  have Xb0 := Lib.hid (Box.pcall hb Xb0.out)
  have Xc0 := Lib.hid (Box.pcall hb Xc0.out)
  have Xd0 := Lib.hid (Box.pcall hb Xd0.out)
  have HB := Lib.hid (below_call HB.out hb)
  clear hb
  obtain ⟨ca00, ca01, ca02, fa00, fa01, fa02⟩ := Xa0.out.c3
  have la0 := Xa0.out.lt
  obtain ⟨cb00, cb01, cb02, fb00, fb01, fb02⟩ := Xb0.out.c3
  have lb0 := Xb0.out.lt
  obtain ⟨cc00, cc01, cc02, fc00, fc01, fc02⟩ := Xc0.out.c3
  have lc0 := Xc0.out.lt
  go_wp2_with fail
  clear ca00 ca01 ca02 fa00 fa01 fa02 la0 cb00 cb01 cb02 fb00 fb01 fb02 lb0 cc00 cc01 cc02 fc00 fc01 fc02 lc0
  obtain ⟨W6, hW⟩ : ∃ W6, W6 = (World.alloc w5 (.cells #[.bool false, .slice none 0 0, .slice none 0 0] 25)) := ⟨_, rfl⟩
  rw [← hW]
  obtain ⟨xe0, hk, hb⟩ := boxes_1 _ _ _ hW
  clear hW
  have Ha := Lib.hid (AR.keep Ha.out hk)
  have Hb := Lib.hid (AR.keep Hb.out hk)
  have Hc := Lib.hid (AR.keep Hc.out hk)
  have Na0e0 := Lib.hid (show w.heap.size ≠ w5.heap.size from Nat.ne_of_lt (Nat.lt_of_lt_of_le Xa0.out.lt (by omega)))
  have Nb0e0 := Lib.hid (show w.heap.size + 1 ≠ w5.heap.size from Nat.ne_of_lt (Nat.lt_of_lt_of_le Xb0.out.lt (by omega)))
  have Nc0e0 := Lib.hid (show w.heap.size + 1 + 1 ≠ w5.heap.size from Nat.ne_of_lt (Nat.lt_of_lt_of_le Xc0.out.lt (by omega)))
  have Nd0e0 := Lib.hid (show w2.heap.size ≠ w5.heap.size from Nat.ne_of_lt (Nat.lt_of_lt_of_le Xd0.out.lt (by omega)))
  have Ge0 := Lib.hid (show w.heap.size ≤ w5.heap.size from Nat.le_trans HB.out.size (by omega))
  have Xa0 := Lib.hid (Box.pcall hb Xa0.out)
  have Xb0 := Lib.hid (Box.pcall hb Xb0.out)
  have Xc0 := Lib.hid (Box.pcall hb Xc0.out)
  have Xd0 := Lib.hid (Box.pcall hb Xd0.out)
  have Xe0 := Lib.hid xe0
  have HB := Lib.hid (below_call HB.out hb)
  clear hk hb xe0
  (first | (have hcall := zlare_no_ar Hv.out Ha.out Hb.out Hc.out (by decide); refine Calls.mono hcall ?_; clear hcall) | refine Calls.mono (zlare_no_ar Hv.out Ha.out Hb.out Hc.out (by decide)) ?_)
  rintro e w7 ⟨v7, rfl, rfl, hb⟩
  have Xa0 := Lib.hid (Box.pcall hb Xa0.out)
  have Xb0 := Lib.hid (Box.pcall hb Xb0.out)
  have Xc0 := Lib.hid (Box.pcall hb Xc0.out)
  have Xd0 := Lib.hid (Box.pcall hb Xd0.out)
  have Xe0 := Lib.hid (Box.pcall hb Xe0.out)
  have HB := Lib.hid (below_call HB.out hb)
  clear hb
  obtain ⟨ca00, ca01, ca02, fa00, fa01, fa02⟩ := Xa0.out.c3
  have la0 := Xa0.out.lt
  obtain ⟨cb00, cb01, cb02, fb00, fb01, fb02⟩ := Xb0.out.c3
  have lb0 := Xb0.out.lt
  obtain ⟨cc00, cc01, cc02, fc00, fc01, fc02⟩ := Xc0.out.c3
  have lc0 := Xc0.out.lt
  obtain ⟨ce00, ce01, ce02, fe00, fe01, fe02⟩ := Xe0.out.c3
  have le0 := Xe0.out.lt
  go_wp2_with fail
  clear ca00 ca01 ca02 fa00 fa01 fa02 la0 cb00 cb01 cb02 fb00 fb01 fb02 lb0 cc00 cc01 cc02 fc00 fc01 fc02 lc0 ce00 ce01 ce02 fe00 fe01 fe02 le0
  obtain ⟨W8, hW⟩ : ∃ W8, W8 = (World.alloc w7 (.cells #[.bool false, .slice none 0 0, .slice none 0 0] 25)) := ⟨_, rfl⟩
  rw [← hW]
  obtain ⟨xf0, hk, hb⟩ := boxes_1 _ _ _ hW
  clear hW
  have Na0f0 := Lib.hid (show w.heap.size ≠ w7.heap.size from Nat.ne_of_lt (Nat.lt_of_lt_of_le Xa0.out.lt (by omega)))
  have Nb0f0 := Lib.hid (show w.heap.size + 1 ≠ w7.heap.size from Nat.ne_of_lt (Nat.lt_of_lt_of_le Xb0.out.lt (by omega)))
  have Nc0f0 := Lib.hid (show w.heap.size + 1 + 1 ≠ w7.heap.size from Nat.ne_of_lt (Nat.lt_of_lt_of_le Xc0.out.lt (by omega)))
  have Nd0f0 := Lib.hid (show w2.heap.size ≠ w7.heap.size from Nat.ne_of_lt (Nat.lt_of_lt_of_le Xd0.out.lt (by omega)))
  have Ne0f0 := Lib.hid (show w5.heap.size ≠ w7.heap.size from Nat.ne_of_lt (Nat.lt_of_lt_of_le Xe0.out.lt (by omega)))
  have Gf0 := Lib.hid (show w.heap.size ≤ w7.heap.size from Nat.le_trans HB.out.size (by omega))
  have Xa0 := Lib.hid (Box.pcall hb Xa0.out)
  have Xb0 := Lib.hid (Box.pcall hb Xb0.out)
  have Xc0 := Lib.hid (Box.pcall hb Xc0.out)
  have Xd0 := Lib.hid (Box.pcall hb Xd0.out)
  have Xe0 := Lib.hid (Box.pcall hb Xe0.out)
  have Xf0 := Lib.hid xf0
  have HB := Lib.hid (below_call HB.out hb)
  clear hk hb xf0
  refine Calls.mono (zsame_cr (CR.zero _) (CR.zero _) rfl) ?_
  rintro e w9 ⟨v9, rfl, rfl, hb⟩
  have Xa0 := Lib.hid (Box.pcall hb Xa0.out)
  have Xb0 := Lib.hid (Box.pcall hb Xb0.out)
  have Xc0 := Lib.hid (Box.pcall hb Xc0.out)
  have Xd0 := Lib.hid (Box.pcall hb Xd0.out)
  have Xe0 := Lib.hid (Box.pcall hb Xe0.out)
  have Xf0 := Lib.hid (Box.pcall hb Xf0.out)
  have HB := Lib.hid (below_call HB.out hb)
  clear hb
  obtain ⟨ca00, ca01, ca02, fa00, fa01, fa02⟩ := Xa0.out.c3
  have la0 := Xa0.out.lt
  obtain ⟨cb00, cb01, cb02, fb00, fb01, fb02⟩ := Xb0.out.c3
  have lb0 := Xb0.out.lt
  obtain ⟨cc00, cc01, cc02, fc00, fc01, fc02⟩ := Xc0.out.c3
  have lc0 := Xc0.out.lt
  obtain ⟨ce00, ce01, ce02, fe00, fe01, fe02⟩ := Xe0.out.c3
  have le0 := Xe0.out.lt
  obtain ⟨cf00, cf01, cf02, ff00, ff01, ff02⟩ := Xf0.out.c3
  have lf0 := Xf0.out.lt
  go_wp2
  clear ca00 ca01 ca02 fa00 fa01 fa02 la0 cb00 cb01 cb02 fb00 fb01 fb02 lb0 cc00 cc01 cc02 fc00 fc01 fc02 lc0 ce00 ce01 ce02 fe00 fe01 fe02 le0 cf00 cf01 cf02 ff00 ff01 ff02 lf0
  go_ret
  exact ⟨_, rfl, rfl, HB.out⟩


set_option maxRecDepth 100000 in
set_option maxHeartbeats 4000000 in
theorem lare_y {qa : Rat} {ba : Bool} {sa ta : Option Addr} {na ca ma ea : Nat} {qb : Rat} {bb : Bool} {sb tb : Option Addr} {nb cb mb eb : Nat} {qc : Rat} {bc : Bool} {sc tc : Option Addr} {nc cc mc ec : Nat}  {w : World} (hu : unst qa qb = true) (hp0 : 0 ≤ qc) (hp1 : qc ≤ ((1 : Int) : Rat)) (k : Int) (hk : slopeQ qa qb = k) (hk0 : -9223372036854775808 ≤ k) (hk1 : k < 9223372036854775808) (hp2 : (0 : Rat) ≤ (k : Rat)) (hp3 : (k : Rat) ≤ ((1 : Int) : Rat)) (m : Int) (hm : cmpQ (areaQ qa qb (k : Rat)) (areaQ qa qb qc) = m) (hm0 : decide (m ≤ 0) = true) (hB8 : ([⟨ba, sa, na, ca, ta, ma, ea⟩, ⟨bb, sb, nb, cb, tb, mb, eb⟩, ⟨bc, sc, nc, cc, tc, mc, ec⟩] : List Rw).any Rw.big = false) (ha : AR qa 8 w (.agg #[.bool ba, .slice sa na ca, .slice ta ma ea])) (hb : AR qb 8 w (.agg #[.bool bb, .slice sb nb cb, .slice tb mb eb])) (hc : AR qc 8 w (.agg #[.bool bc, .slice sc nc cc, .slice tc mc ec])) :
    Calls Try.prog 4 #[.agg #[.bool ba, .slice sa na ca, .slice ta ma ea], .agg #[.bool bb, .slice sb nb cb, .slice tb mb eb], .agg #[.bool bc, .slice sc nc cc, .slice tc mc ec]] w (Ret w (Val (.bool true))) := by
  have Ha := Lib.hid ha
  have Hb := Lib.hid hb
  have Hc := Lib.hid hc
  have HB8 := Lib.hid hB8
  have Hu := Lib.hid hu
  have Hp0 := Lib.hid hp0
  have Hp1 := Lib.hid hp1
  have Hk := Lib.hid hk
  have Hk0 := Lib.hid hk0
  have Hk1 := Lib.hid hk1
  have Hp2 := Lib.hid hp2
  have Hp3 := Lib.hid hp3
  have Hm := Lib.hid hm
  clear ha hb hc hB8 hu hp0 hp1 hk hk0 hk1 hp2 hp3 hm
  go_enter Try.func4, Try.ntmps4
  have HB := Lib.hid (Below.refl w.heap.size w)
  go_wp2_with fail
  obtain ⟨W1, hW⟩ : ∃ W1, W1 = (World.alloc (World.alloc (World.alloc w (.cells #[.bool ba, .slice sa na ca, .slice ta ma ea] 25)) (.cells #[.bool bb, .slice sb nb cb, .slice tb mb eb] 25)) (.cells #[.bool bc, .slice sc nc cc, .slice tc mc ec] 25)) := ⟨_, rfl⟩
  rw [← hW]
  obtain ⟨xa0, xb0, xc0, hk, hb⟩ := boxes_3 _ _ _ _ _ _ _ hW
  clear hW
  have Ha := Lib.hid (AR.keep Ha.out hk)
  have Hb := Lib.hid (AR.keep Hb.out hk)
  have Hc := Lib.hid (AR.keep Hc.out hk)
  have Ga0 := Lib.hid (show w.heap.size ≤ w.heap.size from Nat.le_trans HB.out.size (by omega))
  have Gb0 := Lib.hid (show w.heap.size ≤ w.heap.size + 1 from Nat.le_trans HB.out.size (by omega))
  have Gc0 := Lib.hid (show w.heap.size ≤ w.heap.size + 1 + 1 from Nat.le_trans HB.out.size (by omega))
  have Xa0 := Lib.hid xa0
  have Xb0 := Lib.hid xb0
  have Xc0 := Lib.hid xc0
  have HB := Lib.hid (below_call HB.out hb)
  clear hk hb xa0 xb0 xc0
  refine Calls.mono (awake25) ?_
  rintro e w2 ⟨v2, rfl, rfl, hb⟩
  have Ha := Lib.hid (AR.keep Ha.out (Keep.call hb))
  have Hb := Lib.hid (AR.keep Hb.out (Keep.call hb))
  have Hc := Lib.hid (AR.keep Hc.out (Keep.call hb))
  have Xa0 := Lib.hid (Box.pcall hb Xa0.out)
  have Xb0 := Lib.hid (Box.pcall hb Xb0.out)
  have Xc0 := Lib.hid (Box.pcall hb Xc0.out)
  have HB := Lib.hid (below_call HB.out hb)
  clear hb
  obtain ⟨ca00, ca01, ca02, fa00, fa01, fa02⟩ := Xa0.out.c3
  have la0 := Xa0.out.lt
  obtain ⟨cb00, cb01, cb02, fb00, fb01, fb02⟩ := Xb0.out.c3
  have lb0 := Xb0.out.lt
  obtain ⟨cc00, cc01, cc02, fc00, fc01, fc02⟩ := Xc0.out.c3
  have lc0 := Xc0.out.lt
  go_wp2_with fail
  clear ca00 ca01 ca02 fa00 fa01 fa02 la0 cb00 cb01 cb02 fb00 fb01 fb02 lb0 cc00 cc01 cc02 fc00 fc01 fc02 lc0
  obtain ⟨W3, hW⟩ : ∃ W3, W3 = (World.alloc w2 (.cells #[.bool ba, .slice sa na ca, .slice ta ma ea, .bool bb, .slice sb nb cb, .slice tb mb eb, .bool bc, .slice sc nc cc, .slice tc mc ec] 25)) := ⟨_, rfl⟩
  rw [← hW]
  obtain ⟨xd0, hk, hb⟩ := boxes_1 _ _ _ hW
  clear hW
  have Ha := Lib.hid (AR.keep Ha.out hk)
  have Hb := Lib.hid (AR.keep Hb.out hk)
  have Hc := Lib.hid (AR.keep Hc.out hk)
  have Na0d0 := Lib.hid (show w.heap.size ≠ w2.heap.size from Nat.ne_of_lt (Nat.lt_of_lt_of_le Xa0.out.lt (by omega)))
  have Nb0d0 := Lib.hid (show w.heap.size + 1 ≠ w2.heap.size from Nat.ne_of_lt (Nat.lt_of_lt_of_le Xb0.out.lt (by omega)))
  have Nc0d0 := Lib.hid (show w.heap.size + 1 + 1 ≠ w2.heap.size from Nat.ne_of_lt (Nat.lt_of_lt_of_le Xc0.out.lt (by omega)))
  have Gd0 := Lib.hid (show w.heap.size ≤ w2.heap.size from Nat.le_trans HB.out.size (by omega))
  have Xa0 := Lib.hid (Box.pcall hb Xa0.out)
  have Xb0 := Lib.hid (Box.pcall hb Xb0.out)
  have Xc0 := Lib.hid (Box.pcall hb Xc0.out)
  have Xd0 := Lib.hid xd0
  have HB := Lib.hid (below_call HB.out hb)
  clear hk hb xd0
  refine Calls.mono (large3 Xd0.out HB8.out) ?_
  rintro e w4 ⟨v4, rfl, rfl, hb⟩
  have Ha := Lib.hid (AR.keep Ha.out (Keep.call hb))
  have Hb := Lib.hid (AR.keep Hb.out (Keep.call hb))
  have Hc := Lib.hid (AR.keep Hc.out (Keep.call hb))
  have Xa0 := Lib.hid (Box.pcall hb Xa0.out)
  have Xb0 := Lib.hid (Box.pcall hb Xb0.out)
  have Xc0 := Lib.hid (Box.pcall hb Xc0.out)
  have Xd0 := Lib.hid (Box.pcall hb Xd0.out)
  have HB := Lib.hid (below_call HB.out hb)
  clear hb
  obtain ⟨ca00, ca01, ca02, fa00, fa01, fa02⟩ := Xa0.out.c3
  have la0 := Xa0.out.lt
  obtain ⟨cb00, cb01, cb02, fb00, fb01, fb02⟩ := Xb0.out.c3
  have lb0 := Xb0.out.lt
  obtain ⟨cc00, cc01, cc02, fc00, fc01, fc02⟩ := Xc0.out.c3
  have lc0 := Xc0.out.lt
  go_wp2_with fail
  clear ca00 ca01 ca02 fa00 fa01 fa02 la0 cb00 cb01 cb02 fb00 fb01 fb02 lb0 cc00 cc01 cc02 fc00 fc01 fc02 lc0
  (first | (have hcall := rlare_ar Hu.out Hp0.out Hp1.out Ha.out Hb.out Hc.out (by decide); refine Calls.mono hcall ?_; clear hcall) | refine Calls.mono (rlare_ar Hu.out Hp0.out Hp1.out Ha.out Hb.out Hc.out (by decide)) ?_)
  rintro e w5 ⟨t5, rfl, ⟨v5, rfl, hs1⟩, hb⟩
  obtain ⟨s1_b, s1_a, s1_n, s1_c, s1_d, s1_m, s1_e, rfl⟩ := hs1.litb
  have Ha := Lib.hid (AR.keep Ha.out (Keep.call hb))
  have Hb := Lib.hid (AR.keep Hb.out (Keep.call hb))
  have Hc := Lib.hid (AR.keep Hc.out (Keep.call hb))
  have Xa0 := Lib.hid (Box.pcall hb Xa0.out)
  have Xb0 := Lib.hid (Box.pcall hb Xb0.out)
  have Xc0 := Lib.hid (Box.pcall hb Xc0.out)
  have Xd0 := Lib.hid (Box.pcall hb Xd0.out)
  have HB := Lib.hid (below_call HB.out hb)
  have Hs1 := Lib.hid hs1
  clear hb hs1
  obtain ⟨ca00, ca01, ca02, fa00, fa01, fa02⟩ := Xa0.out.c3
  have la0 := Xa0.out.lt
  obtain ⟨cb00, cb01, cb02, fb00, fb01, fb02⟩ := Xb0.out.c3
  have lb0 := Xb0.out.lt
  obtain ⟨cc00, cc01, cc02, fc00, fc01, fc02⟩ := Xc0.out.c3
  have lc0 := Xc0.out.lt
  go_wp2_with fail
  clear ca00 ca01 ca02 fa00 fa01 fa02 la0 cb00 cb01 cb02 fb00 fb01 fb02 lb0 cc00 cc01 cc02 fc00 fc01 fc02 lc0
  obtain ⟨W6, hW⟩ : ∃ W6, W6 = (World.alloc w5 (.cells #[.bool s1_b, .slice s1_a s1_n s1_c, .slice s1_d s1_m s1_e] 25)) := ⟨_, rfl⟩
  rw [← hW]
  obtain ⟨xe0, hk, hb⟩ := boxes_1 _ _ _ hW
  clear hW
  have Ha := Lib.hid (AR.keep Ha.out hk)
  have Hb := Lib.hid (AR.keep Hb.out hk)
  have Hc := Lib.hid (AR.keep Hc.out hk)
  have Hs1 := Lib.hid (CR.keep Hs1.out hk)
  have Na0e0 := Lib.hid (show w.heap.size ≠ w5.heap.size from Nat.ne_of_lt (Nat.lt_of_lt_of_le Xa0.out.lt (by omega)))
  have Nb0e0 := Lib.hid (show w.heap.size + 1 ≠ w5.heap.size from Nat.ne_of_lt (Nat.lt_of_lt_of_le Xb0.out.lt (by omega)))
  have Nc0e0 := Lib.hid (show w.heap.size + 1 + 1 ≠ w5.heap.size from Nat.ne_of_lt (Nat.lt_of_lt_of_le Xc0.out.lt (by omega)))
  have Nd0e0 := Lib.hid (show w2.heap.size ≠ w5.heap.size from Nat.ne_of_lt (Nat.lt_of_lt_of_le Xd0.out.lt (by omega)))
  have Ge0 := Lib.hid (show w.heap.size ≤ w5.heap.size from Nat.le_trans HB.out.size (by omega))
  have Xa0 := Lib.hid (Box.pcall hb Xa0.out)
  have Xb0 := Lib.hid (Box.pcall hb Xb0.out)
  have Xc0 := Lib.hid (Box.pcall hb Xc0.out)
  have Xd0 := Lib.hid (Box.pcall hb Xd0.out)
  have Xe0 := Lib.hid xe0
  have HB := Lib.hid (below_call HB.out hb)
  clear hk hb xe0
  (first | (have hcall := zlare_ar Hu.out Hp0.out Hp1.out Ha.out Hb.out Hc.out (by decide); refine Calls.mono hcall ?_; clear hcall) | refine Calls.mono (zlare_ar Hu.out Hp0.out Hp1.out Ha.out Hb.out Hc.out (by decide)) ?_)
  rintro e w7 ⟨t7, rfl, ⟨v7, rfl, hs2⟩, hb⟩
  obtain ⟨s2_b, s2_a, s2_n, s2_c, s2_d, s2_m, s2_e, rfl⟩ := hs2.litb
  have Ha := Lib.hid (AR.keep Ha.out (Keep.call hb))
  have Hb := Lib.hid (AR.keep Hb.out (Keep.call hb))
  have Hs1 := Lib.hid (CR.keep Hs1.out (Keep.call hb))
  have Xa0 := Lib.hid (Box.pcall hb Xa0.out)
  have Xb0 := Lib.hid (Box.pcall hb Xb0.out)
  have Xc0 := Lib.hid (Box.pcall hb Xc0.out)
  have Xd0 := Lib.hid (Box.pcall hb Xd0.out)
  have Xe0 := Lib.hid (Box.pcall hb Xe0.out)
  have HB := Lib.hid (below_call HB.out hb)
  have Hs2 := Lib.hid hs2
  clear hb hs2
  obtain ⟨ca00, ca01, ca02, fa00, fa01, fa02⟩ := Xa0.out.c3
  have la0 := Xa0.out.lt
  obtain ⟨cb00, cb01, cb02, fb00, fb01, fb02⟩ := Xb0.out.c3
  have lb0 := Xb0.out.lt
  obtain ⟨cc00, cc01, cc02, fc00, fc01, fc02⟩ := Xc0.out.c3
  have lc0 := Xc0.out.lt
  obtain ⟨ce00, ce01, ce02, fe00, fe01, fe02⟩ := Xe0.out.c3
  have le0 := Xe0.out.lt
  go_wp2_with fail
  clear ca00 ca01 ca02 fa00 fa01 fa02 la0 cb00 cb01 cb02 fb00 fb01 fb02 lb0 cc00 cc01 cc02 fc00 fc01 fc02 lc0 ce00 ce01 ce02 fe00 fe01 fe02 le0
  obtain ⟨W8, hW⟩ : ∃ W8, W8 = (World.alloc w7 (.cells #[.bool s2_b, .slice s2_a s2_n s2_c, .slice s2_d s2_m s2_e] 25)) := ⟨_, rfl⟩
  rw [← hW]
  obtain ⟨xf0, hk, hb⟩ := boxes_1 _ _ _ hW
  clear hW
  have Ha := Lib.hid (AR.keep Ha.out hk)
  have Hb := Lib.hid (AR.keep Hb.out hk)
  have Hs1 := Lib.hid (CR.keep Hs1.out hk)
  have Hs2 := Lib.hid (CR.keep Hs2.out hk)
  have Na0f0 := Lib.hid (show w.heap.size ≠ w7.heap.size from Nat.ne_of_lt (Nat.lt_of_lt_of_le Xa0.out.lt (by omega)))
  have Nb0f0 := Lib.hid (show w.heap.size + 1 ≠ w7.heap.size from Nat.ne_of_lt (Nat.lt_of_lt_of_le Xb0.out.lt (by omega)))
  have Nc0f0 := Lib.hid (show w.heap.size + 1 + 1 ≠ w7.heap.size from Nat.ne_of_lt (Nat.lt_of_lt_of_le Xc0.out.lt (by omega)))
  have Nd0f0 := Lib.hid (show w2.heap.size ≠ w7.heap.size from Nat.ne_of_lt (Nat.lt_of_lt_of_le Xd0.out.lt (by omega)))
  have Ne0f0 := Lib.hid (show w5.heap.size ≠ w7.heap.size from Nat.ne_of_lt (Nat.lt_of_lt_of_le Xe0.out.lt (by omega)))
  have Gf0 := Lib.hid (show w.heap.size ≤ w7.heap.size from Nat.le_trans HB.out.size (by omega))
  have Xa0 := Lib.hid (Box.pcall hb Xa0.out)
  have Xb0 := Lib.hid (Box.pcall hb Xb0.out)
  have Xc0 := Lib.hid (Box.pcall hb Xc0.out)
  have Xd0 := Lib.hid (Box.pcall hb Xd0.out)
  have Xe0 := Lib.hid (Box.pcall hb Xe0.out)
  have Xf0 := Lib.hid xf0
  have HB := Lib.hid (below_call HB.out hb)
  clear hk hb xf0
  (first | (have hcall := zsame_cr Hs1.out Hs2.out (rfl); refine Calls.mono hcall ?_; clear hcall) | refine Calls.mono (zsame_cr Hs1.out Hs2.out (rfl)) ?_)
  rintro e w9 ⟨v9, rfl, rfl, hb⟩
  have Ha := Lib.hid (AR.keep Ha.out (Keep.call hb))
  have Hb := Lib.hid (AR.keep Hb.out (Keep.call hb))
  have Hs1 := Lib.hid (CR.keep Hs1.out (Keep.call hb))
  have Xa0 := Lib.hid (Box.pcall hb Xa0.out)
  have Xb0 := Lib.hid (Box.pcall hb Xb0.out)
  have Xc0 := Lib.hid (Box.pcall hb Xc0.out)
  have Xd0 := Lib.hid (Box.pcall hb Xd0.out)
  have Xe0 := Lib.hid (Box.pcall hb Xe0.out)
  have Xf0 := Lib.hid (Box.pcall hb Xf0.out)
  have HB := Lib.hid (below_call HB.out hb)
  clear hb
  obtain ⟨ca00, ca01, ca02, fa00, fa01, fa02⟩ := Xa0.out.c3
  have la0 := Xa0.out.lt
  obtain ⟨cb00, cb01, cb02, fb00, fb01, fb02⟩ := Xb0.out.c3
  have lb0 := Xb0.out.lt
  obtain ⟨cc00, cc01, cc02, fc00, fc01, fc02⟩ := Xc0.out.c3
  have lc0 := Xc0.out.lt
  obtain ⟨ce00, ce01, ce02, fe00, fe01, fe02⟩ := Xe0.out.c3
  have le0 := Xe0.out.lt
  obtain ⟨cf00, cf01, cf02, ff00, ff01, ff02⟩ := Xf0.out.c3
  have lf0 := Xf0.out.lt
  go_wp2_with fail
  clear ca00 ca01 ca02 fa00 fa01 fa02 la0 cb00 cb01 cb02 fb00 fb01 fb02 lb0 cc00 cc01 cc02 fc00 fc01 fc02 lc0 ce00 ce01 ce02 fe00 fe01 fe02 le0 cf00 cf01 cf02 ff00 ff01 ff02 lf0
  have Ha := Lib.hid (AR.keep Ha.out (Keep.drew w9))
  have Hb := Lib.hid (AR.keep Hb.out (Keep.drew w9))
  have Hs1 := Lib.hid (CR.keep Hs1.out (Keep.drew w9))
  have Xa0 := Lib.hid (Box.drew Xa0.out)
  have Xb0 := Lib.hid (Box.drew Xb0.out)
  have Xc0 := Lib.hid (Box.drew Xc0.out)
  have Xd0 := Lib.hid (Box.drew Xd0.out)
  have Xe0 := Lib.hid (Box.drew Xe0.out)
  have Xf0 := Lib.hid (Box.drew Xf0.out)
  have HB := Lib.hid (Below.drew HB.out)
  refine wp_region_float [] [⟨10, 11, 25, #[.bool false, .slice none 0 0, .slice none 0 0]⟩] (by kernel_rfl) (by kernel_rfl) 63 (by kernel_rfl) (Flok.one (by kernel_rfl) (by kernel_rfl) (by kernel_rfl) (by intro w; go_simp)) ?_
  intro ok
  have Hok := Lib.hid ok
  clear ok
  have HG := Lib.hid (Below.refl (w9.drew).heap.size (w9.drew))
  refine good_pureX 0 (some 46) (Go.Op.load 25 (Go.Operand.tmp 3)) (none) (.agg #[.bool ba, .slice sa na ca, .slice ta ma ea]) (by kernel_rfl) (by kernel_rfl) (by kernel_rfl) (fun _ _ _ h => h) (fun w' hw' => ?_) ?_
  · obtain ⟨ca00, ca01, ca02, fa00, fa01, fa02⟩ := (Box.se hw' Xa0.out notin0).c3
    first | (go_simp; done) | (go_simp; simp_all; done) | (go_simp; rfl)
  simp only [Act.put, List.setIfInBounds_toArray, List.set_cons_zero, List.set_cons_succ]
  refine good_pureX 1 (some 47) (Go.Op.load 25 (Go.Operand.tmp 4)) (none) (.agg #[.bool bb, .slice sb nb cb, .slice tb mb eb]) (by kernel_rfl) (by kernel_rfl) (by kernel_rfl) (fun _ _ _ h => h) (fun w' hw' => ?_) ?_
  · obtain ⟨cb00, cb01, cb02, fb00, fb01, fb02⟩ := (Box.se hw' Xb0.out notin0).c3
    first | (go_simp; done) | (go_simp; simp_all; done) | (go_simp; rfl)
  simp only [Act.put, List.setIfInBounds_toArray, List.set_cons_zero, List.set_cons_succ]
  refine good_pureX 2 (some 48) (Go.Op.load 25 (Go.Operand.tmp 3)) (none) (.agg #[.bool ba, .slice sa na ca, .slice ta ma ea]) (by kernel_rfl) (by kernel_rfl) (by kernel_rfl) (fun _ _ _ h => h) (fun w' hw' => ?_) ?_
  · obtain ⟨ca00, ca01, ca02, fa00, fa01, fa02⟩ := (Box.se hw' Xa0.out notin0).c3
    first | (go_simp; done) | (go_simp; simp_all; done) | (go_simp; rfl)
  simp only [Act.put, List.setIfInBounds_toArray, List.set_cons_zero, List.set_cons_succ]
  refine good_pureX 3 (some 49) (Go.Op.load 25 (Go.Operand.tmp 4)) (none) (.agg #[.bool bb, .slice sb nb cb, .slice tb mb eb]) (by kernel_rfl) (by kernel_rfl) (by kernel_rfl) (fun _ _ _ h => h) (fun w' hw' => ?_) ?_
  · obtain ⟨cb00, cb01, cb02, fb00, fb01, fb02⟩ := (Box.se hw' Xb0.out notin0).c3
    first | (go_simp; done) | (go_simp; simp_all; done) | (go_simp; rfl)
  simp only [Act.put, List.setIfInBounds_toArray, List.set_cons_zero, List.set_cons_succ]
  refine good_callX 4 17 (some 50) #[Go.Operand.tmp 48, Go.Operand.tmp 49] #[25, 25] (none) #[.agg #[.bool ba, .slice sa na ca, .slice ta ma ea], .agg #[.bool bb, .slice sb nb cb, .slice tb mb eb]] (by kernel_rfl) Hok.out (by kernel_rfl) (by kernel_rfl) (by kernel_rfl) (by kernel_rfl) rfl rfl rfl (by kernel_rfl) (fun w10 hb => ?_)
  have HG := Lib.hid (below_call HG.out hb)
  clear hb
  (first | (have hcall := rlslo_ar k Hk.out (AR.keep Ha.out (Keep.call HG.out)) (AR.keep Hb.out (Keep.call HG.out)) (by decide); refine Calls.mono hcall ?_; clear hcall) | refine Calls.mono (rlslo_ar k Hk.out (AR.keep Ha.out (Keep.call HG.out)) (AR.keep Hb.out (Keep.call HG.out)) (by decide)) ?_)
  rintro e w11 ⟨v11, rfl, ⟨⟩, hb⟩
  refine ⟨_, rfl, ?_, hb⟩
  have HG := Lib.hid (below_call HG.out hb)
  clear hb
  simp only [Act.put, List.setIfInBounds_toArray, List.set_cons_zero, List.set_cons_succ]
  refine good_callX 5 23 (some 51) #[Go.Operand.tmp 50] #[3] (none) #[.int .i64 k] (by kernel_rfl) Hok.out (by kernel_rfl) (by kernel_rfl) (by kernel_rfl) (by kernel_rfl) rfl rfl rfl (by kernel_rfl) (fun w12 hb => ?_)
  have HG := Lib.hid (below_call HG.out hb)
  clear hb
  refine Calls.mono (zof Hk0.out Hk1.out) ?_
  rintro e w13 ⟨v13, rfl, ho1, hb⟩
  obtain ⟨o1_b, o1_a, o1_n, o1_c, o1_d, o1_m, o1_e, rfl⟩ := ho1.litb
  refine ⟨_, rfl, ?_, hb⟩
  have HG := Lib.hid (below_call HG.out hb)
  have Ho1 := Lib.hid ho1
  clear hb ho1
  simp only [Act.put, List.setIfInBounds_toArray, List.set_cons_zero, List.set_cons_succ]
  refine good_callX 6 21 (some 52) #[Go.Operand.tmp 46, Go.Operand.tmp 47, Go.Operand.tmp 51] #[25, 25, 25] (none) #[.agg #[.bool ba, .slice sa na ca, .slice ta ma ea], .agg #[.bool bb, .slice sb nb cb, .slice tb mb eb], .agg #[.bool o1_b, .slice o1_a o1_n o1_c, .slice o1_d o1_m o1_e]] (by kernel_rfl) Hok.out (by kernel_rfl) (by kernel_rfl) (by kernel_rfl) (by kernel_rfl) rfl rfl rfl (by kernel_rfl) (fun w14 hb => ?_)
  have Ho1 := Lib.hid (CR.keep Ho1.out (Keep.call hb))
  have HG := Lib.hid (below_call HG.out hb)
  clear hb
  (first | (have hcall := rlare_ar Hu.out Hp2.out Hp3.out (AR.keep Ha.out (Keep.call HG.out)) (AR.keep Hb.out (Keep.call HG.out)) (AR.mono Ho1.out.ar (by decide)) (by decide); refine Calls.mono hcall ?_; clear hcall) | refine Calls.mono (rlare_ar Hu.out Hp2.out Hp3.out (AR.keep Ha.out (Keep.call HG.out)) (AR.keep Hb.out (Keep.call HG.out)) (AR.mono Ho1.out.ar (by decide)) (by decide)) ?_)
  rintro e w15 ⟨t15, rfl, ⟨v15, rfl, hs3⟩, hb⟩
  obtain ⟨s3_b, s3_a, s3_n, s3_c, s3_d, s3_m, s3_e, rfl⟩ := hs3.litb
  refine ⟨_, rfl, ?_, hb⟩
  have HG := Lib.hid (below_call HG.out hb)
  have Hs3 := Lib.hid hs3
  clear hb hs3
  simp only [Act.put, List.setIfInBounds_toArray, List.set_cons_zero, List.set_cons_succ]
  refine good_pureX 7 (some 45) (Go.Op.move (Go.Operand.tmp 52)) (none) (.tuple #[.agg #[.bool s3_b, .slice s3_a s3_n s3_c, .slice s3_d s3_m s3_e], .int .i64 0]) (by kernel_rfl) (by kernel_rfl) (by kernel_rfl) (fun _ _ _ h => h) (fun w' hw' => ?_) ?_
  · first | (go_simp; done) | (go_simp; simp_all; done) | (go_simp; rfl)
  simp only [Act.put, List.setIfInBounds_toArray, List.set_cons_zero, List.set_cons_succ]
  refine good_pureX 8 (some 53) (Go.Op.extract (Go.Operand.tmp 45) 0) (none) (.agg #[.bool s3_b, .slice s3_a s3_n s3_c, .slice s3_d s3_m s3_e]) (by kernel_rfl) (by kernel_rfl) (by kernel_rfl) (fun _ _ _ h => h) (fun w' hw' => ?_) ?_
  · first | (go_simp; done) | (go_simp; simp_all; done) | (go_simp; rfl)
  simp only [Act.put, List.setIfInBounds_toArray, List.set_cons_zero, List.set_cons_succ]
  refine good_pureX 9 (some 54) (Go.Op.extract (Go.Operand.tmp 45) 1) (none) (.int .i64 0) (by kernel_rfl) (by kernel_rfl) (by kernel_rfl) (fun _ _ _ h => h) (fun w' hw' => ?_) ?_
  · first | (go_simp; done) | (go_simp; simp_all; done) | (go_simp; rfl)
  simp only [Act.put, List.setIfInBounds_toArray, List.set_cons_zero, List.set_cons_succ]
  refine good_end1 2 Hok.out (by kernel_rfl) (by kernel_rfl) (by kernel_rfl) (fun _ gg0 w16 hb eg0 xg0 => ?_)
  have Hs3 := Lib.hid (CR.keep Hs3.out (Keep.call hb))
  have HG := Lib.hid (below_call HG.out hb)
  clear hb
  have Na0g0 := Lib.hid (show w.heap.size ≠ gg0 from Nat.ne_of_lt (Nat.lt_of_lt_of_le Xa0.out.lt eg0))
  have Nb0g0 := Lib.hid (show w.heap.size + 1 ≠ gg0 from Nat.ne_of_lt (Nat.lt_of_lt_of_le Xb0.out.lt eg0))
  have Nc0g0 := Lib.hid (show w.heap.size + 1 + 1 ≠ gg0 from Nat.ne_of_lt (Nat.lt_of_lt_of_le Xc0.out.lt eg0))
  have Nd0g0 := Lib.hid (show w2.heap.size ≠ gg0 from Nat.ne_of_lt (Nat.lt_of_lt_of_le Xd0.out.lt eg0))
  have Ne0g0 := Lib.hid (show w5.heap.size ≠ gg0 from Nat.ne_of_lt (Nat.lt_of_lt_of_le Xe0.out.lt eg0))
  have Nf0g0 := Lib.hid (show w7.heap.size ≠ gg0 from Nat.ne_of_lt (Nat.lt_of_lt_of_le Xf0.out.lt eg0))
  have Gg0 := Lib.hid (show w.heap.size ≤ gg0 from Nat.le_trans HB.out.size eg0)
  have Eg0 := Lib.hid eg0
  clear eg0
  have Hs1 := Lib.hid (CR.keep Hs1.out (Keep.call HG.out))
  have Xa0 := Lib.hid (Box.pcall HG.out Xa0.out)
  have Xb0 := Lib.hid (Box.pcall HG.out Xb0.out)
  have Xc0 := Lib.hid (Box.pcall HG.out Xc0.out)
  have Xd0 := Lib.hid (Box.pcall HG.out Xd0.out)
  have Xe0 := Lib.hid (Box.pcall HG.out Xe0.out)
  have Xf0 := Lib.hid (Box.pcall HG.out Xf0.out)
  have HB := Lib.hid (below_call HB.out HG.out)
  have HS := Lib.hid (SE.of (E := []) HG.out)
  have Xg0 := Lib.hid xg0
  clear xg0
  simp only [Act.put, List.setIfInBounds_toArray, List.set_cons_zero, List.set_cons_succ]
  refine held_oneX 11 (Go.Op.store 25 (Go.Operand.tmp 11) (Go.Operand.tmp 53)) (none) (World.setCell (World.setCell (World.setCell w16 ⟨gg0, 0, none⟩ (.bool s3_b)) ⟨gg0, 1, none⟩ (.slice s3_a s3_n s3_c)) ⟨gg0, 2, none⟩ (.slice s3_d s3_m s3_e)) (by kernel_rfl) (by kernel_rfl) (by kernel_rfl) (by kernel_rfl) ?_ (HS.out.store3 (.inr Eg0.out)) ?_
  · obtain ⟨cg00, cg01, cg02, fg00, fg01, fg02⟩ := Xg0.out.c3
    first | (go_simp; done) | (go_simp; simp_all; done) | (go_simp; rfl)
  obtain ⟨W17, hW⟩ : ∃ W17, W17 = (World.setCell (World.setCell (World.setCell w16 ⟨gg0, 0, none⟩ (.bool s3_b)) ⟨gg0, 1, none⟩ (.slice s3_a s3_n s3_c)) ⟨gg0, 2, none⟩ (.slice s3_d s3_m s3_e)) := ⟨_, rfl⟩
  rw [← hW]
  obtain ⟨xg0, hk, hf, hbb, hz⟩ := stored3s hW Xg0.out (by first | exact NoInt.bool _ | exact NoInt.slice _ _ _) (by first | exact NoInt.bool _ | exact NoInt.slice _ _ _) (by first | exact NoInt.bool _ | exact NoInt.slice _ _ _)
  have Hs1 := Lib.hid (CR.keep Hs1.out hk)
  have Hs3 := Lib.hid (CR.keep Hs3.out hk)
  have Xa0 := Lib.hid (hf _ _ _ Xa0.out Na0g0.out)
  have Xb0 := Lib.hid (hf _ _ _ Xb0.out Nb0g0.out)
  have Xc0 := Lib.hid (hf _ _ _ Xc0.out Nc0g0.out)
  have Xd0 := Lib.hid (hf _ _ _ Xd0.out Nd0g0.out)
  have Xe0 := Lib.hid (hf _ _ _ Xe0.out Ne0g0.out)
  have Xf0 := Lib.hid (hf _ _ _ Xf0.out Nf0g0.out)
  have Xg0 := Lib.hid xg0
  have HB := Lib.hid (hbb _ HB.out Gg0.out)
  have HS := Lib.hid (show SE (w9.drew) [] W17 from by rw [hW]; exact HS.out.store3 (.inr Eg0.out))
  clear hW hk hf hbb xg0
  clear hz
  refine held_pureX 12 (some 12) (Go.Op.assign (Go.Operand.tmp 54)) (none) (.int .i64 0) (by kernel_rfl) (by kernel_rfl) (by kernel_rfl) (fun _ _ _ h => h) (fun w' => by first | (go_simp; done) | (go_simp; simp_all; done) | (go_simp; rfl)) HS.out ?_
  simp only [Act.put, List.setIfInBounds_toArray, List.set_cons_zero, List.set_cons_succ]
  refine wpAnyH_done (by kernel_rfl) ?_ _
  clear HG HS Hok Eg0
  obtain ⟨ca00, ca01, ca02, fa00, fa01, fa02⟩ := Xa0.out.c3
  have la0 := Xa0.out.lt
  obtain ⟨cb00, cb01, cb02, fb00, fb01, fb02⟩ := Xb0.out.c3
  have lb0 := Xb0.out.lt
  obtain ⟨cc00, cc01, cc02, fc00, fc01, fc02⟩ := Xc0.out.c3
  have lc0 := Xc0.out.lt
  obtain ⟨ce00, ce01, ce02, fe00, fe01, fe02⟩ := Xe0.out.c3
  have le0 := Xe0.out.lt
  obtain ⟨cf00, cf01, cf02, ff00, ff01, ff02⟩ := Xf0.out.c3
  have lf0 := Xf0.out.lt
  obtain ⟨cg00, cg01, cg02, fg00, fg01, fg02⟩ := Xg0.out.c3
  have lg0 := Xg0.out.lt
  go_wp2_with fail
  clear ca00 ca01 ca02 fa00 fa01 fa02 la0 cb00 cb01 cb02 fb00 fb01 fb02 lb0 cc00 cc01 cc02 fc00 fc01 fc02 lc0 ce00 ce01 ce02 fe00 fe01 fe02 le0 cf00 cf01 cf02 ff00 ff01 ff02 lf0 cg00 cg01 cg02 fg00 fg01 fg02 lg0
  (first | (have hcall := zcmp_ar m Hs3.out.ar Hs1.out.ar Hm.out (by decide) (by decide); refine Calls.mono hcall ?_; clear hcall) | refine Calls.mono (zcmp_ar m Hs3.out.ar Hs1.out.ar Hm.out (by decide) (by decide)) ?_)
  rintro e w18 ⟨v18, rfl, ⟨⟩, hb⟩
  have Xa0 := Lib.hid (Box.pcall hb Xa0.out)
  have Xb0 := Lib.hid (Box.pcall hb Xb0.out)
  have Xc0 := Lib.hid (Box.pcall hb Xc0.out)
  have Xd0 := Lib.hid (Box.pcall hb Xd0.out)
  have Xe0 := Lib.hid (Box.pcall hb Xe0.out)
  have Xf0 := Lib.hid (Box.pcall hb Xf0.out)
  have Xg0 := Lib.hid (Box.pcall hb Xg0.out)
  have HB := Lib.hid (below_call HB.out hb)
  clear hb
  obtain ⟨ca00, ca01, ca02, fa00, fa01, fa02⟩ := Xa0.out.c3
  have la0 := Xa0.out.lt
  obtain ⟨cb00, cb01, cb02, fb00, fb01, fb02⟩ := Xb0.out.c3
  have lb0 := Xb0.out.lt
  obtain ⟨cc00, cc01, cc02, fc00, fc01, fc02⟩ := Xc0.out.c3
  have lc0 := Xc0.out.lt
  obtain ⟨ce00, ce01, ce02, fe00, fe01, fe02⟩ := Xe0.out.c3
  have le0 := Xe0.out.lt
  obtain ⟨cf00, cf01, cf02, ff00, ff01, ff02⟩ := Xf0.out.c3
  have lf0 := Xf0.out.lt
  obtain ⟨cg00, cg01, cg02, fg00, fg01, fg02⟩ := Xg0.out.c3
  have lg0 := Xg0.out.lt
  go_wp2
  clear ca00 ca01 ca02 fa00 fa01 fa02 la0 cb00 cb01 cb02 fb00 fb01 fb02 lb0 cc00 cc01 cc02 fc00 fc01 fc02 lc0 ce00 ce01 ce02 fe00 fe01 fe02 le0 cf00 cf01 cf02 ff00 ff01 ff02 lf0 cg00 cg01 cg02 fg00 fg01 fg02 lg0
  go_ret
  exact ⟨_, rfl, rfl, HB.out⟩


theorem RelaxArea_all (ba : Bool) (sa : Option Addr) (na ca : Nat) (ta : Option Addr) (ma ea : Nat) (bb : Bool) (sb : Option Addr) (nb cb : Nat) (tb : Option Addr) (mb eb : Nat) (bc : Bool) (sc : Option Addr) (nc cc : Nat) (tc : Option Addr) (mc ec : Nat) (w : World) (ra : Row w (.slice sa na ca) na) (ua : Row w (.slice ta ma ea) ma) (rb : Row w (.slice sb nb cb) nb) (ub : Row w (.slice tb mb eb) mb) (rc : Row w (.slice sc nc cc) nc) (uc : Row w (.slice tc mc ec) mc) : Calls Try.prog 4 #[.agg #[.bool ba, .slice sa na ca, .slice ta ma ea], .agg #[.bool bb, .slice sb nb cb, .slice tb mb eb], .agg #[.bool bc, .slice sc nc cc, .slice tc mc ec]] w (Ret w (Val (.bool true))) := by
  cases hB : ([⟨ba, sa, na, ca, ta, ma, ea⟩, ⟨bb, sb, nb, cb, tb, mb, eb⟩, ⟨bc, sc, nc, cc, tc, mc, ec⟩] : List Rw).any Rw.big
  case true => exact lare_big hB
  have hs : na ≤ 8 ∧ ma ≤ 8 ∧ nb ≤ 8 ∧ mb ≤ 8 ∧ nc ≤ 8 ∧ mc ≤ 8 := by
    simp [Rw.big] at hB
    omega
  obtain ⟨qa, ha⟩ := ra.ar (b := ba) ua 8 (by omega) (by omega) (by decide)
  obtain ⟨qb, hb⟩ := rb.ar (b := bb) ub 8 (by omega) (by omega) (by decide)
  obtain ⟨qc, hc⟩ := rc.ar (b := bc) uc 8 (by omega) (by omega) (by decide)
  by_cases hv : unst qa qb = false ∨ qc < 0 ∨ ((1 : Int) : Rat) < qc
  · exact lare_n hv hB ha hb hc
  have hu : unst qa qb = true := by
    cases h : unst qa qb
    · exact absurd (Or.inl h) hv
    · rfl
  have p0 : 0 ≤ qc := by
    rcases (show 0 ≤ qc ∨ qc < 0 by grind) with k | k
    · exact k
    · exact absurd (Or.inr (Or.inl k)) hv
  have p1 : qc ≤ ((1 : Int) : Rat) := by
    rcases (show qc ≤ ((1 : Int) : Rat) ∨ ((1 : Int) : Rat) < qc by grind) with k | k
    · exact k
    · exact absurd (Or.inr (Or.inr k)) hv
  have best := area_best p0 p1 hu
  have sb := slope_bd qa qb
  refine lare_y hu p0 p1 _ rfl (by omega) (by omega) ?_ ?_ _ rfl (decide_eq_true (cmpQ_le.2 best)) hB ha hb hc
  · rcases sb with h | h <;> rw [h] <;> decide
  · rcases sb with h | h <;> rw [h] <;> decide

end Go.Proofs.Ytlpjgncaedffoaa
