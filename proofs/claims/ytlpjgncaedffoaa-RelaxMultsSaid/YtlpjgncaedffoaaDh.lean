/- Texts RelF, in this order. -/
import Derived.Test.YtlpjgncaedffoaaDg
namespace Go.Proofs.Ytlpjgncaedffoaa
open Go.RowKit Nt
set_option linter.unusedVariables false

set_option maxRecDepth 100000 in
set_option maxHeartbeats 4000000 in
theorem ufail {x : Int}  {w : World}  :
    Calls Try.prog 57 #[.int .i64 x] w (Ret w (Val (.tuple #[.slice none 0 0, .int .i64 x]))) := by
  go_enter Try.func57, Try.ntmps57
  have HB := Lib.hid (Below.refl w.heap.size w)
  go_wp2
  exact ret_tt rfl rfl rfl rfl rfl HB.out


set_option maxRecDepth 100000 in
set_option maxHeartbeats 4000000 in
theorem rlua_0 {x y z : Int} {L : Nat} {qa : Rat} {ba : Bool} {sa ta : Value} {qb : Rat} {bb : Bool} {sb tb : Value} {w : World} (hx : decide (x < 0) = true) (ha : AR qa L w (.agg #[.bool ba, sa, ta])) (hb : AR qb L w (.agg #[.bool bb, sb, tb])) (hL : L ≤ 10000) :
    Calls Try.prog 32 #[.int .i64 x, .int .i64 y, .int .i64 z, .agg #[.bool ba, sa, ta], .agg #[.bool bb, sb, tb]] w (Ret w (Val (.tuple #[.slice none 0 0, .int .i64 1]))) := by
  have Ha := Lib.hid ha
  have Hb := Lib.hid hb
  clear ha hb
  go_enter Try.func32, Try.ntmps32
  have HB := Lib.hid (Below.refl w.heap.size w)
  go_wp2_with fail
  obtain ⟨W1, hW⟩ : ∃ W1, W1 = (World.alloc (World.alloc w (.cells #[.bool ba, sa, ta] 25)) (.cells #[.bool bb, sb, tb] 25)) := ⟨_, rfl⟩
  rw [← hW]
  obtain ⟨xa0, xb0, hk, hb⟩ := boxes_2 _ _ _ _ _ hW
  clear hW
  have Ga0 := Lib.hid (show w.heap.size ≤ w.heap.size from Nat.le_trans HB.out.size (by omega))
  have Gb0 := Lib.hid (show w.heap.size ≤ w.heap.size + 1 from Nat.le_trans HB.out.size (by omega))
  have Xa0 := Lib.hid xa0
  have Xb0 := Lib.hid xb0
  have HB := Lib.hid (below_call HB.out hb)
  clear hk hb xa0 xb0
  refine Calls.mono (ufail (x := 1)) ?_
  rintro e w2 ⟨v2, rfl, rfl, hb⟩
  have Xa0 := Lib.hid (Box.pcall hb Xa0.out)
  have Xb0 := Lib.hid (Box.pcall hb Xb0.out)
  have HB := Lib.hid (below_call HB.out hb)
  clear hb
  obtain ⟨ca00, ca01, ca02, fa00, fa01, fa02⟩ := Xa0.out.c3
  have la0 := Xa0.out.lt
  obtain ⟨cb00, cb01, cb02, fb00, fb01, fb02⟩ := Xb0.out.c3
  have lb0 := Xb0.out.lt
  go_wp2
  clear ca00 ca01 ca02 fa00 fa01 fa02 la0 cb00 cb01 cb02 fb00 fb01 fb02 lb0
  exact ret_tt rfl rfl rfl rfl rfl HB.out


set_option maxRecDepth 100000 in
set_option maxHeartbeats 4000000 in
theorem rlua_1 {x y z : Int} {L : Nat} {qa : Rat} {ba : Bool} {sa ta : Value} {qb : Rat} {bb : Bool} {sb tb : Value} {w : World} (hx : decide (x < 0) = false) (hy : decide (y < 1) = true) (ha : AR qa L w (.agg #[.bool ba, sa, ta])) (hb : AR qb L w (.agg #[.bool bb, sb, tb])) (hL : L ≤ 10000) :
    Calls Try.prog 32 #[.int .i64 x, .int .i64 y, .int .i64 z, .agg #[.bool ba, sa, ta], .agg #[.bool bb, sb, tb]] w (Ret w (Val (.tuple #[.slice none 0 0, .int .i64 1]))) := by
  have Ha := Lib.hid ha
  have Hb := Lib.hid hb
  clear ha hb
  go_enter Try.func32, Try.ntmps32
  have HB := Lib.hid (Below.refl w.heap.size w)
  go_wp2_with fail
  obtain ⟨W1, hW⟩ : ∃ W1, W1 = (World.alloc (World.alloc w (.cells #[.bool ba, sa, ta] 25)) (.cells #[.bool bb, sb, tb] 25)) := ⟨_, rfl⟩
  rw [← hW]
  obtain ⟨xa0, xb0, hk, hb⟩ := boxes_2 _ _ _ _ _ hW
  clear hW
  have Ga0 := Lib.hid (show w.heap.size ≤ w.heap.size from Nat.le_trans HB.out.size (by omega))
  have Gb0 := Lib.hid (show w.heap.size ≤ w.heap.size + 1 from Nat.le_trans HB.out.size (by omega))
  have Xa0 := Lib.hid xa0
  have Xb0 := Lib.hid xb0
  have HB := Lib.hid (below_call HB.out hb)
  clear hk hb xa0 xb0
  refine Calls.mono (ufail (x := 1)) ?_
  rintro e w2 ⟨v2, rfl, rfl, hb⟩
  have Xa0 := Lib.hid (Box.pcall hb Xa0.out)
  have Xb0 := Lib.hid (Box.pcall hb Xb0.out)
  have HB := Lib.hid (below_call HB.out hb)
  clear hb
  obtain ⟨ca00, ca01, ca02, fa00, fa01, fa02⟩ := Xa0.out.c3
  have la0 := Xa0.out.lt
  obtain ⟨cb00, cb01, cb02, fb00, fb01, fb02⟩ := Xb0.out.c3
  have lb0 := Xb0.out.lt
  go_wp2
  clear ca00 ca01 ca02 fa00 fa01 fa02 la0 cb00 cb01 cb02 fb00 fb01 fb02 lb0
  exact ret_tt rfl rfl rfl rfl rfl HB.out


set_option maxRecDepth 100000 in
set_option maxHeartbeats 4000000 in
theorem rlua_2 {x y z : Int} {L : Nat} {qa : Rat} {ba : Bool} {sa ta : Value} {qb : Rat} {bb : Bool} {sb tb : Value} {w : World} (hx : decide (x < 0) = false) (hy : decide (y < 1) = false) (hz : decide (z < 1) = true) (ha : AR qa L w (.agg #[.bool ba, sa, ta])) (hb : AR qb L w (.agg #[.bool bb, sb, tb])) (hL : L ≤ 10000) :
    Calls Try.prog 32 #[.int .i64 x, .int .i64 y, .int .i64 z, .agg #[.bool ba, sa, ta], .agg #[.bool bb, sb, tb]] w (Ret w (Val (.tuple #[.slice none 0 0, .int .i64 1]))) := by
  have Ha := Lib.hid ha
  have Hb := Lib.hid hb
  clear ha hb
  go_enter Try.func32, Try.ntmps32
  have HB := Lib.hid (Below.refl w.heap.size w)
  go_wp2_with fail
  obtain ⟨W1, hW⟩ : ∃ W1, W1 = (World.alloc (World.alloc w (.cells #[.bool ba, sa, ta] 25)) (.cells #[.bool bb, sb, tb] 25)) := ⟨_, rfl⟩
  rw [← hW]
  obtain ⟨xa0, xb0, hk, hb⟩ := boxes_2 _ _ _ _ _ hW
  clear hW
  have Ga0 := Lib.hid (show w.heap.size ≤ w.heap.size from Nat.le_trans HB.out.size (by omega))
  have Gb0 := Lib.hid (show w.heap.size ≤ w.heap.size + 1 from Nat.le_trans HB.out.size (by omega))
  have Xa0 := Lib.hid xa0
  have Xb0 := Lib.hid xb0
  have HB := Lib.hid (below_call HB.out hb)
  clear hk hb xa0 xb0
  refine Calls.mono (ufail (x := 1)) ?_
  rintro e w2 ⟨v2, rfl, rfl, hb⟩
  have Xa0 := Lib.hid (Box.pcall hb Xa0.out)
  have Xb0 := Lib.hid (Box.pcall hb Xb0.out)
  have HB := Lib.hid (below_call HB.out hb)
  clear hb
  obtain ⟨ca00, ca01, ca02, fa00, fa01, fa02⟩ := Xa0.out.c3
  have la0 := Xa0.out.lt
  obtain ⟨cb00, cb01, cb02, fb00, fb01, fb02⟩ := Xb0.out.c3
  have lb0 := Xb0.out.lt
  go_wp2
  clear ca00 ca01 ca02 fa00 fa01 fa02 la0 cb00 cb01 cb02 fb00 fb01 fb02 lb0
  exact ret_tt rfl rfl rfl rfl rfl HB.out


set_option maxRecDepth 100000 in
set_option maxHeartbeats 4000000 in
theorem rlur {x y z : Int} {L : Nat} {qa : Rat} {ba : Bool} {sa ta : Value} {qb : Rat} {bb : Bool} {sb tb : Value} {w : World} (hx : decide (x < 0) = false) (hy : decide (y < 1) = false) (hz : decide (z < 1) = false) (hu : unst qa qb = false) (ha : AR qa L w (.agg #[.bool ba, sa, ta])) (hb : AR qb L w (.agg #[.bool bb, sb, tb])) (hL : L ≤ 10000) :
    Calls Try.prog 32 #[.int .i64 x, .int .i64 y, .int .i64 z, .agg #[.bool ba, sa, ta], .agg #[.bool bb, sb, tb]] w (Ret w (Val (.tuple #[.slice none 0 0, .int .i64 2]))) := by
  have Ha := Lib.hid ha
  have Hb := Lib.hid hb
  have Hu := Lib.hid hu
  clear ha hb hu
  go_enter Try.func32, Try.ntmps32
  have HB := Lib.hid (Below.refl w.heap.size w)
  go_wp2_with fail
  obtain ⟨W1, hW⟩ : ∃ W1, W1 = (World.alloc (World.alloc w (.cells #[.bool ba, sa, ta] 25)) (.cells #[.bool bb, sb, tb] 25)) := ⟨_, rfl⟩
  rw [← hW]
  obtain ⟨xa0, xb0, hk, hb⟩ := boxes_2 _ _ _ _ _ hW
  clear hW
  have Ha := Lib.hid (AR.keep Ha.out hk)
  have Hb := Lib.hid (AR.keep Hb.out hk)
  have Ga0 := Lib.hid (show w.heap.size ≤ w.heap.size from Nat.le_trans HB.out.size (by omega))
  have Gb0 := Lib.hid (show w.heap.size ≤ w.heap.size + 1 from Nat.le_trans HB.out.size (by omega))
  have Xa0 := Lib.hid xa0
  have Xb0 := Lib.hid xb0
  have HB := Lib.hid (below_call HB.out hb)
  clear hk hb xa0 xb0
  (first | (have hcall := rluns_ar Hu.out Ha.out Hb.out (by omega); refine Calls.mono hcall ?_; clear hcall) | refine Calls.mono (rluns_ar Hu.out Ha.out Hb.out (by omega)) ?_)
  rintro e w2 ⟨v2, rfl, rfl, hb⟩
  have Xa0 := Lib.hid (Box.pcall hb Xa0.out)
  have Xb0 := Lib.hid (Box.pcall hb Xb0.out)
  have HB := Lib.hid (below_call HB.out hb)
  clear hb
  obtain ⟨ca00, ca01, ca02, fa00, fa01, fa02⟩ := Xa0.out.c3
  have la0 := Xa0.out.lt
  obtain ⟨cb00, cb01, cb02, fb00, fb01, fb02⟩ := Xb0.out.c3
  have lb0 := Xb0.out.lt
  go_wp2_with fail
  clear ca00 ca01 ca02 fa00 fa01 fa02 la0 cb00 cb01 cb02 fb00 fb01 fb02 lb0
  refine Calls.mono (ufail (x := 2)) ?_
  rintro e w3 ⟨v3, rfl, rfl, hb⟩
  have Xa0 := Lib.hid (Box.pcall hb Xa0.out)
  have Xb0 := Lib.hid (Box.pcall hb Xb0.out)
  have HB := Lib.hid (below_call HB.out hb)
  clear hb
  obtain ⟨ca00, ca01, ca02, fa00, fa01, fa02⟩ := Xa0.out.c3
  have la0 := Xa0.out.lt
  obtain ⟨cb00, cb01, cb02, fb00, fb01, fb02⟩ := Xb0.out.c3
  have lb0 := Xb0.out.lt
  go_wp2
  clear ca00 ca01 ca02 fa00 fa01 fa02 la0 cb00 cb01 cb02 fb00 fb01 fb02 lb0
  exact ret_tt rfl rfl rfl rfl rfl HB.out


theorem rlup_arg {x y z : Int} {a b : Rat} {L : Nat} {u v : Value} {w : World} (hx : x < 0 ∨ y < 1 ∨ z < 1) (h : AR a L w u) (h' : AR b L w v) (hL : L ≤ 10000) :
    Calls Try.prog 32 #[.int .i64 x, .int .i64 y, .int .i64 z, u, v] w (Ret w (Val (.tuple #[.slice none 0 0, .int .i64 1]))) := by
  obtain ⟨ba, sa, ta, rfl⟩ := h.agg
  obtain ⟨bb, sb, tb, rfl⟩ := h'.agg
  by_cases h1 : x < 0
  · exact rlua_0 (decide_eq_true h1) h h' hL
  · by_cases h2 : y < 1
    · exact rlua_1 (decide_eq_false h1) (decide_eq_true h2) h h' hL
    · exact rlua_2 (decide_eq_false h1) (decide_eq_false h2) (decide_eq_true (by omega)) h h' hL
theorem rlup_rng {x y z : Int} {a b : Rat} {L : Nat} {u v : Value} {w : World} (hx : 0 ≤ x) (hy : 1 ≤ y) (hz : 1 ≤ z) (hu : unst a b = false) (h : AR a L w u) (h' : AR b L w v) (hL : L ≤ 10000) :
    Calls Try.prog 32 #[.int .i64 x, .int .i64 y, .int .i64 z, u, v] w (Ret w (Val (.tuple #[.slice none 0 0, .int .i64 2]))) := by
  obtain ⟨ba, sa, ta, rfl⟩ := h.agg
  obtain ⟨bb, sb, tb, rfl⟩ := h'.agg
  exact rlur (decide_eq_false (by omega)) (decide_eq_false (by omega)) (decide_eq_false (by omega)) hu h h' hL

set_option maxRecDepth 100000 in
set_option maxHeartbeats 4000000 in
theorem rllow_0 {x : Int}  {w : World} (hx : decide (x < 0) = false)  :
    Calls Try.prog 34 #[.int .i64 x, .int .i64 0] w (Ret w (UPR w.heap.size 5 x 0 0 ((1 : Int) : Rat) 2)) := by
  go_enter Try.func34, Try.ntmps34
  have HB := Lib.hid (Below.refl w.heap.size w)
  go_wp2_with fail
  obtain ⟨W1, hW⟩ : ∃ W1, W1 = (World.alloc w (.cells #[.int .i64 5, .int .i64 x, .int .i64 0, .int .i64 0] 48)) := ⟨_, rfl⟩
  rw [← hW]
  obtain ⟨xa0, hk, hb⟩ := boxes_1 _ _ _ hW
  clear hW
  have Ga0 := Lib.hid (show w.heap.size ≤ w.heap.size from Nat.le_trans HB.out.size (by omega))
  have Xa0 := Lib.hid xa0
  have HB := Lib.hid (below_call HB.out hb)
  clear hk hb xa0
  have Xa0 := Lib.hid (Box.drew Xa0.out)
  have HB := Lib.hid (Below.drew HB.out)
  refine wp_region_float [] [] (by kernel_rfl) (by kernel_rfl) 26 (by kernel_rfl) Flok.nil ?_
  intro ok
  have Hok := Lib.hid ok
  clear ok
  have HG := Lib.hid (Below.refl (W1.drew).heap.size (W1.drew))
  refine good_pureX 0 (some 22) (Go.Op.load 48 (Go.Operand.tmp 6)) (none) (.agg #[.int .i64 5, .int .i64 x, .int .i64 0, .int .i64 0]) (by kernel_rfl) (by kernel_rfl) (by kernel_rfl) (fun _ _ _ h => h) (fun w' hw' => ?_) ?_
  · obtain ⟨ca00, ca01, ca02, ca03, fa00, fa01, fa02, fa03⟩ := (Box.se hw' Xa0.out notin0).c4
    first | (go_simp; done) | (go_simp; simp_all; done) | (go_simp; rfl)
  simp only [Act.put, List.setIfInBounds_toArray, List.set_cons_zero, List.set_cons_succ]
  refine good_callX 1 46 (some 23) #[Go.Operand.const (Go.Value.int Go.IntKind.i64 1)] #[3] (none) #[.int .i64 1] (by kernel_rfl) Hok.out (by kernel_rfl) (by kernel_rfl) (by kernel_rfl) (by kernel_rfl) rfl rfl rfl (by kernel_rfl) (fun w2 hb => ?_)
  have HG := Lib.hid (below_call HG.out hb)
  clear hb
  refine Calls.mono (of_rat (x := 1) (by decide) (by decide)) ?_
  rintro e w3 ⟨v3, rfl, ho1, hb⟩
  obtain ⟨o1_b, o1_a, o1_n, o1_c, o1_d, o1_m, o1_e, rfl⟩ := ho1.litb
  refine ⟨_, rfl, ?_, hb⟩
  have HG := Lib.hid (below_call HG.out hb)
  have Ho1 := Lib.hid ho1
  clear hb ho1
  simp only [Act.put, List.setIfInBounds_toArray, List.set_cons_zero, List.set_cons_succ]
  refine good_pureX 2 (some 24) (Go.Op.build 50 #[(0, Go.Operand.tmp 22), (1, Go.Operand.tmp 23)]) (none) (.agg #[.int .i64 5, .int .i64 x, .int .i64 0, .int .i64 0, .bool o1_b, .slice o1_a o1_n o1_c, .slice o1_d o1_m o1_e]) (by kernel_rfl) (by kernel_rfl) (by kernel_rfl) (fun _ _ _ h => h) (fun w' hw' => ?_) ?_
  · first | (go_simp; done) | (go_simp; simp_all; done) | (go_simp; rfl)
  simp only [Act.put, List.setIfInBounds_toArray, List.set_cons_zero, List.set_cons_succ]
  refine good_growX 3 (some 25) (Go.Op.buildSlice 44 1 #[(0, Go.Operand.tmp 24)]) (none) (by kernel_rfl) Hok.out (by kernel_rfl) (by kernel_rfl) (by kernel_rfl) (by kernel_rfl) (fun w4 hb => ?_)
  have Ho1 := Lib.hid (CR.keep Ho1.out (Keep.call hb))
  have HG := Lib.hid (below_call HG.out hb)
  clear hb
  refine ⟨.slice (some ⟨w4.heap.size, 0, none⟩) 1 1, World.alloc w4 (.cells #[.int .i64 5, .int .i64 x, .int .i64 0, .int .i64 0, .bool o1_b, .slice o1_a o1_n o1_c, .slice o1_d o1_m o1_e] 50), ?_, (Below.refl _ _).alloc (Nat.le_refl _) _, ?_⟩
  · first | (go_simp; done) | (go_simp; simp_all; done) | (go_simp; rfl)
  have Na0b0 := Lib.hid (show w.heap.size ≠ w4.heap.size from Nat.ne_of_lt (Nat.lt_of_lt_of_le Xa0.out.lt HG.out.size))
  have Gb0 := Lib.hid (show w.heap.size ≤ w4.heap.size from Nat.le_trans HB.out.size HG.out.size)
  obtain ⟨W5, hW⟩ : ∃ W5, W5 = (World.alloc w4 (.cells #[.int .i64 5, .int .i64 x, .int .i64 0, .int .i64 0, .bool o1_b, .slice o1_a o1_n o1_c, .slice o1_d o1_m o1_e] 50)) := ⟨_, rfl⟩
  rw [← hW]
  obtain ⟨xb0, hk, hb⟩ := boxes_1 _ _ _ hW
  clear hW
  have Ho1 := Lib.hid (CR.keep Ho1.out hk)
  have HG := Lib.hid (below_call HG.out hb)
  have Xb0 := Lib.hid xb0
  clear hk hb xb0
  simp only [Act.put, List.setIfInBounds_toArray, List.set_cons_zero, List.set_cons_succ]
  refine good_pureX 4 (some 4) (Go.Op.assign (Go.Operand.tmp 25)) (none) (.slice (some ⟨w4.heap.size, 0, none⟩) 1 1) (by kernel_rfl) (by kernel_rfl) (by kernel_rfl) (fun _ _ _ h => h) (fun w' hw' => ?_) ?_
  · first | (go_simp; done) | (go_simp; simp_all; done) | (go_simp; rfl)
  simp only [Act.put, List.setIfInBounds_toArray, List.set_cons_zero, List.set_cons_succ]
  refine good_pureX 5 (some 5) (Go.Op.assign (Go.Operand.const (Go.Value.int Go.IntKind.i64 0))) (none) (.int .i64 0) (by kernel_rfl) (by kernel_rfl) (by kernel_rfl) (fun _ _ _ h => h) (fun w' hw' => ?_) ?_
  · first | (go_simp; done) | (go_simp; simp_all; done) | (go_simp; rfl)
  simp only [Act.put, List.setIfInBounds_toArray, List.set_cons_zero, List.set_cons_succ]
  refine good_end0 0 (by kernel_rfl) (fun _ w6 hb => ?_)
  have Ho1 := Lib.hid (CR.keep Ho1.out (Keep.call hb))
  have Xb0 := Lib.hid (Box.pcall hb Xb0.out)
  have HG := Lib.hid (below_call HG.out hb)
  clear hb
  have Xa0 := Lib.hid (Box.pcall HG.out Xa0.out)
  have HB := Lib.hid (below_call HB.out HG.out)
  have HS := Lib.hid (SE.of (E := []) HG.out)
  refine wpAnyH_done (by kernel_rfl) ?_ _
  clear HG HS Hok 
  go_wp2
  exact ret_tt rfl rfl rfl rfl ⟨_, _, _, _, _, _, _, _, rfl, Gb0.out, Xb0.out, Ho1.out⟩ HB.out


set_option maxRecDepth 100000 in
set_option maxHeartbeats 4000000 in
theorem rllow_1 {x : Int}  {w : World} (hx : decide (x < 0) = false)  :
    Calls Try.prog 34 #[.int .i64 x, .int .i64 1] w (Ret w (UPR w.heap.size 6 x 0 0 ((1 : Int) : Rat) 2)) := by
  go_enter Try.func34, Try.ntmps34
  have HB := Lib.hid (Below.refl w.heap.size w)
  go_wp2_with fail
  obtain ⟨W1, hW⟩ : ∃ W1, W1 = (World.alloc w (.cells #[.int .i64 6, .int .i64 x, .int .i64 0, .int .i64 0] 48)) := ⟨_, rfl⟩
  rw [← hW]
  obtain ⟨xa0, hk, hb⟩ := boxes_1 _ _ _ hW
  clear hW
  have Ga0 := Lib.hid (show w.heap.size ≤ w.heap.size from Nat.le_trans HB.out.size (by omega))
  have Xa0 := Lib.hid xa0
  have HB := Lib.hid (below_call HB.out hb)
  clear hk hb xa0
  have Xa0 := Lib.hid (Box.drew Xa0.out)
  have HB := Lib.hid (Below.drew HB.out)
  refine wp_region_float [] [] (by kernel_rfl) (by kernel_rfl) 26 (by kernel_rfl) Flok.nil ?_
  intro ok
  have Hok := Lib.hid ok
  clear ok
  have HG := Lib.hid (Below.refl (W1.drew).heap.size (W1.drew))
  refine good_pureX 0 (some 22) (Go.Op.load 48 (Go.Operand.tmp 6)) (none) (.agg #[.int .i64 6, .int .i64 x, .int .i64 0, .int .i64 0]) (by kernel_rfl) (by kernel_rfl) (by kernel_rfl) (fun _ _ _ h => h) (fun w' hw' => ?_) ?_
  · obtain ⟨ca00, ca01, ca02, ca03, fa00, fa01, fa02, fa03⟩ := (Box.se hw' Xa0.out notin0).c4
    first | (go_simp; done) | (go_simp; simp_all; done) | (go_simp; rfl)
  simp only [Act.put, List.setIfInBounds_toArray, List.set_cons_zero, List.set_cons_succ]
  refine good_callX 1 46 (some 23) #[Go.Operand.const (Go.Value.int Go.IntKind.i64 1)] #[3] (none) #[.int .i64 1] (by kernel_rfl) Hok.out (by kernel_rfl) (by kernel_rfl) (by kernel_rfl) (by kernel_rfl) rfl rfl rfl (by kernel_rfl) (fun w2 hb => ?_)
  have HG := Lib.hid (below_call HG.out hb)
  clear hb
  refine Calls.mono (of_rat (x := 1) (by decide) (by decide)) ?_
  rintro e w3 ⟨v3, rfl, ho1, hb⟩
  obtain ⟨o1_b, o1_a, o1_n, o1_c, o1_d, o1_m, o1_e, rfl⟩ := ho1.litb
  refine ⟨_, rfl, ?_, hb⟩
  have HG := Lib.hid (below_call HG.out hb)
  have Ho1 := Lib.hid ho1
  clear hb ho1
  simp only [Act.put, List.setIfInBounds_toArray, List.set_cons_zero, List.set_cons_succ]
  refine good_pureX 2 (some 24) (Go.Op.build 50 #[(0, Go.Operand.tmp 22), (1, Go.Operand.tmp 23)]) (none) (.agg #[.int .i64 6, .int .i64 x, .int .i64 0, .int .i64 0, .bool o1_b, .slice o1_a o1_n o1_c, .slice o1_d o1_m o1_e]) (by kernel_rfl) (by kernel_rfl) (by kernel_rfl) (fun _ _ _ h => h) (fun w' hw' => ?_) ?_
  · first | (go_simp; done) | (go_simp; simp_all; done) | (go_simp; rfl)
  simp only [Act.put, List.setIfInBounds_toArray, List.set_cons_zero, List.set_cons_succ]
  refine good_growX 3 (some 25) (Go.Op.buildSlice 44 1 #[(0, Go.Operand.tmp 24)]) (none) (by kernel_rfl) Hok.out (by kernel_rfl) (by kernel_rfl) (by kernel_rfl) (by kernel_rfl) (fun w4 hb => ?_)
  have Ho1 := Lib.hid (CR.keep Ho1.out (Keep.call hb))
  have HG := Lib.hid (below_call HG.out hb)
  clear hb
  refine ⟨.slice (some ⟨w4.heap.size, 0, none⟩) 1 1, World.alloc w4 (.cells #[.int .i64 6, .int .i64 x, .int .i64 0, .int .i64 0, .bool o1_b, .slice o1_a o1_n o1_c, .slice o1_d o1_m o1_e] 50), ?_, (Below.refl _ _).alloc (Nat.le_refl _) _, ?_⟩
  · first | (go_simp; done) | (go_simp; simp_all; done) | (go_simp; rfl)
  have Na0b0 := Lib.hid (show w.heap.size ≠ w4.heap.size from Nat.ne_of_lt (Nat.lt_of_lt_of_le Xa0.out.lt HG.out.size))
  have Gb0 := Lib.hid (show w.heap.size ≤ w4.heap.size from Nat.le_trans HB.out.size HG.out.size)
  obtain ⟨W5, hW⟩ : ∃ W5, W5 = (World.alloc w4 (.cells #[.int .i64 6, .int .i64 x, .int .i64 0, .int .i64 0, .bool o1_b, .slice o1_a o1_n o1_c, .slice o1_d o1_m o1_e] 50)) := ⟨_, rfl⟩
  rw [← hW]
  obtain ⟨xb0, hk, hb⟩ := boxes_1 _ _ _ hW
  clear hW
  have Ho1 := Lib.hid (CR.keep Ho1.out hk)
  have HG := Lib.hid (below_call HG.out hb)
  have Xb0 := Lib.hid xb0
  clear hk hb xb0
  simp only [Act.put, List.setIfInBounds_toArray, List.set_cons_zero, List.set_cons_succ]
  refine good_pureX 4 (some 4) (Go.Op.assign (Go.Operand.tmp 25)) (none) (.slice (some ⟨w4.heap.size, 0, none⟩) 1 1) (by kernel_rfl) (by kernel_rfl) (by kernel_rfl) (fun _ _ _ h => h) (fun w' hw' => ?_) ?_
  · first | (go_simp; done) | (go_simp; simp_all; done) | (go_simp; rfl)
  simp only [Act.put, List.setIfInBounds_toArray, List.set_cons_zero, List.set_cons_succ]
  refine good_pureX 5 (some 5) (Go.Op.assign (Go.Operand.const (Go.Value.int Go.IntKind.i64 0))) (none) (.int .i64 0) (by kernel_rfl) (by kernel_rfl) (by kernel_rfl) (fun _ _ _ h => h) (fun w' hw' => ?_) ?_
  · first | (go_simp; done) | (go_simp; simp_all; done) | (go_simp; rfl)
  simp only [Act.put, List.setIfInBounds_toArray, List.set_cons_zero, List.set_cons_succ]
  refine good_end0 0 (by kernel_rfl) (fun _ w6 hb => ?_)
  have Ho1 := Lib.hid (CR.keep Ho1.out (Keep.call hb))
  have Xb0 := Lib.hid (Box.pcall hb Xb0.out)
  have HG := Lib.hid (below_call HG.out hb)
  clear hb
  have Xa0 := Lib.hid (Box.pcall HG.out Xa0.out)
  have HB := Lib.hid (below_call HB.out HG.out)
  have HS := Lib.hid (SE.of (E := []) HG.out)
  refine wpAnyH_done (by kernel_rfl) ?_ _
  clear HG HS Hok 
  go_wp2
  exact ret_tt rfl rfl rfl rfl ⟨_, _, _, _, _, _, _, _, rfl, Gb0.out, Xb0.out, Ho1.out⟩ HB.out


set_option maxRecDepth 100000 in
set_option maxHeartbeats 4000000 in
theorem rlloe_a {x y : Int}  {w : World} (hx : decide (x < 0) = true) (hy : (y == 1) = false)  :
    Calls Try.prog 34 #[.int .i64 x, .int .i64 y] w (Ret w (Val (.tuple #[.slice none 0 0, .int .i64 1]))) := by
  go_enter Try.func34, Try.ntmps34
  have HB := Lib.hid (Below.refl w.heap.size w)
  go_wp2
  obtain ⟨W1, hW⟩ : ∃ W1, W1 = (World.alloc w (.cells #[.int .i64 5, .int .i64 x, .int .i64 0, .int .i64 0] 48)) := ⟨_, rfl⟩
  rw [← hW]
  obtain ⟨xa0, hk, hb⟩ := boxes_1 _ _ _ hW
  clear hW
  have Ga0 := Lib.hid (show w.heap.size ≤ w.heap.size from Nat.le_trans HB.out.size (by omega))
  have Xa0 := Lib.hid xa0
  have HB := Lib.hid (below_call HB.out hb)
  clear hk hb xa0
  exact ret_tt rfl rfl rfl rfl rfl HB.out


set_option maxRecDepth 100000 in
set_option maxHeartbeats 4000000 in
theorem rlloe_b {x y : Int}  {w : World} (hx : decide (x < 0) = true) (hy : (y == 1) = true)  :
    Calls Try.prog 34 #[.int .i64 x, .int .i64 y] w (Ret w (Val (.tuple #[.slice none 0 0, .int .i64 1]))) := by
  go_enter Try.func34, Try.ntmps34
  have HB := Lib.hid (Below.refl w.heap.size w)
  go_wp2
  obtain ⟨W1, hW⟩ : ∃ W1, W1 = (World.alloc w (.cells #[.int .i64 6, .int .i64 x, .int .i64 0, .int .i64 0] 48)) := ⟨_, rfl⟩
  rw [← hW]
  obtain ⟨xa0, hk, hb⟩ := boxes_1 _ _ _ hW
  clear hW
  have Ga0 := Lib.hid (show w.heap.size ≤ w.heap.size from Nat.le_trans HB.out.size (by omega))
  have Xa0 := Lib.hid xa0
  have HB := Lib.hid (below_call HB.out hb)
  clear hk hb xa0
  exact ret_tt rfl rfl rfl rfl rfl HB.out


set_option maxRecDepth 100000 in
set_option maxHeartbeats 4000000 in
theorem rlloe_c {x y : Int}  {w : World} (hx : decide (x < 0) = false) (hy : (y == 1) = false) (hy0 : decide (y < 0) = true)  :
    Calls Try.prog 34 #[.int .i64 x, .int .i64 y] w (Ret w (Val (.tuple #[.slice none 0 0, .int .i64 1]))) := by
  go_enter Try.func34, Try.ntmps34
  have HB := Lib.hid (Below.refl w.heap.size w)
  go_wp2
  obtain ⟨W1, hW⟩ : ∃ W1, W1 = (World.alloc w (.cells #[.int .i64 5, .int .i64 x, .int .i64 0, .int .i64 0] 48)) := ⟨_, rfl⟩
  rw [← hW]
  obtain ⟨xa0, hk, hb⟩ := boxes_1 _ _ _ hW
  clear hW
  have Ga0 := Lib.hid (show w.heap.size ≤ w.heap.size from Nat.le_trans HB.out.size (by omega))
  have Xa0 := Lib.hid xa0
  have HB := Lib.hid (below_call HB.out hb)
  clear hk hb xa0
  exact ret_tt rfl rfl rfl rfl rfl HB.out


set_option maxRecDepth 100000 in
set_option maxHeartbeats 4000000 in
theorem rlloe_d {x y : Int}  {w : World} (hx : decide (x < 0) = false) (hy : (y == 1) = false) (hy0 : decide (y < 0) = false) (hy1 : decide (1 < y) = true)  :
    Calls Try.prog 34 #[.int .i64 x, .int .i64 y] w (Ret w (Val (.tuple #[.slice none 0 0, .int .i64 1]))) := by
  go_enter Try.func34, Try.ntmps34
  have HB := Lib.hid (Below.refl w.heap.size w)
  go_wp2
  obtain ⟨W1, hW⟩ : ∃ W1, W1 = (World.alloc w (.cells #[.int .i64 5, .int .i64 x, .int .i64 0, .int .i64 0] 48)) := ⟨_, rfl⟩
  rw [← hW]
  obtain ⟨xa0, hk, hb⟩ := boxes_1 _ _ _ hW
  clear hW
  have Ga0 := Lib.hid (show w.heap.size ≤ w.heap.size from Nat.le_trans HB.out.size (by omega))
  have Xa0 := Lib.hid xa0
  have HB := Lib.hid (below_call HB.out hb)
  clear hk hb xa0
  exact ret_tt rfl rfl rfl rfl rfl HB.out


set_option maxRecDepth 100000 in
set_option maxHeartbeats 4000000 in
theorem zlua_0 {x y z : Int} {L : Nat} {qa : Rat} {ba : Bool} {sa ta : Value} {qb : Rat} {bb : Bool} {sb tb : Value} {w : World} (hx : decide (x < 0) = true) (ha : AR qa L w (.agg #[.bool ba, sa, ta])) (hb : AR qb L w (.agg #[.bool bb, sb, tb])) (hL : L ≤ 10000) :
    Calls Try.prog 33 #[.int .i64 x, .int .i64 y, .int .i64 z, .agg #[.bool ba, sa, ta], .agg #[.bool bb, sb, tb]] w (Ret w (Val (.tuple #[.slice none 0 0, .int .i64 1]))) := by
  have Ha := Lib.hid ha
  have Hb := Lib.hid hb
  clear ha hb
  go_enter Try.func33, Try.ntmps33
  have HB := Lib.hid (Below.refl w.heap.size w)
  go_wp2
  obtain ⟨W1, hW⟩ : ∃ W1, W1 = (World.alloc (World.alloc w (.cells #[.bool ba, sa, ta] 25)) (.cells #[.bool bb, sb, tb] 25)) := ⟨_, rfl⟩
  rw [← hW]
  obtain ⟨xa0, xb0, hk, hb⟩ := boxes_2 _ _ _ _ _ hW
  clear hW
  have Ga0 := Lib.hid (show w.heap.size ≤ w.heap.size from Nat.le_trans HB.out.size (by omega))
  have Gb0 := Lib.hid (show w.heap.size ≤ w.heap.size + 1 from Nat.le_trans HB.out.size (by omega))
  have Xa0 := Lib.hid xa0
  have Xb0 := Lib.hid xb0
  have HB := Lib.hid (below_call HB.out hb)
  clear hk hb xa0 xb0
  exact ret_tt rfl rfl rfl rfl rfl HB.out


set_option maxRecDepth 100000 in
set_option maxHeartbeats 4000000 in
theorem zlua_1 {x y z : Int} {L : Nat} {qa : Rat} {ba : Bool} {sa ta : Value} {qb : Rat} {bb : Bool} {sb tb : Value} {w : World} (hx : decide (x < 0) = false) (hy : decide (y < 1) = true) (ha : AR qa L w (.agg #[.bool ba, sa, ta])) (hb : AR qb L w (.agg #[.bool bb, sb, tb])) (hL : L ≤ 10000) :
    Calls Try.prog 33 #[.int .i64 x, .int .i64 y, .int .i64 z, .agg #[.bool ba, sa, ta], .agg #[.bool bb, sb, tb]] w (Ret w (Val (.tuple #[.slice none 0 0, .int .i64 1]))) := by
  have Ha := Lib.hid ha
  have Hb := Lib.hid hb
  clear ha hb
  go_enter Try.func33, Try.ntmps33
  have HB := Lib.hid (Below.refl w.heap.size w)
  go_wp2
  obtain ⟨W1, hW⟩ : ∃ W1, W1 = (World.alloc (World.alloc w (.cells #[.bool ba, sa, ta] 25)) (.cells #[.bool bb, sb, tb] 25)) := ⟨_, rfl⟩
  rw [← hW]
  obtain ⟨xa0, xb0, hk, hb⟩ := boxes_2 _ _ _ _ _ hW
  clear hW
  have Ga0 := Lib.hid (show w.heap.size ≤ w.heap.size from Nat.le_trans HB.out.size (by omega))
  have Gb0 := Lib.hid (show w.heap.size ≤ w.heap.size + 1 from Nat.le_trans HB.out.size (by omega))
  have Xa0 := Lib.hid xa0
  have Xb0 := Lib.hid xb0
  have HB := Lib.hid (below_call HB.out hb)
  clear hk hb xa0 xb0
  exact ret_tt rfl rfl rfl rfl rfl HB.out


set_option maxRecDepth 100000 in
set_option maxHeartbeats 4000000 in
theorem zlua_2 {x y z : Int} {L : Nat} {qa : Rat} {ba : Bool} {sa ta : Value} {qb : Rat} {bb : Bool} {sb tb : Value} {w : World} (hx : decide (x < 0) = false) (hy : decide (y < 1) = false) (hz : decide (z < 1) = true) (ha : AR qa L w (.agg #[.bool ba, sa, ta])) (hb : AR qb L w (.agg #[.bool bb, sb, tb])) (hL : L ≤ 10000) :
    Calls Try.prog 33 #[.int .i64 x, .int .i64 y, .int .i64 z, .agg #[.bool ba, sa, ta], .agg #[.bool bb, sb, tb]] w (Ret w (Val (.tuple #[.slice none 0 0, .int .i64 1]))) := by
  have Ha := Lib.hid ha
  have Hb := Lib.hid hb
  clear ha hb
  go_enter Try.func33, Try.ntmps33
  have HB := Lib.hid (Below.refl w.heap.size w)
  go_wp2
  obtain ⟨W1, hW⟩ : ∃ W1, W1 = (World.alloc (World.alloc w (.cells #[.bool ba, sa, ta] 25)) (.cells #[.bool bb, sb, tb] 25)) := ⟨_, rfl⟩
  rw [← hW]
  obtain ⟨xa0, xb0, hk, hb⟩ := boxes_2 _ _ _ _ _ hW
  clear hW
  have Ga0 := Lib.hid (show w.heap.size ≤ w.heap.size from Nat.le_trans HB.out.size (by omega))
  have Gb0 := Lib.hid (show w.heap.size ≤ w.heap.size + 1 from Nat.le_trans HB.out.size (by omega))
  have Xa0 := Lib.hid xa0
  have Xb0 := Lib.hid xb0
  have HB := Lib.hid (below_call HB.out hb)
  clear hk hb xa0 xb0
  exact ret_tt rfl rfl rfl rfl rfl HB.out


set_option maxRecDepth 100000 in
set_option maxHeartbeats 4000000 in
theorem zlur {x y z : Int} {L : Nat} {qa : Rat} {ba : Bool} {sa ta : Value} {qb : Rat} {bb : Bool} {sb tb : Value} {w : World} (hx : decide (x < 0) = false) (hy : decide (y < 1) = false) (hz : decide (z < 1) = false) (hu : unst qa qb = false) (ha : AR qa L w (.agg #[.bool ba, sa, ta])) (hb : AR qb L w (.agg #[.bool bb, sb, tb])) (hL : L ≤ 10000) :
    Calls Try.prog 33 #[.int .i64 x, .int .i64 y, .int .i64 z, .agg #[.bool ba, sa, ta], .agg #[.bool bb, sb, tb]] w (Ret w (Val (.tuple #[.slice none 0 0, .int .i64 2]))) := by
  have Ha := Lib.hid ha
  have Hb := Lib.hid hb
  have Hu := Lib.hid hu
  clear ha hb hu
  go_enter Try.func33, Try.ntmps33
  have HB := Lib.hid (Below.refl w.heap.size w)
  go_wp2_with fail
  obtain ⟨W1, hW⟩ : ∃ W1, W1 = (World.alloc (World.alloc w (.cells #[.bool ba, sa, ta] 25)) (.cells #[.bool bb, sb, tb] 25)) := ⟨_, rfl⟩
  rw [← hW]
  obtain ⟨xa0, xb0, hk, hb⟩ := boxes_2 _ _ _ _ _ hW
  clear hW
  have Ha := Lib.hid (AR.keep Ha.out hk)
  have Hb := Lib.hid (AR.keep Hb.out hk)
  have Ga0 := Lib.hid (show w.heap.size ≤ w.heap.size from Nat.le_trans HB.out.size (by omega))
  have Gb0 := Lib.hid (show w.heap.size ≤ w.heap.size + 1 from Nat.le_trans HB.out.size (by omega))
  have Xa0 := Lib.hid xa0
  have Xb0 := Lib.hid xb0
  have HB := Lib.hid (below_call HB.out hb)
  clear hk hb xa0 xb0
  (first | (have hcall := zluns_ar Hu.out Ha.out Hb.out (by omega); refine Calls.mono hcall ?_; clear hcall) | refine Calls.mono (zluns_ar Hu.out Ha.out Hb.out (by omega)) ?_)
  rintro e w2 ⟨v2, rfl, rfl, hb⟩
  have Xa0 := Lib.hid (Box.pcall hb Xa0.out)
  have Xb0 := Lib.hid (Box.pcall hb Xb0.out)
  have HB := Lib.hid (below_call HB.out hb)
  clear hb
  obtain ⟨ca00, ca01, ca02, fa00, fa01, fa02⟩ := Xa0.out.c3
  have la0 := Xa0.out.lt
  obtain ⟨cb00, cb01, cb02, fb00, fb01, fb02⟩ := Xb0.out.c3
  have lb0 := Xb0.out.lt
  go_wp2
  clear ca00 ca01 ca02 fa00 fa01 fa02 la0 cb00 cb01 cb02 fb00 fb01 fb02 lb0
  exact ret_tt rfl rfl rfl rfl rfl HB.out


theorem zlup_arg {x y z : Int} {a b : Rat} {L : Nat} {u v : Value} {w : World} (hx : x < 0 ∨ y < 1 ∨ z < 1) (h : AR a L w u) (h' : AR b L w v) (hL : L ≤ 10000) :
    Calls Try.prog 33 #[.int .i64 x, .int .i64 y, .int .i64 z, u, v] w (Ret w (Val (.tuple #[.slice none 0 0, .int .i64 1]))) := by
  obtain ⟨ba, sa, ta, rfl⟩ := h.agg
  obtain ⟨bb, sb, tb, rfl⟩ := h'.agg
  by_cases h1 : x < 0
  · exact zlua_0 (decide_eq_true h1) h h' hL
  · by_cases h2 : y < 1
    · exact zlua_1 (decide_eq_false h1) (decide_eq_true h2) h h' hL
    · exact zlua_2 (decide_eq_false h1) (decide_eq_false h2) (decide_eq_true (by omega)) h h' hL
theorem zlup_rng {x y z : Int} {a b : Rat} {L : Nat} {u v : Value} {w : World} (hx : 0 ≤ x) (hy : 1 ≤ y) (hz : 1 ≤ z) (hu : unst a b = false) (h : AR a L w u) (h' : AR b L w v) (hL : L ≤ 10000) :
    Calls Try.prog 33 #[.int .i64 x, .int .i64 y, .int .i64 z, u, v] w (Ret w (Val (.tuple #[.slice none 0 0, .int .i64 2]))) := by
  obtain ⟨ba, sa, ta, rfl⟩ := h.agg
  obtain ⟨bb, sb, tb, rfl⟩ := h'.agg
  exact zlur (decide_eq_false (by omega)) (decide_eq_false (by omega)) (decide_eq_false (by omega)) hu h h' hL

set_option maxRecDepth 100000 in
set_option maxHeartbeats 4000000 in
theorem zllow_0 {x : Int}  {w : World} (hx : decide (x < 0) = false)  :
    Calls Try.prog 35 #[.int .i64 x, .int .i64 0] w (Ret w (UPR w.heap.size 5 x 0 0 ((1 : Int) : Rat) 2)) := by
  go_enter Try.func35, Try.ntmps35
  have HB := Lib.hid (Below.refl w.heap.size w)
  go_wp2_with fail
  obtain ⟨W1, hW⟩ : ∃ W1, W1 = (World.alloc w (.cells #[.int .i64 5, .int .i64 x, .int .i64 0, .int .i64 0] 48)) := ⟨_, rfl⟩
  rw [← hW]
  obtain ⟨xa0, hk, hb⟩ := boxes_1 _ _ _ hW
  clear hW
  have Ga0 := Lib.hid (show w.heap.size ≤ w.heap.size from Nat.le_trans HB.out.size (by omega))
  have Xa0 := Lib.hid xa0
  have HB := Lib.hid (below_call HB.out hb)
  clear hk hb xa0
  have Xa0 := Lib.hid (Box.drew Xa0.out)
  have HB := Lib.hid (Below.drew HB.out)
  refine wp_region_float [] [] (by kernel_rfl) (by kernel_rfl) 26 (by kernel_rfl) Flok.nil ?_
  intro ok
  have Hok := Lib.hid ok
  clear ok
  have HG := Lib.hid (Below.refl (W1.drew).heap.size (W1.drew))
  refine good_pureX 0 (some 22) (Go.Op.load 48 (Go.Operand.tmp 6)) (none) (.agg #[.int .i64 5, .int .i64 x, .int .i64 0, .int .i64 0]) (by kernel_rfl) (by kernel_rfl) (by kernel_rfl) (fun _ _ _ h => h) (fun w' hw' => ?_) ?_
  · obtain ⟨ca00, ca01, ca02, ca03, fa00, fa01, fa02, fa03⟩ := (Box.se hw' Xa0.out notin0).c4
    first | (go_simp; done) | (go_simp; simp_all; done) | (go_simp; rfl)
  simp only [Act.put, List.setIfInBounds_toArray, List.set_cons_zero, List.set_cons_succ]
  refine good_callX 1 23 (some 23) #[Go.Operand.const (Go.Value.int Go.IntKind.i64 1)] #[3] (none) #[.int .i64 1] (by kernel_rfl) Hok.out (by kernel_rfl) (by kernel_rfl) (by kernel_rfl) (by kernel_rfl) rfl rfl rfl (by kernel_rfl) (fun w2 hb => ?_)
  have HG := Lib.hid (below_call HG.out hb)
  clear hb
  refine Calls.mono (zof (x := 1) (by decide) (by decide)) ?_
  rintro e w3 ⟨v3, rfl, ho1, hb⟩
  obtain ⟨o1_b, o1_a, o1_n, o1_c, o1_d, o1_m, o1_e, rfl⟩ := ho1.litb
  refine ⟨_, rfl, ?_, hb⟩
  have HG := Lib.hid (below_call HG.out hb)
  have Ho1 := Lib.hid ho1
  clear hb ho1
  simp only [Act.put, List.setIfInBounds_toArray, List.set_cons_zero, List.set_cons_succ]
  refine good_pureX 2 (some 24) (Go.Op.build 50 #[(0, Go.Operand.tmp 22), (1, Go.Operand.tmp 23)]) (none) (.agg #[.int .i64 5, .int .i64 x, .int .i64 0, .int .i64 0, .bool o1_b, .slice o1_a o1_n o1_c, .slice o1_d o1_m o1_e]) (by kernel_rfl) (by kernel_rfl) (by kernel_rfl) (fun _ _ _ h => h) (fun w' hw' => ?_) ?_
  · first | (go_simp; done) | (go_simp; simp_all; done) | (go_simp; rfl)
  simp only [Act.put, List.setIfInBounds_toArray, List.set_cons_zero, List.set_cons_succ]
  refine good_growX 3 (some 25) (Go.Op.buildSlice 44 1 #[(0, Go.Operand.tmp 24)]) (none) (by kernel_rfl) Hok.out (by kernel_rfl) (by kernel_rfl) (by kernel_rfl) (by kernel_rfl) (fun w4 hb => ?_)
  have Ho1 := Lib.hid (CR.keep Ho1.out (Keep.call hb))
  have HG := Lib.hid (below_call HG.out hb)
  clear hb
  refine ⟨.slice (some ⟨w4.heap.size, 0, none⟩) 1 1, World.alloc w4 (.cells #[.int .i64 5, .int .i64 x, .int .i64 0, .int .i64 0, .bool o1_b, .slice o1_a o1_n o1_c, .slice o1_d o1_m o1_e] 50), ?_, (Below.refl _ _).alloc (Nat.le_refl _) _, ?_⟩
  · first | (go_simp; done) | (go_simp; simp_all; done) | (go_simp; rfl)
  have Na0b0 := Lib.hid (show w.heap.size ≠ w4.heap.size from Nat.ne_of_lt (Nat.lt_of_lt_of_le Xa0.out.lt HG.out.size))
  have Gb0 := Lib.hid (show w.heap.size ≤ w4.heap.size from Nat.le_trans HB.out.size HG.out.size)
  obtain ⟨W5, hW⟩ : ∃ W5, W5 = (World.alloc w4 (.cells #[.int .i64 5, .int .i64 x, .int .i64 0, .int .i64 0, .bool o1_b, .slice o1_a o1_n o1_c, .slice o1_d o1_m o1_e] 50)) := ⟨_, rfl⟩
  rw [← hW]
  obtain ⟨xb0, hk, hb⟩ := boxes_1 _ _ _ hW
  clear hW
  have Ho1 := Lib.hid (CR.keep Ho1.out hk)
  have HG := Lib.hid (below_call HG.out hb)
  have Xb0 := Lib.hid xb0
  clear hk hb xb0
  simp only [Act.put, List.setIfInBounds_toArray, List.set_cons_zero, List.set_cons_succ]
  refine good_pureX 4 (some 4) (Go.Op.assign (Go.Operand.tmp 25)) (none) (.slice (some ⟨w4.heap.size, 0, none⟩) 1 1) (by kernel_rfl) (by kernel_rfl) (by kernel_rfl) (fun _ _ _ h => h) (fun w' hw' => ?_) ?_
  · first | (go_simp; done) | (go_simp; simp_all; done) | (go_simp; rfl)
  simp only [Act.put, List.setIfInBounds_toArray, List.set_cons_zero, List.set_cons_succ]
  refine good_pureX 5 (some 5) (Go.Op.assign (Go.Operand.const (Go.Value.int Go.IntKind.i64 0))) (none) (.int .i64 0) (by kernel_rfl) (by kernel_rfl) (by kernel_rfl) (fun _ _ _ h => h) (fun w' hw' => ?_) ?_
  · first | (go_simp; done) | (go_simp; simp_all; done) | (go_simp; rfl)
  simp only [Act.put, List.setIfInBounds_toArray, List.set_cons_zero, List.set_cons_succ]
  refine good_end0 0 (by kernel_rfl) (fun _ w6 hb => ?_)
  have Ho1 := Lib.hid (CR.keep Ho1.out (Keep.call hb))
  have Xb0 := Lib.hid (Box.pcall hb Xb0.out)
  have HG := Lib.hid (below_call HG.out hb)
  clear hb
  have Xa0 := Lib.hid (Box.pcall HG.out Xa0.out)
  have HB := Lib.hid (below_call HB.out HG.out)
  have HS := Lib.hid (SE.of (E := []) HG.out)
  refine wpAnyH_done (by kernel_rfl) ?_ _
  clear HG HS Hok 
  go_wp2
  exact ret_tt rfl rfl rfl rfl ⟨_, _, _, _, _, _, _, _, rfl, Gb0.out, Xb0.out, Ho1.out⟩ HB.out


set_option maxRecDepth 100000 in
set_option maxHeartbeats 4000000 in
theorem zllow_1 {x : Int}  {w : World} (hx : decide (x < 0) = false)  :
    Calls Try.prog 35 #[.int .i64 x, .int .i64 1] w (Ret w (UPR w.heap.size 6 x 0 0 ((1 : Int) : Rat) 2)) := by
  go_enter Try.func35, Try.ntmps35
  have HB := Lib.hid (Below.refl w.heap.size w)
  go_wp2_with fail
  obtain ⟨W1, hW⟩ : ∃ W1, W1 = (World.alloc w (.cells #[.int .i64 6, .int .i64 x, .int .i64 0, .int .i64 0] 48)) := ⟨_, rfl⟩
  rw [← hW]
  obtain ⟨xa0, hk, hb⟩ := boxes_1 _ _ _ hW
  clear hW
  have Ga0 := Lib.hid (show w.heap.size ≤ w.heap.size from Nat.le_trans HB.out.size (by omega))
  have Xa0 := Lib.hid xa0
  have HB := Lib.hid (below_call HB.out hb)
  clear hk hb xa0
  have Xa0 := Lib.hid (Box.drew Xa0.out)
  have HB := Lib.hid (Below.drew HB.out)
  refine wp_region_float [] [] (by kernel_rfl) (by kernel_rfl) 26 (by kernel_rfl) Flok.nil ?_
  intro ok
  have Hok := Lib.hid ok
  clear ok
  have HG := Lib.hid (Below.refl (W1.drew).heap.size (W1.drew))
  refine good_pureX 0 (some 22) (Go.Op.load 48 (Go.Operand.tmp 6)) (none) (.agg #[.int .i64 6, .int .i64 x, .int .i64 0, .int .i64 0]) (by kernel_rfl) (by kernel_rfl) (by kernel_rfl) (fun _ _ _ h => h) (fun w' hw' => ?_) ?_
  · obtain ⟨ca00, ca01, ca02, ca03, fa00, fa01, fa02, fa03⟩ := (Box.se hw' Xa0.out notin0).c4
    first | (go_simp; done) | (go_simp; simp_all; done) | (go_simp; rfl)
  simp only [Act.put, List.setIfInBounds_toArray, List.set_cons_zero, List.set_cons_succ]
  refine good_callX 1 23 (some 23) #[Go.Operand.const (Go.Value.int Go.IntKind.i64 1)] #[3] (none) #[.int .i64 1] (by kernel_rfl) Hok.out (by kernel_rfl) (by kernel_rfl) (by kernel_rfl) (by kernel_rfl) rfl rfl rfl (by kernel_rfl) (fun w2 hb => ?_)
  have HG := Lib.hid (below_call HG.out hb)
  clear hb
  refine Calls.mono (zof (x := 1) (by decide) (by decide)) ?_
  rintro e w3 ⟨v3, rfl, ho1, hb⟩
  obtain ⟨o1_b, o1_a, o1_n, o1_c, o1_d, o1_m, o1_e, rfl⟩ := ho1.litb
  refine ⟨_, rfl, ?_, hb⟩
  have HG := Lib.hid (below_call HG.out hb)
  have Ho1 := Lib.hid ho1
  clear hb ho1
  simp only [Act.put, List.setIfInBounds_toArray, List.set_cons_zero, List.set_cons_succ]
  refine good_pureX 2 (some 24) (Go.Op.build 50 #[(0, Go.Operand.tmp 22), (1, Go.Operand.tmp 23)]) (none) (.agg #[.int .i64 6, .int .i64 x, .int .i64 0, .int .i64 0, .bool o1_b, .slice o1_a o1_n o1_c, .slice o1_d o1_m o1_e]) (by kernel_rfl) (by kernel_rfl) (by kernel_rfl) (fun _ _ _ h => h) (fun w' hw' => ?_) ?_
  · first | (go_simp; done) | (go_simp; simp_all; done) | (go_simp; rfl)
  simp only [Act.put, List.setIfInBounds_toArray, List.set_cons_zero, List.set_cons_succ]
  refine good_growX 3 (some 25) (Go.Op.buildSlice 44 1 #[(0, Go.Operand.tmp 24)]) (none) (by kernel_rfl) Hok.out (by kernel_rfl) (by kernel_rfl) (by kernel_rfl) (by kernel_rfl) (fun w4 hb => ?_)
  have Ho1 := Lib.hid (CR.keep Ho1.out (Keep.call hb))
  have HG := Lib.hid (below_call HG.out hb)
  clear hb
  refine ⟨.slice (some ⟨w4.heap.size, 0, none⟩) 1 1, World.alloc w4 (.cells #[.int .i64 6, .int .i64 x, .int .i64 0, .int .i64 0, .bool o1_b, .slice o1_a o1_n o1_c, .slice o1_d o1_m o1_e] 50), ?_, (Below.refl _ _).alloc (Nat.le_refl _) _, ?_⟩
  · first | (go_simp; done) | (go_simp; simp_all; done) | (go_simp; rfl)
  have Na0b0 := Lib.hid (show w.heap.size ≠ w4.heap.size from Nat.ne_of_lt (Nat.lt_of_lt_of_le Xa0.out.lt HG.out.size))
  have Gb0 := Lib.hid (show w.heap.size ≤ w4.heap.size from Nat.le_trans HB.out.size HG.out.size)
  obtain ⟨W5, hW⟩ : ∃ W5, W5 = (World.alloc w4 (.cells #[.int .i64 6, .int .i64 x, .int .i64 0, .int .i64 0, .bool o1_b, .slice o1_a o1_n o1_c, .slice o1_d o1_m o1_e] 50)) := ⟨_, rfl⟩
  rw [← hW]
  obtain ⟨xb0, hk, hb⟩ := boxes_1 _ _ _ hW
  clear hW
  have Ho1 := Lib.hid (CR.keep Ho1.out hk)
  have HG := Lib.hid (below_call HG.out hb)
  have Xb0 := Lib.hid xb0
  clear hk hb xb0
  simp only [Act.put, List.setIfInBounds_toArray, List.set_cons_zero, List.set_cons_succ]
  refine good_pureX 4 (some 4) (Go.Op.assign (Go.Operand.tmp 25)) (none) (.slice (some ⟨w4.heap.size, 0, none⟩) 1 1) (by kernel_rfl) (by kernel_rfl) (by kernel_rfl) (fun _ _ _ h => h) (fun w' hw' => ?_) ?_
  · first | (go_simp; done) | (go_simp; simp_all; done) | (go_simp; rfl)
  simp only [Act.put, List.setIfInBounds_toArray, List.set_cons_zero, List.set_cons_succ]
  refine good_pureX 5 (some 5) (Go.Op.assign (Go.Operand.const (Go.Value.int Go.IntKind.i64 0))) (none) (.int .i64 0) (by kernel_rfl) (by kernel_rfl) (by kernel_rfl) (fun _ _ _ h => h) (fun w' hw' => ?_) ?_
  · first | (go_simp; done) | (go_simp; simp_all; done) | (go_simp; rfl)
  simp only [Act.put, List.setIfInBounds_toArray, List.set_cons_zero, List.set_cons_succ]
  refine good_end0 0 (by kernel_rfl) (fun _ w6 hb => ?_)
  have Ho1 := Lib.hid (CR.keep Ho1.out (Keep.call hb))
  have Xb0 := Lib.hid (Box.pcall hb Xb0.out)
  have HG := Lib.hid (below_call HG.out hb)
  clear hb
  have Xa0 := Lib.hid (Box.pcall HG.out Xa0.out)
  have HB := Lib.hid (below_call HB.out HG.out)
  have HS := Lib.hid (SE.of (E := []) HG.out)
  refine wpAnyH_done (by kernel_rfl) ?_ _
  clear HG HS Hok 
  go_wp2
  exact ret_tt rfl rfl rfl rfl ⟨_, _, _, _, _, _, _, _, rfl, Gb0.out, Xb0.out, Ho1.out⟩ HB.out


set_option maxRecDepth 100000 in
set_option maxHeartbeats 4000000 in
theorem zlloe_a {x y : Int}  {w : World} (hx : decide (x < 0) = true)  :
    Calls Try.prog 35 #[.int .i64 x, .int .i64 y] w (Ret w (Val (.tuple #[.slice none 0 0, .int .i64 1]))) := by
  go_enter Try.func35, Try.ntmps35
  have HB := Lib.hid (Below.refl w.heap.size w)
  go_wp2
  exact ret_tt rfl rfl rfl rfl rfl HB.out


set_option maxRecDepth 100000 in
set_option maxHeartbeats 4000000 in
theorem zlloe_b {x y : Int}  {w : World} (hx : decide (x < 0) = false) (hy : (y != 0) = true) (hy1 : (y != 1) = true)  :
    Calls Try.prog 35 #[.int .i64 x, .int .i64 y] w (Ret w (Val (.tuple #[.slice none 0 0, .int .i64 1]))) := by
  go_enter Try.func35, Try.ntmps35
  have HB := Lib.hid (Below.refl w.heap.size w)
  go_wp2
  exact ret_tt rfl rfl rfl rfl rfl HB.out


theorem rllow_err {x y : Int} {w : World} (h : x < 0 ∨ y < 0 ∨ 1 < y) : Calls Try.prog 34 #[.int .i64 x, .int .i64 y] w (Ret w (Val (.tuple #[.slice none 0 0, .int .i64 1]))) := by
  by_cases h1 : x < 0
  · by_cases h2 : y = 1
    · exact rlloe_b (decide_eq_true h1) (beq_iff_eq.2 h2)
    · exact rlloe_a (decide_eq_true h1) (beq_eq_false_iff_ne.2 h2)
  · by_cases h2 : y < 0
    · exact rlloe_c (decide_eq_false h1) (beq_eq_false_iff_ne.2 (by omega)) (decide_eq_true h2)
    · exact rlloe_d (decide_eq_false h1) (beq_eq_false_iff_ne.2 (by omega)) (decide_eq_false h2) (decide_eq_true (by omega))
theorem zllow_err {x y : Int} {w : World} (h : x < 0 ∨ y < 0 ∨ 1 < y) : Calls Try.prog 35 #[.int .i64 x, .int .i64 y] w (Ret w (Val (.tuple #[.slice none 0 0, .int .i64 1]))) := by
  by_cases h1 : x < 0
  · exact zlloe_a (decide_eq_true h1)
  · exact zlloe_b (decide_eq_false h1) (bne_iff_ne.2 (by omega)) (bne_iff_ne.2 (by omega))

end Go.Proofs.Ytlpjgncaedffoaa
