/- Layer 3: RationalNeg, RationalFloor and RationalMake. Printed by ratd.py. -/
import Derived.Test.YtfkjhaniglmejaaShelR
namespace Go.Proofs.Ytfkjhaniglmejaa
open Go.RowKit Nt
set_option linter.unusedVariables false

theorem rivalid_cl {z : Int} {L : Nat} {v : Value} {w : World} (h : CL z L w v) : Calls Try.prog 22 #[v] w (Ret w (Val (.bool true))) := by
  obtain ⟨⟨s, rfl, h2⟩, -⟩ := h
  exact rivalid_any true ivB_can h2
theorem q_add_neg (a : Rat) : a + -a = 0 := by grind
theorem sgn_neg {q : Rat} {k : Int} (h : q.num.sign = k) : (-q).num.sign = -k := by rw [← h, Rat.neg_num, Int.sign_neg]
theorem q_six (n : Int) : ((n : Rat) / ((6 : Int) : Rat)) * ((6 : Int) : Rat) = (n : Rat) := by
  rw [Rat.div_def, Rat.mul_assoc, Rat.mul_comm (((6 : Int) : Rat)⁻¹), Rat.mul_inv_cancel _ (by decide), Rat.mul_one]
theorem cmpQ_flo (q : Rat) : decide (cmpQ (q.floor : Rat) q ≤ 0) = true := decide_eq_true (cmpQ_le.2 (floor_bd q).1)
theorem cmpQ_fhi (q : Rat) : decide (0 < cmpQ ((q.floor : Rat) + ((1 : Int) : Rat)) q) = true := by
  have h := mt (@cmpQ_le ((q.floor : Rat) + ((1 : Int) : Rat)) q).1 (by have := (floor_bd q).2; rw [show ((1 : Int) : Rat) = 1 from rfl]; grind)
  exact decide_eq_true (by omega)

set_option maxRecDepth 100000 in
set_option maxHeartbeats 4000000 in
theorem lrneg_no0 {ba : Bool} {sa ta : Option Addr} {na ca ma ea : Nat}  {w : World}  (hno : 3 < na ∨ 3 < ma) :
    Calls Try.prog 7 #[.agg #[.bool ba, .slice sa na ca, .slice ta ma ea]] w (Ret w (Val (.bool true))) := by
  have Hno := Lib.hid hno
  clear hno
  go_enter Try.func7, Try.ntmps7
  have HB := Lib.hid (Below.refl w.heap.size w)
  go_wp2_with fail
  obtain ⟨W1, hW⟩ : ∃ W1, W1 = (World.alloc w (.cells #[.bool ba, .slice sa na ca, .slice ta ma ea] 25)) := ⟨_, rfl⟩
  rw [← hW]
  obtain ⟨xa0, hk, hb⟩ := boxes_1 _ _ _ hW
  clear hW
  have Ga0 := Lib.hid (show w.heap.size ≤ w.heap.size from Nat.le_trans HB.out.size (by omega))
  have Xa0 := Lib.hid xa0
  have HB := Lib.hid (below_call HB.out hb)
  clear hk hb xa0
  refine Calls.mono (awake3) ?_
  rintro e w2 ⟨v2, rfl, rfl, hb⟩
  have Xa0 := Lib.hid (Box.pcall hb Xa0.out)
  have HB := Lib.hid (below_call HB.out hb)
  clear hb
  obtain ⟨ca00, ca01, ca02, fa00, fa01, fa02⟩ := Xa0.out.c3
  have la0 := Xa0.out.lt
  go_wp2_with fail
  clear ca00 ca01 ca02 fa00 fa01 fa02 la0
  refine Calls.mono (few3_no Hno.out) ?_
  rintro e w3 ⟨v3, rfl, rfl, hb⟩
  have Xa0 := Lib.hid (Box.pcall hb Xa0.out)
  have HB := Lib.hid (below_call HB.out hb)
  clear hb
  obtain ⟨ca00, ca01, ca02, fa00, fa01, fa02⟩ := Xa0.out.c3
  have la0 := Xa0.out.lt
  go_wp2
  clear ca00 ca01 ca02 fa00 fa01 fa02 la0
  go_ret
  exact ⟨_, rfl, rfl, HB.out⟩


set_option maxRecDepth 100000 in
set_option maxHeartbeats 4000000 in
theorem lrneg_yes {qa : Rat} {ba : Bool} {sa ta : Option Addr} {na ca ma ea : Nat}  {w : World} (k : Int) (hk : qa.num.sign = k) (h1 : -1 ≤ k) (h2 : k ≤ 1) (ha : AR qa 3 w (.agg #[.bool ba, .slice sa na ca, .slice ta ma ea])) (hfa : na ≤ 3) (hga : ma ≤ 3) :
    Calls Try.prog 7 #[.agg #[.bool ba, .slice sa na ca, .slice ta ma ea]] w (Ret w (Val (.bool true))) := by
  have Ha := Lib.hid ha
  have Hk := Lib.hid hk
  have Hfa := Lib.hid hfa
  have Hga := Lib.hid hga
  clear ha hk hfa hga
  have hwk : IntKind.i64.wrap (-k) = -k := IntWalk.i64_in _ (by omega)
  go_enter Try.func7, Try.ntmps7
  have HB := Lib.hid (Below.refl w.heap.size w)
  go_wp2_with fail
  obtain ⟨W1, hW⟩ : ∃ W1, W1 = (World.alloc w (.cells #[.bool ba, .slice sa na ca, .slice ta ma ea] 25)) := ⟨_, rfl⟩
  rw [← hW]
  obtain ⟨xa0, hk, hb⟩ := boxes_1 _ _ _ hW
  clear hW
  have Ha := Lib.hid (AR.keep Ha.out hk)
  have Ga0 := Lib.hid (show w.heap.size ≤ w.heap.size from Nat.le_trans HB.out.size (by omega))
  have Xa0 := Lib.hid xa0
  have HB := Lib.hid (below_call HB.out hb)
  clear hk hb xa0
  refine Calls.mono (awake3) ?_
  rintro e w2 ⟨v2, rfl, rfl, hb⟩
  have Ha := Lib.hid (AR.keep Ha.out (Keep.call hb))
  have Xa0 := Lib.hid (Box.pcall hb Xa0.out)
  have HB := Lib.hid (below_call HB.out hb)
  clear hb
  obtain ⟨ca00, ca01, ca02, fa00, fa01, fa02⟩ := Xa0.out.c3
  have la0 := Xa0.out.lt
  go_wp2_with fail
  clear ca00 ca01 ca02 fa00 fa01 fa02 la0
  refine Calls.mono (few3_yes Hfa.out Hga.out) ?_
  rintro e w3 ⟨v3, rfl, rfl, hb⟩
  have Ha := Lib.hid (AR.keep Ha.out (Keep.call hb))
  have Xa0 := Lib.hid (Box.pcall hb Xa0.out)
  have HB := Lib.hid (below_call HB.out hb)
  clear hb
  obtain ⟨ca00, ca01, ca02, fa00, fa01, fa02⟩ := Xa0.out.c3
  have la0 := Xa0.out.lt
  go_wp2_with fail
  clear ca00 ca01 ca02 fa00 fa01 fa02 la0
  (first | (have hcall := rneg_ar Ha.out (by decide); refine Calls.mono hcall ?_; clear hcall) | refine Calls.mono (rneg_ar Ha.out (by decide)) ?_)
  rintro e w4 ⟨v4, rfl, hv1, hb⟩
  obtain ⟨v1_b, v1_a, v1_n, v1_c, v1_d, v1_m, v1_e, rfl⟩ := hv1.litb
  have Ha := Lib.hid (AR.keep Ha.out (Keep.call hb))
  have Xa0 := Lib.hid (Box.pcall hb Xa0.out)
  have HB := Lib.hid (below_call HB.out hb)
  have Hv1 := Lib.hid hv1
  clear hb hv1
  obtain ⟨ca00, ca01, ca02, fa00, fa01, fa02⟩ := Xa0.out.c3
  have la0 := Xa0.out.lt
  go_wp2_with fail
  clear ca00 ca01 ca02 fa00 fa01 fa02 la0
  obtain ⟨W5, hW⟩ : ∃ W5, W5 = (World.alloc w4 (.cells #[.bool v1_b, .slice v1_a v1_n v1_c, .slice v1_d v1_m v1_e] 25)) := ⟨_, rfl⟩
  rw [← hW]
  obtain ⟨xb0, hk, hb⟩ := boxes_1 _ _ _ hW
  clear hW
  have Ha := Lib.hid (AR.keep Ha.out hk)
  have Hv1 := Lib.hid (CR.keep Hv1.out hk)
  have Na0b0 := Lib.hid (show w.heap.size ≠ w4.heap.size from Nat.ne_of_lt (Nat.lt_of_lt_of_le Xa0.out.lt (by omega)))
  have Gb0 := Lib.hid (show w.heap.size ≤ w4.heap.size from Nat.le_trans HB.out.size (by omega))
  have Xa0 := Lib.hid (Box.pcall hb Xa0.out)
  have Xb0 := Lib.hid xb0
  have HB := Lib.hid (below_call HB.out hb)
  clear hk hb xb0
  have Ha := Lib.hid (AR.keep Ha.out (Keep.drew W5))
  have Hv1 := Lib.hid (CR.keep Hv1.out (Keep.drew W5))
  have Xa0 := Lib.hid (Box.drew Xa0.out)
  have Xb0 := Lib.hid (Box.drew Xb0.out)
  have HB := Lib.hid (Below.drew HB.out)
  refine wp_region_float [] [] (by kernel_rfl) (by kernel_rfl) 30 (by kernel_rfl) Flok.nil ?_
  intro ok
  have Hok := Lib.hid ok
  clear ok
  have HG := Lib.hid (Below.refl (W5.drew).heap.size (W5.drew))
  refine good_pureX 0 (some 11) (Go.Op.load 25 (Go.Operand.tmp 3)) (none) (.agg #[.bool v1_b, .slice v1_a v1_n v1_c, .slice v1_d v1_m v1_e]) (by kernel_rfl) (by kernel_rfl) (by kernel_rfl) (fun _ _ _ h => h) (fun w' hw' => ?_) ?_
  · obtain ⟨cb00, cb01, cb02, fb00, fb01, fb02⟩ := (Box.se hw' Xb0.out notin0).c3
    first | (go_simp; done) | (go_simp; simp_all; done) | (go_simp; rfl)
  simp only [Act.put, List.setIfInBounds_toArray, List.set_cons_zero, List.set_cons_succ]
  refine good_pureX 1 (some 12) (Go.Op.load 25 (Go.Operand.tmp 1)) (none) (.agg #[.bool ba, .slice sa na ca, .slice ta ma ea]) (by kernel_rfl) (by kernel_rfl) (by kernel_rfl) (fun _ _ _ h => h) (fun w' hw' => ?_) ?_
  · obtain ⟨ca00, ca01, ca02, fa00, fa01, fa02⟩ := (Box.se hw' Xa0.out notin0).c3
    first | (go_simp; done) | (go_simp; simp_all; done) | (go_simp; rfl)
  simp only [Act.put, List.setIfInBounds_toArray, List.set_cons_zero, List.set_cons_succ]
  refine good_callX 2 31 (some 13) #[Go.Operand.tmp 12] #[25] (none) #[.agg #[.bool ba, .slice sa na ca, .slice ta ma ea]] (by kernel_rfl) Hok.out (by kernel_rfl) (by kernel_rfl) (by kernel_rfl) (by kernel_rfl) rfl rfl rfl (by kernel_rfl) (fun w6 hb => ?_)
  have HG := Lib.hid (below_call HG.out hb)
  clear hb
  (first | (have hcall := zneg_ar (AR.keep Ha.out (Keep.call HG.out)) (by decide); refine Calls.mono hcall ?_; clear hcall) | refine Calls.mono (zneg_ar (AR.keep Ha.out (Keep.call HG.out)) (by decide)) ?_)
  rintro e w7 ⟨v7, rfl, hv2, hb⟩
  obtain ⟨v2_b, v2_a, v2_n, v2_c, v2_d, v2_m, v2_e, rfl⟩ := hv2.litb
  refine ⟨_, rfl, ?_, hb⟩
  have HG := Lib.hid (below_call HG.out hb)
  have Hv2 := Lib.hid hv2
  clear hb hv2
  simp only [Act.put, List.setIfInBounds_toArray, List.set_cons_zero, List.set_cons_succ]
  refine good_callX 3 15 (some 14) #[Go.Operand.tmp 11, Go.Operand.tmp 13] #[25, 25] (none) #[.agg #[.bool v1_b, .slice v1_a v1_n v1_c, .slice v1_d v1_m v1_e], .agg #[.bool v2_b, .slice v2_a v2_n v2_c, .slice v2_d v2_m v2_e]] (by kernel_rfl) Hok.out (by kernel_rfl) (by kernel_rfl) (by kernel_rfl) (by kernel_rfl) rfl rfl rfl (by kernel_rfl) (fun w8 hb => ?_)
  have Hv2 := Lib.hid (CR.keep Hv2.out (Keep.call hb))
  have HG := Lib.hid (below_call HG.out hb)
  clear hb
  (first | (have hcall := zsame_cr (CR.keep Hv1.out (Keep.call HG.out)) Hv2.out (rfl); refine Calls.mono hcall ?_; clear hcall) | refine Calls.mono (zsame_cr (CR.keep Hv1.out (Keep.call HG.out)) Hv2.out (rfl)) ?_)
  rintro e w9 ⟨v9, rfl, rfl, hb⟩
  refine ⟨_, rfl, ?_, hb⟩
  have HG := Lib.hid (below_call HG.out hb)
  clear hb
  simp only [Act.put, List.setIfInBounds_toArray, List.set_cons_zero, List.set_cons_succ]
  refine good_pureX 4 (some 15) (Go.Op.move (Go.Operand.tmp 14)) (none) (.bool true) (by kernel_rfl) (by kernel_rfl) (by kernel_rfl) (fun _ _ _ h => h) (fun w' hw' => ?_) ?_
  · first | (go_simp; done) | (go_simp; simp_all; done) | (go_simp; rfl)
  simp only [Act.put, List.setIfInBounds_toArray, List.set_cons_zero, List.set_cons_succ]
  refine good_pureX 5 (some 16) (Go.Op.load 25 (Go.Operand.tmp 1)) (some (4, true)) (.agg #[.bool ba, .slice sa na ca, .slice ta ma ea]) (by kernel_rfl) (by kernel_rfl) (by kernel_rfl) (fun _ _ _ h => h) (fun w' hw' => ?_) ?_
  · obtain ⟨ca00, ca01, ca02, fa00, fa01, fa02⟩ := (Box.se hw' Xa0.out notin0).c3
    first | (go_simp; done) | (go_simp; simp_all; done) | (go_simp; rfl)
  simp only [Act.put, List.setIfInBounds_toArray, List.set_cons_zero, List.set_cons_succ]
  refine good_pureX 6 (some 17) (Go.Op.load 25 (Go.Operand.tmp 3)) (some (4, true)) (.agg #[.bool v1_b, .slice v1_a v1_n v1_c, .slice v1_d v1_m v1_e]) (by kernel_rfl) (by kernel_rfl) (by kernel_rfl) (fun _ _ _ h => h) (fun w' hw' => ?_) ?_
  · obtain ⟨cb00, cb01, cb02, fb00, fb01, fb02⟩ := (Box.se hw' Xb0.out notin0).c3
    first | (go_simp; done) | (go_simp; simp_all; done) | (go_simp; rfl)
  simp only [Act.put, List.setIfInBounds_toArray, List.set_cons_zero, List.set_cons_succ]
  refine good_pureX 8 (some 19) (Go.Op.build 25 #[]) (some (4, true)) (.agg #[.bool false, .slice none 0 0, .slice none 0 0]) (by kernel_rfl) (by kernel_rfl) (by kernel_rfl) (fun _ _ _ h => h) (fun w' hw' => ?_) ?_
  · first | (go_simp; done) | (go_simp; simp_all; done) | (go_simp; rfl)
  simp only [Act.put, List.setIfInBounds_toArray, List.set_cons_zero, List.set_cons_succ]
  refine good_callX 7 14 (some 18) #[Go.Operand.tmp 16, Go.Operand.tmp 17] #[25, 25] (some (4, true)) #[.agg #[.bool ba, .slice sa na ca, .slice ta ma ea], .agg #[.bool v1_b, .slice v1_a v1_n v1_c, .slice v1_d v1_m v1_e]] (by kernel_rfl) Hok.out (by kernel_rfl) (by kernel_rfl) (by kernel_rfl) (by kernel_rfl) rfl rfl rfl (by kernel_rfl) (fun w10 hb => ?_)
  have HG := Lib.hid (below_call HG.out hb)
  clear hb
  (first | (have hcall := radd_ar (AR.keep Ha.out (Keep.call HG.out)) (CR.keep Hv1.out (Keep.call HG.out)).ar (by decide) (by decide); refine Calls.mono hcall ?_; clear hcall) | refine Calls.mono (radd_ar (AR.keep Ha.out (Keep.call HG.out)) (CR.keep Hv1.out (Keep.call HG.out)).ar (by decide) (by decide)) ?_)
  rintro e w11 ⟨v11, rfl, hv3, hb⟩
  obtain ⟨v3_b, v3_a, v3_n, v3_c, v3_d, v3_m, v3_e, rfl⟩ := hv3.litb
  refine ⟨_, rfl, ?_, hb⟩
  have HG := Lib.hid (below_call HG.out hb)
  have Hv3 := Lib.hid hv3
  clear hb hv3
  simp only [Act.put, List.setIfInBounds_toArray, List.set_cons_zero, List.set_cons_succ]
  refine good_callX 9 15 (some 20) #[Go.Operand.tmp 18, Go.Operand.tmp 19] #[25, 25] (some (4, true)) #[.agg #[.bool v3_b, .slice v3_a v3_n v3_c, .slice v3_d v3_m v3_e], .agg #[.bool false, .slice none 0 0, .slice none 0 0]] (by kernel_rfl) Hok.out (by kernel_rfl) (by kernel_rfl) (by kernel_rfl) (by kernel_rfl) rfl rfl rfl (by kernel_rfl) (fun w12 hb => ?_)
  have Hv3 := Lib.hid (CR.keep Hv3.out (Keep.call hb))
  have HG := Lib.hid (below_call HG.out hb)
  clear hb
  refine Calls.mono (zsame_cr Hv3.out (CR.zero _) (q_add_neg _)) ?_
  rintro e w13 ⟨v13, rfl, rfl, hb⟩
  refine ⟨_, rfl, ?_, hb⟩
  have HG := Lib.hid (below_call HG.out hb)
  clear hb
  simp only [Act.put, List.setIfInBounds_toArray, List.set_cons_zero, List.set_cons_succ]
  refine good_pureX 10 (some 21) (Go.Op.pick (Go.Operand.tmp 15) (Go.Operand.tmp 20) (Go.Operand.const (Go.Value.bool false))) (none) (.bool true) (by kernel_rfl) (by kernel_rfl) (by kernel_rfl) (fun _ _ _ h => h) (fun w' hw' => ?_) ?_
  · first | (go_simp; done) | (go_simp; simp_all; done) | (go_simp; rfl)
  simp only [Act.put, List.setIfInBounds_toArray, List.set_cons_zero, List.set_cons_succ]
  refine good_pureX 11 (some 22) (Go.Op.move (Go.Operand.tmp 21)) (none) (.bool true) (by kernel_rfl) (by kernel_rfl) (by kernel_rfl) (fun _ _ _ h => h) (fun w' hw' => ?_) ?_
  · first | (go_simp; done) | (go_simp; simp_all; done) | (go_simp; rfl)
  simp only [Act.put, List.setIfInBounds_toArray, List.set_cons_zero, List.set_cons_succ]
  refine good_pureX 12 (some 23) (Go.Op.load 25 (Go.Operand.tmp 3)) (some (11, true)) (.agg #[.bool v1_b, .slice v1_a v1_n v1_c, .slice v1_d v1_m v1_e]) (by kernel_rfl) (by kernel_rfl) (by kernel_rfl) (fun _ _ _ h => h) (fun w' hw' => ?_) ?_
  · obtain ⟨cb00, cb01, cb02, fb00, fb01, fb02⟩ := (Box.se hw' Xb0.out notin0).c3
    first | (go_simp; done) | (go_simp; simp_all; done) | (go_simp; rfl)
  simp only [Act.put, List.setIfInBounds_toArray, List.set_cons_zero, List.set_cons_succ]
  refine good_pureX 14 (some 25) (Go.Op.load 25 (Go.Operand.tmp 1)) (some (11, true)) (.agg #[.bool ba, .slice sa na ca, .slice ta ma ea]) (by kernel_rfl) (by kernel_rfl) (by kernel_rfl) (fun _ _ _ h => h) (fun w' hw' => ?_) ?_
  · obtain ⟨ca00, ca01, ca02, fa00, fa01, fa02⟩ := (Box.se hw' Xa0.out notin0).c3
    first | (go_simp; done) | (go_simp; simp_all; done) | (go_simp; rfl)
  simp only [Act.put, List.setIfInBounds_toArray, List.set_cons_zero, List.set_cons_succ]
  refine good_callX 13 32 (some 24) #[Go.Operand.tmp 23] #[25] (some (11, true)) #[.agg #[.bool v1_b, .slice v1_a v1_n v1_c, .slice v1_d v1_m v1_e]] (by kernel_rfl) Hok.out (by kernel_rfl) (by kernel_rfl) (by kernel_rfl) (by kernel_rfl) rfl rfl rfl (by kernel_rfl) (fun w14 hb => ?_)
  have HG := Lib.hid (below_call HG.out hb)
  clear hb
  (first | (have hcall := rsign_ar (-k) (CR.keep Hv1.out (Keep.call HG.out)).ar (sgn_neg Hk.out) (by decide); refine Calls.mono hcall ?_; clear hcall) | refine Calls.mono (rsign_ar (-k) (CR.keep Hv1.out (Keep.call HG.out)).ar (sgn_neg Hk.out) (by decide)) ?_)
  rintro e w15 ⟨v15, rfl, rfl, hb⟩
  refine ⟨_, rfl, ?_, hb⟩
  have HG := Lib.hid (below_call HG.out hb)
  clear hb
  simp only [Act.put, List.setIfInBounds_toArray, List.set_cons_zero, List.set_cons_succ]
  refine good_callX 15 32 (some 26) #[Go.Operand.tmp 25] #[25] (some (11, true)) #[.agg #[.bool ba, .slice sa na ca, .slice ta ma ea]] (by kernel_rfl) Hok.out (by kernel_rfl) (by kernel_rfl) (by kernel_rfl) (by kernel_rfl) rfl rfl rfl (by kernel_rfl) (fun w16 hb => ?_)
  have HG := Lib.hid (below_call HG.out hb)
  clear hb
  (first | (have hcall := rsign_ar k (AR.keep Ha.out (Keep.call HG.out)) Hk.out (by decide); refine Calls.mono hcall ?_; clear hcall) | refine Calls.mono (rsign_ar k (AR.keep Ha.out (Keep.call HG.out)) Hk.out (by decide)) ?_)
  rintro e w17 ⟨v17, rfl, ⟨⟩, hb⟩
  refine ⟨_, rfl, ?_, hb⟩
  have HG := Lib.hid (below_call HG.out hb)
  clear hb
  simp only [Act.put, List.setIfInBounds_toArray, List.set_cons_zero, List.set_cons_succ]
  refine good_pureX 16 (some 27) (Go.Op.unOp Go.UnOp.neg 3 (Go.Operand.tmp 26)) (some (11, true)) (.int .i64 (-k)) (by kernel_rfl) (by kernel_rfl) (by kernel_rfl) (fun _ _ _ h => h) (fun w' hw' => ?_) ?_
  · first | (go_simp; done) | (go_simp; simp_all; done) | (go_simp; rfl)
  simp only [Act.put, List.setIfInBounds_toArray, List.set_cons_zero, List.set_cons_succ]
  refine good_pureX 17 (some 28) (Go.Op.binOp Go.BinOp.eql 3 (Go.Operand.tmp 24) (Go.Operand.tmp 27) 3) (some (11, true)) (.bool true) (by kernel_rfl) (by kernel_rfl) (by kernel_rfl) (fun _ _ _ h => h) (fun w' hw' => ?_) ?_
  · first | (go_simp; done) | (go_simp; simp_all; done) | (go_simp; rfl)
  simp only [Act.put, List.setIfInBounds_toArray, List.set_cons_zero, List.set_cons_succ]
  refine good_pureX 18 (some 29) (Go.Op.pick (Go.Operand.tmp 22) (Go.Operand.tmp 28) (Go.Operand.const (Go.Value.bool false))) (none) (.bool true) (by kernel_rfl) (by kernel_rfl) (by kernel_rfl) (fun _ _ _ h => h) (fun w' hw' => ?_) ?_
  · first | (go_simp; done) | (go_simp; simp_all; done) | (go_simp; rfl)
  simp only [Act.put, List.setIfInBounds_toArray, List.set_cons_zero, List.set_cons_succ]
  refine good_pureX 19 (some 2) (Go.Op.assign (Go.Operand.tmp 29)) (none) (.bool true) (by kernel_rfl) (by kernel_rfl) (by kernel_rfl) (fun _ _ _ h => h) (fun w' hw' => ?_) ?_
  · first | (go_simp; done) | (go_simp; simp_all; done) | (go_simp; rfl)
  simp only [Act.put, List.setIfInBounds_toArray, List.set_cons_zero, List.set_cons_succ]
  refine good_end0 0 (by kernel_rfl) (fun _ w18 hb => ?_)
  have HG := Lib.hid (below_call HG.out hb)
  clear hb
  have Xa0 := Lib.hid (Box.pcall HG.out Xa0.out)
  have Xb0 := Lib.hid (Box.pcall HG.out Xb0.out)
  have HB := Lib.hid (below_call HB.out HG.out)
  have HS := Lib.hid (SE.of (E := []) HG.out)
  refine wpAnyH_done (by kernel_rfl) ?_ _
  clear HG HS Hok 
  obtain ⟨ca00, ca01, ca02, fa00, fa01, fa02⟩ := Xa0.out.c3
  have la0 := Xa0.out.lt
  obtain ⟨cb00, cb01, cb02, fb00, fb01, fb02⟩ := Xb0.out.c3
  have lb0 := Xb0.out.lt
  go_wp2
  clear ca00 ca01 ca02 fa00 fa01 fa02 la0 cb00 cb01 cb02 fb00 fb01 fb02 lb0
  go_ret
  exact ⟨_, rfl, rfl, HB.out⟩


set_option maxRecDepth 100000 in
set_option maxHeartbeats 4000000 in
theorem lrflo_no0 {ba : Bool} {sa ta : Option Addr} {na ca ma ea : Nat}  {w : World}  (hno : 3 < na ∨ 3 < ma) :
    Calls Try.prog 4 #[.agg #[.bool ba, .slice sa na ca, .slice ta ma ea]] w (Ret w (Val (.bool true))) := by
  have Hno := Lib.hid hno
  clear hno
  go_enter Try.func4, Try.ntmps4
  have HB := Lib.hid (Below.refl w.heap.size w)
  go_wp2_with fail
  obtain ⟨W1, hW⟩ : ∃ W1, W1 = (World.alloc w (.cells #[.bool ba, .slice sa na ca, .slice ta ma ea] 25)) := ⟨_, rfl⟩
  rw [← hW]
  obtain ⟨xa0, hk, hb⟩ := boxes_1 _ _ _ hW
  clear hW
  have Ga0 := Lib.hid (show w.heap.size ≤ w.heap.size from Nat.le_trans HB.out.size (by omega))
  have Xa0 := Lib.hid xa0
  have HB := Lib.hid (below_call HB.out hb)
  clear hk hb xa0
  refine Calls.mono (awake3) ?_
  rintro e w2 ⟨v2, rfl, rfl, hb⟩
  have Xa0 := Lib.hid (Box.pcall hb Xa0.out)
  have HB := Lib.hid (below_call HB.out hb)
  clear hb
  obtain ⟨ca00, ca01, ca02, fa00, fa01, fa02⟩ := Xa0.out.c3
  have la0 := Xa0.out.lt
  go_wp2_with fail
  clear ca00 ca01 ca02 fa00 fa01 fa02 la0
  refine Calls.mono (few3_no Hno.out) ?_
  rintro e w3 ⟨v3, rfl, rfl, hb⟩
  have Xa0 := Lib.hid (Box.pcall hb Xa0.out)
  have HB := Lib.hid (below_call HB.out hb)
  clear hb
  obtain ⟨ca00, ca01, ca02, fa00, fa01, fa02⟩ := Xa0.out.c3
  have la0 := Xa0.out.lt
  go_wp2
  clear ca00 ca01 ca02 fa00 fa01 fa02 la0
  go_ret
  exact ⟨_, rfl, rfl, HB.out⟩


set_option maxRecDepth 100000 in
set_option maxHeartbeats 4000000 in
theorem lrflo_yes {qa : Rat} {ba : Bool} {sa ta : Option Addr} {na ca ma ea : Nat}  {w : World} (k m : Int) (hk : cmpQ (qa.floor : Rat) qa = k) (hk0 : decide (k ≤ 0) = true) (hm : cmpQ ((qa.floor : Rat) + ((1 : Int) : Rat)) qa = m) (hm0 : decide (0 < m) = true) (ha : AR qa 3 w (.agg #[.bool ba, .slice sa na ca, .slice ta ma ea])) (hfa : na ≤ 3) (hga : ma ≤ 3) :
    Calls Try.prog 4 #[.agg #[.bool ba, .slice sa na ca, .slice ta ma ea]] w (Ret w (Val (.bool true))) := by
  have Ha := Lib.hid ha
  have Hk := Lib.hid hk
  have Hm := Lib.hid hm
  have Hfa := Lib.hid hfa
  have Hga := Lib.hid hga
  clear ha hk hm hfa hga
  go_enter Try.func4, Try.ntmps4
  have HB := Lib.hid (Below.refl w.heap.size w)
  go_wp2_with fail
  obtain ⟨W1, hW⟩ : ∃ W1, W1 = (World.alloc w (.cells #[.bool ba, .slice sa na ca, .slice ta ma ea] 25)) := ⟨_, rfl⟩
  rw [← hW]
  obtain ⟨xa0, hk, hb⟩ := boxes_1 _ _ _ hW
  clear hW
  have Ha := Lib.hid (AR.keep Ha.out hk)
  have Ga0 := Lib.hid (show w.heap.size ≤ w.heap.size from Nat.le_trans HB.out.size (by omega))
  have Xa0 := Lib.hid xa0
  have HB := Lib.hid (below_call HB.out hb)
  clear hk hb xa0
  refine Calls.mono (awake3) ?_
  rintro e w2 ⟨v2, rfl, rfl, hb⟩
  have Ha := Lib.hid (AR.keep Ha.out (Keep.call hb))
  have Xa0 := Lib.hid (Box.pcall hb Xa0.out)
  have HB := Lib.hid (below_call HB.out hb)
  clear hb
  obtain ⟨ca00, ca01, ca02, fa00, fa01, fa02⟩ := Xa0.out.c3
  have la0 := Xa0.out.lt
  go_wp2_with fail
  clear ca00 ca01 ca02 fa00 fa01 fa02 la0
  refine Calls.mono (few3_yes Hfa.out Hga.out) ?_
  rintro e w3 ⟨v3, rfl, rfl, hb⟩
  have Ha := Lib.hid (AR.keep Ha.out (Keep.call hb))
  have Xa0 := Lib.hid (Box.pcall hb Xa0.out)
  have HB := Lib.hid (below_call HB.out hb)
  clear hb
  obtain ⟨ca00, ca01, ca02, fa00, fa01, fa02⟩ := Xa0.out.c3
  have la0 := Xa0.out.lt
  go_wp2_with fail
  clear ca00 ca01 ca02 fa00 fa01 fa02 la0
  (first | (have hcall := rfloor_ar Ha.out (by decide); refine Calls.mono hcall ?_; clear hcall) | refine Calls.mono (rfloor_ar Ha.out (by decide)) ?_)
  rintro e w4 ⟨v4, rfl, hf1, hb⟩
  obtain ⟨f1_b, f1_a, f1_n, f1_c, rfl⟩ := hf1.litb
  have Ha := Lib.hid (AR.keep Ha.out (Keep.call hb))
  have Xa0 := Lib.hid (Box.pcall hb Xa0.out)
  have HB := Lib.hid (below_call HB.out hb)
  have Hf1 := Lib.hid hf1
  clear hb hf1
  obtain ⟨ca00, ca01, ca02, fa00, fa01, fa02⟩ := Xa0.out.c3
  have la0 := Xa0.out.lt
  go_wp2_with fail
  clear ca00 ca01 ca02 fa00 fa01 fa02 la0
  obtain ⟨W5, hW⟩ : ∃ W5, W5 = (World.alloc w4 (.cells #[.bool f1_b, .slice f1_a f1_n f1_c] 33)) := ⟨_, rfl⟩
  rw [← hW]
  obtain ⟨xb0, hk, hb⟩ := boxes_1 _ _ _ hW
  clear hW
  have Ha := Lib.hid (AR.keep Ha.out hk)
  have Hf1 := Lib.hid (CL.keep Hf1.out hk)
  have Na0b0 := Lib.hid (show w.heap.size ≠ w4.heap.size from Nat.ne_of_lt (Nat.lt_of_lt_of_le Xa0.out.lt (by omega)))
  have Gb0 := Lib.hid (show w.heap.size ≤ w4.heap.size from Nat.le_trans HB.out.size (by omega))
  have Xa0 := Lib.hid (Box.pcall hb Xa0.out)
  have Xb0 := Lib.hid xb0
  have HB := Lib.hid (below_call HB.out hb)
  clear hk hb xb0
  (first | (have hcall := zwhole_ai Hf1.out.ai (by decide); refine Calls.mono hcall ?_; clear hcall) | refine Calls.mono (zwhole_ai Hf1.out.ai (by decide)) ?_)
  rintro e w6 ⟨v6, rfl, hg1, hb⟩
  obtain ⟨g1_b, g1_a, g1_n, g1_c, g1_d, g1_m, g1_e, rfl⟩ := hg1.litb
  have Ha := Lib.hid (AR.keep Ha.out (Keep.call hb))
  have Hf1 := Lib.hid (CL.keep Hf1.out (Keep.call hb))
  have Xa0 := Lib.hid (Box.pcall hb Xa0.out)
  have Xb0 := Lib.hid (Box.pcall hb Xb0.out)
  have HB := Lib.hid (below_call HB.out hb)
  have Hg1 := Lib.hid hg1
  clear hb hg1
  obtain ⟨ca00, ca01, ca02, fa00, fa01, fa02⟩ := Xa0.out.c3
  have la0 := Xa0.out.lt
  obtain ⟨cb00, cb01, fb00, fb01⟩ := Xb0.out.c2
  have lb0 := Xb0.out.lt
  go_wp2_with fail
  clear ca00 ca01 ca02 fa00 fa01 fa02 la0 cb00 cb01 fb00 fb01 lb0
  obtain ⟨W7, hW⟩ : ∃ W7, W7 = (World.alloc w6 (.cells #[.bool g1_b, .slice g1_a g1_n g1_c, .slice g1_d g1_m g1_e] 25)) := ⟨_, rfl⟩
  rw [← hW]
  obtain ⟨xc0, hk, hb⟩ := boxes_1 _ _ _ hW
  clear hW
  have Ha := Lib.hid (AR.keep Ha.out hk)
  have Hf1 := Lib.hid (CL.keep Hf1.out hk)
  have Hg1 := Lib.hid (CR.keep Hg1.out hk)
  have Na0c0 := Lib.hid (show w.heap.size ≠ w6.heap.size from Nat.ne_of_lt (Nat.lt_of_lt_of_le Xa0.out.lt (by omega)))
  have Nb0c0 := Lib.hid (show w4.heap.size ≠ w6.heap.size from Nat.ne_of_lt (Nat.lt_of_lt_of_le Xb0.out.lt (by omega)))
  have Gc0 := Lib.hid (show w.heap.size ≤ w6.heap.size from Nat.le_trans HB.out.size (by omega))
  have Xa0 := Lib.hid (Box.pcall hb Xa0.out)
  have Xb0 := Lib.hid (Box.pcall hb Xb0.out)
  have Xc0 := Lib.hid xc0
  have HB := Lib.hid (below_call HB.out hb)
  clear hk hb xc0
  have Ha := Lib.hid (AR.keep Ha.out (Keep.drew W7))
  have Hf1 := Lib.hid (CL.keep Hf1.out (Keep.drew W7))
  have Hg1 := Lib.hid (CR.keep Hg1.out (Keep.drew W7))
  have Xa0 := Lib.hid (Box.drew Xa0.out)
  have Xb0 := Lib.hid (Box.drew Xb0.out)
  have Xc0 := Lib.hid (Box.drew Xc0.out)
  have HB := Lib.hid (Below.drew HB.out)
  refine wp_region_float [] [] (by kernel_rfl) (by kernel_rfl) 30 (by kernel_rfl) Flok.nil ?_
  intro ok
  have Hok := Lib.hid ok
  clear ok
  have HG := Lib.hid (Below.refl (W7.drew).heap.size (W7.drew))
  refine good_pureX 0 (some 14) (Go.Op.load 33 (Go.Operand.tmp 3)) (none) (.agg #[.bool f1_b, .slice f1_a f1_n f1_c]) (by kernel_rfl) (by kernel_rfl) (by kernel_rfl) (fun _ _ _ h => h) (fun w' hw' => ?_) ?_
  · obtain ⟨cb00, cb01, fb00, fb01⟩ := (Box.se hw' Xb0.out notin0).c2
    first | (go_simp; done) | (go_simp; simp_all; done) | (go_simp; rfl)
  simp only [Act.put, List.setIfInBounds_toArray, List.set_cons_zero, List.set_cons_succ]
  refine good_callX 1 22 (some 15) #[Go.Operand.tmp 14] #[33] (none) #[.agg #[.bool f1_b, .slice f1_a f1_n f1_c]] (by kernel_rfl) Hok.out (by kernel_rfl) (by kernel_rfl) (by kernel_rfl) (by kernel_rfl) rfl rfl rfl (by kernel_rfl) (fun w8 hb => ?_)
  have HG := Lib.hid (below_call HG.out hb)
  clear hb
  (first | (have hcall := rivalid_cl (CL.keep Hf1.out (Keep.call HG.out)); refine Calls.mono hcall ?_; clear hcall) | refine Calls.mono (rivalid_cl (CL.keep Hf1.out (Keep.call HG.out))) ?_)
  rintro e w9 ⟨v9, rfl, rfl, hb⟩
  refine ⟨_, rfl, ?_, hb⟩
  have HG := Lib.hid (below_call HG.out hb)
  clear hb
  simp only [Act.put, List.setIfInBounds_toArray, List.set_cons_zero, List.set_cons_succ]
  refine good_pureX 2 (some 16) (Go.Op.move (Go.Operand.tmp 15)) (none) (.bool true) (by kernel_rfl) (by kernel_rfl) (by kernel_rfl) (fun _ _ _ h => h) (fun w' hw' => ?_) ?_
  · first | (go_simp; done) | (go_simp; simp_all; done) | (go_simp; rfl)
  simp only [Act.put, List.setIfInBounds_toArray, List.set_cons_zero, List.set_cons_succ]
  refine good_pureX 3 (some 17) (Go.Op.load 25 (Go.Operand.tmp 4)) (some (2, true)) (.agg #[.bool g1_b, .slice g1_a g1_n g1_c, .slice g1_d g1_m g1_e]) (by kernel_rfl) (by kernel_rfl) (by kernel_rfl) (fun _ _ _ h => h) (fun w' hw' => ?_) ?_
  · obtain ⟨cc00, cc01, cc02, fc00, fc01, fc02⟩ := (Box.se hw' Xc0.out notin0).c3
    first | (go_simp; done) | (go_simp; simp_all; done) | (go_simp; rfl)
  simp only [Act.put, List.setIfInBounds_toArray, List.set_cons_zero, List.set_cons_succ]
  refine good_pureX 4 (some 18) (Go.Op.load 25 (Go.Operand.tmp 1)) (some (2, true)) (.agg #[.bool ba, .slice sa na ca, .slice ta ma ea]) (by kernel_rfl) (by kernel_rfl) (by kernel_rfl) (fun _ _ _ h => h) (fun w' hw' => ?_) ?_
  · obtain ⟨ca00, ca01, ca02, fa00, fa01, fa02⟩ := (Box.se hw' Xa0.out notin0).c3
    first | (go_simp; done) | (go_simp; simp_all; done) | (go_simp; rfl)
  simp only [Act.put, List.setIfInBounds_toArray, List.set_cons_zero, List.set_cons_succ]
  refine good_callX 5 23 (some 19) #[Go.Operand.tmp 17, Go.Operand.tmp 18] #[25, 25] (some (2, true)) #[.agg #[.bool g1_b, .slice g1_a g1_n g1_c, .slice g1_d g1_m g1_e], .agg #[.bool ba, .slice sa na ca, .slice ta ma ea]] (by kernel_rfl) Hok.out (by kernel_rfl) (by kernel_rfl) (by kernel_rfl) (by kernel_rfl) rfl rfl rfl (by kernel_rfl) (fun w10 hb => ?_)
  have HG := Lib.hid (below_call HG.out hb)
  clear hb
  (first | (have hcall := zcmp_ar k (CR.keep Hg1.out (Keep.call HG.out)).ar (AR.keep Ha.out (Keep.call HG.out)) Hk.out (by decide) (by decide); refine Calls.mono hcall ?_; clear hcall) | refine Calls.mono (zcmp_ar k (CR.keep Hg1.out (Keep.call HG.out)).ar (AR.keep Ha.out (Keep.call HG.out)) Hk.out (by decide) (by decide)) ?_)
  rintro e w11 ⟨v11, rfl, ⟨⟩, hb⟩
  refine ⟨_, rfl, ?_, hb⟩
  have HG := Lib.hid (below_call HG.out hb)
  clear hb
  simp only [Act.put, List.setIfInBounds_toArray, List.set_cons_zero, List.set_cons_succ]
  refine good_pureX 6 (some 20) (Go.Op.binOp Go.BinOp.leq 3 (Go.Operand.tmp 19) (Go.Operand.const (Go.Value.int Go.IntKind.i64 0)) 3) (some (2, true)) (.bool true) (by kernel_rfl) (by kernel_rfl) (by kernel_rfl) (fun _ _ _ h => h) (fun w' hw' => ?_) ?_
  · first | (go_simp; done) | (go_simp; simp_all; done) | (go_simp; rfl)
  simp only [Act.put, List.setIfInBounds_toArray, List.set_cons_zero, List.set_cons_succ]
  refine good_pureX 7 (some 21) (Go.Op.pick (Go.Operand.tmp 16) (Go.Operand.tmp 20) (Go.Operand.const (Go.Value.bool false))) (none) (.bool true) (by kernel_rfl) (by kernel_rfl) (by kernel_rfl) (fun _ _ _ h => h) (fun w' hw' => ?_) ?_
  · first | (go_simp; done) | (go_simp; simp_all; done) | (go_simp; rfl)
  simp only [Act.put, List.setIfInBounds_toArray, List.set_cons_zero, List.set_cons_succ]
  refine good_pureX 8 (some 22) (Go.Op.move (Go.Operand.tmp 21)) (none) (.bool true) (by kernel_rfl) (by kernel_rfl) (by kernel_rfl) (fun _ _ _ h => h) (fun w' hw' => ?_) ?_
  · first | (go_simp; done) | (go_simp; simp_all; done) | (go_simp; rfl)
  simp only [Act.put, List.setIfInBounds_toArray, List.set_cons_zero, List.set_cons_succ]
  refine good_pureX 9 (some 23) (Go.Op.load 25 (Go.Operand.tmp 4)) (some (8, true)) (.agg #[.bool g1_b, .slice g1_a g1_n g1_c, .slice g1_d g1_m g1_e]) (by kernel_rfl) (by kernel_rfl) (by kernel_rfl) (fun _ _ _ h => h) (fun w' hw' => ?_) ?_
  · obtain ⟨cc00, cc01, cc02, fc00, fc01, fc02⟩ := (Box.se hw' Xc0.out notin0).c3
    first | (go_simp; done) | (go_simp; simp_all; done) | (go_simp; rfl)
  simp only [Act.put, List.setIfInBounds_toArray, List.set_cons_zero, List.set_cons_succ]
  refine good_pureX 12 (some 26) (Go.Op.load 25 (Go.Operand.tmp 1)) (some (8, true)) (.agg #[.bool ba, .slice sa na ca, .slice ta ma ea]) (by kernel_rfl) (by kernel_rfl) (by kernel_rfl) (fun _ _ _ h => h) (fun w' hw' => ?_) ?_
  · obtain ⟨ca00, ca01, ca02, fa00, fa01, fa02⟩ := (Box.se hw' Xa0.out notin0).c3
    first | (go_simp; done) | (go_simp; simp_all; done) | (go_simp; rfl)
  simp only [Act.put, List.setIfInBounds_toArray, List.set_cons_zero, List.set_cons_succ]
  refine good_callX 10 24 (some 24) #[Go.Operand.const (Go.Value.int Go.IntKind.i64 1)] #[3] (some (8, true)) #[.int .i64 1] (by kernel_rfl) Hok.out (by kernel_rfl) (by kernel_rfl) (by kernel_rfl) (by kernel_rfl) rfl rfl rfl (by kernel_rfl) (fun w12 hb => ?_)
  have HG := Lib.hid (below_call HG.out hb)
  clear hb
  refine Calls.mono (zof (x := 1) (by decide) (by decide)) ?_
  rintro e w13 ⟨v13, rfl, ho1, hb⟩
  obtain ⟨o1_b, o1_a, o1_n, o1_c, o1_d, o1_m, o1_e, rfl⟩ := ho1.litb
  refine ⟨_, rfl, ?_, hb⟩
  have HG := Lib.hid (below_call HG.out hb)
  have Ho1 := Lib.hid ho1
  clear hb ho1
  simp only [Act.put, List.setIfInBounds_toArray, List.set_cons_zero, List.set_cons_succ]
  refine good_callX 11 16 (some 25) #[Go.Operand.tmp 23, Go.Operand.tmp 24] #[25, 25] (some (8, true)) #[.agg #[.bool g1_b, .slice g1_a g1_n g1_c, .slice g1_d g1_m g1_e], .agg #[.bool o1_b, .slice o1_a o1_n o1_c, .slice o1_d o1_m o1_e]] (by kernel_rfl) Hok.out (by kernel_rfl) (by kernel_rfl) (by kernel_rfl) (by kernel_rfl) rfl rfl rfl (by kernel_rfl) (fun w14 hb => ?_)
  have Ho1 := Lib.hid (CR.keep Ho1.out (Keep.call hb))
  have HG := Lib.hid (below_call HG.out hb)
  clear hb
  (first | (have hcall := zadd_ar (CR.keep Hg1.out (Keep.call HG.out)).ar Ho1.out.ar (by decide) (by decide); refine Calls.mono hcall ?_; clear hcall) | refine Calls.mono (zadd_ar (CR.keep Hg1.out (Keep.call HG.out)).ar Ho1.out.ar (by decide) (by decide)) ?_)
  rintro e w15 ⟨v15, rfl, hp1, hb⟩
  obtain ⟨p1_b, p1_a, p1_n, p1_c, p1_d, p1_m, p1_e, rfl⟩ := hp1.litb
  refine ⟨_, rfl, ?_, hb⟩
  have HG := Lib.hid (below_call HG.out hb)
  have Hp1 := Lib.hid hp1
  clear hb hp1
  simp only [Act.put, List.setIfInBounds_toArray, List.set_cons_zero, List.set_cons_succ]
  refine good_callX 13 23 (some 27) #[Go.Operand.tmp 25, Go.Operand.tmp 26] #[25, 25] (some (8, true)) #[.agg #[.bool p1_b, .slice p1_a p1_n p1_c, .slice p1_d p1_m p1_e], .agg #[.bool ba, .slice sa na ca, .slice ta ma ea]] (by kernel_rfl) Hok.out (by kernel_rfl) (by kernel_rfl) (by kernel_rfl) (by kernel_rfl) rfl rfl rfl (by kernel_rfl) (fun w16 hb => ?_)
  have Hp1 := Lib.hid (CR.keep Hp1.out (Keep.call hb))
  have HG := Lib.hid (below_call HG.out hb)
  clear hb
  (first | (have hcall := zcmp_ar m Hp1.out.ar (AR.keep Ha.out (Keep.call HG.out)) Hm.out (by decide) (by decide); refine Calls.mono hcall ?_; clear hcall) | refine Calls.mono (zcmp_ar m Hp1.out.ar (AR.keep Ha.out (Keep.call HG.out)) Hm.out (by decide) (by decide)) ?_)
  rintro e w17 ⟨v17, rfl, ⟨⟩, hb⟩
  refine ⟨_, rfl, ?_, hb⟩
  have HG := Lib.hid (below_call HG.out hb)
  clear hb
  simp only [Act.put, List.setIfInBounds_toArray, List.set_cons_zero, List.set_cons_succ]
  refine good_pureX 14 (some 28) (Go.Op.binOp Go.BinOp.gtr 3 (Go.Operand.tmp 27) (Go.Operand.const (Go.Value.int Go.IntKind.i64 0)) 3) (some (8, true)) (.bool true) (by kernel_rfl) (by kernel_rfl) (by kernel_rfl) (fun _ _ _ h => h) (fun w' hw' => ?_) ?_
  · first | (go_simp; done) | (go_simp; simp_all; done) | (go_simp; rfl)
  simp only [Act.put, List.setIfInBounds_toArray, List.set_cons_zero, List.set_cons_succ]
  refine good_pureX 15 (some 29) (Go.Op.pick (Go.Operand.tmp 22) (Go.Operand.tmp 28) (Go.Operand.const (Go.Value.bool false))) (none) (.bool true) (by kernel_rfl) (by kernel_rfl) (by kernel_rfl) (fun _ _ _ h => h) (fun w' hw' => ?_) ?_
  · first | (go_simp; done) | (go_simp; simp_all; done) | (go_simp; rfl)
  simp only [Act.put, List.setIfInBounds_toArray, List.set_cons_zero, List.set_cons_succ]
  refine good_pureX 16 (some 2) (Go.Op.assign (Go.Operand.tmp 29)) (none) (.bool true) (by kernel_rfl) (by kernel_rfl) (by kernel_rfl) (fun _ _ _ h => h) (fun w' hw' => ?_) ?_
  · first | (go_simp; done) | (go_simp; simp_all; done) | (go_simp; rfl)
  simp only [Act.put, List.setIfInBounds_toArray, List.set_cons_zero, List.set_cons_succ]
  refine good_end0 0 (by kernel_rfl) (fun _ w18 hb => ?_)
  have HG := Lib.hid (below_call HG.out hb)
  clear hb
  have Xa0 := Lib.hid (Box.pcall HG.out Xa0.out)
  have Xb0 := Lib.hid (Box.pcall HG.out Xb0.out)
  have Xc0 := Lib.hid (Box.pcall HG.out Xc0.out)
  have HB := Lib.hid (below_call HB.out HG.out)
  have HS := Lib.hid (SE.of (E := []) HG.out)
  refine wpAnyH_done (by kernel_rfl) ?_ _
  clear HG HS Hok 
  obtain ⟨ca00, ca01, ca02, fa00, fa01, fa02⟩ := Xa0.out.c3
  have la0 := Xa0.out.lt
  obtain ⟨cb00, cb01, fb00, fb01⟩ := Xb0.out.c2
  have lb0 := Xb0.out.lt
  obtain ⟨cc00, cc01, cc02, fc00, fc01, fc02⟩ := Xc0.out.c3
  have lc0 := Xc0.out.lt
  go_wp2
  clear ca00 ca01 ca02 fa00 fa01 fa02 la0 cb00 cb01 fb00 fb01 lb0 cc00 cc01 cc02 fc00 fc01 fc02 lc0
  go_ret
  exact ⟨_, rfl, rfl, HB.out⟩


set_option maxRecDepth 100000 in
set_option maxHeartbeats 4000000 in
theorem lrmak_no0 {ba : Bool} {sa : Option Addr} {na ca : Nat} {bb : Bool} {sb : Option Addr} {nb cb : Nat} {i : Int}  {w : World} (hda : decide ((3 : Int) < na) = true) :
    Calls Try.prog 9 #[.agg #[.bool ba, .slice sa na ca], .agg #[.bool bb, .slice sb nb cb], .int .i64 i] w (Ret w (Val (.bool true))) := by
  go_enter Try.func9, Try.ntmps9
  have HB := Lib.hid (Below.refl w.heap.size w)
  go_wp2_with fail
  obtain ⟨W1, hW⟩ : ∃ W1, W1 = (World.alloc (World.alloc w (.cells #[.bool ba, .slice sa na ca] 33)) (.cells #[.bool bb, .slice sb nb cb] 33)) := ⟨_, rfl⟩
  rw [← hW]
  obtain ⟨xa0, xb0, hk, hb⟩ := boxes_2 _ _ _ _ _ hW
  clear hW
  have Ga0 := Lib.hid (show w.heap.size ≤ w.heap.size from Nat.le_trans HB.out.size (by omega))
  have Gb0 := Lib.hid (show w.heap.size ≤ w.heap.size + 1 from Nat.le_trans HB.out.size (by omega))
  have Xa0 := Lib.hid xa0
  have Xb0 := Lib.hid xb0
  have HB := Lib.hid (below_call HB.out hb)
  clear hk hb xa0 xb0
  refine Calls.mono (awake3) ?_
  rintro e w2 ⟨v2, rfl, rfl, hb⟩
  have Xa0 := Lib.hid (Box.pcall hb Xa0.out)
  have Xb0 := Lib.hid (Box.pcall hb Xb0.out)
  have HB := Lib.hid (below_call HB.out hb)
  clear hb
  obtain ⟨ca00, ca01, fa00, fa01⟩ := Xa0.out.c2
  have la0 := Xa0.out.lt
  obtain ⟨cb00, cb01, fb00, fb01⟩ := Xb0.out.c2
  have lb0 := Xb0.out.lt
  go_wp2
  clear ca00 ca01 fa00 fa01 la0 cb00 cb01 fb00 fb01 lb0
  go_ret
  exact ⟨_, rfl, rfl, HB.out⟩


set_option maxRecDepth 100000 in
set_option maxHeartbeats 4000000 in
theorem lrmak_no1 {ba : Bool} {sa : Option Addr} {na ca : Nat} {bb : Bool} {sb : Option Addr} {nb cb : Nat} {i : Int}  {w : World} (hda : decide ((3 : Int) < na) = false) (hdb : decide ((3 : Int) < nb) = true) :
    Calls Try.prog 9 #[.agg #[.bool ba, .slice sa na ca], .agg #[.bool bb, .slice sb nb cb], .int .i64 i] w (Ret w (Val (.bool true))) := by
  go_enter Try.func9, Try.ntmps9
  have HB := Lib.hid (Below.refl w.heap.size w)
  go_wp2_with fail
  obtain ⟨W1, hW⟩ : ∃ W1, W1 = (World.alloc (World.alloc w (.cells #[.bool ba, .slice sa na ca] 33)) (.cells #[.bool bb, .slice sb nb cb] 33)) := ⟨_, rfl⟩
  rw [← hW]
  obtain ⟨xa0, xb0, hk, hb⟩ := boxes_2 _ _ _ _ _ hW
  clear hW
  have Ga0 := Lib.hid (show w.heap.size ≤ w.heap.size from Nat.le_trans HB.out.size (by omega))
  have Gb0 := Lib.hid (show w.heap.size ≤ w.heap.size + 1 from Nat.le_trans HB.out.size (by omega))
  have Xa0 := Lib.hid xa0
  have Xb0 := Lib.hid xb0
  have HB := Lib.hid (below_call HB.out hb)
  clear hk hb xa0 xb0
  refine Calls.mono (awake3) ?_
  rintro e w2 ⟨v2, rfl, rfl, hb⟩
  have Xa0 := Lib.hid (Box.pcall hb Xa0.out)
  have Xb0 := Lib.hid (Box.pcall hb Xb0.out)
  have HB := Lib.hid (below_call HB.out hb)
  clear hb
  obtain ⟨ca00, ca01, fa00, fa01⟩ := Xa0.out.c2
  have la0 := Xa0.out.lt
  obtain ⟨cb00, cb01, fb00, fb01⟩ := Xb0.out.c2
  have lb0 := Xb0.out.lt
  go_wp2
  clear ca00 ca01 fa00 fa01 la0 cb00 cb01 fb00 fb01 lb0
  go_ret
  exact ⟨_, rfl, rfl, HB.out⟩


set_option maxRecDepth 100000 in
set_option maxHeartbeats 4000000 in
theorem lrmak_z {Xa : Int} {ba : Bool} {sa : Option Addr} {na ca : Nat} {Xb : Int} {bb : Bool} {sb : Option Addr} {nb cb : Nat} {i : Int}  {w : World} (hz : Xb = 0) (h1 : -9223372036854775808 ≤ i) (h2 : i < 9223372036854775808) (ha : AI Xa 3 w (.agg #[.bool ba, .slice sa na ca])) (hb : AI Xb 3 w (.agg #[.bool bb, .slice sb nb cb])) (hda : decide ((3 : Int) < na) = false) (hdb : decide ((3 : Int) < nb) = false) :
    Calls Try.prog 9 #[.agg #[.bool ba, .slice sa na ca], .agg #[.bool bb, .slice sb nb cb], .int .i64 i] w (Ret w (Val (.bool true))) := by
  have Ha := Lib.hid ha
  have Hb := Lib.hid hb
  have Hz := Lib.hid hz
  have H1 := Lib.hid h1
  have H2 := Lib.hid h2
  clear ha hb hz h1 h2
  go_enter Try.func9, Try.ntmps9
  have HB := Lib.hid (Below.refl w.heap.size w)
  go_wp2_with fail
  obtain ⟨W1, hW⟩ : ∃ W1, W1 = (World.alloc (World.alloc w (.cells #[.bool ba, .slice sa na ca] 33)) (.cells #[.bool bb, .slice sb nb cb] 33)) := ⟨_, rfl⟩
  rw [← hW]
  obtain ⟨xa0, xb0, hk, hb⟩ := boxes_2 _ _ _ _ _ hW
  clear hW
  have Ha := Lib.hid (AI.keep Ha.out hk)
  have Hb := Lib.hid (AI.keep Hb.out hk)
  have Ga0 := Lib.hid (show w.heap.size ≤ w.heap.size from Nat.le_trans HB.out.size (by omega))
  have Gb0 := Lib.hid (show w.heap.size ≤ w.heap.size + 1 from Nat.le_trans HB.out.size (by omega))
  have Xa0 := Lib.hid xa0
  have Xb0 := Lib.hid xb0
  have HB := Lib.hid (below_call HB.out hb)
  clear hk hb xa0 xb0
  refine Calls.mono (awake3) ?_
  rintro e w2 ⟨v2, rfl, rfl, hb⟩
  have Ha := Lib.hid (AI.keep Ha.out (Keep.call hb))
  have Hb := Lib.hid (AI.keep Hb.out (Keep.call hb))
  have Xa0 := Lib.hid (Box.pcall hb Xa0.out)
  have Xb0 := Lib.hid (Box.pcall hb Xb0.out)
  have HB := Lib.hid (below_call HB.out hb)
  clear hb
  obtain ⟨ca00, ca01, fa00, fa01⟩ := Xa0.out.c2
  have la0 := Xa0.out.lt
  obtain ⟨cb00, cb01, fb00, fb01⟩ := Xb0.out.c2
  have lb0 := Xb0.out.lt
  go_wp2_with fail
  clear ca00 ca01 fa00 fa01 la0 cb00 cb01 fb00 fb01 lb0
  (first | (have hcall := rmk_zero Hz.out Ha.out Hb.out (by decide) (by decide); refine Calls.mono hcall ?_; clear hcall) | refine Calls.mono (rmk_zero Hz.out Ha.out Hb.out (by decide) (by decide)) ?_)
  rintro e w3 ⟨v3, rfl, rfl, hb⟩
  have Ha := Lib.hid (AI.keep Ha.out (Keep.call hb))
  have Hb := Lib.hid (AI.keep Hb.out (Keep.call hb))
  have Xa0 := Lib.hid (Box.pcall hb Xa0.out)
  have Xb0 := Lib.hid (Box.pcall hb Xb0.out)
  have HB := Lib.hid (below_call HB.out hb)
  clear hb
  obtain ⟨ca00, ca01, fa00, fa01⟩ := Xa0.out.c2
  have la0 := Xa0.out.lt
  obtain ⟨cb00, cb01, fb00, fb01⟩ := Xb0.out.c2
  have lb0 := Xb0.out.lt
  go_wp2_with fail
  clear ca00 ca01 fa00 fa01 la0 cb00 cb01 fb00 fb01 lb0
  obtain ⟨W4, hW⟩ : ∃ W4, W4 = (World.alloc w3 (.cells #[.bool false, .slice none 0 0, .slice none 0 0] 25)) := ⟨_, rfl⟩
  rw [← hW]
  obtain ⟨xc0, hk, hb⟩ := boxes_1 _ _ _ hW
  clear hW
  have Ha := Lib.hid (AI.keep Ha.out hk)
  have Hb := Lib.hid (AI.keep Hb.out hk)
  have Na0c0 := Lib.hid (show w.heap.size ≠ w3.heap.size from Nat.ne_of_lt (Nat.lt_of_lt_of_le Xa0.out.lt (by omega)))
  have Nb0c0 := Lib.hid (show w.heap.size + 1 ≠ w3.heap.size from Nat.ne_of_lt (Nat.lt_of_lt_of_le Xb0.out.lt (by omega)))
  have Gc0 := Lib.hid (show w.heap.size ≤ w3.heap.size from Nat.le_trans HB.out.size (by omega))
  have Xa0 := Lib.hid (Box.pcall hb Xa0.out)
  have Xb0 := Lib.hid (Box.pcall hb Xb0.out)
  have Xc0 := Lib.hid xc0
  have HB := Lib.hid (below_call HB.out hb)
  clear hk hb xc0
  (first | (have hcall := zmk_zero Hz.out Ha.out Hb.out (by decide) (by decide); refine Calls.mono hcall ?_; clear hcall) | refine Calls.mono (zmk_zero Hz.out Ha.out Hb.out (by decide) (by decide)) ?_)
  rintro e w5 ⟨v5, rfl, rfl, hb⟩
  have Xa0 := Lib.hid (Box.pcall hb Xa0.out)
  have Xb0 := Lib.hid (Box.pcall hb Xb0.out)
  have Xc0 := Lib.hid (Box.pcall hb Xc0.out)
  have HB := Lib.hid (below_call HB.out hb)
  clear hb
  obtain ⟨ca00, ca01, fa00, fa01⟩ := Xa0.out.c2
  have la0 := Xa0.out.lt
  obtain ⟨cb00, cb01, fb00, fb01⟩ := Xb0.out.c2
  have lb0 := Xb0.out.lt
  obtain ⟨cc00, cc01, cc02, fc00, fc01, fc02⟩ := Xc0.out.c3
  have lc0 := Xc0.out.lt
  go_wp2_with fail
  clear ca00 ca01 fa00 fa01 la0 cb00 cb01 fb00 fb01 lb0 cc00 cc01 cc02 fc00 fc01 fc02 lc0
  obtain ⟨W6, hW⟩ : ∃ W6, W6 = (World.alloc w5 (.cells #[.bool false, .slice none 0 0, .slice none 0 0] 25)) := ⟨_, rfl⟩
  rw [← hW]
  obtain ⟨xd0, hk, hb⟩ := boxes_1 _ _ _ hW
  clear hW
  have Na0d0 := Lib.hid (show w.heap.size ≠ w5.heap.size from Nat.ne_of_lt (Nat.lt_of_lt_of_le Xa0.out.lt (by omega)))
  have Nb0d0 := Lib.hid (show w.heap.size + 1 ≠ w5.heap.size from Nat.ne_of_lt (Nat.lt_of_lt_of_le Xb0.out.lt (by omega)))
  have Nc0d0 := Lib.hid (show w3.heap.size ≠ w5.heap.size from Nat.ne_of_lt (Nat.lt_of_lt_of_le Xc0.out.lt (by omega)))
  have Gd0 := Lib.hid (show w.heap.size ≤ w5.heap.size from Nat.le_trans HB.out.size (by omega))
  have Xa0 := Lib.hid (Box.pcall hb Xa0.out)
  have Xb0 := Lib.hid (Box.pcall hb Xb0.out)
  have Xc0 := Lib.hid (Box.pcall hb Xc0.out)
  have Xd0 := Lib.hid xd0
  have HB := Lib.hid (below_call HB.out hb)
  clear hk hb xd0
  refine Calls.mono (rfrac_1 H1.out H2.out (by decide) (by decide) (by decide)) ?_
  rintro e w7 ⟨t7, rfl, ⟨v7, rfl, hx3⟩, hb⟩
  obtain ⟨x3_b, x3_a, x3_n, x3_c, x3_d, x3_m, x3_e, rfl⟩ := hx3.litb
  have Xa0 := Lib.hid (Box.pcall hb Xa0.out)
  have Xb0 := Lib.hid (Box.pcall hb Xb0.out)
  have Xc0 := Lib.hid (Box.pcall hb Xc0.out)
  have Xd0 := Lib.hid (Box.pcall hb Xd0.out)
  have HB := Lib.hid (below_call HB.out hb)
  have Hx3 := Lib.hid hx3
  clear hb hx3
  obtain ⟨ca00, ca01, fa00, fa01⟩ := Xa0.out.c2
  have la0 := Xa0.out.lt
  obtain ⟨cb00, cb01, fb00, fb01⟩ := Xb0.out.c2
  have lb0 := Xb0.out.lt
  obtain ⟨cc00, cc01, cc02, fc00, fc01, fc02⟩ := Xc0.out.c3
  have lc0 := Xc0.out.lt
  obtain ⟨cd00, cd01, cd02, fd00, fd01, fd02⟩ := Xd0.out.c3
  have ld0 := Xd0.out.lt
  go_wp2_with fail
  clear ca00 ca01 fa00 fa01 la0 cb00 cb01 fb00 fb01 lb0 cc00 cc01 cc02 fc00 fc01 fc02 lc0 cd00 cd01 cd02 fd00 fd01 fd02 ld0
  obtain ⟨W8, hW⟩ : ∃ W8, W8 = (World.alloc w7 (.cells #[.bool x3_b, .slice x3_a x3_n x3_c, .slice x3_d x3_m x3_e] 25)) := ⟨_, rfl⟩
  rw [← hW]
  obtain ⟨xe0, hk, hb⟩ := boxes_1 _ _ _ hW
  clear hW
  have Hx3 := Lib.hid (CR.keep Hx3.out hk)
  have Na0e0 := Lib.hid (show w.heap.size ≠ w7.heap.size from Nat.ne_of_lt (Nat.lt_of_lt_of_le Xa0.out.lt (by omega)))
  have Nb0e0 := Lib.hid (show w.heap.size + 1 ≠ w7.heap.size from Nat.ne_of_lt (Nat.lt_of_lt_of_le Xb0.out.lt (by omega)))
  have Nc0e0 := Lib.hid (show w3.heap.size ≠ w7.heap.size from Nat.ne_of_lt (Nat.lt_of_lt_of_le Xc0.out.lt (by omega)))
  have Nd0e0 := Lib.hid (show w5.heap.size ≠ w7.heap.size from Nat.ne_of_lt (Nat.lt_of_lt_of_le Xd0.out.lt (by omega)))
  have Ge0 := Lib.hid (show w.heap.size ≤ w7.heap.size from Nat.le_trans HB.out.size (by omega))
  have Xa0 := Lib.hid (Box.pcall hb Xa0.out)
  have Xb0 := Lib.hid (Box.pcall hb Xb0.out)
  have Xc0 := Lib.hid (Box.pcall hb Xc0.out)
  have Xd0 := Lib.hid (Box.pcall hb Xd0.out)
  have Xe0 := Lib.hid xe0
  have HB := Lib.hid (below_call HB.out hb)
  clear hk hb xe0
  refine Calls.mono (rfrac_0 H1.out H2.out (by decide) (by decide) rfl) ?_
  rintro e w9 ⟨v9, rfl, rfl, hb⟩
  have Hx3 := Lib.hid (CR.keep Hx3.out (Keep.call hb))
  have Xa0 := Lib.hid (Box.pcall hb Xa0.out)
  have Xb0 := Lib.hid (Box.pcall hb Xb0.out)
  have Xc0 := Lib.hid (Box.pcall hb Xc0.out)
  have Xd0 := Lib.hid (Box.pcall hb Xd0.out)
  have Xe0 := Lib.hid (Box.pcall hb Xe0.out)
  have HB := Lib.hid (below_call HB.out hb)
  clear hb
  obtain ⟨ca00, ca01, fa00, fa01⟩ := Xa0.out.c2
  have la0 := Xa0.out.lt
  obtain ⟨cb00, cb01, fb00, fb01⟩ := Xb0.out.c2
  have lb0 := Xb0.out.lt
  obtain ⟨cc00, cc01, cc02, fc00, fc01, fc02⟩ := Xc0.out.c3
  have lc0 := Xc0.out.lt
  obtain ⟨cd00, cd01, cd02, fd00, fd01, fd02⟩ := Xd0.out.c3
  have ld0 := Xd0.out.lt
  obtain ⟨ce00, ce01, ce02, fe00, fe01, fe02⟩ := Xe0.out.c3
  have le0 := Xe0.out.lt
  go_wp2_with fail
  clear ca00 ca01 fa00 fa01 la0 cb00 cb01 fb00 fb01 lb0 cc00 cc01 cc02 fc00 fc01 fc02 lc0 cd00 cd01 cd02 fd00 fd01 fd02 ld0 ce00 ce01 ce02 fe00 fe01 fe02 le0
  obtain ⟨W10, hW⟩ : ∃ W10, W10 = (World.alloc w9 (.cells #[.bool false, .slice none 0 0, .slice none 0 0] 25)) := ⟨_, rfl⟩
  rw [← hW]
  obtain ⟨xf0, hk, hb⟩ := boxes_1 _ _ _ hW
  clear hW
  have Hx3 := Lib.hid (CR.keep Hx3.out hk)
  have Na0f0 := Lib.hid (show w.heap.size ≠ w9.heap.size from Nat.ne_of_lt (Nat.lt_of_lt_of_le Xa0.out.lt (by omega)))
  have Nb0f0 := Lib.hid (show w.heap.size + 1 ≠ w9.heap.size from Nat.ne_of_lt (Nat.lt_of_lt_of_le Xb0.out.lt (by omega)))
  have Nc0f0 := Lib.hid (show w3.heap.size ≠ w9.heap.size from Nat.ne_of_lt (Nat.lt_of_lt_of_le Xc0.out.lt (by omega)))
  have Nd0f0 := Lib.hid (show w5.heap.size ≠ w9.heap.size from Nat.ne_of_lt (Nat.lt_of_lt_of_le Xd0.out.lt (by omega)))
  have Ne0f0 := Lib.hid (show w7.heap.size ≠ w9.heap.size from Nat.ne_of_lt (Nat.lt_of_lt_of_le Xe0.out.lt (by omega)))
  have Gf0 := Lib.hid (show w.heap.size ≤ w9.heap.size from Nat.le_trans HB.out.size (by omega))
  have Xa0 := Lib.hid (Box.pcall hb Xa0.out)
  have Xb0 := Lib.hid (Box.pcall hb Xb0.out)
  have Xc0 := Lib.hid (Box.pcall hb Xc0.out)
  have Xd0 := Lib.hid (Box.pcall hb Xd0.out)
  have Xe0 := Lib.hid (Box.pcall hb Xe0.out)
  have Xf0 := Lib.hid xf0
  have HB := Lib.hid (below_call HB.out hb)
  clear hk hb xf0
  have Hx3 := Lib.hid (CR.keep Hx3.out (Keep.drew W10))
  have Xa0 := Lib.hid (Box.drew Xa0.out)
  have Xb0 := Lib.hid (Box.drew Xb0.out)
  have Xc0 := Lib.hid (Box.drew Xc0.out)
  have Xd0 := Lib.hid (Box.drew Xd0.out)
  have Xe0 := Lib.hid (Box.drew Xe0.out)
  have Xf0 := Lib.hid (Box.drew Xf0.out)
  have HB := Lib.hid (Below.drew HB.out)
  refine wp_region_float [] [⟨3, 15, 25, #[.bool false, .slice none 0 0, .slice none 0 0]⟩] (by kernel_rfl) (by kernel_rfl) 82 (by kernel_rfl) (Flok.one (by kernel_rfl) (by kernel_rfl) (by kernel_rfl) (by intro w; go_simp)) ?_
  intro ok
  have Hok := Lib.hid ok
  clear ok
  have HG := Lib.hid (Below.refl (W10.drew).heap.size (W10.drew))
  refine good_pureX 0 (some 50) (Go.Op.load 25 (Go.Operand.tmp 11)) (none) (.agg #[.bool x3_b, .slice x3_a x3_n x3_c, .slice x3_d x3_m x3_e]) (by kernel_rfl) (by kernel_rfl) (by kernel_rfl) (fun _ _ _ h => h) (fun w' hw' => ?_) ?_
  · obtain ⟨ce00, ce01, ce02, fe00, fe01, fe02⟩ := (Box.se hw' Xe0.out notin0).c3
    first | (go_simp; done) | (go_simp; simp_all; done) | (go_simp; rfl)
  simp only [Act.put, List.setIfInBounds_toArray, List.set_cons_zero, List.set_cons_succ]
  refine good_callX 1 40 (some 51) #[Go.Operand.const (Go.Value.int Go.IntKind.i64 6)] #[3] (none) #[.int .i64 6] (by kernel_rfl) Hok.out (by kernel_rfl) (by kernel_rfl) (by kernel_rfl) (by kernel_rfl) rfl rfl rfl (by kernel_rfl) (fun w11 hb => ?_)
  have HG := Lib.hid (below_call HG.out hb)
  clear hb
  refine Calls.mono (of_rat (x := 6) (by decide) (by decide)) ?_
  rintro e w12 ⟨v12, rfl, hx4, hb⟩
  obtain ⟨x4_b, x4_a, x4_n, x4_c, x4_d, x4_m, x4_e, rfl⟩ := hx4.litb
  refine ⟨_, rfl, ?_, hb⟩
  have HG := Lib.hid (below_call HG.out hb)
  have Hx4 := Lib.hid hx4
  clear hb hx4
  simp only [Act.put, List.setIfInBounds_toArray, List.set_cons_zero, List.set_cons_succ]
  refine good_callX 2 33 (some 52) #[Go.Operand.tmp 50, Go.Operand.tmp 51] #[25, 25] (none) #[.agg #[.bool x3_b, .slice x3_a x3_n x3_c, .slice x3_d x3_m x3_e], .agg #[.bool x4_b, .slice x4_a x4_n x4_c, .slice x4_d x4_m x4_e]] (by kernel_rfl) Hok.out (by kernel_rfl) (by kernel_rfl) (by kernel_rfl) (by kernel_rfl) rfl rfl rfl (by kernel_rfl) (fun w13 hb => ?_)
  have Hx4 := Lib.hid (CR.keep Hx4.out (Keep.call hb))
  have HG := Lib.hid (below_call HG.out hb)
  clear hb
  (first | (have hcall := rmul_ar (CR.keep Hx3.out (Keep.call HG.out)).ar Hx4.out.ar (by decide) (by decide); refine Calls.mono hcall ?_; clear hcall) | refine Calls.mono (rmul_ar (CR.keep Hx3.out (Keep.call HG.out)).ar Hx4.out.ar (by decide) (by decide)) ?_)
  rintro e w14 ⟨v14, rfl, hx5, hb⟩
  obtain ⟨x5_b, x5_a, x5_n, x5_c, x5_d, x5_m, x5_e, rfl⟩ := hx5.litb
  refine ⟨_, rfl, ?_, hb⟩
  have HG := Lib.hid (below_call HG.out hb)
  have Hx5 := Lib.hid hx5
  clear hb hx5
  simp only [Act.put, List.setIfInBounds_toArray, List.set_cons_zero, List.set_cons_succ]
  refine good_end1 1 Hok.out (by kernel_rfl) (by kernel_rfl) (by kernel_rfl) (fun _ gg0 w15 hb eg0 xg0 => ?_)
  have Hx5 := Lib.hid (CR.keep Hx5.out (Keep.call hb))
  have HG := Lib.hid (below_call HG.out hb)
  clear hb
  have Na0g0 := Lib.hid (show w.heap.size ≠ gg0 from Nat.ne_of_lt (Nat.lt_of_lt_of_le Xa0.out.lt eg0))
  have Nb0g0 := Lib.hid (show w.heap.size + 1 ≠ gg0 from Nat.ne_of_lt (Nat.lt_of_lt_of_le Xb0.out.lt eg0))
  have Nc0g0 := Lib.hid (show w3.heap.size ≠ gg0 from Nat.ne_of_lt (Nat.lt_of_lt_of_le Xc0.out.lt eg0))
  have Nd0g0 := Lib.hid (show w5.heap.size ≠ gg0 from Nat.ne_of_lt (Nat.lt_of_lt_of_le Xd0.out.lt eg0))
  have Ne0g0 := Lib.hid (show w7.heap.size ≠ gg0 from Nat.ne_of_lt (Nat.lt_of_lt_of_le Xe0.out.lt eg0))
  have Nf0g0 := Lib.hid (show w9.heap.size ≠ gg0 from Nat.ne_of_lt (Nat.lt_of_lt_of_le Xf0.out.lt eg0))
  have Gg0 := Lib.hid (show w.heap.size ≤ gg0 from Nat.le_trans HB.out.size eg0)
  have Eg0 := Lib.hid eg0
  clear eg0
  have Xa0 := Lib.hid (Box.pcall HG.out Xa0.out)
  have Xb0 := Lib.hid (Box.pcall HG.out Xb0.out)
  have Xc0 := Lib.hid (Box.pcall HG.out Xc0.out)
  have Xd0 := Lib.hid (Box.pcall HG.out Xd0.out)
  have Xe0 := Lib.hid (Box.pcall HG.out Xe0.out)
  have Xf0 := Lib.hid (Box.pcall HG.out Xf0.out)
  have HB := Lib.hid (below_call HB.out HG.out)
  have HS := Lib.hid (SE.of (E := []) HG.out)
  have Xg0 := Lib.hid xg0
  clear xg0
  simp only [Act.put, List.setIfInBounds_toArray, List.set_cons_zero, List.set_cons_succ]
  refine held_oneX 4 (Go.Op.store 25 (Go.Operand.tmp 15) (Go.Operand.tmp 52)) (none) (World.setCell (World.setCell (World.setCell w15 ⟨gg0, 0, none⟩ (.bool x5_b)) ⟨gg0, 1, none⟩ (.slice x5_a x5_n x5_c)) ⟨gg0, 2, none⟩ (.slice x5_d x5_m x5_e)) (by kernel_rfl) (by kernel_rfl) (by kernel_rfl) (by kernel_rfl) ?_ (HS.out.store3 (.inr Eg0.out)) ?_
  · obtain ⟨cg00, cg01, cg02, fg00, fg01, fg02⟩ := Xg0.out.c3
    first | (go_simp; done) | (go_simp; simp_all; done) | (go_simp; rfl)
  obtain ⟨W16, hW⟩ : ∃ W16, W16 = (World.setCell (World.setCell (World.setCell w15 ⟨gg0, 0, none⟩ (.bool x5_b)) ⟨gg0, 1, none⟩ (.slice x5_a x5_n x5_c)) ⟨gg0, 2, none⟩ (.slice x5_d x5_m x5_e)) := ⟨_, rfl⟩
  rw [← hW]
  obtain ⟨xg0, hk, hf, hbb, hz⟩ := stored3s hW Xg0.out (by first | exact NoInt.bool _ | exact NoInt.slice _ _ _) (by first | exact NoInt.bool _ | exact NoInt.slice _ _ _) (by first | exact NoInt.bool _ | exact NoInt.slice _ _ _)
  have Hx5 := Lib.hid (CR.keep Hx5.out hk)
  have Xa0 := Lib.hid (hf _ _ _ Xa0.out Na0g0.out)
  have Xb0 := Lib.hid (hf _ _ _ Xb0.out Nb0g0.out)
  have Xc0 := Lib.hid (hf _ _ _ Xc0.out Nc0g0.out)
  have Xd0 := Lib.hid (hf _ _ _ Xd0.out Nd0g0.out)
  have Xe0 := Lib.hid (hf _ _ _ Xe0.out Ne0g0.out)
  have Xf0 := Lib.hid (hf _ _ _ Xf0.out Nf0g0.out)
  have Xg0 := Lib.hid xg0
  have HB := Lib.hid (hbb _ HB.out Gg0.out)
  have HS := Lib.hid (show SE (W10.drew) [] W16 from by rw [hW]; exact HS.out.store3 (.inr Eg0.out))
  clear hW hk hf hbb xg0
  clear hz
  refine wpAnyH_done (by kernel_rfl) ?_ _
  clear HG HS Hok Eg0
  obtain ⟨ca00, ca01, fa00, fa01⟩ := Xa0.out.c2
  have la0 := Xa0.out.lt
  obtain ⟨cb00, cb01, fb00, fb01⟩ := Xb0.out.c2
  have lb0 := Xb0.out.lt
  obtain ⟨cc00, cc01, cc02, fc00, fc01, fc02⟩ := Xc0.out.c3
  have lc0 := Xc0.out.lt
  obtain ⟨cd00, cd01, cd02, fd00, fd01, fd02⟩ := Xd0.out.c3
  have ld0 := Xd0.out.lt
  obtain ⟨ce00, ce01, ce02, fe00, fe01, fe02⟩ := Xe0.out.c3
  have le0 := Xe0.out.lt
  obtain ⟨cf00, cf01, cf02, ff00, ff01, ff02⟩ := Xf0.out.c3
  have lf0 := Xf0.out.lt
  obtain ⟨cg00, cg01, cg02, fg00, fg01, fg02⟩ := Xg0.out.c3
  have lg0 := Xg0.out.lt
  go_wp2_with fail
  clear ca00 ca01 fa00 fa01 la0 cb00 cb01 fb00 fb01 lb0 cc00 cc01 cc02 fc00 fc01 fc02 lc0 cd00 cd01 cd02 fd00 fd01 fd02 ld0 ce00 ce01 ce02 fe00 fe01 fe02 le0 cf00 cf01 cf02 ff00 ff01 ff02 lf0 cg00 cg01 cg02 fg00 fg01 fg02 lg0
  have Hx5 := Lib.hid (CR.keep Hx5.out (Keep.drew W16))
  have Xa0 := Lib.hid (Box.drew Xa0.out)
  have Xb0 := Lib.hid (Box.drew Xb0.out)
  have Xc0 := Lib.hid (Box.drew Xc0.out)
  have Xd0 := Lib.hid (Box.drew Xd0.out)
  have Xe0 := Lib.hid (Box.drew Xe0.out)
  have Xf0 := Lib.hid (Box.drew Xf0.out)
  have Xg0 := Lib.hid (Box.drew Xg0.out)
  have HB := Lib.hid (Below.drew HB.out)
  refine wp_region_float [] [] (by kernel_rfl) (by kernel_rfl) 82 (by kernel_rfl) Flok.nil ?_
  intro ok
  have Hok := Lib.hid ok
  clear ok
  have HG := Lib.hid (Below.refl (W16.drew).heap.size (W16.drew))
  refine good_pureX 0 (some 53) (Go.Op.move (Go.Operand.tmp 8)) (none) (.int .i64 3) (by kernel_rfl) (by kernel_rfl) (by kernel_rfl) (fun _ _ _ h => h) (fun w' hw' => ?_) ?_
  · first | (go_simp; done) | (go_simp; simp_all; done) | (go_simp; rfl)
  simp only [Act.put, List.setIfInBounds_toArray, List.set_cons_zero, List.set_cons_succ]
  refine good_pureX 1 (some 54) (Go.Op.move (Go.Operand.tmp 10)) (none) (.int .i64 3) (by kernel_rfl) (by kernel_rfl) (by kernel_rfl) (fun _ _ _ h => h) (fun w' hw' => ?_) ?_
  · first | (go_simp; done) | (go_simp; simp_all; done) | (go_simp; rfl)
  simp only [Act.put, List.setIfInBounds_toArray, List.set_cons_zero, List.set_cons_succ]
  refine good_pureX 2 (some 55) (Go.Op.binOp Go.BinOp.eql 39 (Go.Operand.tmp 53) (Go.Operand.tmp 54) 39) (none) (.bool true) (by kernel_rfl) (by kernel_rfl) (by kernel_rfl) (fun _ _ _ h => h) (fun w' hw' => ?_) ?_
  · first | (go_simp; done) | (go_simp; simp_all; done) | (go_simp; rfl)
  simp only [Act.put, List.setIfInBounds_toArray, List.set_cons_zero, List.set_cons_succ]
  refine good_pureX 3 (some 56) (Go.Op.move (Go.Operand.tmp 55)) (none) (.bool true) (by kernel_rfl) (by kernel_rfl) (by kernel_rfl) (fun _ _ _ h => h) (fun w' hw' => ?_) ?_
  · first | (go_simp; done) | (go_simp; simp_all; done) | (go_simp; rfl)
  simp only [Act.put, List.setIfInBounds_toArray, List.set_cons_zero, List.set_cons_succ]
  refine good_pureX 4 (some 57) (Go.Op.load 25 (Go.Operand.tmp 7)) (some (3, true)) (.agg #[.bool false, .slice none 0 0, .slice none 0 0]) (by kernel_rfl) (by kernel_rfl) (by kernel_rfl) (fun _ _ _ h => h) (fun w' hw' => ?_) ?_
  · obtain ⟨cc00, cc01, cc02, fc00, fc01, fc02⟩ := (Box.se hw' Xc0.out notin0).c3
    first | (go_simp; done) | (go_simp; simp_all; done) | (go_simp; rfl)
  simp only [Act.put, List.setIfInBounds_toArray, List.set_cons_zero, List.set_cons_succ]
  refine good_pureX 5 (some 58) (Go.Op.load 25 (Go.Operand.tmp 9)) (some (3, true)) (.agg #[.bool false, .slice none 0 0, .slice none 0 0]) (by kernel_rfl) (by kernel_rfl) (by kernel_rfl) (fun _ _ _ h => h) (fun w' hw' => ?_) ?_
  · obtain ⟨cd00, cd01, cd02, fd00, fd01, fd02⟩ := (Box.se hw' Xd0.out notin0).c3
    first | (go_simp; done) | (go_simp; simp_all; done) | (go_simp; rfl)
  simp only [Act.put, List.setIfInBounds_toArray, List.set_cons_zero, List.set_cons_succ]
  refine good_callX 6 15 (some 59) #[Go.Operand.tmp 57, Go.Operand.tmp 58] #[25, 25] (some (3, true)) #[.agg #[.bool false, .slice none 0 0, .slice none 0 0], .agg #[.bool false, .slice none 0 0, .slice none 0 0]] (by kernel_rfl) Hok.out (by kernel_rfl) (by kernel_rfl) (by kernel_rfl) (by kernel_rfl) rfl rfl rfl (by kernel_rfl) (fun w17 hb => ?_)
  have HG := Lib.hid (below_call HG.out hb)
  clear hb
  refine Calls.mono (zsame_cr (CR.zero _) (CR.zero _) rfl) ?_
  rintro e w18 ⟨v18, rfl, rfl, hb⟩
  refine ⟨_, rfl, ?_, hb⟩
  have HG := Lib.hid (below_call HG.out hb)
  clear hb
  simp only [Act.put, List.setIfInBounds_toArray, List.set_cons_zero, List.set_cons_succ]
  refine good_pureX 7 (some 60) (Go.Op.pick (Go.Operand.tmp 56) (Go.Operand.tmp 59) (Go.Operand.const (Go.Value.bool false))) (none) (.bool true) (by kernel_rfl) (by kernel_rfl) (by kernel_rfl) (fun _ _ _ h => h) (fun w' hw' => ?_) ?_
  · first | (go_simp; done) | (go_simp; simp_all; done) | (go_simp; rfl)
  simp only [Act.put, List.setIfInBounds_toArray, List.set_cons_zero, List.set_cons_succ]
  refine good_pureX 8 (some 61) (Go.Op.move (Go.Operand.tmp 60)) (none) (.bool true) (by kernel_rfl) (by kernel_rfl) (by kernel_rfl) (fun _ _ _ h => h) (fun w' hw' => ?_) ?_
  · first | (go_simp; done) | (go_simp; simp_all; done) | (go_simp; rfl)
  simp only [Act.put, List.setIfInBounds_toArray, List.set_cons_zero, List.set_cons_succ]
  refine good_pureX 9 (some 62) (Go.Op.move (Go.Operand.tmp 12)) (some (8, true)) (.int .i64 0) (by kernel_rfl) (by kernel_rfl) (by kernel_rfl) (fun _ _ _ h => h) (fun w' hw' => ?_) ?_
  · first | (go_simp; done) | (go_simp; simp_all; done) | (go_simp; rfl)
  simp only [Act.put, List.setIfInBounds_toArray, List.set_cons_zero, List.set_cons_succ]
  refine good_pureX 10 (some 63) (Go.Op.binOp Go.BinOp.eql 39 (Go.Operand.tmp 62) (Go.Operand.const (Go.Value.int Go.IntKind.i64 0)) 39) (some (8, true)) (.bool true) (by kernel_rfl) (by kernel_rfl) (by kernel_rfl) (fun _ _ _ h => h) (fun w' hw' => ?_) ?_
  · first | (go_simp; done) | (go_simp; simp_all; done) | (go_simp; rfl)
  simp only [Act.put, List.setIfInBounds_toArray, List.set_cons_zero, List.set_cons_succ]
  refine good_pureX 11 (some 64) (Go.Op.pick (Go.Operand.tmp 61) (Go.Operand.tmp 63) (Go.Operand.const (Go.Value.bool false))) (none) (.bool true) (by kernel_rfl) (by kernel_rfl) (by kernel_rfl) (fun _ _ _ h => h) (fun w' hw' => ?_) ?_
  · first | (go_simp; done) | (go_simp; simp_all; done) | (go_simp; rfl)
  simp only [Act.put, List.setIfInBounds_toArray, List.set_cons_zero, List.set_cons_succ]
  refine good_pureX 12 (some 65) (Go.Op.move (Go.Operand.tmp 64)) (none) (.bool true) (by kernel_rfl) (by kernel_rfl) (by kernel_rfl) (fun _ _ _ h => h) (fun w' hw' => ?_) ?_
  · first | (go_simp; done) | (go_simp; simp_all; done) | (go_simp; rfl)
  simp only [Act.put, List.setIfInBounds_toArray, List.set_cons_zero, List.set_cons_succ]
  refine good_pureX 13 (some 66) (Go.Op.move (Go.Operand.tmp 14)) (some (12, true)) (.int .i64 3) (by kernel_rfl) (by kernel_rfl) (by kernel_rfl) (fun _ _ _ h => h) (fun w' hw' => ?_) ?_
  · first | (go_simp; done) | (go_simp; simp_all; done) | (go_simp; rfl)
  simp only [Act.put, List.setIfInBounds_toArray, List.set_cons_zero, List.set_cons_succ]
  refine good_pureX 14 (some 67) (Go.Op.binOp Go.BinOp.eql 39 (Go.Operand.tmp 66) (Go.Operand.const (Go.Value.int Go.IntKind.i64 3)) 39) (some (12, true)) (.bool true) (by kernel_rfl) (by kernel_rfl) (by kernel_rfl) (fun _ _ _ h => h) (fun w' hw' => ?_) ?_
  · first | (go_simp; done) | (go_simp; simp_all; done) | (go_simp; rfl)
  simp only [Act.put, List.setIfInBounds_toArray, List.set_cons_zero, List.set_cons_succ]
  refine good_pureX 15 (some 68) (Go.Op.pick (Go.Operand.tmp 65) (Go.Operand.tmp 67) (Go.Operand.const (Go.Value.bool false))) (none) (.bool true) (by kernel_rfl) (by kernel_rfl) (by kernel_rfl) (fun _ _ _ h => h) (fun w' hw' => ?_) ?_
  · first | (go_simp; done) | (go_simp; simp_all; done) | (go_simp; rfl)
  simp only [Act.put, List.setIfInBounds_toArray, List.set_cons_zero, List.set_cons_succ]
  refine good_pureX 16 (some 69) (Go.Op.move (Go.Operand.tmp 68)) (none) (.bool true) (by kernel_rfl) (by kernel_rfl) (by kernel_rfl) (fun _ _ _ h => h) (fun w' hw' => ?_) ?_
  · first | (go_simp; done) | (go_simp; simp_all; done) | (go_simp; rfl)
  simp only [Act.put, List.setIfInBounds_toArray, List.set_cons_zero, List.set_cons_succ]
  refine good_pureX 17 (some 70) (Go.Op.move (Go.Operand.tmp 2)) (some (16, true)) (.int .i64 i) (by kernel_rfl) (by kernel_rfl) (by kernel_rfl) (fun _ _ _ h => h) (fun w' hw' => ?_) ?_
  · first | (go_simp; done) | (go_simp; simp_all; done) | (go_simp; rfl)
  simp only [Act.put, List.setIfInBounds_toArray, List.set_cons_zero, List.set_cons_succ]
  refine good_pureX 19 (some 72) (Go.Op.move (Go.Operand.tmp 2)) (some (16, true)) (.int .i64 i) (by kernel_rfl) (by kernel_rfl) (by kernel_rfl) (fun _ _ _ h => h) (fun w' hw' => ?_) ?_
  · first | (go_simp; done) | (go_simp; simp_all; done) | (go_simp; rfl)
  simp only [Act.put, List.setIfInBounds_toArray, List.set_cons_zero, List.set_cons_succ]
  refine good_callX 18 40 (some 71) #[Go.Operand.tmp 70] #[3] (some (16, true)) #[.int .i64 i] (by kernel_rfl) Hok.out (by kernel_rfl) (by kernel_rfl) (by kernel_rfl) (by kernel_rfl) rfl rfl rfl (by kernel_rfl) (fun w19 hb => ?_)
  have HG := Lib.hid (below_call HG.out hb)
  clear hb
  refine Calls.mono (of_rat H1.out H2.out) ?_
  rintro e w20 ⟨v20, rfl, hx6, hb⟩
  obtain ⟨x6_b, x6_a, x6_n, x6_c, x6_d, x6_m, x6_e, rfl⟩ := hx6.litb
  refine ⟨_, rfl, ?_, hb⟩
  have HG := Lib.hid (below_call HG.out hb)
  have Hx6 := Lib.hid hx6
  clear hb hx6
  simp only [Act.put, List.setIfInBounds_toArray, List.set_cons_zero, List.set_cons_succ]
  refine good_callX 20 24 (some 73) #[Go.Operand.tmp 72] #[3] (some (16, true)) #[.int .i64 i] (by kernel_rfl) Hok.out (by kernel_rfl) (by kernel_rfl) (by kernel_rfl) (by kernel_rfl) rfl rfl rfl (by kernel_rfl) (fun w21 hb => ?_)
  have Hx6 := Lib.hid (CR.keep Hx6.out (Keep.call hb))
  have HG := Lib.hid (below_call HG.out hb)
  clear hb
  refine Calls.mono (zof H1.out H2.out) ?_
  rintro e w22 ⟨v22, rfl, hx7, hb⟩
  obtain ⟨x7_b, x7_a, x7_n, x7_c, x7_d, x7_m, x7_e, rfl⟩ := hx7.litb
  refine ⟨_, rfl, ?_, hb⟩
  have Hx6 := Lib.hid (CR.keep Hx6.out (Keep.call hb))
  have HG := Lib.hid (below_call HG.out hb)
  have Hx7 := Lib.hid hx7
  clear hb hx7
  simp only [Act.put, List.setIfInBounds_toArray, List.set_cons_zero, List.set_cons_succ]
  refine good_callX 21 15 (some 74) #[Go.Operand.tmp 71, Go.Operand.tmp 73] #[25, 25] (some (16, true)) #[.agg #[.bool x6_b, .slice x6_a x6_n x6_c, .slice x6_d x6_m x6_e], .agg #[.bool x7_b, .slice x7_a x7_n x7_c, .slice x7_d x7_m x7_e]] (by kernel_rfl) Hok.out (by kernel_rfl) (by kernel_rfl) (by kernel_rfl) (by kernel_rfl) rfl rfl rfl (by kernel_rfl) (fun w23 hb => ?_)
  have Hx6 := Lib.hid (CR.keep Hx6.out (Keep.call hb))
  have Hx7 := Lib.hid (CR.keep Hx7.out (Keep.call hb))
  have HG := Lib.hid (below_call HG.out hb)
  clear hb
  (first | (have hcall := zsame_cr Hx6.out Hx7.out (rfl); refine Calls.mono hcall ?_; clear hcall) | refine Calls.mono (zsame_cr Hx6.out Hx7.out (rfl)) ?_)
  rintro e w24 ⟨v24, rfl, rfl, hb⟩
  refine ⟨_, rfl, ?_, hb⟩
  have HG := Lib.hid (below_call HG.out hb)
  clear hb
  simp only [Act.put, List.setIfInBounds_toArray, List.set_cons_zero, List.set_cons_succ]
  refine good_pureX 22 (some 75) (Go.Op.pick (Go.Operand.tmp 69) (Go.Operand.tmp 74) (Go.Operand.const (Go.Value.bool false))) (none) (.bool true) (by kernel_rfl) (by kernel_rfl) (by kernel_rfl) (fun _ _ _ h => h) (fun w' hw' => ?_) ?_
  · first | (go_simp; done) | (go_simp; simp_all; done) | (go_simp; rfl)
  simp only [Act.put, List.setIfInBounds_toArray, List.set_cons_zero, List.set_cons_succ]
  refine good_pureX 23 (some 76) (Go.Op.move (Go.Operand.tmp 75)) (none) (.bool true) (by kernel_rfl) (by kernel_rfl) (by kernel_rfl) (fun _ _ _ h => h) (fun w' hw' => ?_) ?_
  · first | (go_simp; done) | (go_simp; simp_all; done) | (go_simp; rfl)
  simp only [Act.put, List.setIfInBounds_toArray, List.set_cons_zero, List.set_cons_succ]
  refine good_pureX 24 (some 77) (Go.Op.load 25 (Go.Operand.tmp 15)) (some (23, true)) (.agg #[.bool x5_b, .slice x5_a x5_n x5_c, .slice x5_d x5_m x5_e]) (by kernel_rfl) (by kernel_rfl) (by kernel_rfl) (fun _ _ _ h => h) (fun w' hw' => ?_) ?_
  · obtain ⟨cg00, cg01, cg02, fg00, fg01, fg02⟩ := (Box.se hw' Xg0.out notin0).c3
    first | (go_simp; done) | (go_simp; simp_all; done) | (go_simp; rfl)
  simp only [Act.put, List.setIfInBounds_toArray, List.set_cons_zero, List.set_cons_succ]
  refine good_pureX 25 (some 78) (Go.Op.move (Go.Operand.tmp 2)) (some (23, true)) (.int .i64 i) (by kernel_rfl) (by kernel_rfl) (by kernel_rfl) (fun _ _ _ h => h) (fun w' hw' => ?_) ?_
  · first | (go_simp; done) | (go_simp; simp_all; done) | (go_simp; rfl)
  simp only [Act.put, List.setIfInBounds_toArray, List.set_cons_zero, List.set_cons_succ]
  refine good_callX 26 24 (some 79) #[Go.Operand.tmp 78] #[3] (some (23, true)) #[.int .i64 i] (by kernel_rfl) Hok.out (by kernel_rfl) (by kernel_rfl) (by kernel_rfl) (by kernel_rfl) rfl rfl rfl (by kernel_rfl) (fun w25 hb => ?_)
  have HG := Lib.hid (below_call HG.out hb)
  clear hb
  refine Calls.mono (zof H1.out H2.out) ?_
  rintro e w26 ⟨v26, rfl, hx8, hb⟩
  obtain ⟨x8_b, x8_a, x8_n, x8_c, x8_d, x8_m, x8_e, rfl⟩ := hx8.litb
  refine ⟨_, rfl, ?_, hb⟩
  have HG := Lib.hid (below_call HG.out hb)
  have Hx8 := Lib.hid hx8
  clear hb hx8
  simp only [Act.put, List.setIfInBounds_toArray, List.set_cons_zero, List.set_cons_succ]
  refine good_callX 27 15 (some 80) #[Go.Operand.tmp 77, Go.Operand.tmp 79] #[25, 25] (some (23, true)) #[.agg #[.bool x5_b, .slice x5_a x5_n x5_c, .slice x5_d x5_m x5_e], .agg #[.bool x8_b, .slice x8_a x8_n x8_c, .slice x8_d x8_m x8_e]] (by kernel_rfl) Hok.out (by kernel_rfl) (by kernel_rfl) (by kernel_rfl) (by kernel_rfl) rfl rfl rfl (by kernel_rfl) (fun w27 hb => ?_)
  have Hx8 := Lib.hid (CR.keep Hx8.out (Keep.call hb))
  have HG := Lib.hid (below_call HG.out hb)
  clear hb
  refine Calls.mono (zsame_cr (CR.keep Hx5.out (Keep.call HG.out)) Hx8.out (q_six _)) ?_
  rintro e w28 ⟨v28, rfl, rfl, hb⟩
  refine ⟨_, rfl, ?_, hb⟩
  have HG := Lib.hid (below_call HG.out hb)
  clear hb
  simp only [Act.put, List.setIfInBounds_toArray, List.set_cons_zero, List.set_cons_succ]
  refine good_pureX 28 (some 81) (Go.Op.pick (Go.Operand.tmp 76) (Go.Operand.tmp 80) (Go.Operand.const (Go.Value.bool false))) (none) (.bool true) (by kernel_rfl) (by kernel_rfl) (by kernel_rfl) (fun _ _ _ h => h) (fun w' hw' => ?_) ?_
  · first | (go_simp; done) | (go_simp; simp_all; done) | (go_simp; rfl)
  simp only [Act.put, List.setIfInBounds_toArray, List.set_cons_zero, List.set_cons_succ]
  refine good_pureX 29 (some 6) (Go.Op.assign (Go.Operand.tmp 81)) (none) (.bool true) (by kernel_rfl) (by kernel_rfl) (by kernel_rfl) (fun _ _ _ h => h) (fun w' hw' => ?_) ?_
  · first | (go_simp; done) | (go_simp; simp_all; done) | (go_simp; rfl)
  simp only [Act.put, List.setIfInBounds_toArray, List.set_cons_zero, List.set_cons_succ]
  refine good_end0 0 (by kernel_rfl) (fun _ w29 hb => ?_)
  have HG := Lib.hid (below_call HG.out hb)
  clear hb
  have Xa0 := Lib.hid (Box.pcall HG.out Xa0.out)
  have Xb0 := Lib.hid (Box.pcall HG.out Xb0.out)
  have Xc0 := Lib.hid (Box.pcall HG.out Xc0.out)
  have Xd0 := Lib.hid (Box.pcall HG.out Xd0.out)
  have Xe0 := Lib.hid (Box.pcall HG.out Xe0.out)
  have Xf0 := Lib.hid (Box.pcall HG.out Xf0.out)
  have Xg0 := Lib.hid (Box.pcall HG.out Xg0.out)
  have HB := Lib.hid (below_call HB.out HG.out)
  have HS := Lib.hid (SE.of (E := []) HG.out)
  refine wpAnyH_done (by kernel_rfl) ?_ _
  clear HG HS Hok 
  obtain ⟨ca00, ca01, fa00, fa01⟩ := Xa0.out.c2
  have la0 := Xa0.out.lt
  obtain ⟨cb00, cb01, fb00, fb01⟩ := Xb0.out.c2
  have lb0 := Xb0.out.lt
  obtain ⟨cc00, cc01, cc02, fc00, fc01, fc02⟩ := Xc0.out.c3
  have lc0 := Xc0.out.lt
  obtain ⟨cd00, cd01, cd02, fd00, fd01, fd02⟩ := Xd0.out.c3
  have ld0 := Xd0.out.lt
  obtain ⟨ce00, ce01, ce02, fe00, fe01, fe02⟩ := Xe0.out.c3
  have le0 := Xe0.out.lt
  obtain ⟨cf00, cf01, cf02, ff00, ff01, ff02⟩ := Xf0.out.c3
  have lf0 := Xf0.out.lt
  obtain ⟨cg00, cg01, cg02, fg00, fg01, fg02⟩ := Xg0.out.c3
  have lg0 := Xg0.out.lt
  go_wp2
  clear ca00 ca01 fa00 fa01 la0 cb00 cb01 fb00 fb01 lb0 cc00 cc01 cc02 fc00 fc01 fc02 lc0 cd00 cd01 cd02 fd00 fd01 fd02 ld0 ce00 ce01 ce02 fe00 fe01 fe02 le0 cf00 cf01 cf02 ff00 ff01 ff02 lf0 cg00 cg01 cg02 fg00 fg01 fg02 lg0
  go_ret
  exact ⟨_, rfl, rfl, HB.out⟩


set_option maxRecDepth 100000 in
set_option maxHeartbeats 4000000 in
theorem lrmak_y {Xa : Int} {ba : Bool} {sa : Option Addr} {na ca : Nat} {Xb : Int} {bb : Bool} {sb : Option Addr} {nb cb : Nat} {i : Int}  {w : World} (hz : Xb ≠ 0) (h1 : -9223372036854775808 ≤ i) (h2 : i < 9223372036854775808) (ha : AI Xa 3 w (.agg #[.bool ba, .slice sa na ca])) (hb : AI Xb 3 w (.agg #[.bool bb, .slice sb nb cb])) (hda : decide ((3 : Int) < na) = false) (hdb : decide ((3 : Int) < nb) = false) :
    Calls Try.prog 9 #[.agg #[.bool ba, .slice sa na ca], .agg #[.bool bb, .slice sb nb cb], .int .i64 i] w (Ret w (Val (.bool true))) := by
  have Ha := Lib.hid ha
  have Hb := Lib.hid hb
  have Hz := Lib.hid hz
  have H1 := Lib.hid h1
  have H2 := Lib.hid h2
  clear ha hb hz h1 h2
  go_enter Try.func9, Try.ntmps9
  have HB := Lib.hid (Below.refl w.heap.size w)
  go_wp2_with fail
  obtain ⟨W1, hW⟩ : ∃ W1, W1 = (World.alloc (World.alloc w (.cells #[.bool ba, .slice sa na ca] 33)) (.cells #[.bool bb, .slice sb nb cb] 33)) := ⟨_, rfl⟩
  rw [← hW]
  obtain ⟨xa0, xb0, hk, hb⟩ := boxes_2 _ _ _ _ _ hW
  clear hW
  have Ha := Lib.hid (AI.keep Ha.out hk)
  have Hb := Lib.hid (AI.keep Hb.out hk)
  have Ga0 := Lib.hid (show w.heap.size ≤ w.heap.size from Nat.le_trans HB.out.size (by omega))
  have Gb0 := Lib.hid (show w.heap.size ≤ w.heap.size + 1 from Nat.le_trans HB.out.size (by omega))
  have Xa0 := Lib.hid xa0
  have Xb0 := Lib.hid xb0
  have HB := Lib.hid (below_call HB.out hb)
  clear hk hb xa0 xb0
  refine Calls.mono (awake3) ?_
  rintro e w2 ⟨v2, rfl, rfl, hb⟩
  have Ha := Lib.hid (AI.keep Ha.out (Keep.call hb))
  have Hb := Lib.hid (AI.keep Hb.out (Keep.call hb))
  have Xa0 := Lib.hid (Box.pcall hb Xa0.out)
  have Xb0 := Lib.hid (Box.pcall hb Xb0.out)
  have HB := Lib.hid (below_call HB.out hb)
  clear hb
  obtain ⟨ca00, ca01, fa00, fa01⟩ := Xa0.out.c2
  have la0 := Xa0.out.lt
  obtain ⟨cb00, cb01, fb00, fb01⟩ := Xb0.out.c2
  have lb0 := Xb0.out.lt
  go_wp2_with fail
  clear ca00 ca01 fa00 fa01 la0 cb00 cb01 fb00 fb01 lb0
  (first | (have hcall := rmk_ai Hz.out Ha.out Hb.out (by decide) (by decide); refine Calls.mono hcall ?_; clear hcall) | refine Calls.mono (rmk_ai Hz.out Ha.out Hb.out (by decide) (by decide)) ?_)
  rintro e w3 ⟨t3, rfl, ⟨v3, rfl, hx1⟩, hb⟩
  obtain ⟨x1_b, x1_a, x1_n, x1_c, x1_d, x1_m, x1_e, rfl⟩ := hx1.litb
  have Ha := Lib.hid (AI.keep Ha.out (Keep.call hb))
  have Hb := Lib.hid (AI.keep Hb.out (Keep.call hb))
  have Xa0 := Lib.hid (Box.pcall hb Xa0.out)
  have Xb0 := Lib.hid (Box.pcall hb Xb0.out)
  have HB := Lib.hid (below_call HB.out hb)
  have Hx1 := Lib.hid hx1
  clear hb hx1
  obtain ⟨ca00, ca01, fa00, fa01⟩ := Xa0.out.c2
  have la0 := Xa0.out.lt
  obtain ⟨cb00, cb01, fb00, fb01⟩ := Xb0.out.c2
  have lb0 := Xb0.out.lt
  go_wp2_with fail
  clear ca00 ca01 fa00 fa01 la0 cb00 cb01 fb00 fb01 lb0
  obtain ⟨W4, hW⟩ : ∃ W4, W4 = (World.alloc w3 (.cells #[.bool x1_b, .slice x1_a x1_n x1_c, .slice x1_d x1_m x1_e] 25)) := ⟨_, rfl⟩
  rw [← hW]
  obtain ⟨xc0, hk, hb⟩ := boxes_1 _ _ _ hW
  clear hW
  have Ha := Lib.hid (AI.keep Ha.out hk)
  have Hb := Lib.hid (AI.keep Hb.out hk)
  have Hx1 := Lib.hid (CR.keep Hx1.out hk)
  have Na0c0 := Lib.hid (show w.heap.size ≠ w3.heap.size from Nat.ne_of_lt (Nat.lt_of_lt_of_le Xa0.out.lt (by omega)))
  have Nb0c0 := Lib.hid (show w.heap.size + 1 ≠ w3.heap.size from Nat.ne_of_lt (Nat.lt_of_lt_of_le Xb0.out.lt (by omega)))
  have Gc0 := Lib.hid (show w.heap.size ≤ w3.heap.size from Nat.le_trans HB.out.size (by omega))
  have Xa0 := Lib.hid (Box.pcall hb Xa0.out)
  have Xb0 := Lib.hid (Box.pcall hb Xb0.out)
  have Xc0 := Lib.hid xc0
  have HB := Lib.hid (below_call HB.out hb)
  clear hk hb xc0
  (first | (have hcall := zmk_ai Hz.out Ha.out Hb.out (by decide) (by decide); refine Calls.mono hcall ?_; clear hcall) | refine Calls.mono (zmk_ai Hz.out Ha.out Hb.out (by decide) (by decide)) ?_)
  rintro e w5 ⟨t5, rfl, ⟨v5, rfl, hx2⟩, hb⟩
  obtain ⟨x2_b, x2_a, x2_n, x2_c, x2_d, x2_m, x2_e, rfl⟩ := hx2.litb
  have Hx1 := Lib.hid (CR.keep Hx1.out (Keep.call hb))
  have Xa0 := Lib.hid (Box.pcall hb Xa0.out)
  have Xb0 := Lib.hid (Box.pcall hb Xb0.out)
  have Xc0 := Lib.hid (Box.pcall hb Xc0.out)
  have HB := Lib.hid (below_call HB.out hb)
  have Hx2 := Lib.hid hx2
  clear hb hx2
  obtain ⟨ca00, ca01, fa00, fa01⟩ := Xa0.out.c2
  have la0 := Xa0.out.lt
  obtain ⟨cb00, cb01, fb00, fb01⟩ := Xb0.out.c2
  have lb0 := Xb0.out.lt
  obtain ⟨cc00, cc01, cc02, fc00, fc01, fc02⟩ := Xc0.out.c3
  have lc0 := Xc0.out.lt
  go_wp2_with fail
  clear ca00 ca01 fa00 fa01 la0 cb00 cb01 fb00 fb01 lb0 cc00 cc01 cc02 fc00 fc01 fc02 lc0
  obtain ⟨W6, hW⟩ : ∃ W6, W6 = (World.alloc w5 (.cells #[.bool x2_b, .slice x2_a x2_n x2_c, .slice x2_d x2_m x2_e] 25)) := ⟨_, rfl⟩
  rw [← hW]
  obtain ⟨xd0, hk, hb⟩ := boxes_1 _ _ _ hW
  clear hW
  have Hx1 := Lib.hid (CR.keep Hx1.out hk)
  have Hx2 := Lib.hid (CR.keep Hx2.out hk)
  have Na0d0 := Lib.hid (show w.heap.size ≠ w5.heap.size from Nat.ne_of_lt (Nat.lt_of_lt_of_le Xa0.out.lt (by omega)))
  have Nb0d0 := Lib.hid (show w.heap.size + 1 ≠ w5.heap.size from Nat.ne_of_lt (Nat.lt_of_lt_of_le Xb0.out.lt (by omega)))
  have Nc0d0 := Lib.hid (show w3.heap.size ≠ w5.heap.size from Nat.ne_of_lt (Nat.lt_of_lt_of_le Xc0.out.lt (by omega)))
  have Gd0 := Lib.hid (show w.heap.size ≤ w5.heap.size from Nat.le_trans HB.out.size (by omega))
  have Xa0 := Lib.hid (Box.pcall hb Xa0.out)
  have Xb0 := Lib.hid (Box.pcall hb Xb0.out)
  have Xc0 := Lib.hid (Box.pcall hb Xc0.out)
  have Xd0 := Lib.hid xd0
  have HB := Lib.hid (below_call HB.out hb)
  clear hk hb xd0
  refine Calls.mono (rfrac_1 H1.out H2.out (by decide) (by decide) (by decide)) ?_
  rintro e w7 ⟨t7, rfl, ⟨v7, rfl, hx3⟩, hb⟩
  obtain ⟨x3_b, x3_a, x3_n, x3_c, x3_d, x3_m, x3_e, rfl⟩ := hx3.litb
  have Hx1 := Lib.hid (CR.keep Hx1.out (Keep.call hb))
  have Hx2 := Lib.hid (CR.keep Hx2.out (Keep.call hb))
  have Xa0 := Lib.hid (Box.pcall hb Xa0.out)
  have Xb0 := Lib.hid (Box.pcall hb Xb0.out)
  have Xc0 := Lib.hid (Box.pcall hb Xc0.out)
  have Xd0 := Lib.hid (Box.pcall hb Xd0.out)
  have HB := Lib.hid (below_call HB.out hb)
  have Hx3 := Lib.hid hx3
  clear hb hx3
  obtain ⟨ca00, ca01, fa00, fa01⟩ := Xa0.out.c2
  have la0 := Xa0.out.lt
  obtain ⟨cb00, cb01, fb00, fb01⟩ := Xb0.out.c2
  have lb0 := Xb0.out.lt
  obtain ⟨cc00, cc01, cc02, fc00, fc01, fc02⟩ := Xc0.out.c3
  have lc0 := Xc0.out.lt
  obtain ⟨cd00, cd01, cd02, fd00, fd01, fd02⟩ := Xd0.out.c3
  have ld0 := Xd0.out.lt
  go_wp2_with fail
  clear ca00 ca01 fa00 fa01 la0 cb00 cb01 fb00 fb01 lb0 cc00 cc01 cc02 fc00 fc01 fc02 lc0 cd00 cd01 cd02 fd00 fd01 fd02 ld0
  obtain ⟨W8, hW⟩ : ∃ W8, W8 = (World.alloc w7 (.cells #[.bool x3_b, .slice x3_a x3_n x3_c, .slice x3_d x3_m x3_e] 25)) := ⟨_, rfl⟩
  rw [← hW]
  obtain ⟨xe0, hk, hb⟩ := boxes_1 _ _ _ hW
  clear hW
  have Hx1 := Lib.hid (CR.keep Hx1.out hk)
  have Hx2 := Lib.hid (CR.keep Hx2.out hk)
  have Hx3 := Lib.hid (CR.keep Hx3.out hk)
  have Na0e0 := Lib.hid (show w.heap.size ≠ w7.heap.size from Nat.ne_of_lt (Nat.lt_of_lt_of_le Xa0.out.lt (by omega)))
  have Nb0e0 := Lib.hid (show w.heap.size + 1 ≠ w7.heap.size from Nat.ne_of_lt (Nat.lt_of_lt_of_le Xb0.out.lt (by omega)))
  have Nc0e0 := Lib.hid (show w3.heap.size ≠ w7.heap.size from Nat.ne_of_lt (Nat.lt_of_lt_of_le Xc0.out.lt (by omega)))
  have Nd0e0 := Lib.hid (show w5.heap.size ≠ w7.heap.size from Nat.ne_of_lt (Nat.lt_of_lt_of_le Xd0.out.lt (by omega)))
  have Ge0 := Lib.hid (show w.heap.size ≤ w7.heap.size from Nat.le_trans HB.out.size (by omega))
  have Xa0 := Lib.hid (Box.pcall hb Xa0.out)
  have Xb0 := Lib.hid (Box.pcall hb Xb0.out)
  have Xc0 := Lib.hid (Box.pcall hb Xc0.out)
  have Xd0 := Lib.hid (Box.pcall hb Xd0.out)
  have Xe0 := Lib.hid xe0
  have HB := Lib.hid (below_call HB.out hb)
  clear hk hb xe0
  refine Calls.mono (rfrac_0 H1.out H2.out (by decide) (by decide) rfl) ?_
  rintro e w9 ⟨v9, rfl, rfl, hb⟩
  have Hx1 := Lib.hid (CR.keep Hx1.out (Keep.call hb))
  have Hx2 := Lib.hid (CR.keep Hx2.out (Keep.call hb))
  have Hx3 := Lib.hid (CR.keep Hx3.out (Keep.call hb))
  have Xa0 := Lib.hid (Box.pcall hb Xa0.out)
  have Xb0 := Lib.hid (Box.pcall hb Xb0.out)
  have Xc0 := Lib.hid (Box.pcall hb Xc0.out)
  have Xd0 := Lib.hid (Box.pcall hb Xd0.out)
  have Xe0 := Lib.hid (Box.pcall hb Xe0.out)
  have HB := Lib.hid (below_call HB.out hb)
  clear hb
  obtain ⟨ca00, ca01, fa00, fa01⟩ := Xa0.out.c2
  have la0 := Xa0.out.lt
  obtain ⟨cb00, cb01, fb00, fb01⟩ := Xb0.out.c2
  have lb0 := Xb0.out.lt
  obtain ⟨cc00, cc01, cc02, fc00, fc01, fc02⟩ := Xc0.out.c3
  have lc0 := Xc0.out.lt
  obtain ⟨cd00, cd01, cd02, fd00, fd01, fd02⟩ := Xd0.out.c3
  have ld0 := Xd0.out.lt
  obtain ⟨ce00, ce01, ce02, fe00, fe01, fe02⟩ := Xe0.out.c3
  have le0 := Xe0.out.lt
  go_wp2_with fail
  clear ca00 ca01 fa00 fa01 la0 cb00 cb01 fb00 fb01 lb0 cc00 cc01 cc02 fc00 fc01 fc02 lc0 cd00 cd01 cd02 fd00 fd01 fd02 ld0 ce00 ce01 ce02 fe00 fe01 fe02 le0
  obtain ⟨W10, hW⟩ : ∃ W10, W10 = (World.alloc w9 (.cells #[.bool false, .slice none 0 0, .slice none 0 0] 25)) := ⟨_, rfl⟩
  rw [← hW]
  obtain ⟨xf0, hk, hb⟩ := boxes_1 _ _ _ hW
  clear hW
  have Hx1 := Lib.hid (CR.keep Hx1.out hk)
  have Hx2 := Lib.hid (CR.keep Hx2.out hk)
  have Hx3 := Lib.hid (CR.keep Hx3.out hk)
  have Na0f0 := Lib.hid (show w.heap.size ≠ w9.heap.size from Nat.ne_of_lt (Nat.lt_of_lt_of_le Xa0.out.lt (by omega)))
  have Nb0f0 := Lib.hid (show w.heap.size + 1 ≠ w9.heap.size from Nat.ne_of_lt (Nat.lt_of_lt_of_le Xb0.out.lt (by omega)))
  have Nc0f0 := Lib.hid (show w3.heap.size ≠ w9.heap.size from Nat.ne_of_lt (Nat.lt_of_lt_of_le Xc0.out.lt (by omega)))
  have Nd0f0 := Lib.hid (show w5.heap.size ≠ w9.heap.size from Nat.ne_of_lt (Nat.lt_of_lt_of_le Xd0.out.lt (by omega)))
  have Ne0f0 := Lib.hid (show w7.heap.size ≠ w9.heap.size from Nat.ne_of_lt (Nat.lt_of_lt_of_le Xe0.out.lt (by omega)))
  have Gf0 := Lib.hid (show w.heap.size ≤ w9.heap.size from Nat.le_trans HB.out.size (by omega))
  have Xa0 := Lib.hid (Box.pcall hb Xa0.out)
  have Xb0 := Lib.hid (Box.pcall hb Xb0.out)
  have Xc0 := Lib.hid (Box.pcall hb Xc0.out)
  have Xd0 := Lib.hid (Box.pcall hb Xd0.out)
  have Xe0 := Lib.hid (Box.pcall hb Xe0.out)
  have Xf0 := Lib.hid xf0
  have HB := Lib.hid (below_call HB.out hb)
  clear hk hb xf0
  have Hx1 := Lib.hid (CR.keep Hx1.out (Keep.drew W10))
  have Hx2 := Lib.hid (CR.keep Hx2.out (Keep.drew W10))
  have Hx3 := Lib.hid (CR.keep Hx3.out (Keep.drew W10))
  have Xa0 := Lib.hid (Box.drew Xa0.out)
  have Xb0 := Lib.hid (Box.drew Xb0.out)
  have Xc0 := Lib.hid (Box.drew Xc0.out)
  have Xd0 := Lib.hid (Box.drew Xd0.out)
  have Xe0 := Lib.hid (Box.drew Xe0.out)
  have Xf0 := Lib.hid (Box.drew Xf0.out)
  have HB := Lib.hid (Below.drew HB.out)
  refine wp_region_float [] [⟨3, 15, 25, #[.bool false, .slice none 0 0, .slice none 0 0]⟩] (by kernel_rfl) (by kernel_rfl) 82 (by kernel_rfl) (Flok.one (by kernel_rfl) (by kernel_rfl) (by kernel_rfl) (by intro w; go_simp)) ?_
  intro ok
  have Hok := Lib.hid ok
  clear ok
  have HG := Lib.hid (Below.refl (W10.drew).heap.size (W10.drew))
  refine good_pureX 0 (some 50) (Go.Op.load 25 (Go.Operand.tmp 11)) (none) (.agg #[.bool x3_b, .slice x3_a x3_n x3_c, .slice x3_d x3_m x3_e]) (by kernel_rfl) (by kernel_rfl) (by kernel_rfl) (fun _ _ _ h => h) (fun w' hw' => ?_) ?_
  · obtain ⟨ce00, ce01, ce02, fe00, fe01, fe02⟩ := (Box.se hw' Xe0.out notin0).c3
    first | (go_simp; done) | (go_simp; simp_all; done) | (go_simp; rfl)
  simp only [Act.put, List.setIfInBounds_toArray, List.set_cons_zero, List.set_cons_succ]
  refine good_callX 1 40 (some 51) #[Go.Operand.const (Go.Value.int Go.IntKind.i64 6)] #[3] (none) #[.int .i64 6] (by kernel_rfl) Hok.out (by kernel_rfl) (by kernel_rfl) (by kernel_rfl) (by kernel_rfl) rfl rfl rfl (by kernel_rfl) (fun w11 hb => ?_)
  have HG := Lib.hid (below_call HG.out hb)
  clear hb
  refine Calls.mono (of_rat (x := 6) (by decide) (by decide)) ?_
  rintro e w12 ⟨v12, rfl, hx4, hb⟩
  obtain ⟨x4_b, x4_a, x4_n, x4_c, x4_d, x4_m, x4_e, rfl⟩ := hx4.litb
  refine ⟨_, rfl, ?_, hb⟩
  have HG := Lib.hid (below_call HG.out hb)
  have Hx4 := Lib.hid hx4
  clear hb hx4
  simp only [Act.put, List.setIfInBounds_toArray, List.set_cons_zero, List.set_cons_succ]
  refine good_callX 2 33 (some 52) #[Go.Operand.tmp 50, Go.Operand.tmp 51] #[25, 25] (none) #[.agg #[.bool x3_b, .slice x3_a x3_n x3_c, .slice x3_d x3_m x3_e], .agg #[.bool x4_b, .slice x4_a x4_n x4_c, .slice x4_d x4_m x4_e]] (by kernel_rfl) Hok.out (by kernel_rfl) (by kernel_rfl) (by kernel_rfl) (by kernel_rfl) rfl rfl rfl (by kernel_rfl) (fun w13 hb => ?_)
  have Hx4 := Lib.hid (CR.keep Hx4.out (Keep.call hb))
  have HG := Lib.hid (below_call HG.out hb)
  clear hb
  (first | (have hcall := rmul_ar (CR.keep Hx3.out (Keep.call HG.out)).ar Hx4.out.ar (by decide) (by decide); refine Calls.mono hcall ?_; clear hcall) | refine Calls.mono (rmul_ar (CR.keep Hx3.out (Keep.call HG.out)).ar Hx4.out.ar (by decide) (by decide)) ?_)
  rintro e w14 ⟨v14, rfl, hx5, hb⟩
  obtain ⟨x5_b, x5_a, x5_n, x5_c, x5_d, x5_m, x5_e, rfl⟩ := hx5.litb
  refine ⟨_, rfl, ?_, hb⟩
  have HG := Lib.hid (below_call HG.out hb)
  have Hx5 := Lib.hid hx5
  clear hb hx5
  simp only [Act.put, List.setIfInBounds_toArray, List.set_cons_zero, List.set_cons_succ]
  refine good_end1 1 Hok.out (by kernel_rfl) (by kernel_rfl) (by kernel_rfl) (fun _ gg0 w15 hb eg0 xg0 => ?_)
  have Hx5 := Lib.hid (CR.keep Hx5.out (Keep.call hb))
  have HG := Lib.hid (below_call HG.out hb)
  clear hb
  have Na0g0 := Lib.hid (show w.heap.size ≠ gg0 from Nat.ne_of_lt (Nat.lt_of_lt_of_le Xa0.out.lt eg0))
  have Nb0g0 := Lib.hid (show w.heap.size + 1 ≠ gg0 from Nat.ne_of_lt (Nat.lt_of_lt_of_le Xb0.out.lt eg0))
  have Nc0g0 := Lib.hid (show w3.heap.size ≠ gg0 from Nat.ne_of_lt (Nat.lt_of_lt_of_le Xc0.out.lt eg0))
  have Nd0g0 := Lib.hid (show w5.heap.size ≠ gg0 from Nat.ne_of_lt (Nat.lt_of_lt_of_le Xd0.out.lt eg0))
  have Ne0g0 := Lib.hid (show w7.heap.size ≠ gg0 from Nat.ne_of_lt (Nat.lt_of_lt_of_le Xe0.out.lt eg0))
  have Nf0g0 := Lib.hid (show w9.heap.size ≠ gg0 from Nat.ne_of_lt (Nat.lt_of_lt_of_le Xf0.out.lt eg0))
  have Gg0 := Lib.hid (show w.heap.size ≤ gg0 from Nat.le_trans HB.out.size eg0)
  have Eg0 := Lib.hid eg0
  clear eg0
  have Hx1 := Lib.hid (CR.keep Hx1.out (Keep.call HG.out))
  have Hx2 := Lib.hid (CR.keep Hx2.out (Keep.call HG.out))
  have Xa0 := Lib.hid (Box.pcall HG.out Xa0.out)
  have Xb0 := Lib.hid (Box.pcall HG.out Xb0.out)
  have Xc0 := Lib.hid (Box.pcall HG.out Xc0.out)
  have Xd0 := Lib.hid (Box.pcall HG.out Xd0.out)
  have Xe0 := Lib.hid (Box.pcall HG.out Xe0.out)
  have Xf0 := Lib.hid (Box.pcall HG.out Xf0.out)
  have HB := Lib.hid (below_call HB.out HG.out)
  have HS := Lib.hid (SE.of (E := []) HG.out)
  have Xg0 := Lib.hid xg0
  clear xg0
  simp only [Act.put, List.setIfInBounds_toArray, List.set_cons_zero, List.set_cons_succ]
  refine held_oneX 4 (Go.Op.store 25 (Go.Operand.tmp 15) (Go.Operand.tmp 52)) (none) (World.setCell (World.setCell (World.setCell w15 ⟨gg0, 0, none⟩ (.bool x5_b)) ⟨gg0, 1, none⟩ (.slice x5_a x5_n x5_c)) ⟨gg0, 2, none⟩ (.slice x5_d x5_m x5_e)) (by kernel_rfl) (by kernel_rfl) (by kernel_rfl) (by kernel_rfl) ?_ (HS.out.store3 (.inr Eg0.out)) ?_
  · obtain ⟨cg00, cg01, cg02, fg00, fg01, fg02⟩ := Xg0.out.c3
    first | (go_simp; done) | (go_simp; simp_all; done) | (go_simp; rfl)
  obtain ⟨W16, hW⟩ : ∃ W16, W16 = (World.setCell (World.setCell (World.setCell w15 ⟨gg0, 0, none⟩ (.bool x5_b)) ⟨gg0, 1, none⟩ (.slice x5_a x5_n x5_c)) ⟨gg0, 2, none⟩ (.slice x5_d x5_m x5_e)) := ⟨_, rfl⟩
  rw [← hW]
  obtain ⟨xg0, hk, hf, hbb, hz⟩ := stored3s hW Xg0.out (by first | exact NoInt.bool _ | exact NoInt.slice _ _ _) (by first | exact NoInt.bool _ | exact NoInt.slice _ _ _) (by first | exact NoInt.bool _ | exact NoInt.slice _ _ _)
  have Hx1 := Lib.hid (CR.keep Hx1.out hk)
  have Hx2 := Lib.hid (CR.keep Hx2.out hk)
  have Hx5 := Lib.hid (CR.keep Hx5.out hk)
  have Xa0 := Lib.hid (hf _ _ _ Xa0.out Na0g0.out)
  have Xb0 := Lib.hid (hf _ _ _ Xb0.out Nb0g0.out)
  have Xc0 := Lib.hid (hf _ _ _ Xc0.out Nc0g0.out)
  have Xd0 := Lib.hid (hf _ _ _ Xd0.out Nd0g0.out)
  have Xe0 := Lib.hid (hf _ _ _ Xe0.out Ne0g0.out)
  have Xf0 := Lib.hid (hf _ _ _ Xf0.out Nf0g0.out)
  have Xg0 := Lib.hid xg0
  have HB := Lib.hid (hbb _ HB.out Gg0.out)
  have HS := Lib.hid (show SE (W10.drew) [] W16 from by rw [hW]; exact HS.out.store3 (.inr Eg0.out))
  clear hW hk hf hbb xg0
  clear hz
  refine wpAnyH_done (by kernel_rfl) ?_ _
  clear HG HS Hok Eg0
  obtain ⟨ca00, ca01, fa00, fa01⟩ := Xa0.out.c2
  have la0 := Xa0.out.lt
  obtain ⟨cb00, cb01, fb00, fb01⟩ := Xb0.out.c2
  have lb0 := Xb0.out.lt
  obtain ⟨cc00, cc01, cc02, fc00, fc01, fc02⟩ := Xc0.out.c3
  have lc0 := Xc0.out.lt
  obtain ⟨cd00, cd01, cd02, fd00, fd01, fd02⟩ := Xd0.out.c3
  have ld0 := Xd0.out.lt
  obtain ⟨ce00, ce01, ce02, fe00, fe01, fe02⟩ := Xe0.out.c3
  have le0 := Xe0.out.lt
  obtain ⟨cf00, cf01, cf02, ff00, ff01, ff02⟩ := Xf0.out.c3
  have lf0 := Xf0.out.lt
  obtain ⟨cg00, cg01, cg02, fg00, fg01, fg02⟩ := Xg0.out.c3
  have lg0 := Xg0.out.lt
  go_wp2_with fail
  clear ca00 ca01 fa00 fa01 la0 cb00 cb01 fb00 fb01 lb0 cc00 cc01 cc02 fc00 fc01 fc02 lc0 cd00 cd01 cd02 fd00 fd01 fd02 ld0 ce00 ce01 ce02 fe00 fe01 fe02 le0 cf00 cf01 cf02 ff00 ff01 ff02 lf0 cg00 cg01 cg02 fg00 fg01 fg02 lg0
  have Hx1 := Lib.hid (CR.keep Hx1.out (Keep.drew W16))
  have Hx2 := Lib.hid (CR.keep Hx2.out (Keep.drew W16))
  have Hx5 := Lib.hid (CR.keep Hx5.out (Keep.drew W16))
  have Xa0 := Lib.hid (Box.drew Xa0.out)
  have Xb0 := Lib.hid (Box.drew Xb0.out)
  have Xc0 := Lib.hid (Box.drew Xc0.out)
  have Xd0 := Lib.hid (Box.drew Xd0.out)
  have Xe0 := Lib.hid (Box.drew Xe0.out)
  have Xf0 := Lib.hid (Box.drew Xf0.out)
  have Xg0 := Lib.hid (Box.drew Xg0.out)
  have HB := Lib.hid (Below.drew HB.out)
  refine wp_region_float [] [] (by kernel_rfl) (by kernel_rfl) 82 (by kernel_rfl) Flok.nil ?_
  intro ok
  have Hok := Lib.hid ok
  clear ok
  have HG := Lib.hid (Below.refl (W16.drew).heap.size (W16.drew))
  refine good_pureX 0 (some 53) (Go.Op.move (Go.Operand.tmp 8)) (none) (.int .i64 0) (by kernel_rfl) (by kernel_rfl) (by kernel_rfl) (fun _ _ _ h => h) (fun w' hw' => ?_) ?_
  · first | (go_simp; done) | (go_simp; simp_all; done) | (go_simp; rfl)
  simp only [Act.put, List.setIfInBounds_toArray, List.set_cons_zero, List.set_cons_succ]
  refine good_pureX 1 (some 54) (Go.Op.move (Go.Operand.tmp 10)) (none) (.int .i64 0) (by kernel_rfl) (by kernel_rfl) (by kernel_rfl) (fun _ _ _ h => h) (fun w' hw' => ?_) ?_
  · first | (go_simp; done) | (go_simp; simp_all; done) | (go_simp; rfl)
  simp only [Act.put, List.setIfInBounds_toArray, List.set_cons_zero, List.set_cons_succ]
  refine good_pureX 2 (some 55) (Go.Op.binOp Go.BinOp.eql 39 (Go.Operand.tmp 53) (Go.Operand.tmp 54) 39) (none) (.bool true) (by kernel_rfl) (by kernel_rfl) (by kernel_rfl) (fun _ _ _ h => h) (fun w' hw' => ?_) ?_
  · first | (go_simp; done) | (go_simp; simp_all; done) | (go_simp; rfl)
  simp only [Act.put, List.setIfInBounds_toArray, List.set_cons_zero, List.set_cons_succ]
  refine good_pureX 3 (some 56) (Go.Op.move (Go.Operand.tmp 55)) (none) (.bool true) (by kernel_rfl) (by kernel_rfl) (by kernel_rfl) (fun _ _ _ h => h) (fun w' hw' => ?_) ?_
  · first | (go_simp; done) | (go_simp; simp_all; done) | (go_simp; rfl)
  simp only [Act.put, List.setIfInBounds_toArray, List.set_cons_zero, List.set_cons_succ]
  refine good_pureX 4 (some 57) (Go.Op.load 25 (Go.Operand.tmp 7)) (some (3, true)) (.agg #[.bool x1_b, .slice x1_a x1_n x1_c, .slice x1_d x1_m x1_e]) (by kernel_rfl) (by kernel_rfl) (by kernel_rfl) (fun _ _ _ h => h) (fun w' hw' => ?_) ?_
  · obtain ⟨cc00, cc01, cc02, fc00, fc01, fc02⟩ := (Box.se hw' Xc0.out notin0).c3
    first | (go_simp; done) | (go_simp; simp_all; done) | (go_simp; rfl)
  simp only [Act.put, List.setIfInBounds_toArray, List.set_cons_zero, List.set_cons_succ]
  refine good_pureX 5 (some 58) (Go.Op.load 25 (Go.Operand.tmp 9)) (some (3, true)) (.agg #[.bool x2_b, .slice x2_a x2_n x2_c, .slice x2_d x2_m x2_e]) (by kernel_rfl) (by kernel_rfl) (by kernel_rfl) (fun _ _ _ h => h) (fun w' hw' => ?_) ?_
  · obtain ⟨cd00, cd01, cd02, fd00, fd01, fd02⟩ := (Box.se hw' Xd0.out notin0).c3
    first | (go_simp; done) | (go_simp; simp_all; done) | (go_simp; rfl)
  simp only [Act.put, List.setIfInBounds_toArray, List.set_cons_zero, List.set_cons_succ]
  refine good_callX 6 15 (some 59) #[Go.Operand.tmp 57, Go.Operand.tmp 58] #[25, 25] (some (3, true)) #[.agg #[.bool x1_b, .slice x1_a x1_n x1_c, .slice x1_d x1_m x1_e], .agg #[.bool x2_b, .slice x2_a x2_n x2_c, .slice x2_d x2_m x2_e]] (by kernel_rfl) Hok.out (by kernel_rfl) (by kernel_rfl) (by kernel_rfl) (by kernel_rfl) rfl rfl rfl (by kernel_rfl) (fun w17 hb => ?_)
  have HG := Lib.hid (below_call HG.out hb)
  clear hb
  (first | (have hcall := zsame_cr (CR.keep Hx1.out (Keep.call HG.out)) (CR.keep Hx2.out (Keep.call HG.out)) (rfl); refine Calls.mono hcall ?_; clear hcall) | refine Calls.mono (zsame_cr (CR.keep Hx1.out (Keep.call HG.out)) (CR.keep Hx2.out (Keep.call HG.out)) (rfl)) ?_)
  rintro e w18 ⟨v18, rfl, rfl, hb⟩
  refine ⟨_, rfl, ?_, hb⟩
  have HG := Lib.hid (below_call HG.out hb)
  clear hb
  simp only [Act.put, List.setIfInBounds_toArray, List.set_cons_zero, List.set_cons_succ]
  refine good_pureX 7 (some 60) (Go.Op.pick (Go.Operand.tmp 56) (Go.Operand.tmp 59) (Go.Operand.const (Go.Value.bool false))) (none) (.bool true) (by kernel_rfl) (by kernel_rfl) (by kernel_rfl) (fun _ _ _ h => h) (fun w' hw' => ?_) ?_
  · first | (go_simp; done) | (go_simp; simp_all; done) | (go_simp; rfl)
  simp only [Act.put, List.setIfInBounds_toArray, List.set_cons_zero, List.set_cons_succ]
  refine good_pureX 8 (some 61) (Go.Op.move (Go.Operand.tmp 60)) (none) (.bool true) (by kernel_rfl) (by kernel_rfl) (by kernel_rfl) (fun _ _ _ h => h) (fun w' hw' => ?_) ?_
  · first | (go_simp; done) | (go_simp; simp_all; done) | (go_simp; rfl)
  simp only [Act.put, List.setIfInBounds_toArray, List.set_cons_zero, List.set_cons_succ]
  refine good_pureX 9 (some 62) (Go.Op.move (Go.Operand.tmp 12)) (some (8, true)) (.int .i64 0) (by kernel_rfl) (by kernel_rfl) (by kernel_rfl) (fun _ _ _ h => h) (fun w' hw' => ?_) ?_
  · first | (go_simp; done) | (go_simp; simp_all; done) | (go_simp; rfl)
  simp only [Act.put, List.setIfInBounds_toArray, List.set_cons_zero, List.set_cons_succ]
  refine good_pureX 10 (some 63) (Go.Op.binOp Go.BinOp.eql 39 (Go.Operand.tmp 62) (Go.Operand.const (Go.Value.int Go.IntKind.i64 0)) 39) (some (8, true)) (.bool true) (by kernel_rfl) (by kernel_rfl) (by kernel_rfl) (fun _ _ _ h => h) (fun w' hw' => ?_) ?_
  · first | (go_simp; done) | (go_simp; simp_all; done) | (go_simp; rfl)
  simp only [Act.put, List.setIfInBounds_toArray, List.set_cons_zero, List.set_cons_succ]
  refine good_pureX 11 (some 64) (Go.Op.pick (Go.Operand.tmp 61) (Go.Operand.tmp 63) (Go.Operand.const (Go.Value.bool false))) (none) (.bool true) (by kernel_rfl) (by kernel_rfl) (by kernel_rfl) (fun _ _ _ h => h) (fun w' hw' => ?_) ?_
  · first | (go_simp; done) | (go_simp; simp_all; done) | (go_simp; rfl)
  simp only [Act.put, List.setIfInBounds_toArray, List.set_cons_zero, List.set_cons_succ]
  refine good_pureX 12 (some 65) (Go.Op.move (Go.Operand.tmp 64)) (none) (.bool true) (by kernel_rfl) (by kernel_rfl) (by kernel_rfl) (fun _ _ _ h => h) (fun w' hw' => ?_) ?_
  · first | (go_simp; done) | (go_simp; simp_all; done) | (go_simp; rfl)
  simp only [Act.put, List.setIfInBounds_toArray, List.set_cons_zero, List.set_cons_succ]
  refine good_pureX 13 (some 66) (Go.Op.move (Go.Operand.tmp 14)) (some (12, true)) (.int .i64 3) (by kernel_rfl) (by kernel_rfl) (by kernel_rfl) (fun _ _ _ h => h) (fun w' hw' => ?_) ?_
  · first | (go_simp; done) | (go_simp; simp_all; done) | (go_simp; rfl)
  simp only [Act.put, List.setIfInBounds_toArray, List.set_cons_zero, List.set_cons_succ]
  refine good_pureX 14 (some 67) (Go.Op.binOp Go.BinOp.eql 39 (Go.Operand.tmp 66) (Go.Operand.const (Go.Value.int Go.IntKind.i64 3)) 39) (some (12, true)) (.bool true) (by kernel_rfl) (by kernel_rfl) (by kernel_rfl) (fun _ _ _ h => h) (fun w' hw' => ?_) ?_
  · first | (go_simp; done) | (go_simp; simp_all; done) | (go_simp; rfl)
  simp only [Act.put, List.setIfInBounds_toArray, List.set_cons_zero, List.set_cons_succ]
  refine good_pureX 15 (some 68) (Go.Op.pick (Go.Operand.tmp 65) (Go.Operand.tmp 67) (Go.Operand.const (Go.Value.bool false))) (none) (.bool true) (by kernel_rfl) (by kernel_rfl) (by kernel_rfl) (fun _ _ _ h => h) (fun w' hw' => ?_) ?_
  · first | (go_simp; done) | (go_simp; simp_all; done) | (go_simp; rfl)
  simp only [Act.put, List.setIfInBounds_toArray, List.set_cons_zero, List.set_cons_succ]
  refine good_pureX 16 (some 69) (Go.Op.move (Go.Operand.tmp 68)) (none) (.bool true) (by kernel_rfl) (by kernel_rfl) (by kernel_rfl) (fun _ _ _ h => h) (fun w' hw' => ?_) ?_
  · first | (go_simp; done) | (go_simp; simp_all; done) | (go_simp; rfl)
  simp only [Act.put, List.setIfInBounds_toArray, List.set_cons_zero, List.set_cons_succ]
  refine good_pureX 17 (some 70) (Go.Op.move (Go.Operand.tmp 2)) (some (16, true)) (.int .i64 i) (by kernel_rfl) (by kernel_rfl) (by kernel_rfl) (fun _ _ _ h => h) (fun w' hw' => ?_) ?_
  · first | (go_simp; done) | (go_simp; simp_all; done) | (go_simp; rfl)
  simp only [Act.put, List.setIfInBounds_toArray, List.set_cons_zero, List.set_cons_succ]
  refine good_pureX 19 (some 72) (Go.Op.move (Go.Operand.tmp 2)) (some (16, true)) (.int .i64 i) (by kernel_rfl) (by kernel_rfl) (by kernel_rfl) (fun _ _ _ h => h) (fun w' hw' => ?_) ?_
  · first | (go_simp; done) | (go_simp; simp_all; done) | (go_simp; rfl)
  simp only [Act.put, List.setIfInBounds_toArray, List.set_cons_zero, List.set_cons_succ]
  refine good_callX 18 40 (some 71) #[Go.Operand.tmp 70] #[3] (some (16, true)) #[.int .i64 i] (by kernel_rfl) Hok.out (by kernel_rfl) (by kernel_rfl) (by kernel_rfl) (by kernel_rfl) rfl rfl rfl (by kernel_rfl) (fun w19 hb => ?_)
  have HG := Lib.hid (below_call HG.out hb)
  clear hb
  refine Calls.mono (of_rat H1.out H2.out) ?_
  rintro e w20 ⟨v20, rfl, hx6, hb⟩
  obtain ⟨x6_b, x6_a, x6_n, x6_c, x6_d, x6_m, x6_e, rfl⟩ := hx6.litb
  refine ⟨_, rfl, ?_, hb⟩
  have HG := Lib.hid (below_call HG.out hb)
  have Hx6 := Lib.hid hx6
  clear hb hx6
  simp only [Act.put, List.setIfInBounds_toArray, List.set_cons_zero, List.set_cons_succ]
  refine good_callX 20 24 (some 73) #[Go.Operand.tmp 72] #[3] (some (16, true)) #[.int .i64 i] (by kernel_rfl) Hok.out (by kernel_rfl) (by kernel_rfl) (by kernel_rfl) (by kernel_rfl) rfl rfl rfl (by kernel_rfl) (fun w21 hb => ?_)
  have Hx6 := Lib.hid (CR.keep Hx6.out (Keep.call hb))
  have HG := Lib.hid (below_call HG.out hb)
  clear hb
  refine Calls.mono (zof H1.out H2.out) ?_
  rintro e w22 ⟨v22, rfl, hx7, hb⟩
  obtain ⟨x7_b, x7_a, x7_n, x7_c, x7_d, x7_m, x7_e, rfl⟩ := hx7.litb
  refine ⟨_, rfl, ?_, hb⟩
  have Hx6 := Lib.hid (CR.keep Hx6.out (Keep.call hb))
  have HG := Lib.hid (below_call HG.out hb)
  have Hx7 := Lib.hid hx7
  clear hb hx7
  simp only [Act.put, List.setIfInBounds_toArray, List.set_cons_zero, List.set_cons_succ]
  refine good_callX 21 15 (some 74) #[Go.Operand.tmp 71, Go.Operand.tmp 73] #[25, 25] (some (16, true)) #[.agg #[.bool x6_b, .slice x6_a x6_n x6_c, .slice x6_d x6_m x6_e], .agg #[.bool x7_b, .slice x7_a x7_n x7_c, .slice x7_d x7_m x7_e]] (by kernel_rfl) Hok.out (by kernel_rfl) (by kernel_rfl) (by kernel_rfl) (by kernel_rfl) rfl rfl rfl (by kernel_rfl) (fun w23 hb => ?_)
  have Hx6 := Lib.hid (CR.keep Hx6.out (Keep.call hb))
  have Hx7 := Lib.hid (CR.keep Hx7.out (Keep.call hb))
  have HG := Lib.hid (below_call HG.out hb)
  clear hb
  (first | (have hcall := zsame_cr Hx6.out Hx7.out (rfl); refine Calls.mono hcall ?_; clear hcall) | refine Calls.mono (zsame_cr Hx6.out Hx7.out (rfl)) ?_)
  rintro e w24 ⟨v24, rfl, rfl, hb⟩
  refine ⟨_, rfl, ?_, hb⟩
  have HG := Lib.hid (below_call HG.out hb)
  clear hb
  simp only [Act.put, List.setIfInBounds_toArray, List.set_cons_zero, List.set_cons_succ]
  refine good_pureX 22 (some 75) (Go.Op.pick (Go.Operand.tmp 69) (Go.Operand.tmp 74) (Go.Operand.const (Go.Value.bool false))) (none) (.bool true) (by kernel_rfl) (by kernel_rfl) (by kernel_rfl) (fun _ _ _ h => h) (fun w' hw' => ?_) ?_
  · first | (go_simp; done) | (go_simp; simp_all; done) | (go_simp; rfl)
  simp only [Act.put, List.setIfInBounds_toArray, List.set_cons_zero, List.set_cons_succ]
  refine good_pureX 23 (some 76) (Go.Op.move (Go.Operand.tmp 75)) (none) (.bool true) (by kernel_rfl) (by kernel_rfl) (by kernel_rfl) (fun _ _ _ h => h) (fun w' hw' => ?_) ?_
  · first | (go_simp; done) | (go_simp; simp_all; done) | (go_simp; rfl)
  simp only [Act.put, List.setIfInBounds_toArray, List.set_cons_zero, List.set_cons_succ]
  refine good_pureX 24 (some 77) (Go.Op.load 25 (Go.Operand.tmp 15)) (some (23, true)) (.agg #[.bool x5_b, .slice x5_a x5_n x5_c, .slice x5_d x5_m x5_e]) (by kernel_rfl) (by kernel_rfl) (by kernel_rfl) (fun _ _ _ h => h) (fun w' hw' => ?_) ?_
  · obtain ⟨cg00, cg01, cg02, fg00, fg01, fg02⟩ := (Box.se hw' Xg0.out notin0).c3
    first | (go_simp; done) | (go_simp; simp_all; done) | (go_simp; rfl)
  simp only [Act.put, List.setIfInBounds_toArray, List.set_cons_zero, List.set_cons_succ]
  refine good_pureX 25 (some 78) (Go.Op.move (Go.Operand.tmp 2)) (some (23, true)) (.int .i64 i) (by kernel_rfl) (by kernel_rfl) (by kernel_rfl) (fun _ _ _ h => h) (fun w' hw' => ?_) ?_
  · first | (go_simp; done) | (go_simp; simp_all; done) | (go_simp; rfl)
  simp only [Act.put, List.setIfInBounds_toArray, List.set_cons_zero, List.set_cons_succ]
  refine good_callX 26 24 (some 79) #[Go.Operand.tmp 78] #[3] (some (23, true)) #[.int .i64 i] (by kernel_rfl) Hok.out (by kernel_rfl) (by kernel_rfl) (by kernel_rfl) (by kernel_rfl) rfl rfl rfl (by kernel_rfl) (fun w25 hb => ?_)
  have HG := Lib.hid (below_call HG.out hb)
  clear hb
  refine Calls.mono (zof H1.out H2.out) ?_
  rintro e w26 ⟨v26, rfl, hx8, hb⟩
  obtain ⟨x8_b, x8_a, x8_n, x8_c, x8_d, x8_m, x8_e, rfl⟩ := hx8.litb
  refine ⟨_, rfl, ?_, hb⟩
  have HG := Lib.hid (below_call HG.out hb)
  have Hx8 := Lib.hid hx8
  clear hb hx8
  simp only [Act.put, List.setIfInBounds_toArray, List.set_cons_zero, List.set_cons_succ]
  refine good_callX 27 15 (some 80) #[Go.Operand.tmp 77, Go.Operand.tmp 79] #[25, 25] (some (23, true)) #[.agg #[.bool x5_b, .slice x5_a x5_n x5_c, .slice x5_d x5_m x5_e], .agg #[.bool x8_b, .slice x8_a x8_n x8_c, .slice x8_d x8_m x8_e]] (by kernel_rfl) Hok.out (by kernel_rfl) (by kernel_rfl) (by kernel_rfl) (by kernel_rfl) rfl rfl rfl (by kernel_rfl) (fun w27 hb => ?_)
  have Hx8 := Lib.hid (CR.keep Hx8.out (Keep.call hb))
  have HG := Lib.hid (below_call HG.out hb)
  clear hb
  refine Calls.mono (zsame_cr (CR.keep Hx5.out (Keep.call HG.out)) Hx8.out (q_six _)) ?_
  rintro e w28 ⟨v28, rfl, rfl, hb⟩
  refine ⟨_, rfl, ?_, hb⟩
  have HG := Lib.hid (below_call HG.out hb)
  clear hb
  simp only [Act.put, List.setIfInBounds_toArray, List.set_cons_zero, List.set_cons_succ]
  refine good_pureX 28 (some 81) (Go.Op.pick (Go.Operand.tmp 76) (Go.Operand.tmp 80) (Go.Operand.const (Go.Value.bool false))) (none) (.bool true) (by kernel_rfl) (by kernel_rfl) (by kernel_rfl) (fun _ _ _ h => h) (fun w' hw' => ?_) ?_
  · first | (go_simp; done) | (go_simp; simp_all; done) | (go_simp; rfl)
  simp only [Act.put, List.setIfInBounds_toArray, List.set_cons_zero, List.set_cons_succ]
  refine good_pureX 29 (some 6) (Go.Op.assign (Go.Operand.tmp 81)) (none) (.bool true) (by kernel_rfl) (by kernel_rfl) (by kernel_rfl) (fun _ _ _ h => h) (fun w' hw' => ?_) ?_
  · first | (go_simp; done) | (go_simp; simp_all; done) | (go_simp; rfl)
  simp only [Act.put, List.setIfInBounds_toArray, List.set_cons_zero, List.set_cons_succ]
  refine good_end0 0 (by kernel_rfl) (fun _ w29 hb => ?_)
  have HG := Lib.hid (below_call HG.out hb)
  clear hb
  have Xa0 := Lib.hid (Box.pcall HG.out Xa0.out)
  have Xb0 := Lib.hid (Box.pcall HG.out Xb0.out)
  have Xc0 := Lib.hid (Box.pcall HG.out Xc0.out)
  have Xd0 := Lib.hid (Box.pcall HG.out Xd0.out)
  have Xe0 := Lib.hid (Box.pcall HG.out Xe0.out)
  have Xf0 := Lib.hid (Box.pcall HG.out Xf0.out)
  have Xg0 := Lib.hid (Box.pcall HG.out Xg0.out)
  have HB := Lib.hid (below_call HB.out HG.out)
  have HS := Lib.hid (SE.of (E := []) HG.out)
  refine wpAnyH_done (by kernel_rfl) ?_ _
  clear HG HS Hok 
  obtain ⟨ca00, ca01, fa00, fa01⟩ := Xa0.out.c2
  have la0 := Xa0.out.lt
  obtain ⟨cb00, cb01, fb00, fb01⟩ := Xb0.out.c2
  have lb0 := Xb0.out.lt
  obtain ⟨cc00, cc01, cc02, fc00, fc01, fc02⟩ := Xc0.out.c3
  have lc0 := Xc0.out.lt
  obtain ⟨cd00, cd01, cd02, fd00, fd01, fd02⟩ := Xd0.out.c3
  have ld0 := Xd0.out.lt
  obtain ⟨ce00, ce01, ce02, fe00, fe01, fe02⟩ := Xe0.out.c3
  have le0 := Xe0.out.lt
  obtain ⟨cf00, cf01, cf02, ff00, ff01, ff02⟩ := Xf0.out.c3
  have lf0 := Xf0.out.lt
  obtain ⟨cg00, cg01, cg02, fg00, fg01, fg02⟩ := Xg0.out.c3
  have lg0 := Xg0.out.lt
  go_wp2
  clear ca00 ca01 fa00 fa01 la0 cb00 cb01 fb00 fb01 lb0 cc00 cc01 cc02 fc00 fc01 fc02 lc0 cd00 cd01 cd02 fd00 fd01 fd02 ld0 ce00 ce01 ce02 fe00 fe01 fe02 le0 cf00 cf01 cf02 ff00 ff01 ff02 lf0 cg00 cg01 cg02 fg00 fg01 fg02 lg0
  go_ret
  exact ⟨_, rfl, rfl, HB.out⟩


theorem sgn_bd' (z : Int) : -1 ≤ z.sign ∧ z.sign ≤ 1 := by
  rcases Int.lt_trichotomy z 0 with h | h | h
  · rw [Int.sign_eq_neg_one_of_neg h]; omega
  · rw [h]; simp
  · rw [Int.sign_eq_one_of_pos h]; omega

theorem RationalNeg_all (ba : Bool) (sa : Option Addr) (na ca : Nat) (ta : Option Addr) (ma ea : Nat) (w : World) (ra : Row w (.slice sa na ca) na) (ua : Row w (.slice ta ma ea) ma) : Calls Try.prog 7 #[.agg #[.bool ba, .slice sa na ca, .slice ta ma ea]] w (Ret w (Val (.bool true))) := by
  by_cases la : 3 < na ∨ 3 < ma
  · exact lrneg_no0 la
  obtain ⟨qa, ha⟩ := ra.ar (b := ba) ua 3 (by omega) (by omega) (by decide)
  exact lrneg_yes _ rfl (sgn_bd' _).1 (sgn_bd' _).2 ha (by omega) (by omega)

theorem RationalFloor_all (ba : Bool) (sa : Option Addr) (na ca : Nat) (ta : Option Addr) (ma ea : Nat) (w : World) (ra : Row w (.slice sa na ca) na) (ua : Row w (.slice ta ma ea) ma) : Calls Try.prog 4 #[.agg #[.bool ba, .slice sa na ca, .slice ta ma ea]] w (Ret w (Val (.bool true))) := by
  by_cases la : 3 < na ∨ 3 < ma
  · exact lrflo_no0 la
  obtain ⟨qa, ha⟩ := ra.ar (b := ba) ua 3 (by omega) (by omega) (by decide)
  exact lrflo_yes _ _ rfl (cmpQ_flo _) rfl (cmpQ_fhi _) ha (by omega) (by omega)

theorem RationalMake_all (ba : Bool) (sa : Option Addr) (na ca : Nat) (bb : Bool) (sb : Option Addr) (nb cb : Nat) (i : Int) (w : World) (ra : Row w (.slice sa na ca) na) (rb : Row w (.slice sb nb cb) nb) (hi : (Lit.int .i64 i).wf = true) :
    Calls Try.prog 9 #[.agg #[.bool ba, .slice sa na ca], .agg #[.bool bb, .slice sb nb cb], .int .i64 i] w (Ret w (Val (.bool true))) := by
  by_cases la : 3 < na
  · exact lrmak_no0 (by simp; omega)
  by_cases lb : 3 < nb
  · exact lrmak_no1 (by simp; omega) (by simp; omega)
  obtain ⟨y, hy⟩ := ra.aiR (b := ba) 3 (by omega) (by decide)
  obtain ⟨z, hz⟩ := rb.aiR (b := bb) 3 (by omega) (by decide)
  have hw := wf_i64 hi
  by_cases h0 : z = 0
  · exact lrmak_z h0 hw.1 hw.2 hy hz (by simp; omega) (by simp; omega)
  · exact lrmak_y h0 hw.1 hw.2 hy hz (by simp; omega) (by simp; omega)

end Go.Proofs.Ytfkjhaniglmejaa
