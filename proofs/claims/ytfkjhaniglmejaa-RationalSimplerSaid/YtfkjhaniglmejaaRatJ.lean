/- Layer 3: frac, few and awake of relucertlaw03. Printed by ratd.py. -/
import Derived.Test.YtfkjhaniglmejaaRatI
namespace Go.Proofs.Ytfkjhaniglmejaa
open Go.RowKit Nt
set_option linter.unusedVariables false

set_option maxRecDepth 100000 in
set_option maxHeartbeats 4000000 in
theorem frac_ok {x y : Int}  {w : World} (h1 : -9223372036854775808 ≤ x) (h2 : x < 9223372036854775808) (h3 : -9223372036854775808 ≤ y) (h4 : y < 9223372036854775808) (hz : y ≠ 0) :
    Calls Try.prog 27 #[.int .i64 x, .int .i64 y] w (Ret w (CR ((x : Rat) / (y : Rat)) 2)) := by
  have Hz := Lib.hid hz
  clear hz
  go_enter Try.func27, Try.ntmps27
  have HB := Lib.hid (Below.refl w.heap.size w)
  go_wp2_with fail
  obtain ⟨W1, hW⟩ : ∃ W1, W1 = (World.alloc w (.cells #[.bool false, .slice none 0 0, .slice none 0 0] 25)) := ⟨_, rfl⟩
  rw [← hW]
  obtain ⟨xa0, hk, hb⟩ := boxes_1 _ _ _ hW
  clear hW
  have Ga0 := Lib.hid (show w.heap.size ≤ w.heap.size from Nat.le_trans HB.out.size (by omega))
  have Xa0 := Lib.hid xa0
  have HB := Lib.hid (below_call HB.out hb)
  clear hk hb xa0
  (first | (have hcall := zfrac_1 h1 h2 h3 h4 Hz.out; refine Calls.mono hcall ?_; clear hcall) | refine Calls.mono (zfrac_1 h1 h2 h3 h4 Hz.out) ?_)
  rintro e w2 ⟨t2, rfl, ⟨v2, rfl, hz⟩, hb⟩
  obtain ⟨z_b, z_a, z_n, z_c, z_d, z_m, z_e, rfl⟩ := hz.litb
  have Xa0 := Lib.hid (Box.pcall hb Xa0.out)
  have HB := Lib.hid (below_call HB.out hb)
  have Hz := Lib.hid hz
  clear hb hz
  obtain ⟨ca00, ca01, ca02, fa00, fa01, fa02⟩ := Xa0.out.c3
  have la0 := Xa0.out.lt
  go_wp2
  clear ca00 ca01 ca02 fa00 fa01 fa02 la0
  obtain ⟨W3, hW⟩ : ∃ W3, W3 = (World.setCell (World.setCell (World.setCell w2 ⟨w.heap.size, 0, none⟩ (.bool z_b)) ⟨w.heap.size, 1, none⟩ (.slice z_a z_n z_c)) ⟨w.heap.size, 2, none⟩ (.slice z_d z_m z_e)) := ⟨_, rfl⟩
  rw [← hW]
  obtain ⟨xa0, hk, hf, hbb, hz⟩ := stored3s hW Xa0.out (by first | exact NoInt.bool _ | exact NoInt.slice _ _ _) (by first | exact NoInt.bool _ | exact NoInt.slice _ _ _) (by first | exact NoInt.bool _ | exact NoInt.slice _ _ _)
  have Hz := Lib.hid (CR.keep Hz.out hk)
  have Xa0 := Lib.hid xa0
  have HB := Lib.hid (hbb _ HB.out Ga0.out)
  clear hW hk hf hbb xa0
  have hz3 := hz
  clear hz
  obtain ⟨W4, hW⟩ : ∃ W4, W4 = (World.alloc W3 (.cells #[.bool z_b, .slice z_a z_n z_c, .slice z_d z_m z_e] 25)) := ⟨_, rfl⟩
  rw [← hW]
  obtain ⟨xb0, hk, hb⟩ := boxes_1 _ _ _ hW
  clear hW
  rw [hz3] at xb0
  have Hz := Lib.hid (CR.keep Hz.out hk)
  have Na0b0 := Lib.hid (show w.heap.size ≠ w2.heap.size from Nat.ne_of_lt (Nat.lt_of_lt_of_le Xa0.out.lt (by omega)))
  have Gb0 := Lib.hid (show w.heap.size ≤ w2.heap.size from Nat.le_trans HB.out.size (by omega))
  clear hz3
  have Xa0 := Lib.hid (Box.pcall hb Xa0.out)
  have Xb0 := Lib.hid xb0
  have HB := Lib.hid (below_call HB.out hb)
  clear hk hb xb0
  exact ret_rat1 rfl rfl rfl Xa0.out Hz.out HB.out


set_option maxRecDepth 100000 in
set_option maxHeartbeats 4000000 in
theorem few3_t {b : Bool} {s t : Option Addr} {n c m e : Nat}  {w : World} (hn : decide ((n : Int) ≤ 3) = true) (hm : decide ((m : Int) ≤ 3) = true) :
    Calls Try.prog 13 #[.agg #[.bool b, .slice s n c, .slice t m e]] w (Ret w (Val (.bool true))) := by
  go_enter Try.func13, Try.ntmps13
  have HB := Lib.hid (Below.refl w.heap.size w)
  go_wp2
  obtain ⟨W1, hW⟩ : ∃ W1, W1 = (World.alloc w (.cells #[.bool b, .slice s n c, .slice t m e] 25)) := ⟨_, rfl⟩
  rw [← hW]
  obtain ⟨xa0, hk, hb⟩ := boxes_1 _ _ _ hW
  clear hW
  have Ga0 := Lib.hid (show w.heap.size ≤ w.heap.size from Nat.le_trans HB.out.size (by omega))
  have Xa0 := Lib.hid xa0
  have HB := Lib.hid (below_call HB.out hb)
  clear hk hb xa0
  go_ret
  exact ⟨_, rfl, rfl, HB.out⟩


set_option maxRecDepth 100000 in
set_option maxHeartbeats 4000000 in
theorem few3_f1 {b : Bool} {s t : Option Addr} {n c m e : Nat}  {w : World} (hn : decide ((n : Int) ≤ 3) = false) :
    Calls Try.prog 13 #[.agg #[.bool b, .slice s n c, .slice t m e]] w (Ret w (Val (.bool false))) := by
  go_enter Try.func13, Try.ntmps13
  have HB := Lib.hid (Below.refl w.heap.size w)
  go_wp2
  obtain ⟨W1, hW⟩ : ∃ W1, W1 = (World.alloc w (.cells #[.bool b, .slice s n c, .slice t m e] 25)) := ⟨_, rfl⟩
  rw [← hW]
  obtain ⟨xa0, hk, hb⟩ := boxes_1 _ _ _ hW
  clear hW
  have Ga0 := Lib.hid (show w.heap.size ≤ w.heap.size from Nat.le_trans HB.out.size (by omega))
  have Xa0 := Lib.hid xa0
  have HB := Lib.hid (below_call HB.out hb)
  clear hk hb xa0
  go_ret
  exact ⟨_, rfl, rfl, HB.out⟩


set_option maxRecDepth 100000 in
set_option maxHeartbeats 4000000 in
theorem few3_f2 {b : Bool} {s t : Option Addr} {n c m e : Nat}  {w : World} (hn : decide ((n : Int) ≤ 3) = true) (hm : decide ((m : Int) ≤ 3) = false) :
    Calls Try.prog 13 #[.agg #[.bool b, .slice s n c, .slice t m e]] w (Ret w (Val (.bool false))) := by
  go_enter Try.func13, Try.ntmps13
  have HB := Lib.hid (Below.refl w.heap.size w)
  go_wp2
  obtain ⟨W1, hW⟩ : ∃ W1, W1 = (World.alloc w (.cells #[.bool b, .slice s n c, .slice t m e] 25)) := ⟨_, rfl⟩
  rw [← hW]
  obtain ⟨xa0, hk, hb⟩ := boxes_1 _ _ _ hW
  clear hW
  have Ga0 := Lib.hid (show w.heap.size ≤ w.heap.size from Nat.le_trans HB.out.size (by omega))
  have Xa0 := Lib.hid xa0
  have HB := Lib.hid (below_call HB.out hb)
  clear hk hb xa0
  go_ret
  exact ⟨_, rfl, rfl, HB.out⟩


theorem few3_yes {b : Bool} {s t : Option Addr} {n c m e : Nat} {w : World} (h : n ≤ 3) (h' : m ≤ 3) : Calls Try.prog 13 #[.agg #[.bool b, .slice s n c, .slice t m e]] w (Ret w (Val (.bool true))) := few3_t (by simp; omega) (by simp; omega)
theorem few3_no {b : Bool} {s t : Option Addr} {n c m e : Nat} {w : World} (h : 3 < n ∨ 3 < m) : Calls Try.prog 13 #[.agg #[.bool b, .slice s n c, .slice t m e]] w (Ret w (Val (.bool false))) := by
  by_cases h1 : 3 < n
  · exact few3_f1 (by simp; omega)
  · exact few3_f2 (by simp; omega) (by simp; omega)

set_option maxRecDepth 100000 in
set_option maxHeartbeats 4000000 in
theorem awake3  {w : World}  :
    Calls Try.prog 12 #[] w (Ret w (Val (.bool true))) := by
  go_enter Try.func12, Try.ntmps12
  have HB := Lib.hid (Below.refl w.heap.size w)
  go_wp2_with fail
  refine Calls.mono (frac_ok (x := 3) (y := 10) (by decide) (by decide) (by decide) (by decide) (by decide)) ?_
  rintro e w1 ⟨v1, rfl, hp1, hb⟩
  obtain ⟨p1_b, p1_a, p1_n, p1_c, p1_d, p1_m, p1_e, rfl⟩ := hp1.litb
  have HB := Lib.hid (below_call HB.out hb)
  have Hp1 := Lib.hid hp1
  clear hb hp1
  go_wp2_with fail
  refine Calls.mono (frac_ok (x := 2) (y := 5) (by decide) (by decide) (by decide) (by decide) (by decide)) ?_
  rintro e w2 ⟨v2, rfl, hp2, hb⟩
  obtain ⟨p2_b, p2_a, p2_n, p2_c, p2_d, p2_m, p2_e, rfl⟩ := hp2.litb
  have Hp1 := Lib.hid (CR.keep Hp1.out (Keep.call hb))
  have HB := Lib.hid (below_call HB.out hb)
  have Hp2 := Lib.hid hp2
  clear hb hp2
  go_wp2_with fail
  (first | (have hcall := sim_ar Hp1.out.ar Hp2.out.ar (by decide +kernel) (by decide) (by decide); refine Calls.mono hcall ?_; clear hcall) | refine Calls.mono (sim_ar Hp1.out.ar Hp2.out.ar (by decide +kernel) (by decide) (by decide)) ?_)
  rintro e w3 ⟨t3, rfl, ⟨v3, rfl, hs1⟩, hb⟩
  obtain ⟨s1_b, s1_a, s1_n, s1_c, s1_d, s1_m, s1_e, rfl⟩ := hs1.litb
  have HB := Lib.hid (below_call HB.out hb)
  have Hs1 := Lib.hid hs1
  clear hb hs1
  go_wp2_with fail
  obtain ⟨W4, hW⟩ : ∃ W4, W4 = (World.alloc w3 (.cells #[.bool s1_b, .slice s1_a s1_n s1_c, .slice s1_d s1_m s1_e] 25)) := ⟨_, rfl⟩
  rw [← hW]
  obtain ⟨xa0, hk, hb⟩ := boxes_1 _ _ _ hW
  clear hW
  have Hs1 := Lib.hid (CR.keep Hs1.out hk)
  have Ga0 := Lib.hid (show w.heap.size ≤ w3.heap.size from Nat.le_trans HB.out.size (by omega))
  have Xa0 := Lib.hid xa0
  have HB := Lib.hid (below_call HB.out hb)
  clear hk hb xa0
  refine Calls.mono (frac_ok (x := 13) (y := 5) (by decide) (by decide) (by decide) (by decide) (by decide)) ?_
  rintro e w5 ⟨v5, rfl, hp3, hb⟩
  obtain ⟨p3_b, p3_a, p3_n, p3_c, p3_d, p3_m, p3_e, rfl⟩ := hp3.litb
  have Hs1 := Lib.hid (CR.keep Hs1.out (Keep.call hb))
  have Xa0 := Lib.hid (Box.pcall hb Xa0.out)
  have HB := Lib.hid (below_call HB.out hb)
  have Hp3 := Lib.hid hp3
  clear hb hp3
  obtain ⟨ca00, ca01, ca02, fa00, fa01, fa02⟩ := Xa0.out.c3
  have la0 := Xa0.out.lt
  go_wp2_with fail
  clear ca00 ca01 ca02 fa00 fa01 fa02 la0
  refine Calls.mono (frac_ok (x := 31) (y := 10) (by decide) (by decide) (by decide) (by decide) (by decide)) ?_
  rintro e w6 ⟨v6, rfl, hp4, hb⟩
  obtain ⟨p4_b, p4_a, p4_n, p4_c, p4_d, p4_m, p4_e, rfl⟩ := hp4.litb
  have Hs1 := Lib.hid (CR.keep Hs1.out (Keep.call hb))
  have Hp3 := Lib.hid (CR.keep Hp3.out (Keep.call hb))
  have Xa0 := Lib.hid (Box.pcall hb Xa0.out)
  have HB := Lib.hid (below_call HB.out hb)
  have Hp4 := Lib.hid hp4
  clear hb hp4
  obtain ⟨ca00, ca01, ca02, fa00, fa01, fa02⟩ := Xa0.out.c3
  have la0 := Xa0.out.lt
  go_wp2_with fail
  clear ca00 ca01 ca02 fa00 fa01 fa02 la0
  (first | (have hcall := sim_ar Hp3.out.ar Hp4.out.ar (by decide +kernel) (by decide) (by decide); refine Calls.mono hcall ?_; clear hcall) | refine Calls.mono (sim_ar Hp3.out.ar Hp4.out.ar (by decide +kernel) (by decide) (by decide)) ?_)
  rintro e w7 ⟨t7, rfl, ⟨v7, rfl, hs2⟩, hb⟩
  obtain ⟨s2_b, s2_a, s2_n, s2_c, s2_d, s2_m, s2_e, rfl⟩ := hs2.litb
  have Hs1 := Lib.hid (CR.keep Hs1.out (Keep.call hb))
  have Xa0 := Lib.hid (Box.pcall hb Xa0.out)
  have HB := Lib.hid (below_call HB.out hb)
  have Hs2 := Lib.hid hs2
  clear hb hs2
  obtain ⟨ca00, ca01, ca02, fa00, fa01, fa02⟩ := Xa0.out.c3
  have la0 := Xa0.out.lt
  go_wp2_with fail
  clear ca00 ca01 ca02 fa00 fa01 fa02 la0
  obtain ⟨W8, hW⟩ : ∃ W8, W8 = (World.alloc w7 (.cells #[.bool s2_b, .slice s2_a s2_n s2_c, .slice s2_d s2_m s2_e] 25)) := ⟨_, rfl⟩
  rw [← hW]
  obtain ⟨xb0, hk, hb⟩ := boxes_1 _ _ _ hW
  clear hW
  have Hs1 := Lib.hid (CR.keep Hs1.out hk)
  have Hs2 := Lib.hid (CR.keep Hs2.out hk)
  have Na0b0 := Lib.hid (show w3.heap.size ≠ w7.heap.size from Nat.ne_of_lt (Nat.lt_of_lt_of_le Xa0.out.lt (by omega)))
  have Gb0 := Lib.hid (show w.heap.size ≤ w7.heap.size from Nat.le_trans HB.out.size (by omega))
  have Xa0 := Lib.hid (Box.pcall hb Xa0.out)
  have Xb0 := Lib.hid xb0
  have HB := Lib.hid (below_call HB.out hb)
  clear hk hb xb0
  have Hs1 := Lib.hid (CR.keep Hs1.out (Keep.drew W8))
  have Hs2 := Lib.hid (CR.keep Hs2.out (Keep.drew W8))
  have Xa0 := Lib.hid (Box.drew Xa0.out)
  have Xb0 := Lib.hid (Box.drew Xb0.out)
  have HB := Lib.hid (Below.drew HB.out)
  refine wp_region_float [] [] (by kernel_rfl) (by kernel_rfl) 52 (by kernel_rfl) Flok.nil ?_
  intro ok
  have Hok := Lib.hid ok
  clear ok
  have HG := Lib.hid (Below.refl (W8.drew).heap.size (W8.drew))
  refine good_pureX 0 (some 17) (Go.Op.move (Go.Operand.tmp 2)) (none) (.int .i64 0) (by kernel_rfl) (by kernel_rfl) (by kernel_rfl) (fun _ _ _ h => h) (fun w' hw' => ?_) ?_
  · first | (go_simp; done) | (go_simp; simp_all; done) | (go_simp; rfl)
  simp only [Act.put, List.setIfInBounds_toArray, List.set_cons_zero, List.set_cons_succ]
  refine good_pureX 1 (some 18) (Go.Op.binOp Go.BinOp.eql 39 (Go.Operand.tmp 17) (Go.Operand.const (Go.Value.int Go.IntKind.i64 0)) 39) (none) (.bool true) (by kernel_rfl) (by kernel_rfl) (by kernel_rfl) (fun _ _ _ h => h) (fun w' hw' => ?_) ?_
  · first | (go_simp; done) | (go_simp; simp_all; done) | (go_simp; rfl)
  simp only [Act.put, List.setIfInBounds_toArray, List.set_cons_zero, List.set_cons_succ]
  refine good_pureX 2 (some 19) (Go.Op.move (Go.Operand.tmp 18)) (none) (.bool true) (by kernel_rfl) (by kernel_rfl) (by kernel_rfl) (fun _ _ _ h => h) (fun w' hw' => ?_) ?_
  · first | (go_simp; done) | (go_simp; simp_all; done) | (go_simp; rfl)
  simp only [Act.put, List.setIfInBounds_toArray, List.set_cons_zero, List.set_cons_succ]
  refine good_pureX 3 (some 20) (Go.Op.move (Go.Operand.tmp 4)) (some (2, true)) (.int .i64 0) (by kernel_rfl) (by kernel_rfl) (by kernel_rfl) (fun _ _ _ h => h) (fun w' hw' => ?_) ?_
  · first | (go_simp; done) | (go_simp; simp_all; done) | (go_simp; rfl)
  simp only [Act.put, List.setIfInBounds_toArray, List.set_cons_zero, List.set_cons_succ]
  refine good_pureX 4 (some 21) (Go.Op.binOp Go.BinOp.eql 39 (Go.Operand.tmp 20) (Go.Operand.const (Go.Value.int Go.IntKind.i64 0)) 39) (some (2, true)) (.bool true) (by kernel_rfl) (by kernel_rfl) (by kernel_rfl) (fun _ _ _ h => h) (fun w' hw' => ?_) ?_
  · first | (go_simp; done) | (go_simp; simp_all; done) | (go_simp; rfl)
  simp only [Act.put, List.setIfInBounds_toArray, List.set_cons_zero, List.set_cons_succ]
  refine good_pureX 5 (some 22) (Go.Op.pick (Go.Operand.tmp 19) (Go.Operand.tmp 21) (Go.Operand.const (Go.Value.bool false))) (none) (.bool true) (by kernel_rfl) (by kernel_rfl) (by kernel_rfl) (fun _ _ _ h => h) (fun w' hw' => ?_) ?_
  · first | (go_simp; done) | (go_simp; simp_all; done) | (go_simp; rfl)
  simp only [Act.put, List.setIfInBounds_toArray, List.set_cons_zero, List.set_cons_succ]
  refine good_pureX 6 (some 23) (Go.Op.move (Go.Operand.tmp 22)) (none) (.bool true) (by kernel_rfl) (by kernel_rfl) (by kernel_rfl) (fun _ _ _ h => h) (fun w' hw' => ?_) ?_
  · first | (go_simp; done) | (go_simp; simp_all; done) | (go_simp; rfl)
  simp only [Act.put, List.setIfInBounds_toArray, List.set_cons_zero, List.set_cons_succ]
  refine good_callX 7 27 (some 24) #[Go.Operand.const (Go.Value.int Go.IntKind.i64 1), Go.Operand.const (Go.Value.int Go.IntKind.i64 2)] #[3, 3] (some (6, true)) #[.int .i64 1, .int .i64 2] (by kernel_rfl) Hok.out (by kernel_rfl) (by kernel_rfl) (by kernel_rfl) (by kernel_rfl) rfl rfl rfl (by kernel_rfl) (fun w9 hb => ?_)
  have HG := Lib.hid (below_call HG.out hb)
  clear hb
  refine Calls.mono (frac_ok (x := 1) (y := 2) (by decide) (by decide) (by decide) (by decide) (by decide)) ?_
  rintro e w10 ⟨v10, rfl, hp5, hb⟩
  obtain ⟨p5_b, p5_a, p5_n, p5_c, p5_d, p5_m, p5_e, rfl⟩ := hp5.litb
  refine ⟨_, rfl, ?_, hb⟩
  have HG := Lib.hid (below_call HG.out hb)
  have Hp5 := Lib.hid hp5
  clear hb hp5
  simp only [Act.put, List.setIfInBounds_toArray, List.set_cons_zero, List.set_cons_succ]
  refine good_callX 8 27 (some 25) #[Go.Operand.const (Go.Value.int Go.IntKind.i64 1), Go.Operand.const (Go.Value.int Go.IntKind.i64 3)] #[3, 3] (some (6, true)) #[.int .i64 1, .int .i64 3] (by kernel_rfl) Hok.out (by kernel_rfl) (by kernel_rfl) (by kernel_rfl) (by kernel_rfl) rfl rfl rfl (by kernel_rfl) (fun w11 hb => ?_)
  have Hp5 := Lib.hid (CR.keep Hp5.out (Keep.call hb))
  have HG := Lib.hid (below_call HG.out hb)
  clear hb
  refine Calls.mono (frac_ok (x := 1) (y := 3) (by decide) (by decide) (by decide) (by decide) (by decide)) ?_
  rintro e w12 ⟨v12, rfl, hp6, hb⟩
  obtain ⟨p6_b, p6_a, p6_n, p6_c, p6_d, p6_m, p6_e, rfl⟩ := hp6.litb
  refine ⟨_, rfl, ?_, hb⟩
  have Hp5 := Lib.hid (CR.keep Hp5.out (Keep.call hb))
  have HG := Lib.hid (below_call HG.out hb)
  have Hp6 := Lib.hid hp6
  clear hb hp6
  simp only [Act.put, List.setIfInBounds_toArray, List.set_cons_zero, List.set_cons_succ]
  refine good_callX 9 14 (some 26) #[Go.Operand.tmp 24, Go.Operand.tmp 25] #[25, 25] (some (6, true)) #[.agg #[.bool p5_b, .slice p5_a p5_n p5_c, .slice p5_d p5_m p5_e], .agg #[.bool p6_b, .slice p6_a p6_n p6_c, .slice p6_d p6_m p6_e]] (by kernel_rfl) Hok.out (by kernel_rfl) (by kernel_rfl) (by kernel_rfl) (by kernel_rfl) rfl rfl rfl (by kernel_rfl) (fun w13 hb => ?_)
  have Hp5 := Lib.hid (CR.keep Hp5.out (Keep.call hb))
  have Hp6 := Lib.hid (CR.keep Hp6.out (Keep.call hb))
  have HG := Lib.hid (below_call HG.out hb)
  clear hb
  (first | (have hcall := radd_ar Hp5.out.ar Hp6.out.ar (by decide) (by decide); refine Calls.mono hcall ?_; clear hcall) | refine Calls.mono (radd_ar Hp5.out.ar Hp6.out.ar (by decide) (by decide)) ?_)
  rintro e w14 ⟨v14, rfl, hs3, hb⟩
  obtain ⟨s3_b, s3_a, s3_n, s3_c, s3_d, s3_m, s3_e, rfl⟩ := hs3.litb
  refine ⟨_, rfl, ?_, hb⟩
  have HG := Lib.hid (below_call HG.out hb)
  have Hs3 := Lib.hid hs3
  clear hb hs3
  simp only [Act.put, List.setIfInBounds_toArray, List.set_cons_zero, List.set_cons_succ]
  refine good_callX 10 27 (some 27) #[Go.Operand.const (Go.Value.int Go.IntKind.i64 5), Go.Operand.const (Go.Value.int Go.IntKind.i64 6)] #[3, 3] (some (6, true)) #[.int .i64 5, .int .i64 6] (by kernel_rfl) Hok.out (by kernel_rfl) (by kernel_rfl) (by kernel_rfl) (by kernel_rfl) rfl rfl rfl (by kernel_rfl) (fun w15 hb => ?_)
  have Hs3 := Lib.hid (CR.keep Hs3.out (Keep.call hb))
  have HG := Lib.hid (below_call HG.out hb)
  clear hb
  refine Calls.mono (frac_ok (x := 5) (y := 6) (by decide) (by decide) (by decide) (by decide) (by decide)) ?_
  rintro e w16 ⟨v16, rfl, hp7, hb⟩
  obtain ⟨p7_b, p7_a, p7_n, p7_c, p7_d, p7_m, p7_e, rfl⟩ := hp7.litb
  refine ⟨_, rfl, ?_, hb⟩
  have Hs3 := Lib.hid (CR.keep Hs3.out (Keep.call hb))
  have HG := Lib.hid (below_call HG.out hb)
  have Hp7 := Lib.hid hp7
  clear hb hp7
  simp only [Act.put, List.setIfInBounds_toArray, List.set_cons_zero, List.set_cons_succ]
  refine good_callX 11 15 (some 28) #[Go.Operand.tmp 26, Go.Operand.tmp 27] #[25, 25] (some (6, true)) #[.agg #[.bool s3_b, .slice s3_a s3_n s3_c, .slice s3_d s3_m s3_e], .agg #[.bool p7_b, .slice p7_a p7_n p7_c, .slice p7_d p7_m p7_e]] (by kernel_rfl) Hok.out (by kernel_rfl) (by kernel_rfl) (by kernel_rfl) (by kernel_rfl) rfl rfl rfl (by kernel_rfl) (fun w17 hb => ?_)
  have Hs3 := Lib.hid (CR.keep Hs3.out (Keep.call hb))
  have Hp7 := Lib.hid (CR.keep Hp7.out (Keep.call hb))
  have HG := Lib.hid (below_call HG.out hb)
  clear hb
  (first | (have hcall := zsame_cr Hs3.out Hp7.out (by decide +kernel); refine Calls.mono hcall ?_; clear hcall) | refine Calls.mono (zsame_cr Hs3.out Hp7.out (by decide +kernel)) ?_)
  rintro e w18 ⟨v18, rfl, rfl, hb⟩
  refine ⟨_, rfl, ?_, hb⟩
  have HG := Lib.hid (below_call HG.out hb)
  clear hb
  simp only [Act.put, List.setIfInBounds_toArray, List.set_cons_zero, List.set_cons_succ]
  refine good_pureX 12 (some 29) (Go.Op.pick (Go.Operand.tmp 23) (Go.Operand.tmp 28) (Go.Operand.const (Go.Value.bool false))) (none) (.bool true) (by kernel_rfl) (by kernel_rfl) (by kernel_rfl) (fun _ _ _ h => h) (fun w' hw' => ?_) ?_
  · first | (go_simp; done) | (go_simp; simp_all; done) | (go_simp; rfl)
  simp only [Act.put, List.setIfInBounds_toArray, List.set_cons_zero, List.set_cons_succ]
  refine good_pureX 13 (some 30) (Go.Op.move (Go.Operand.tmp 29)) (none) (.bool true) (by kernel_rfl) (by kernel_rfl) (by kernel_rfl) (fun _ _ _ h => h) (fun w' hw' => ?_) ?_
  · first | (go_simp; done) | (go_simp; simp_all; done) | (go_simp; rfl)
  simp only [Act.put, List.setIfInBounds_toArray, List.set_cons_zero, List.set_cons_succ]
  refine good_pureX 14 (some 31) (Go.Op.load 25 (Go.Operand.tmp 1)) (some (13, true)) (.agg #[.bool s1_b, .slice s1_a s1_n s1_c, .slice s1_d s1_m s1_e]) (by kernel_rfl) (by kernel_rfl) (by kernel_rfl) (fun _ _ _ h => h) (fun w' hw' => ?_) ?_
  · obtain ⟨ca00, ca01, ca02, fa00, fa01, fa02⟩ := (Box.se hw' Xa0.out notin0).c3
    first | (go_simp; done) | (go_simp; simp_all; done) | (go_simp; rfl)
  simp only [Act.put, List.setIfInBounds_toArray, List.set_cons_zero, List.set_cons_succ]
  refine good_callX 15 27 (some 32) #[Go.Operand.const (Go.Value.int Go.IntKind.i64 1), Go.Operand.const (Go.Value.int Go.IntKind.i64 3)] #[3, 3] (some (13, true)) #[.int .i64 1, .int .i64 3] (by kernel_rfl) Hok.out (by kernel_rfl) (by kernel_rfl) (by kernel_rfl) (by kernel_rfl) rfl rfl rfl (by kernel_rfl) (fun w19 hb => ?_)
  have HG := Lib.hid (below_call HG.out hb)
  clear hb
  refine Calls.mono (frac_ok (x := 1) (y := 3) (by decide) (by decide) (by decide) (by decide) (by decide)) ?_
  rintro e w20 ⟨v20, rfl, hp8, hb⟩
  obtain ⟨p8_b, p8_a, p8_n, p8_c, p8_d, p8_m, p8_e, rfl⟩ := hp8.litb
  refine ⟨_, rfl, ?_, hb⟩
  have HG := Lib.hid (below_call HG.out hb)
  have Hp8 := Lib.hid hp8
  clear hb hp8
  simp only [Act.put, List.setIfInBounds_toArray, List.set_cons_zero, List.set_cons_succ]
  refine good_callX 16 15 (some 33) #[Go.Operand.tmp 31, Go.Operand.tmp 32] #[25, 25] (some (13, true)) #[.agg #[.bool s1_b, .slice s1_a s1_n s1_c, .slice s1_d s1_m s1_e], .agg #[.bool p8_b, .slice p8_a p8_n p8_c, .slice p8_d p8_m p8_e]] (by kernel_rfl) Hok.out (by kernel_rfl) (by kernel_rfl) (by kernel_rfl) (by kernel_rfl) rfl rfl rfl (by kernel_rfl) (fun w21 hb => ?_)
  have Hp8 := Lib.hid (CR.keep Hp8.out (Keep.call hb))
  have HG := Lib.hid (below_call HG.out hb)
  clear hb
  (first | (have hcall := zsame_cr (CR.keep Hs1.out (Keep.call HG.out)) Hp8.out (by decide +kernel); refine Calls.mono hcall ?_; clear hcall) | refine Calls.mono (zsame_cr (CR.keep Hs1.out (Keep.call HG.out)) Hp8.out (by decide +kernel)) ?_)
  rintro e w22 ⟨v22, rfl, rfl, hb⟩
  refine ⟨_, rfl, ?_, hb⟩
  have HG := Lib.hid (below_call HG.out hb)
  clear hb
  simp only [Act.put, List.setIfInBounds_toArray, List.set_cons_zero, List.set_cons_succ]
  refine good_pureX 17 (some 34) (Go.Op.pick (Go.Operand.tmp 30) (Go.Operand.tmp 33) (Go.Operand.const (Go.Value.bool false))) (none) (.bool true) (by kernel_rfl) (by kernel_rfl) (by kernel_rfl) (fun _ _ _ h => h) (fun w' hw' => ?_) ?_
  · first | (go_simp; done) | (go_simp; simp_all; done) | (go_simp; rfl)
  simp only [Act.put, List.setIfInBounds_toArray, List.set_cons_zero, List.set_cons_succ]
  refine good_pureX 18 (some 35) (Go.Op.move (Go.Operand.tmp 34)) (none) (.bool true) (by kernel_rfl) (by kernel_rfl) (by kernel_rfl) (fun _ _ _ h => h) (fun w' hw' => ?_) ?_
  · first | (go_simp; done) | (go_simp; simp_all; done) | (go_simp; rfl)
  simp only [Act.put, List.setIfInBounds_toArray, List.set_cons_zero, List.set_cons_succ]
  refine good_pureX 19 (some 36) (Go.Op.load 25 (Go.Operand.tmp 3)) (some (18, true)) (.agg #[.bool s2_b, .slice s2_a s2_n s2_c, .slice s2_d s2_m s2_e]) (by kernel_rfl) (by kernel_rfl) (by kernel_rfl) (fun _ _ _ h => h) (fun w' hw' => ?_) ?_
  · obtain ⟨cb00, cb01, cb02, fb00, fb01, fb02⟩ := (Box.se hw' Xb0.out notin0).c3
    first | (go_simp; done) | (go_simp; simp_all; done) | (go_simp; rfl)
  simp only [Act.put, List.setIfInBounds_toArray, List.set_cons_zero, List.set_cons_succ]
  refine good_callX 20 27 (some 37) #[Go.Operand.const (Go.Value.int Go.IntKind.i64 3), Go.Operand.const (Go.Value.int Go.IntKind.i64 1)] #[3, 3] (some (18, true)) #[.int .i64 3, .int .i64 1] (by kernel_rfl) Hok.out (by kernel_rfl) (by kernel_rfl) (by kernel_rfl) (by kernel_rfl) rfl rfl rfl (by kernel_rfl) (fun w23 hb => ?_)
  have HG := Lib.hid (below_call HG.out hb)
  clear hb
  refine Calls.mono (frac_ok (x := 3) (y := 1) (by decide) (by decide) (by decide) (by decide) (by decide)) ?_
  rintro e w24 ⟨v24, rfl, hp9, hb⟩
  obtain ⟨p9_b, p9_a, p9_n, p9_c, p9_d, p9_m, p9_e, rfl⟩ := hp9.litb
  refine ⟨_, rfl, ?_, hb⟩
  have HG := Lib.hid (below_call HG.out hb)
  have Hp9 := Lib.hid hp9
  clear hb hp9
  simp only [Act.put, List.setIfInBounds_toArray, List.set_cons_zero, List.set_cons_succ]
  refine good_callX 21 15 (some 38) #[Go.Operand.tmp 36, Go.Operand.tmp 37] #[25, 25] (some (18, true)) #[.agg #[.bool s2_b, .slice s2_a s2_n s2_c, .slice s2_d s2_m s2_e], .agg #[.bool p9_b, .slice p9_a p9_n p9_c, .slice p9_d p9_m p9_e]] (by kernel_rfl) Hok.out (by kernel_rfl) (by kernel_rfl) (by kernel_rfl) (by kernel_rfl) rfl rfl rfl (by kernel_rfl) (fun w25 hb => ?_)
  have Hp9 := Lib.hid (CR.keep Hp9.out (Keep.call hb))
  have HG := Lib.hid (below_call HG.out hb)
  clear hb
  (first | (have hcall := zsame_cr (CR.keep Hs2.out (Keep.call HG.out)) Hp9.out (by decide +kernel); refine Calls.mono hcall ?_; clear hcall) | refine Calls.mono (zsame_cr (CR.keep Hs2.out (Keep.call HG.out)) Hp9.out (by decide +kernel)) ?_)
  rintro e w26 ⟨v26, rfl, rfl, hb⟩
  refine ⟨_, rfl, ?_, hb⟩
  have HG := Lib.hid (below_call HG.out hb)
  clear hb
  simp only [Act.put, List.setIfInBounds_toArray, List.set_cons_zero, List.set_cons_succ]
  refine good_pureX 22 (some 39) (Go.Op.pick (Go.Operand.tmp 35) (Go.Operand.tmp 38) (Go.Operand.const (Go.Value.bool false))) (none) (.bool true) (by kernel_rfl) (by kernel_rfl) (by kernel_rfl) (fun _ _ _ h => h) (fun w' hw' => ?_) ?_
  · first | (go_simp; done) | (go_simp; simp_all; done) | (go_simp; rfl)
  simp only [Act.put, List.setIfInBounds_toArray, List.set_cons_zero, List.set_cons_succ]
  refine good_pureX 23 (some 40) (Go.Op.move (Go.Operand.tmp 39)) (none) (.bool true) (by kernel_rfl) (by kernel_rfl) (by kernel_rfl) (fun _ _ _ h => h) (fun w' hw' => ?_) ?_
  · first | (go_simp; done) | (go_simp; simp_all; done) | (go_simp; rfl)
  simp only [Act.put, List.setIfInBounds_toArray, List.set_cons_zero, List.set_cons_succ]
  refine good_callX 24 27 (some 41) #[Go.Operand.const (Go.Value.int Go.IntKind.i64 (-7)), Go.Operand.const (Go.Value.int Go.IntKind.i64 2)] #[3, 3] (some (23, true)) #[.int .i64 (-7), .int .i64 2] (by kernel_rfl) Hok.out (by kernel_rfl) (by kernel_rfl) (by kernel_rfl) (by kernel_rfl) rfl rfl rfl (by kernel_rfl) (fun w27 hb => ?_)
  have HG := Lib.hid (below_call HG.out hb)
  clear hb
  refine Calls.mono (frac_ok (x := (-7)) (y := 2) (by decide) (by decide) (by decide) (by decide) (by decide)) ?_
  rintro e w28 ⟨v28, rfl, hq1, hb⟩
  obtain ⟨q1_b, q1_a, q1_n, q1_c, q1_d, q1_m, q1_e, rfl⟩ := hq1.litb
  refine ⟨_, rfl, ?_, hb⟩
  have HG := Lib.hid (below_call HG.out hb)
  have Hq1 := Lib.hid hq1
  clear hb hq1
  simp only [Act.put, List.setIfInBounds_toArray, List.set_cons_zero, List.set_cons_succ]
  refine good_callX 25 20 (some 42) #[Go.Operand.tmp 41] #[25] (some (23, true)) #[.agg #[.bool q1_b, .slice q1_a q1_n q1_c, .slice q1_d q1_m q1_e]] (by kernel_rfl) Hok.out (by kernel_rfl) (by kernel_rfl) (by kernel_rfl) (by kernel_rfl) rfl rfl rfl (by kernel_rfl) (fun w29 hb => ?_)
  have Hq1 := Lib.hid (CR.keep Hq1.out (Keep.call hb))
  have HG := Lib.hid (below_call HG.out hb)
  clear hb
  (first | (have hcall := rfloor_ar Hq1.out.ar (by decide); refine Calls.mono hcall ?_; clear hcall) | refine Calls.mono (rfloor_ar Hq1.out.ar (by decide)) ?_)
  rintro e w30 ⟨v30, rfl, hq2, hb⟩
  obtain ⟨q2_b, q2_a, q2_n, q2_c, rfl⟩ := hq2.litb
  refine ⟨_, rfl, ?_, hb⟩
  have HG := Lib.hid (below_call HG.out hb)
  have Hq2 := Lib.hid hq2
  clear hb hq2
  simp only [Act.put, List.setIfInBounds_toArray, List.set_cons_zero, List.set_cons_succ]
  refine good_callX 26 54 (some 43) #[Go.Operand.const (Go.Value.int Go.IntKind.i64 (-4))] #[3] (some (23, true)) #[.int .i64 (-4)] (by kernel_rfl) Hok.out (by kernel_rfl) (by kernel_rfl) (by kernel_rfl) (by kernel_rfl) rfl rfl rfl (by kernel_rfl) (fun w31 hb => ?_)
  have Hq2 := Lib.hid (CL.keep Hq2.out (Keep.call hb))
  have HG := Lib.hid (below_call HG.out hb)
  clear hb
  refine Calls.mono (riof_any (x := -4) (by decide) (by decide)) ?_
  rintro e w32 ⟨v32, rfl, hq3, hb⟩
  obtain ⟨q3_b, q3_a, q3_n, q3_c, rfl⟩ := hq3.litb
  refine ⟨_, rfl, ?_, hb⟩
  have Hq2 := Lib.hid (CL.keep Hq2.out (Keep.call hb))
  have HG := Lib.hid (below_call HG.out hb)
  have Hq3 := Lib.hid hq3
  clear hb hq3
  simp only [Act.put, List.setIfInBounds_toArray, List.set_cons_zero, List.set_cons_succ]
  refine good_callX 27 44 (some 44) #[Go.Operand.tmp 42, Go.Operand.tmp 43] #[33, 33] (some (23, true)) #[.agg #[.bool q2_b, .slice q2_a q2_n q2_c], .agg #[.bool q3_b, .slice q3_a q3_n q3_c]] (by kernel_rfl) Hok.out (by kernel_rfl) (by kernel_rfl) (by kernel_rfl) (by kernel_rfl) rfl rfl rfl (by kernel_rfl) (fun w33 hb => ?_)
  have Hq2 := Lib.hid (CL.keep Hq2.out (Keep.call hb))
  have Hq3 := Lib.hid (CL.keep Hq3.out (Keep.call hb))
  have HG := Lib.hid (below_call HG.out hb)
  clear hb
  (first | (have hcall := isame_cl Hq2.out Hq3.out (by decide +kernel); refine Calls.mono hcall ?_; clear hcall) | refine Calls.mono (isame_cl Hq2.out Hq3.out (by decide +kernel)) ?_)
  rintro e w34 ⟨v34, rfl, rfl, hb⟩
  refine ⟨_, rfl, ?_, hb⟩
  have HG := Lib.hid (below_call HG.out hb)
  clear hb
  simp only [Act.put, List.setIfInBounds_toArray, List.set_cons_zero, List.set_cons_succ]
  refine good_pureX 28 (some 45) (Go.Op.pick (Go.Operand.tmp 40) (Go.Operand.tmp 44) (Go.Operand.const (Go.Value.bool false))) (none) (.bool true) (by kernel_rfl) (by kernel_rfl) (by kernel_rfl) (fun _ _ _ h => h) (fun w' hw' => ?_) ?_
  · first | (go_simp; done) | (go_simp; simp_all; done) | (go_simp; rfl)
  simp only [Act.put, List.setIfInBounds_toArray, List.set_cons_zero, List.set_cons_succ]
  refine good_pureX 29 (some 46) (Go.Op.move (Go.Operand.tmp 45)) (none) (.bool true) (by kernel_rfl) (by kernel_rfl) (by kernel_rfl) (fun _ _ _ h => h) (fun w' hw' => ?_) ?_
  · first | (go_simp; done) | (go_simp; simp_all; done) | (go_simp; rfl)
  simp only [Act.put, List.setIfInBounds_toArray, List.set_cons_zero, List.set_cons_succ]
  refine good_callX 30 27 (some 47) #[Go.Operand.const (Go.Value.int Go.IntKind.i64 1), Go.Operand.const (Go.Value.int Go.IntKind.i64 3)] #[3, 3] (some (29, true)) #[.int .i64 1, .int .i64 3] (by kernel_rfl) Hok.out (by kernel_rfl) (by kernel_rfl) (by kernel_rfl) (by kernel_rfl) rfl rfl rfl (by kernel_rfl) (fun w35 hb => ?_)
  have HG := Lib.hid (below_call HG.out hb)
  clear hb
  refine Calls.mono (frac_ok (x := 1) (y := 3) (by decide) (by decide) (by decide) (by decide) (by decide)) ?_
  rintro e w36 ⟨v36, rfl, hq4, hb⟩
  obtain ⟨q4_b, q4_a, q4_n, q4_c, q4_d, q4_m, q4_e, rfl⟩ := hq4.litb
  refine ⟨_, rfl, ?_, hb⟩
  have HG := Lib.hid (below_call HG.out hb)
  have Hq4 := Lib.hid hq4
  clear hb hq4
  simp only [Act.put, List.setIfInBounds_toArray, List.set_cons_zero, List.set_cons_succ]
  refine good_callX 31 27 (some 48) #[Go.Operand.const (Go.Value.int Go.IntKind.i64 1), Go.Operand.const (Go.Value.int Go.IntKind.i64 2)] #[3, 3] (some (29, true)) #[.int .i64 1, .int .i64 2] (by kernel_rfl) Hok.out (by kernel_rfl) (by kernel_rfl) (by kernel_rfl) (by kernel_rfl) rfl rfl rfl (by kernel_rfl) (fun w37 hb => ?_)
  have Hq4 := Lib.hid (CR.keep Hq4.out (Keep.call hb))
  have HG := Lib.hid (below_call HG.out hb)
  clear hb
  refine Calls.mono (frac_ok (x := 1) (y := 2) (by decide) (by decide) (by decide) (by decide) (by decide)) ?_
  rintro e w38 ⟨v38, rfl, hq5, hb⟩
  obtain ⟨q5_b, q5_a, q5_n, q5_c, q5_d, q5_m, q5_e, rfl⟩ := hq5.litb
  refine ⟨_, rfl, ?_, hb⟩
  have Hq4 := Lib.hid (CR.keep Hq4.out (Keep.call hb))
  have HG := Lib.hid (below_call HG.out hb)
  have Hq5 := Lib.hid hq5
  clear hb hq5
  simp only [Act.put, List.setIfInBounds_toArray, List.set_cons_zero, List.set_cons_succ]
  refine good_callX 32 49 (some 49) #[Go.Operand.tmp 47, Go.Operand.tmp 48] #[25, 25] (some (29, true)) #[.agg #[.bool q4_b, .slice q4_a q4_n q4_c, .slice q4_d q4_m q4_e], .agg #[.bool q5_b, .slice q5_a q5_n q5_c, .slice q5_d q5_m q5_e]] (by kernel_rfl) Hok.out (by kernel_rfl) (by kernel_rfl) (by kernel_rfl) (by kernel_rfl) rfl rfl rfl (by kernel_rfl) (fun w39 hb => ?_)
  have Hq4 := Lib.hid (CR.keep Hq4.out (Keep.call hb))
  have Hq5 := Lib.hid (CR.keep Hq5.out (Keep.call hb))
  have HG := Lib.hid (below_call HG.out hb)
  clear hb
  (first | (have hcall := rcmp_ar (-1) Hq4.out.ar Hq5.out.ar (by decide +kernel) (by decide) (by decide); refine Calls.mono hcall ?_; clear hcall) | refine Calls.mono (rcmp_ar (-1) Hq4.out.ar Hq5.out.ar (by decide +kernel) (by decide) (by decide)) ?_)
  rintro e w40 ⟨v40, rfl, rfl, hb⟩
  refine ⟨_, rfl, ?_, hb⟩
  have HG := Lib.hid (below_call HG.out hb)
  clear hb
  simp only [Act.put, List.setIfInBounds_toArray, List.set_cons_zero, List.set_cons_succ]
  refine good_pureX 33 (some 50) (Go.Op.binOp Go.BinOp.eql 3 (Go.Operand.tmp 49) (Go.Operand.const (Go.Value.int Go.IntKind.i64 (-1))) 3) (some (29, true)) (.bool true) (by kernel_rfl) (by kernel_rfl) (by kernel_rfl) (fun _ _ _ h => h) (fun w' hw' => ?_) ?_
  · first | (go_simp; done) | (go_simp; simp_all; done) | (go_simp; rfl)
  simp only [Act.put, List.setIfInBounds_toArray, List.set_cons_zero, List.set_cons_succ]
  refine good_pureX 34 (some 51) (Go.Op.pick (Go.Operand.tmp 46) (Go.Operand.tmp 50) (Go.Operand.const (Go.Value.bool false))) (none) (.bool true) (by kernel_rfl) (by kernel_rfl) (by kernel_rfl) (fun _ _ _ h => h) (fun w' hw' => ?_) ?_
  · first | (go_simp; done) | (go_simp; simp_all; done) | (go_simp; rfl)
  simp only [Act.put, List.setIfInBounds_toArray, List.set_cons_zero, List.set_cons_succ]
  refine good_pureX 35 (some 0) (Go.Op.assign (Go.Operand.tmp 51)) (none) (.bool true) (by kernel_rfl) (by kernel_rfl) (by kernel_rfl) (fun _ _ _ h => h) (fun w' hw' => ?_) ?_
  · first | (go_simp; done) | (go_simp; simp_all; done) | (go_simp; rfl)
  simp only [Act.put, List.setIfInBounds_toArray, List.set_cons_zero]
  refine good_end0 0 (by kernel_rfl) (fun _ w41 hb => ?_)
  have HG := Lib.hid (below_call HG.out hb)
  clear hb
  have Xa0 := Lib.hid (Box.pcall HG.out Xa0.out)
  have Xb0 := Lib.hid (Box.pcall HG.out Xb0.out)
  have HB := Lib.hid (below_call HB.out HG.out)
  have HS := Lib.hid (SE.of (E := []) HG.out)
  refine wpAnyH_done (by kernel_rfl) ?_ _
  clear HG HS Hok 
  obtain ⟨ca00, ca01, ca02, fa00, fa01, fa02⟩ := Xa0.out.c3
  have la0 := Xa0.out.lt
  obtain ⟨cb00, cb01, cb02, fb00, fb01, fb02⟩ := Xb0.out.c3
  have lb0 := Xb0.out.lt
  go_wp2
  clear ca00 ca01 ca02 fa00 fa01 fa02 la0 cb00 cb01 cb02 fb00 fb01 fb02 lb0
  go_ret
  exact ⟨_, rfl, rfl, HB.out⟩


end Go.Proofs.Ytfkjhaniglmejaa
