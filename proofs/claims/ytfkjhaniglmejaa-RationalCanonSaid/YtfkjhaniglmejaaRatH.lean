/- Layer 3: the simplest number. Printed by ratd.py. -/
import Derived.Test.YtfkjhaniglmejaaSpl
namespace Go.Proofs.Ytfkjhaniglmejaa
open Go.RowKit Nt
set_option linter.unusedVariables false

theorem rof_one {w : World} : Calls Try.prog 40 #[.int .i64 1] w (Ret w (CR 1 2)) := of_rat (x := 1) (by decide) (by decide)
theorem zof_one {w : World} : Calls Try.prog 24 #[.int .i64 1] w (Ret w (CR 1 2)) := zof (x := 1) (by decide) (by decide)
theorem cmpQ_self (a : Rat) : cmpQ a a = 0 := by unfold cmpQ; rw [Rat.sub_self]; rfl
theorem cmpQ_zero {a b : Rat} : cmpQ a b = 0 ↔ a = b := by
  refine ⟨fun h => Rat.le_antisymm (cmpQ_le.1 (by omega)) (cmpQ_ge.1 (by omega)), fun h => h ▸ cmpQ_self a⟩
theorem AR.smL {q : Rat} {L : Nat} {w : World} {v : Value} (h : AR q L w v) (hL : 1 ≤ L) : Sm L q := h.sm.mono (by omega)

set_option maxRecDepth 100000 in
set_option maxHeartbeats 4000000 in
theorem des_1 {L : Nat} {qa : Rat} {ba : Bool} {sa ta : Value} {qb : Rat} {bb : Bool} {sb tb : Value} {w : World} (hk : cmpQ (qa.floor : Rat) qa = 0) (ha : AR qa L w (.agg #[.bool ba, sa, ta])) (hb : AR qb L w (.agg #[.bool bb, sb, tb])) (hL : L ≤ 10000) :
    Calls Try.prog 67 #[.agg #[.bool ba, sa, ta], .agg #[.bool bb, sb, tb]] w (Ret w (CR (qa.floor : Rat) (L + 3))) := by
  have Ha := Lib.hid ha
  have Hb := Lib.hid hb
  have Hk := Lib.hid hk
  clear ha hb hk
  go_enter Try.func67, Try.ntmps67
  have HB := Lib.hid (Below.refl w.heap.size w)
  go_wp2_with fail
  obtain ⟨W1, hW⟩ : ∃ W1, W1 = (World.alloc (World.alloc (World.alloc w (.cells #[.bool ba, sa, ta] 25)) (.cells #[.bool bb, sb, tb] 25)) (.cells #[.bool false, .slice none 0 0, .slice none 0 0] 25)) := ⟨_, rfl⟩
  rw [← hW]
  obtain ⟨xa0, xb0, xc0, hk, hb⟩ := boxes_3 _ _ _ _ _ _ _ hW
  clear hW
  have Ha := Lib.hid (AR.keep Ha.out hk)
  have Ga0 := Lib.hid (show w.heap.size ≤ w.heap.size from Nat.le_trans HB.out.size (by omega))
  have Gb0 := Lib.hid (show w.heap.size ≤ w.heap.size + 1 from Nat.le_trans HB.out.size (by omega))
  have Gc0 := Lib.hid (show w.heap.size ≤ w.heap.size + 1 + 1 from Nat.le_trans HB.out.size (by omega))
  have Xa0 := Lib.hid xa0
  have Xb0 := Lib.hid xb0
  have Xc0 := Lib.hid xc0
  have HB := Lib.hid (below_call HB.out hb)
  clear hk hb xa0 xb0 xc0
  (first | (have hcall := rfloor_ar Ha.out (by omega); refine Calls.mono hcall ?_; clear hcall) | refine Calls.mono (rfloor_ar Ha.out (by omega)) ?_)
  rintro e w2 ⟨v2, rfl, hf, hb⟩
  obtain ⟨f_b, f_a, f_n, f_c, rfl⟩ := hf.litb
  have Ha := Lib.hid (AR.keep Ha.out (Keep.call hb))
  have Xa0 := Lib.hid (Box.pcall hb Xa0.out)
  have Xb0 := Lib.hid (Box.pcall hb Xb0.out)
  have Xc0 := Lib.hid (Box.pcall hb Xc0.out)
  have HB := Lib.hid (below_call HB.out hb)
  have Hf := Lib.hid hf
  clear hb hf
  obtain ⟨ca00, ca01, ca02, fa00, fa01, fa02⟩ := Xa0.out.c3
  have la0 := Xa0.out.lt
  obtain ⟨cb00, cb01, cb02, fb00, fb01, fb02⟩ := Xb0.out.c3
  have lb0 := Xb0.out.lt
  obtain ⟨cc00, cc01, cc02, fc00, fc01, fc02⟩ := Xc0.out.c3
  have lc0 := Xc0.out.lt
  go_wp2_with fail
  clear ca00 ca01 ca02 fa00 fa01 fa02 la0 cb00 cb01 cb02 fb00 fb01 fb02 lb0 cc00 cc01 cc02 fc00 fc01 fc02 lc0
  (first | (have hcall := whole_ai Hf.out.ai (by omega); refine Calls.mono hcall ?_; clear hcall) | refine Calls.mono (whole_ai Hf.out.ai (by omega)) ?_)
  rintro e w3 ⟨v3, rfl, hg, hb⟩
  obtain ⟨g_b, g_a, g_n, g_c, g_d, g_m, g_e, rfl⟩ := hg.litb
  have Ha := Lib.hid (AR.keep Ha.out (Keep.call hb))
  have Xa0 := Lib.hid (Box.pcall hb Xa0.out)
  have Xb0 := Lib.hid (Box.pcall hb Xb0.out)
  have Xc0 := Lib.hid (Box.pcall hb Xc0.out)
  have HB := Lib.hid (below_call HB.out hb)
  have Hg := Lib.hid hg
  clear hb hg
  obtain ⟨ca00, ca01, ca02, fa00, fa01, fa02⟩ := Xa0.out.c3
  have la0 := Xa0.out.lt
  obtain ⟨cb00, cb01, cb02, fb00, fb01, fb02⟩ := Xb0.out.c3
  have lb0 := Xb0.out.lt
  obtain ⟨cc00, cc01, cc02, fc00, fc01, fc02⟩ := Xc0.out.c3
  have lc0 := Xc0.out.lt
  go_wp2_with fail
  clear ca00 ca01 ca02 fa00 fa01 fa02 la0 cb00 cb01 cb02 fb00 fb01 fb02 lb0 cc00 cc01 cc02 fc00 fc01 fc02 lc0
  obtain ⟨W4, hW⟩ : ∃ W4, W4 = (World.alloc w3 (.cells #[.bool g_b, .slice g_a g_n g_c, .slice g_d g_m g_e] 25)) := ⟨_, rfl⟩
  rw [← hW]
  obtain ⟨xd0, hk, hb⟩ := boxes_1 _ _ _ hW
  clear hW
  have Ha := Lib.hid (AR.keep Ha.out hk)
  have Hg := Lib.hid (CR.keep Hg.out hk)
  have Na0d0 := Lib.hid (show w.heap.size ≠ w3.heap.size from Nat.ne_of_lt (Nat.lt_of_lt_of_le Xa0.out.lt (by omega)))
  have Nb0d0 := Lib.hid (show w.heap.size + 1 ≠ w3.heap.size from Nat.ne_of_lt (Nat.lt_of_lt_of_le Xb0.out.lt (by omega)))
  have Nc0d0 := Lib.hid (show w.heap.size + 1 + 1 ≠ w3.heap.size from Nat.ne_of_lt (Nat.lt_of_lt_of_le Xc0.out.lt (by omega)))
  have Gd0 := Lib.hid (show w.heap.size ≤ w3.heap.size from Nat.le_trans HB.out.size (by omega))
  have Xa0 := Lib.hid (Box.pcall hb Xa0.out)
  have Xb0 := Lib.hid (Box.pcall hb Xb0.out)
  have Xc0 := Lib.hid (Box.pcall hb Xc0.out)
  have Xd0 := Lib.hid xd0
  have HB := Lib.hid (below_call HB.out hb)
  clear hk hb xd0
  (first | (have hcall := rcmp_ar 0 Hg.out.ar Ha.out Hk.out (by omega) (by omega); refine Calls.mono hcall ?_; clear hcall) | refine Calls.mono (rcmp_ar 0 Hg.out.ar Ha.out Hk.out (by omega) (by omega)) ?_)
  rintro e w5 ⟨v5, rfl, rfl, hb⟩
  have Hg := Lib.hid (CR.keep Hg.out (Keep.call hb))
  have Xa0 := Lib.hid (Box.pcall hb Xa0.out)
  have Xb0 := Lib.hid (Box.pcall hb Xb0.out)
  have Xc0 := Lib.hid (Box.pcall hb Xc0.out)
  have Xd0 := Lib.hid (Box.pcall hb Xd0.out)
  have HB := Lib.hid (below_call HB.out hb)
  clear hb
  obtain ⟨ca00, ca01, ca02, fa00, fa01, fa02⟩ := Xa0.out.c3
  have la0 := Xa0.out.lt
  obtain ⟨cb00, cb01, cb02, fb00, fb01, fb02⟩ := Xb0.out.c3
  have lb0 := Xb0.out.lt
  obtain ⟨cc00, cc01, cc02, fc00, fc01, fc02⟩ := Xc0.out.c3
  have lc0 := Xc0.out.lt
  obtain ⟨cd00, cd01, cd02, fd00, fd01, fd02⟩ := Xd0.out.c3
  have ld0 := Xd0.out.lt
  go_wp2
  clear ca00 ca01 ca02 fa00 fa01 fa02 la0 cb00 cb01 cb02 fb00 fb01 fb02 lb0 cc00 cc01 cc02 fc00 fc01 fc02 lc0 cd00 cd01 cd02 fd00 fd01 fd02 ld0
  obtain ⟨W6, hW⟩ : ∃ W6, W6 = (World.setCell (World.setCell (World.setCell w5 ⟨w.heap.size + 1 + 1, 0, none⟩ (.bool g_b)) ⟨w.heap.size + 1 + 1, 1, none⟩ (.slice g_a g_n g_c)) ⟨w.heap.size + 1 + 1, 2, none⟩ (.slice g_d g_m g_e)) := ⟨_, rfl⟩
  rw [← hW]
  obtain ⟨xc0, hk, hf, hbb, hz⟩ := stored3s hW Xc0.out (by first | exact NoInt.bool _ | exact NoInt.slice _ _ _) (by first | exact NoInt.bool _ | exact NoInt.slice _ _ _) (by first | exact NoInt.bool _ | exact NoInt.slice _ _ _)
  have Hg := Lib.hid (CR.keep Hg.out hk)
  have Xa0 := Lib.hid (hf _ _ _ Xa0.out (by omega))
  have Xb0 := Lib.hid (hf _ _ _ Xb0.out (by omega))
  have Xc0 := Lib.hid xc0
  have Xd0 := Lib.hid (hf _ _ _ Xd0.out Nc0d0.out.symm)
  have HB := Lib.hid (hbb _ HB.out Gc0.out)
  clear hW hk hf hbb xc0
  clear hz
  exact ret_rat1 rfl rfl rfl Xc0.out (CR.mono Hg.out (by omega)) HB.out


set_option maxRecDepth 100000 in
set_option maxHeartbeats 4000000 in
theorem des_2 {L : Nat} {qa : Rat} {ba : Bool} {sa ta : Value} {qb : Rat} {bb : Bool} {sb tb : Value} {w : World} (k m : Int) (hk : cmpQ (qa.floor : Rat) qa = k) (hk0 : (k == 0) = false) (hm : cmpQ ((qa.floor : Rat) + 1) qb = m) (hm0 : decide (m ≤ 0) = true) (ha : AR qa L w (.agg #[.bool ba, sa, ta])) (hb : AR qb L w (.agg #[.bool bb, sb, tb])) (hL : L ≤ 10000) :
    Calls Try.prog 67 #[.agg #[.bool ba, sa, ta], .agg #[.bool bb, sb, tb]] w (Ret w (CR ((qa.floor : Rat) + 1) (L + 8))) := by
  have Ha := Lib.hid ha
  have Hb := Lib.hid hb
  have Hk := Lib.hid hk
  have Hk0 := Lib.hid hk0
  have Hm := Lib.hid hm
  have Hm0 := Lib.hid hm0
  clear ha hb hk hk0 hm hm0
  go_enter Try.func67, Try.ntmps67
  have HB := Lib.hid (Below.refl w.heap.size w)
  go_wp2_with fail
  obtain ⟨W1, hW⟩ : ∃ W1, W1 = (World.alloc (World.alloc (World.alloc w (.cells #[.bool ba, sa, ta] 25)) (.cells #[.bool bb, sb, tb] 25)) (.cells #[.bool false, .slice none 0 0, .slice none 0 0] 25)) := ⟨_, rfl⟩
  rw [← hW]
  obtain ⟨xa0, xb0, xc0, hk, hb⟩ := boxes_3 _ _ _ _ _ _ _ hW
  clear hW
  have Ha := Lib.hid (AR.keep Ha.out hk)
  have Hb := Lib.hid (AR.keep Hb.out hk)
  have Ga0 := Lib.hid (show w.heap.size ≤ w.heap.size from Nat.le_trans HB.out.size (by omega))
  have Gb0 := Lib.hid (show w.heap.size ≤ w.heap.size + 1 from Nat.le_trans HB.out.size (by omega))
  have Gc0 := Lib.hid (show w.heap.size ≤ w.heap.size + 1 + 1 from Nat.le_trans HB.out.size (by omega))
  have Xa0 := Lib.hid xa0
  have Xb0 := Lib.hid xb0
  have Xc0 := Lib.hid xc0
  have HB := Lib.hid (below_call HB.out hb)
  clear hk hb xa0 xb0 xc0
  (first | (have hcall := rfloor_ar Ha.out (by omega); refine Calls.mono hcall ?_; clear hcall) | refine Calls.mono (rfloor_ar Ha.out (by omega)) ?_)
  rintro e w2 ⟨v2, rfl, hf, hb⟩
  obtain ⟨f_b, f_a, f_n, f_c, rfl⟩ := hf.litb
  have Ha := Lib.hid (AR.keep Ha.out (Keep.call hb))
  have Hb := Lib.hid (AR.keep Hb.out (Keep.call hb))
  have Xa0 := Lib.hid (Box.pcall hb Xa0.out)
  have Xb0 := Lib.hid (Box.pcall hb Xb0.out)
  have Xc0 := Lib.hid (Box.pcall hb Xc0.out)
  have HB := Lib.hid (below_call HB.out hb)
  have Hf := Lib.hid hf
  clear hb hf
  obtain ⟨ca00, ca01, ca02, fa00, fa01, fa02⟩ := Xa0.out.c3
  have la0 := Xa0.out.lt
  obtain ⟨cb00, cb01, cb02, fb00, fb01, fb02⟩ := Xb0.out.c3
  have lb0 := Xb0.out.lt
  obtain ⟨cc00, cc01, cc02, fc00, fc01, fc02⟩ := Xc0.out.c3
  have lc0 := Xc0.out.lt
  go_wp2_with fail
  clear ca00 ca01 ca02 fa00 fa01 fa02 la0 cb00 cb01 cb02 fb00 fb01 fb02 lb0 cc00 cc01 cc02 fc00 fc01 fc02 lc0
  (first | (have hcall := whole_ai Hf.out.ai (by omega); refine Calls.mono hcall ?_; clear hcall) | refine Calls.mono (whole_ai Hf.out.ai (by omega)) ?_)
  rintro e w3 ⟨v3, rfl, hg, hb⟩
  obtain ⟨g_b, g_a, g_n, g_c, g_d, g_m, g_e, rfl⟩ := hg.litb
  have Ha := Lib.hid (AR.keep Ha.out (Keep.call hb))
  have Hb := Lib.hid (AR.keep Hb.out (Keep.call hb))
  have Xa0 := Lib.hid (Box.pcall hb Xa0.out)
  have Xb0 := Lib.hid (Box.pcall hb Xb0.out)
  have Xc0 := Lib.hid (Box.pcall hb Xc0.out)
  have HB := Lib.hid (below_call HB.out hb)
  have Hg := Lib.hid hg
  clear hb hg
  obtain ⟨ca00, ca01, ca02, fa00, fa01, fa02⟩ := Xa0.out.c3
  have la0 := Xa0.out.lt
  obtain ⟨cb00, cb01, cb02, fb00, fb01, fb02⟩ := Xb0.out.c3
  have lb0 := Xb0.out.lt
  obtain ⟨cc00, cc01, cc02, fc00, fc01, fc02⟩ := Xc0.out.c3
  have lc0 := Xc0.out.lt
  go_wp2_with fail
  clear ca00 ca01 ca02 fa00 fa01 fa02 la0 cb00 cb01 cb02 fb00 fb01 fb02 lb0 cc00 cc01 cc02 fc00 fc01 fc02 lc0
  obtain ⟨W4, hW⟩ : ∃ W4, W4 = (World.alloc w3 (.cells #[.bool g_b, .slice g_a g_n g_c, .slice g_d g_m g_e] 25)) := ⟨_, rfl⟩
  rw [← hW]
  obtain ⟨xd0, hk, hb⟩ := boxes_1 _ _ _ hW
  clear hW
  have Ha := Lib.hid (AR.keep Ha.out hk)
  have Hb := Lib.hid (AR.keep Hb.out hk)
  have Hg := Lib.hid (CR.keep Hg.out hk)
  have Na0d0 := Lib.hid (show w.heap.size ≠ w3.heap.size from Nat.ne_of_lt (Nat.lt_of_lt_of_le Xa0.out.lt (by omega)))
  have Nb0d0 := Lib.hid (show w.heap.size + 1 ≠ w3.heap.size from Nat.ne_of_lt (Nat.lt_of_lt_of_le Xb0.out.lt (by omega)))
  have Nc0d0 := Lib.hid (show w.heap.size + 1 + 1 ≠ w3.heap.size from Nat.ne_of_lt (Nat.lt_of_lt_of_le Xc0.out.lt (by omega)))
  have Gd0 := Lib.hid (show w.heap.size ≤ w3.heap.size from Nat.le_trans HB.out.size (by omega))
  have Xa0 := Lib.hid (Box.pcall hb Xa0.out)
  have Xb0 := Lib.hid (Box.pcall hb Xb0.out)
  have Xc0 := Lib.hid (Box.pcall hb Xc0.out)
  have Xd0 := Lib.hid xd0
  have HB := Lib.hid (below_call HB.out hb)
  clear hk hb xd0
  (first | (have hcall := rcmp_ar k Hg.out.ar Ha.out Hk.out (by omega) (by omega); refine Calls.mono hcall ?_; clear hcall) | refine Calls.mono (rcmp_ar k Hg.out.ar Ha.out Hk.out (by omega) (by omega)) ?_)
  rintro e w5 ⟨v5, rfl, rfl, hb⟩
  have Hb := Lib.hid (AR.keep Hb.out (Keep.call hb))
  have Hg := Lib.hid (CR.keep Hg.out (Keep.call hb))
  have Xa0 := Lib.hid (Box.pcall hb Xa0.out)
  have Xb0 := Lib.hid (Box.pcall hb Xb0.out)
  have Xc0 := Lib.hid (Box.pcall hb Xc0.out)
  have Xd0 := Lib.hid (Box.pcall hb Xd0.out)
  have HB := Lib.hid (below_call HB.out hb)
  clear hb
  have hk0 : (k == 0) = false := Hk0.out
  obtain ⟨ca00, ca01, ca02, fa00, fa01, fa02⟩ := Xa0.out.c3
  have la0 := Xa0.out.lt
  obtain ⟨cb00, cb01, cb02, fb00, fb01, fb02⟩ := Xb0.out.c3
  have lb0 := Xb0.out.lt
  obtain ⟨cc00, cc01, cc02, fc00, fc01, fc02⟩ := Xc0.out.c3
  have lc0 := Xc0.out.lt
  obtain ⟨cd00, cd01, cd02, fd00, fd01, fd02⟩ := Xd0.out.c3
  have ld0 := Xd0.out.lt
  go_wp2_with fail
  clear ca00 ca01 ca02 fa00 fa01 fa02 la0 cb00 cb01 cb02 fb00 fb01 fb02 lb0 cc00 cc01 cc02 fc00 fc01 fc02 lc0 cd00 cd01 cd02 fd00 fd01 fd02 ld0
  have Hb := Lib.hid (AR.keep Hb.out (Keep.drew w5))
  have Hg := Lib.hid (CR.keep Hg.out (Keep.drew w5))
  have Xa0 := Lib.hid (Box.drew Xa0.out)
  have Xb0 := Lib.hid (Box.drew Xb0.out)
  have Xc0 := Lib.hid (Box.drew Xc0.out)
  have Xd0 := Lib.hid (Box.drew Xd0.out)
  have HB := Lib.hid (Below.drew HB.out)
  refine wp_region_float [] [⟨3, 6, 25, #[.bool false, .slice none 0 0, .slice none 0 0]⟩] (by kernel_rfl) (by kernel_rfl) 56 (by kernel_rfl) (Flok.one (by kernel_rfl) (by kernel_rfl) (by kernel_rfl) (by intro w; go_simp)) ?_
  intro ok
  have Hok := Lib.hid ok
  clear ok
  have HG := Lib.hid (Below.refl (w5.drew).heap.size (w5.drew))
  refine good_pureX 0 (some 21) (Go.Op.load 25 (Go.Operand.tmp 5)) (none) (.agg #[.bool g_b, .slice g_a g_n g_c, .slice g_d g_m g_e]) (by kernel_rfl) (by kernel_rfl) (by kernel_rfl) (fun _ _ _ h => h) (fun w' hw' => ?_) ?_
  · obtain ⟨cd00, cd01, cd02, fd00, fd01, fd02⟩ := (Box.se hw' Xd0.out notin0).c3
    first | (go_simp; done) | (go_simp; simp_all; done) | (go_simp; rfl)
  simp only [Act.put, List.setIfInBounds_toArray, List.set_cons_zero, List.set_cons_succ]
  refine good_callX 1 40 (some 22) #[Go.Operand.const (Go.Value.int Go.IntKind.i64 1)] #[3] (none) #[.int .i64 1] (by kernel_rfl) Hok.out (by kernel_rfl) (by kernel_rfl) (by kernel_rfl) (by kernel_rfl) rfl rfl rfl (by kernel_rfl) (fun w6 hb => ?_)
  have HG := Lib.hid (below_call HG.out hb)
  clear hb
  refine Calls.mono (rof_one) ?_
  rintro e w7 ⟨v7, rfl, ho, hb⟩
  obtain ⟨o_b, o_a, o_n, o_c, o_d, o_m, o_e, rfl⟩ := ho.litb
  refine ⟨_, rfl, ?_, hb⟩
  have HG := Lib.hid (below_call HG.out hb)
  have Ho := Lib.hid ho
  clear hb ho
  simp only [Act.put, List.setIfInBounds_toArray, List.set_cons_zero, List.set_cons_succ]
  refine good_callX 2 14 (some 23) #[Go.Operand.tmp 21, Go.Operand.tmp 22] #[25, 25] (none) #[.agg #[.bool g_b, .slice g_a g_n g_c, .slice g_d g_m g_e], .agg #[.bool o_b, .slice o_a o_n o_c, .slice o_d o_m o_e]] (by kernel_rfl) Hok.out (by kernel_rfl) (by kernel_rfl) (by kernel_rfl) (by kernel_rfl) rfl rfl rfl (by kernel_rfl) (fun w8 hb => ?_)
  have Ho := Lib.hid (CR.keep Ho.out (Keep.call hb))
  have HG := Lib.hid (below_call HG.out hb)
  clear hb
  (first | (have hcall := radd_ar (CR.keep Hg.out (Keep.call HG.out)).ar Ho.out.ar (by omega) (by omega); refine Calls.mono hcall ?_; clear hcall) | refine Calls.mono (radd_ar (CR.keep Hg.out (Keep.call HG.out)).ar Ho.out.ar (by omega) (by omega)) ?_)
  rintro e w9 ⟨v9, rfl, hn, hb⟩
  obtain ⟨n_b, n_a, n_n, n_c, n_d, n_m, n_e, rfl⟩ := hn.litb
  refine ⟨_, rfl, ?_, hb⟩
  have HG := Lib.hid (below_call HG.out hb)
  have Hn := Lib.hid hn
  clear hb hn
  simp only [Act.put, List.setIfInBounds_toArray, List.set_cons_zero, List.set_cons_succ]
  refine good_end1 1 Hok.out (by kernel_rfl) (by kernel_rfl) (by kernel_rfl) (fun _ ge0 w10 hb ee0 xe0 => ?_)
  have Hn := Lib.hid (CR.keep Hn.out (Keep.call hb))
  have HG := Lib.hid (below_call HG.out hb)
  clear hb
  have Na0e0 := Lib.hid (show w.heap.size ≠ ge0 from Nat.ne_of_lt (Nat.lt_of_lt_of_le Xa0.out.lt ee0))
  have Nb0e0 := Lib.hid (show w.heap.size + 1 ≠ ge0 from Nat.ne_of_lt (Nat.lt_of_lt_of_le Xb0.out.lt ee0))
  have Nc0e0 := Lib.hid (show w.heap.size + 1 + 1 ≠ ge0 from Nat.ne_of_lt (Nat.lt_of_lt_of_le Xc0.out.lt ee0))
  have Nd0e0 := Lib.hid (show w3.heap.size ≠ ge0 from Nat.ne_of_lt (Nat.lt_of_lt_of_le Xd0.out.lt ee0))
  have Ge0 := Lib.hid (show w.heap.size ≤ ge0 from Nat.le_trans HB.out.size ee0)
  have Ee0 := Lib.hid ee0
  clear ee0
  have Hb := Lib.hid (AR.keep Hb.out (Keep.call HG.out))
  have Xa0 := Lib.hid (Box.pcall HG.out Xa0.out)
  have Xb0 := Lib.hid (Box.pcall HG.out Xb0.out)
  have Xc0 := Lib.hid (Box.pcall HG.out Xc0.out)
  have Xd0 := Lib.hid (Box.pcall HG.out Xd0.out)
  have HB := Lib.hid (below_call HB.out HG.out)
  have HS := Lib.hid (SE.of (E := []) HG.out)
  have Xe0 := Lib.hid xe0
  clear xe0
  simp only [Act.put, List.setIfInBounds_toArray, List.set_cons_zero, List.set_cons_succ]
  refine held_oneX 4 (Go.Op.store 25 (Go.Operand.tmp 6) (Go.Operand.tmp 23)) (none) (World.setCell (World.setCell (World.setCell w10 ⟨ge0, 0, none⟩ (.bool n_b)) ⟨ge0, 1, none⟩ (.slice n_a n_n n_c)) ⟨ge0, 2, none⟩ (.slice n_d n_m n_e)) (by kernel_rfl) (by kernel_rfl) (by kernel_rfl) (by kernel_rfl) ?_ (HS.out.store3 (.inr Ee0.out)) ?_
  · obtain ⟨ce00, ce01, ce02, fe00, fe01, fe02⟩ := Xe0.out.c3
    first | (go_simp; done) | (go_simp; simp_all; done) | (go_simp; rfl)
  obtain ⟨W11, hW⟩ : ∃ W11, W11 = (World.setCell (World.setCell (World.setCell w10 ⟨ge0, 0, none⟩ (.bool n_b)) ⟨ge0, 1, none⟩ (.slice n_a n_n n_c)) ⟨ge0, 2, none⟩ (.slice n_d n_m n_e)) := ⟨_, rfl⟩
  rw [← hW]
  obtain ⟨xe0, hk, hf, hbb, hz⟩ := stored3s hW Xe0.out (by first | exact NoInt.bool _ | exact NoInt.slice _ _ _) (by first | exact NoInt.bool _ | exact NoInt.slice _ _ _) (by first | exact NoInt.bool _ | exact NoInt.slice _ _ _)
  have Hb := Lib.hid (AR.keep Hb.out hk)
  have Hn := Lib.hid (CR.keep Hn.out hk)
  have Xa0 := Lib.hid (hf _ _ _ Xa0.out Na0e0.out)
  have Xb0 := Lib.hid (hf _ _ _ Xb0.out Nb0e0.out)
  have Xc0 := Lib.hid (hf _ _ _ Xc0.out Nc0e0.out)
  have Xd0 := Lib.hid (hf _ _ _ Xd0.out Nd0e0.out)
  have Xe0 := Lib.hid xe0
  have HB := Lib.hid (hbb _ HB.out Ge0.out)
  have HS := Lib.hid (show SE (w5.drew) [] W11 from by rw [hW]; exact HS.out.store3 (.inr Ee0.out))
  clear hW hk hf hbb xe0
  clear hz
  refine wpAnyH_done (by kernel_rfl) ?_ _
  clear HG HS Hok Ee0
  obtain ⟨ca00, ca01, ca02, fa00, fa01, fa02⟩ := Xa0.out.c3
  have la0 := Xa0.out.lt
  obtain ⟨cb00, cb01, cb02, fb00, fb01, fb02⟩ := Xb0.out.c3
  have lb0 := Xb0.out.lt
  obtain ⟨cc00, cc01, cc02, fc00, fc01, fc02⟩ := Xc0.out.c3
  have lc0 := Xc0.out.lt
  obtain ⟨cd00, cd01, cd02, fd00, fd01, fd02⟩ := Xd0.out.c3
  have ld0 := Xd0.out.lt
  obtain ⟨ce00, ce01, ce02, fe00, fe01, fe02⟩ := Xe0.out.c3
  have le0 := Xe0.out.lt
  go_wp2_with fail
  clear ca00 ca01 ca02 fa00 fa01 fa02 la0 cb00 cb01 cb02 fb00 fb01 fb02 lb0 cc00 cc01 cc02 fc00 fc01 fc02 lc0 cd00 cd01 cd02 fd00 fd01 fd02 ld0 ce00 ce01 ce02 fe00 fe01 fe02 le0
  (first | (have hcall := rcmp_ar m Hn.out.ar Hb.out Hm.out (by omega) (by omega); refine Calls.mono hcall ?_; clear hcall) | refine Calls.mono (rcmp_ar m Hn.out.ar Hb.out Hm.out (by omega) (by omega)) ?_)
  rintro e w12 ⟨v12, rfl, rfl, hb⟩
  have Hn := Lib.hid (CR.keep Hn.out (Keep.call hb))
  have Xa0 := Lib.hid (Box.pcall hb Xa0.out)
  have Xb0 := Lib.hid (Box.pcall hb Xb0.out)
  have Xc0 := Lib.hid (Box.pcall hb Xc0.out)
  have Xd0 := Lib.hid (Box.pcall hb Xd0.out)
  have Xe0 := Lib.hid (Box.pcall hb Xe0.out)
  have HB := Lib.hid (below_call HB.out hb)
  clear hb
  have hm0 : decide (m ≤ 0) = true := Hm0.out
  obtain ⟨ca00, ca01, ca02, fa00, fa01, fa02⟩ := Xa0.out.c3
  have la0 := Xa0.out.lt
  obtain ⟨cb00, cb01, cb02, fb00, fb01, fb02⟩ := Xb0.out.c3
  have lb0 := Xb0.out.lt
  obtain ⟨cc00, cc01, cc02, fc00, fc01, fc02⟩ := Xc0.out.c3
  have lc0 := Xc0.out.lt
  obtain ⟨cd00, cd01, cd02, fd00, fd01, fd02⟩ := Xd0.out.c3
  have ld0 := Xd0.out.lt
  obtain ⟨ce00, ce01, ce02, fe00, fe01, fe02⟩ := Xe0.out.c3
  have le0 := Xe0.out.lt
  go_wp2
  clear ca00 ca01 ca02 fa00 fa01 fa02 la0 cb00 cb01 cb02 fb00 fb01 fb02 lb0 cc00 cc01 cc02 fc00 fc01 fc02 lc0 cd00 cd01 cd02 fd00 fd01 fd02 ld0 ce00 ce01 ce02 fe00 fe01 fe02 le0
  obtain ⟨W13, hW⟩ : ∃ W13, W13 = (World.setCell (World.setCell (World.setCell w12 ⟨w.heap.size + 1 + 1, 0, none⟩ (.bool n_b)) ⟨w.heap.size + 1 + 1, 1, none⟩ (.slice n_a n_n n_c)) ⟨w.heap.size + 1 + 1, 2, none⟩ (.slice n_d n_m n_e)) := ⟨_, rfl⟩
  rw [← hW]
  obtain ⟨xc0, hk, hf, hbb, hz⟩ := stored3s hW Xc0.out (by first | exact NoInt.bool _ | exact NoInt.slice _ _ _) (by first | exact NoInt.bool _ | exact NoInt.slice _ _ _) (by first | exact NoInt.bool _ | exact NoInt.slice _ _ _)
  have Hn := Lib.hid (CR.keep Hn.out hk)
  have Xa0 := Lib.hid (hf _ _ _ Xa0.out (by omega))
  have Xb0 := Lib.hid (hf _ _ _ Xb0.out (by omega))
  have Xc0 := Lib.hid xc0
  have Xd0 := Lib.hid (hf _ _ _ Xd0.out Nc0d0.out.symm)
  have Xe0 := Lib.hid (hf _ _ _ Xe0.out Nc0e0.out.symm)
  have HB := Lib.hid (hbb _ HB.out Gc0.out)
  clear hW hk hf hbb xc0
  clear hz
  exact ret_rat1 rfl rfl rfl Xc0.out (CR.mono Hn.out (by omega)) HB.out


set_option maxRecDepth 100000 in
set_option maxHeartbeats 4000000 in
theorem des_3 {L : Nat} {qa : Rat} {ba : Bool} {sa ta : Value} {qb : Rat} {bb : Bool} {sb tb : Value} {w : World} {r : Rat} (k m : Int) (hk : cmpQ (qa.floor : Rat) qa = k) (hk0 : (k == 0) = false) (hm : cmpQ ((qa.floor : Rat) + 1) qb = m) (hm0 : decide (m ≤ 0) = false) (hn1 : qb - (qa.floor : Rat) ≠ 0) (hn2 : qa - (qa.floor : Rat) ≠ 0) (hn3 : r ≠ 0) (hs1 : Sm L (1 / (qb - (qa.floor : Rat)))) (hs2 : Sm L (1 / (qa - (qa.floor : Rat)))) (hrec : ∀ (w : World) (u v : Value), AR (1 / (qb - (qa.floor : Rat))) L w u → AR (1 / (qa - (qa.floor : Rat))) L w v → Calls Try.prog 67 #[u, v] w (Ret w (CR r L))) (ha : AR qa L w (.agg #[.bool ba, sa, ta])) (hb : AR qb L w (.agg #[.bool bb, sb, tb])) (hL : L ≤ 10000) :
    Calls Try.prog 67 #[.agg #[.bool ba, sa, ta], .agg #[.bool bb, sb, tb]] w (Ret w (CR ((qa.floor : Rat) + 1 / r) (L + L + 10))) := by
  have Ha := Lib.hid ha
  have Hb := Lib.hid hb
  have Hk := Lib.hid hk
  have Hk0 := Lib.hid hk0
  have Hm := Lib.hid hm
  have Hm0 := Lib.hid hm0
  have Hn1 := Lib.hid hn1
  have Hn2 := Lib.hid hn2
  have Hn3 := Lib.hid hn3
  have Hs1 := Lib.hid hs1
  have Hs2 := Lib.hid hs2
  have Hrec := Lib.hid hrec
  clear ha hb hk hk0 hm hm0 hn1 hn2 hn3 hs1 hs2 hrec
  go_enter Try.func67, Try.ntmps67
  have HB := Lib.hid (Below.refl w.heap.size w)
  go_wp2_with fail
  obtain ⟨W1, hW⟩ : ∃ W1, W1 = (World.alloc (World.alloc (World.alloc w (.cells #[.bool ba, sa, ta] 25)) (.cells #[.bool bb, sb, tb] 25)) (.cells #[.bool false, .slice none 0 0, .slice none 0 0] 25)) := ⟨_, rfl⟩
  rw [← hW]
  obtain ⟨xa0, xb0, xc0, hk, hb⟩ := boxes_3 _ _ _ _ _ _ _ hW
  clear hW
  have Ha := Lib.hid (AR.keep Ha.out hk)
  have Hb := Lib.hid (AR.keep Hb.out hk)
  have Ga0 := Lib.hid (show w.heap.size ≤ w.heap.size from Nat.le_trans HB.out.size (by omega))
  have Gb0 := Lib.hid (show w.heap.size ≤ w.heap.size + 1 from Nat.le_trans HB.out.size (by omega))
  have Gc0 := Lib.hid (show w.heap.size ≤ w.heap.size + 1 + 1 from Nat.le_trans HB.out.size (by omega))
  have Xa0 := Lib.hid xa0
  have Xb0 := Lib.hid xb0
  have Xc0 := Lib.hid xc0
  have HB := Lib.hid (below_call HB.out hb)
  clear hk hb xa0 xb0 xc0
  (first | (have hcall := rfloor_ar Ha.out (by omega); refine Calls.mono hcall ?_; clear hcall) | refine Calls.mono (rfloor_ar Ha.out (by omega)) ?_)
  rintro e w2 ⟨v2, rfl, hf, hb⟩
  obtain ⟨f_b, f_a, f_n, f_c, rfl⟩ := hf.litb
  have Ha := Lib.hid (AR.keep Ha.out (Keep.call hb))
  have Hb := Lib.hid (AR.keep Hb.out (Keep.call hb))
  have Xa0 := Lib.hid (Box.pcall hb Xa0.out)
  have Xb0 := Lib.hid (Box.pcall hb Xb0.out)
  have Xc0 := Lib.hid (Box.pcall hb Xc0.out)
  have HB := Lib.hid (below_call HB.out hb)
  have Hf := Lib.hid hf
  clear hb hf
  obtain ⟨ca00, ca01, ca02, fa00, fa01, fa02⟩ := Xa0.out.c3
  have la0 := Xa0.out.lt
  obtain ⟨cb00, cb01, cb02, fb00, fb01, fb02⟩ := Xb0.out.c3
  have lb0 := Xb0.out.lt
  obtain ⟨cc00, cc01, cc02, fc00, fc01, fc02⟩ := Xc0.out.c3
  have lc0 := Xc0.out.lt
  go_wp2_with fail
  clear ca00 ca01 ca02 fa00 fa01 fa02 la0 cb00 cb01 cb02 fb00 fb01 fb02 lb0 cc00 cc01 cc02 fc00 fc01 fc02 lc0
  (first | (have hcall := whole_ai Hf.out.ai (by omega); refine Calls.mono hcall ?_; clear hcall) | refine Calls.mono (whole_ai Hf.out.ai (by omega)) ?_)
  rintro e w3 ⟨v3, rfl, hg, hb⟩
  obtain ⟨g_b, g_a, g_n, g_c, g_d, g_m, g_e, rfl⟩ := hg.litb
  have Ha := Lib.hid (AR.keep Ha.out (Keep.call hb))
  have Hb := Lib.hid (AR.keep Hb.out (Keep.call hb))
  have Xa0 := Lib.hid (Box.pcall hb Xa0.out)
  have Xb0 := Lib.hid (Box.pcall hb Xb0.out)
  have Xc0 := Lib.hid (Box.pcall hb Xc0.out)
  have HB := Lib.hid (below_call HB.out hb)
  have Hg := Lib.hid hg
  clear hb hg
  obtain ⟨ca00, ca01, ca02, fa00, fa01, fa02⟩ := Xa0.out.c3
  have la0 := Xa0.out.lt
  obtain ⟨cb00, cb01, cb02, fb00, fb01, fb02⟩ := Xb0.out.c3
  have lb0 := Xb0.out.lt
  obtain ⟨cc00, cc01, cc02, fc00, fc01, fc02⟩ := Xc0.out.c3
  have lc0 := Xc0.out.lt
  go_wp2_with fail
  clear ca00 ca01 ca02 fa00 fa01 fa02 la0 cb00 cb01 cb02 fb00 fb01 fb02 lb0 cc00 cc01 cc02 fc00 fc01 fc02 lc0
  obtain ⟨W4, hW⟩ : ∃ W4, W4 = (World.alloc w3 (.cells #[.bool g_b, .slice g_a g_n g_c, .slice g_d g_m g_e] 25)) := ⟨_, rfl⟩
  rw [← hW]
  obtain ⟨xd0, hk, hb⟩ := boxes_1 _ _ _ hW
  clear hW
  have Ha := Lib.hid (AR.keep Ha.out hk)
  have Hb := Lib.hid (AR.keep Hb.out hk)
  have Hg := Lib.hid (CR.keep Hg.out hk)
  have Na0d0 := Lib.hid (show w.heap.size ≠ w3.heap.size from Nat.ne_of_lt (Nat.lt_of_lt_of_le Xa0.out.lt (by omega)))
  have Nb0d0 := Lib.hid (show w.heap.size + 1 ≠ w3.heap.size from Nat.ne_of_lt (Nat.lt_of_lt_of_le Xb0.out.lt (by omega)))
  have Nc0d0 := Lib.hid (show w.heap.size + 1 + 1 ≠ w3.heap.size from Nat.ne_of_lt (Nat.lt_of_lt_of_le Xc0.out.lt (by omega)))
  have Gd0 := Lib.hid (show w.heap.size ≤ w3.heap.size from Nat.le_trans HB.out.size (by omega))
  have Xa0 := Lib.hid (Box.pcall hb Xa0.out)
  have Xb0 := Lib.hid (Box.pcall hb Xb0.out)
  have Xc0 := Lib.hid (Box.pcall hb Xc0.out)
  have Xd0 := Lib.hid xd0
  have HB := Lib.hid (below_call HB.out hb)
  clear hk hb xd0
  (first | (have hcall := rcmp_ar k Hg.out.ar Ha.out Hk.out (by omega) (by omega); refine Calls.mono hcall ?_; clear hcall) | refine Calls.mono (rcmp_ar k Hg.out.ar Ha.out Hk.out (by omega) (by omega)) ?_)
  rintro e w5 ⟨v5, rfl, rfl, hb⟩
  have Ha := Lib.hid (AR.keep Ha.out (Keep.call hb))
  have Hb := Lib.hid (AR.keep Hb.out (Keep.call hb))
  have Hg := Lib.hid (CR.keep Hg.out (Keep.call hb))
  have Xa0 := Lib.hid (Box.pcall hb Xa0.out)
  have Xb0 := Lib.hid (Box.pcall hb Xb0.out)
  have Xc0 := Lib.hid (Box.pcall hb Xc0.out)
  have Xd0 := Lib.hid (Box.pcall hb Xd0.out)
  have HB := Lib.hid (below_call HB.out hb)
  clear hb
  have hk0 : (k == 0) = false := Hk0.out
  obtain ⟨ca00, ca01, ca02, fa00, fa01, fa02⟩ := Xa0.out.c3
  have la0 := Xa0.out.lt
  obtain ⟨cb00, cb01, cb02, fb00, fb01, fb02⟩ := Xb0.out.c3
  have lb0 := Xb0.out.lt
  obtain ⟨cc00, cc01, cc02, fc00, fc01, fc02⟩ := Xc0.out.c3
  have lc0 := Xc0.out.lt
  obtain ⟨cd00, cd01, cd02, fd00, fd01, fd02⟩ := Xd0.out.c3
  have ld0 := Xd0.out.lt
  go_wp2_with fail
  clear ca00 ca01 ca02 fa00 fa01 fa02 la0 cb00 cb01 cb02 fb00 fb01 fb02 lb0 cc00 cc01 cc02 fc00 fc01 fc02 lc0 cd00 cd01 cd02 fd00 fd01 fd02 ld0
  have Ha := Lib.hid (AR.keep Ha.out (Keep.drew w5))
  have Hb := Lib.hid (AR.keep Hb.out (Keep.drew w5))
  have Hg := Lib.hid (CR.keep Hg.out (Keep.drew w5))
  have Xa0 := Lib.hid (Box.drew Xa0.out)
  have Xb0 := Lib.hid (Box.drew Xb0.out)
  have Xc0 := Lib.hid (Box.drew Xc0.out)
  have Xd0 := Lib.hid (Box.drew Xd0.out)
  have HB := Lib.hid (Below.drew HB.out)
  refine wp_region_float [] [⟨3, 6, 25, #[.bool false, .slice none 0 0, .slice none 0 0]⟩] (by kernel_rfl) (by kernel_rfl) 56 (by kernel_rfl) (Flok.one (by kernel_rfl) (by kernel_rfl) (by kernel_rfl) (by intro w; go_simp)) ?_
  intro ok
  have Hok := Lib.hid ok
  clear ok
  have HG := Lib.hid (Below.refl (w5.drew).heap.size (w5.drew))
  refine good_pureX 0 (some 21) (Go.Op.load 25 (Go.Operand.tmp 5)) (none) (.agg #[.bool g_b, .slice g_a g_n g_c, .slice g_d g_m g_e]) (by kernel_rfl) (by kernel_rfl) (by kernel_rfl) (fun _ _ _ h => h) (fun w' hw' => ?_) ?_
  · obtain ⟨cd00, cd01, cd02, fd00, fd01, fd02⟩ := (Box.se hw' Xd0.out notin0).c3
    first | (go_simp; done) | (go_simp; simp_all; done) | (go_simp; rfl)
  simp only [Act.put, List.setIfInBounds_toArray, List.set_cons_zero, List.set_cons_succ]
  refine good_callX 1 40 (some 22) #[Go.Operand.const (Go.Value.int Go.IntKind.i64 1)] #[3] (none) #[.int .i64 1] (by kernel_rfl) Hok.out (by kernel_rfl) (by kernel_rfl) (by kernel_rfl) (by kernel_rfl) rfl rfl rfl (by kernel_rfl) (fun w6 hb => ?_)
  have HG := Lib.hid (below_call HG.out hb)
  clear hb
  refine Calls.mono (rof_one) ?_
  rintro e w7 ⟨v7, rfl, ho, hb⟩
  obtain ⟨o_b, o_a, o_n, o_c, o_d, o_m, o_e, rfl⟩ := ho.litb
  refine ⟨_, rfl, ?_, hb⟩
  have HG := Lib.hid (below_call HG.out hb)
  have Ho := Lib.hid ho
  clear hb ho
  simp only [Act.put, List.setIfInBounds_toArray, List.set_cons_zero, List.set_cons_succ]
  refine good_callX 2 14 (some 23) #[Go.Operand.tmp 21, Go.Operand.tmp 22] #[25, 25] (none) #[.agg #[.bool g_b, .slice g_a g_n g_c, .slice g_d g_m g_e], .agg #[.bool o_b, .slice o_a o_n o_c, .slice o_d o_m o_e]] (by kernel_rfl) Hok.out (by kernel_rfl) (by kernel_rfl) (by kernel_rfl) (by kernel_rfl) rfl rfl rfl (by kernel_rfl) (fun w8 hb => ?_)
  have Ho := Lib.hid (CR.keep Ho.out (Keep.call hb))
  have HG := Lib.hid (below_call HG.out hb)
  clear hb
  (first | (have hcall := radd_ar (CR.keep Hg.out (Keep.call HG.out)).ar Ho.out.ar (by omega) (by omega); refine Calls.mono hcall ?_; clear hcall) | refine Calls.mono (radd_ar (CR.keep Hg.out (Keep.call HG.out)).ar Ho.out.ar (by omega) (by omega)) ?_)
  rintro e w9 ⟨v9, rfl, hn, hb⟩
  obtain ⟨n_b, n_a, n_n, n_c, n_d, n_m, n_e, rfl⟩ := hn.litb
  refine ⟨_, rfl, ?_, hb⟩
  have HG := Lib.hid (below_call HG.out hb)
  have Hn := Lib.hid hn
  clear hb hn
  simp only [Act.put, List.setIfInBounds_toArray, List.set_cons_zero, List.set_cons_succ]
  refine good_end1 1 Hok.out (by kernel_rfl) (by kernel_rfl) (by kernel_rfl) (fun _ ge0 w10 hb ee0 xe0 => ?_)
  have Hn := Lib.hid (CR.keep Hn.out (Keep.call hb))
  have HG := Lib.hid (below_call HG.out hb)
  clear hb
  have Na0e0 := Lib.hid (show w.heap.size ≠ ge0 from Nat.ne_of_lt (Nat.lt_of_lt_of_le Xa0.out.lt ee0))
  have Nb0e0 := Lib.hid (show w.heap.size + 1 ≠ ge0 from Nat.ne_of_lt (Nat.lt_of_lt_of_le Xb0.out.lt ee0))
  have Nc0e0 := Lib.hid (show w.heap.size + 1 + 1 ≠ ge0 from Nat.ne_of_lt (Nat.lt_of_lt_of_le Xc0.out.lt ee0))
  have Nd0e0 := Lib.hid (show w3.heap.size ≠ ge0 from Nat.ne_of_lt (Nat.lt_of_lt_of_le Xd0.out.lt ee0))
  have Ge0 := Lib.hid (show w.heap.size ≤ ge0 from Nat.le_trans HB.out.size ee0)
  have Ee0 := Lib.hid ee0
  clear ee0
  have Ha := Lib.hid (AR.keep Ha.out (Keep.call HG.out))
  have Hb := Lib.hid (AR.keep Hb.out (Keep.call HG.out))
  have Hg := Lib.hid (CR.keep Hg.out (Keep.call HG.out))
  have Xa0 := Lib.hid (Box.pcall HG.out Xa0.out)
  have Xb0 := Lib.hid (Box.pcall HG.out Xb0.out)
  have Xc0 := Lib.hid (Box.pcall HG.out Xc0.out)
  have Xd0 := Lib.hid (Box.pcall HG.out Xd0.out)
  have HB := Lib.hid (below_call HB.out HG.out)
  have HS := Lib.hid (SE.of (E := []) HG.out)
  have Xe0 := Lib.hid xe0
  clear xe0
  simp only [Act.put, List.setIfInBounds_toArray, List.set_cons_zero, List.set_cons_succ]
  refine held_oneX 4 (Go.Op.store 25 (Go.Operand.tmp 6) (Go.Operand.tmp 23)) (none) (World.setCell (World.setCell (World.setCell w10 ⟨ge0, 0, none⟩ (.bool n_b)) ⟨ge0, 1, none⟩ (.slice n_a n_n n_c)) ⟨ge0, 2, none⟩ (.slice n_d n_m n_e)) (by kernel_rfl) (by kernel_rfl) (by kernel_rfl) (by kernel_rfl) ?_ (HS.out.store3 (.inr Ee0.out)) ?_
  · obtain ⟨ce00, ce01, ce02, fe00, fe01, fe02⟩ := Xe0.out.c3
    first | (go_simp; done) | (go_simp; simp_all; done) | (go_simp; rfl)
  obtain ⟨W11, hW⟩ : ∃ W11, W11 = (World.setCell (World.setCell (World.setCell w10 ⟨ge0, 0, none⟩ (.bool n_b)) ⟨ge0, 1, none⟩ (.slice n_a n_n n_c)) ⟨ge0, 2, none⟩ (.slice n_d n_m n_e)) := ⟨_, rfl⟩
  rw [← hW]
  obtain ⟨xe0, hk, hf, hbb, hz⟩ := stored3s hW Xe0.out (by first | exact NoInt.bool _ | exact NoInt.slice _ _ _) (by first | exact NoInt.bool _ | exact NoInt.slice _ _ _) (by first | exact NoInt.bool _ | exact NoInt.slice _ _ _)
  have Ha := Lib.hid (AR.keep Ha.out hk)
  have Hb := Lib.hid (AR.keep Hb.out hk)
  have Hg := Lib.hid (CR.keep Hg.out hk)
  have Hn := Lib.hid (CR.keep Hn.out hk)
  have Xa0 := Lib.hid (hf _ _ _ Xa0.out Na0e0.out)
  have Xb0 := Lib.hid (hf _ _ _ Xb0.out Nb0e0.out)
  have Xc0 := Lib.hid (hf _ _ _ Xc0.out Nc0e0.out)
  have Xd0 := Lib.hid (hf _ _ _ Xd0.out Nd0e0.out)
  have Xe0 := Lib.hid xe0
  have HB := Lib.hid (hbb _ HB.out Ge0.out)
  have HS := Lib.hid (show SE (w5.drew) [] W11 from by rw [hW]; exact HS.out.store3 (.inr Ee0.out))
  clear hW hk hf hbb xe0
  clear hz
  refine wpAnyH_done (by kernel_rfl) ?_ _
  clear HG HS Hok Ee0
  obtain ⟨ca00, ca01, ca02, fa00, fa01, fa02⟩ := Xa0.out.c3
  have la0 := Xa0.out.lt
  obtain ⟨cb00, cb01, cb02, fb00, fb01, fb02⟩ := Xb0.out.c3
  have lb0 := Xb0.out.lt
  obtain ⟨cc00, cc01, cc02, fc00, fc01, fc02⟩ := Xc0.out.c3
  have lc0 := Xc0.out.lt
  obtain ⟨cd00, cd01, cd02, fd00, fd01, fd02⟩ := Xd0.out.c3
  have ld0 := Xd0.out.lt
  obtain ⟨ce00, ce01, ce02, fe00, fe01, fe02⟩ := Xe0.out.c3
  have le0 := Xe0.out.lt
  go_wp2_with fail
  clear ca00 ca01 ca02 fa00 fa01 fa02 la0 cb00 cb01 cb02 fb00 fb01 fb02 lb0 cc00 cc01 cc02 fc00 fc01 fc02 lc0 cd00 cd01 cd02 fd00 fd01 fd02 ld0 ce00 ce01 ce02 fe00 fe01 fe02 le0
  (first | (have hcall := rcmp_ar m Hn.out.ar Hb.out Hm.out (by omega) (by omega); refine Calls.mono hcall ?_; clear hcall) | refine Calls.mono (rcmp_ar m Hn.out.ar Hb.out Hm.out (by omega) (by omega)) ?_)
  rintro e w12 ⟨v12, rfl, rfl, hb⟩
  have Ha := Lib.hid (AR.keep Ha.out (Keep.call hb))
  have Hb := Lib.hid (AR.keep Hb.out (Keep.call hb))
  have Hg := Lib.hid (CR.keep Hg.out (Keep.call hb))
  have Xa0 := Lib.hid (Box.pcall hb Xa0.out)
  have Xb0 := Lib.hid (Box.pcall hb Xb0.out)
  have Xc0 := Lib.hid (Box.pcall hb Xc0.out)
  have Xd0 := Lib.hid (Box.pcall hb Xd0.out)
  have Xe0 := Lib.hid (Box.pcall hb Xe0.out)
  have HB := Lib.hid (below_call HB.out hb)
  clear hb
  have hm0 : decide (m ≤ 0) = false := Hm0.out
  obtain ⟨ca00, ca01, ca02, fa00, fa01, fa02⟩ := Xa0.out.c3
  have la0 := Xa0.out.lt
  obtain ⟨cb00, cb01, cb02, fb00, fb01, fb02⟩ := Xb0.out.c3
  have lb0 := Xb0.out.lt
  obtain ⟨cc00, cc01, cc02, fc00, fc01, fc02⟩ := Xc0.out.c3
  have lc0 := Xc0.out.lt
  obtain ⟨cd00, cd01, cd02, fd00, fd01, fd02⟩ := Xd0.out.c3
  have ld0 := Xd0.out.lt
  obtain ⟨ce00, ce01, ce02, fe00, fe01, fe02⟩ := Xe0.out.c3
  have le0 := Xe0.out.lt
  go_wp2_with fail
  clear ca00 ca01 ca02 fa00 fa01 fa02 la0 cb00 cb01 cb02 fb00 fb01 fb02 lb0 cc00 cc01 cc02 fc00 fc01 fc02 lc0 cd00 cd01 cd02 fd00 fd01 fd02 ld0 ce00 ce01 ce02 fe00 fe01 fe02 le0
  have Ha := Lib.hid (AR.keep Ha.out (Keep.drew w12))
  have Hb := Lib.hid (AR.keep Hb.out (Keep.drew w12))
  have Hg := Lib.hid (CR.keep Hg.out (Keep.drew w12))
  have Xa0 := Lib.hid (Box.drew Xa0.out)
  have Xb0 := Lib.hid (Box.drew Xb0.out)
  have Xc0 := Lib.hid (Box.drew Xc0.out)
  have Xd0 := Lib.hid (Box.drew Xd0.out)
  have Xe0 := Lib.hid (Box.drew Xe0.out)
  have HB := Lib.hid (Below.drew HB.out)
  refine wp_region_float [] [⟨8, 7, 25, #[.bool false, .slice none 0 0, .slice none 0 0]⟩] (by kernel_rfl) (by kernel_rfl) 56 (by kernel_rfl) (Flok.one (by kernel_rfl) (by kernel_rfl) (by kernel_rfl) (by intro w; go_simp)) ?_
  intro ok
  have Hok := Lib.hid ok
  clear ok
  have HG := Lib.hid (Below.refl (w12.drew).heap.size (w12.drew))
  refine good_pureX 1 (some 31) (Go.Op.load 25 (Go.Operand.tmp 3)) (none) (.agg #[.bool bb, sb, tb]) (by kernel_rfl) (by kernel_rfl) (by kernel_rfl) (fun _ _ _ h => h) (fun w' hw' => ?_) ?_
  · obtain ⟨cb00, cb01, cb02, fb00, fb01, fb02⟩ := (Box.se hw' Xb0.out notin0).c3
    first | (go_simp; done) | (go_simp; simp_all; done) | (go_simp; rfl)
  simp only [Act.put, List.setIfInBounds_toArray, List.set_cons_zero, List.set_cons_succ]
  refine good_pureX 2 (some 32) (Go.Op.load 25 (Go.Operand.tmp 5)) (none) (.agg #[.bool g_b, .slice g_a g_n g_c, .slice g_d g_m g_e]) (by kernel_rfl) (by kernel_rfl) (by kernel_rfl) (fun _ _ _ h => h) (fun w' hw' => ?_) ?_
  · obtain ⟨cd00, cd01, cd02, fd00, fd01, fd02⟩ := (Box.se hw' Xd0.out notin0).c3
    first | (go_simp; done) | (go_simp; simp_all; done) | (go_simp; rfl)
  simp only [Act.put, List.setIfInBounds_toArray, List.set_cons_zero, List.set_cons_succ]
  refine good_callX 0 40 (some 30) #[Go.Operand.const (Go.Value.int Go.IntKind.i64 1)] #[3] (none) #[.int .i64 1] (by kernel_rfl) Hok.out (by kernel_rfl) (by kernel_rfl) (by kernel_rfl) (by kernel_rfl) rfl rfl rfl (by kernel_rfl) (fun w13 hb => ?_)
  have HG := Lib.hid (below_call HG.out hb)
  clear hb
  refine Calls.mono (rof_one) ?_
  rintro e w14 ⟨v14, rfl, ho1, hb⟩
  obtain ⟨o1_b, o1_a, o1_n, o1_c, o1_d, o1_m, o1_e, rfl⟩ := ho1.litb
  refine ⟨_, rfl, ?_, hb⟩
  have HG := Lib.hid (below_call HG.out hb)
  have Ho1 := Lib.hid ho1
  clear hb ho1
  simp only [Act.put, List.setIfInBounds_toArray, List.set_cons_zero, List.set_cons_succ]
  refine good_callX 3 17 (some 33) #[Go.Operand.tmp 31, Go.Operand.tmp 32] #[25, 25] (none) #[.agg #[.bool bb, sb, tb], .agg #[.bool g_b, .slice g_a g_n g_c, .slice g_d g_m g_e]] (by kernel_rfl) Hok.out (by kernel_rfl) (by kernel_rfl) (by kernel_rfl) (by kernel_rfl) rfl rfl rfl (by kernel_rfl) (fun w15 hb => ?_)
  have Ho1 := Lib.hid (CR.keep Ho1.out (Keep.call hb))
  have HG := Lib.hid (below_call HG.out hb)
  clear hb
  (first | (have hcall := rsub_ar (AR.keep Hb.out (Keep.call HG.out)) (CR.keep Hg.out (Keep.call HG.out)).ar (by omega) (by omega); refine Calls.mono hcall ?_; clear hcall) | refine Calls.mono (rsub_ar (AR.keep Hb.out (Keep.call HG.out)) (CR.keep Hg.out (Keep.call HG.out)).ar (by omega) (by omega)) ?_)
  rintro e w16 ⟨v16, rfl, hd1, hb⟩
  obtain ⟨d1_b, d1_a, d1_n, d1_c, d1_d, d1_m, d1_e, rfl⟩ := hd1.litb
  refine ⟨_, rfl, ?_, hb⟩
  have Ho1 := Lib.hid (CR.keep Ho1.out (Keep.call hb))
  have HG := Lib.hid (below_call HG.out hb)
  have Hd1 := Lib.hid hd1
  clear hb hd1
  simp only [Act.put, List.setIfInBounds_toArray, List.set_cons_zero, List.set_cons_succ]
  refine good_callX 4 35 (some 34) #[Go.Operand.tmp 30, Go.Operand.tmp 33] #[25, 25] (none) #[.agg #[.bool o1_b, .slice o1_a o1_n o1_c, .slice o1_d o1_m o1_e], .agg #[.bool d1_b, .slice d1_a d1_n d1_c, .slice d1_d d1_m d1_e]] (by kernel_rfl) Hok.out (by kernel_rfl) (by kernel_rfl) (by kernel_rfl) (by kernel_rfl) rfl rfl rfl (by kernel_rfl) (fun w17 hb => ?_)
  have Ho1 := Lib.hid (CR.keep Ho1.out (Keep.call hb))
  have Hd1 := Lib.hid (CR.keep Hd1.out (Keep.call hb))
  have HG := Lib.hid (below_call HG.out hb)
  clear hb
  (first | (have hcall := rdiv_ar Hn1.out Ho1.out.ar Hd1.out.ar (by omega) (by omega); refine Calls.mono hcall ?_; clear hcall) | refine Calls.mono (rdiv_ar Hn1.out Ho1.out.ar Hd1.out.ar (by omega) (by omega)) ?_)
  rintro e w18 ⟨t18, rfl, ⟨v18, rfl, hq1⟩, hb⟩
  obtain ⟨q1_b, q1_a, q1_n, q1_c, q1_d, q1_m, q1_e, rfl⟩ := hq1.litb
  refine ⟨_, rfl, ?_, hb⟩
  have HG := Lib.hid (below_call HG.out hb)
  have Hq1 := Lib.hid hq1
  clear hb hq1
  simp only [Act.put, List.setIfInBounds_toArray, List.set_cons_zero, List.set_cons_succ]
  refine good_pureX 5 (some 29) (Go.Op.move (Go.Operand.tmp 34)) (none) (.tuple #[.agg #[.bool q1_b, .slice q1_a q1_n q1_c, .slice q1_d q1_m q1_e], .int .i64 0]) (by kernel_rfl) (by kernel_rfl) (by kernel_rfl) (fun _ _ _ h => h) (fun w' hw' => ?_) ?_
  · first | (go_simp; done) | (go_simp; simp_all; done) | (go_simp; rfl)
  simp only [Act.put, List.setIfInBounds_toArray, List.set_cons_zero, List.set_cons_succ]
  refine good_pureX 6 (some 35) (Go.Op.extract (Go.Operand.tmp 29) 0) (none) (.agg #[.bool q1_b, .slice q1_a q1_n q1_c, .slice q1_d q1_m q1_e]) (by kernel_rfl) (by kernel_rfl) (by kernel_rfl) (fun _ _ _ h => h) (fun w' hw' => ?_) ?_
  · first | (go_simp; done) | (go_simp; simp_all; done) | (go_simp; rfl)
  simp only [Act.put, List.setIfInBounds_toArray, List.set_cons_zero, List.set_cons_succ]
  refine good_pureX 7 (some 36) (Go.Op.extract (Go.Operand.tmp 29) 1) (none) (.int .i64 0) (by kernel_rfl) (by kernel_rfl) (by kernel_rfl) (fun _ _ _ h => h) (fun w' hw' => ?_) ?_
  · first | (go_simp; done) | (go_simp; simp_all; done) | (go_simp; rfl)
  simp only [Act.put, List.setIfInBounds_toArray, List.set_cons_zero, List.set_cons_succ]
  refine good_end1 2 Hok.out (by kernel_rfl) (by kernel_rfl) (by kernel_rfl) (fun _ gf0 w19 hb ef0 xf0 => ?_)
  have Hq1 := Lib.hid (CR.keep Hq1.out (Keep.call hb))
  have HG := Lib.hid (below_call HG.out hb)
  clear hb
  have Na0f0 := Lib.hid (show w.heap.size ≠ gf0 from Nat.ne_of_lt (Nat.lt_of_lt_of_le Xa0.out.lt ef0))
  have Nb0f0 := Lib.hid (show w.heap.size + 1 ≠ gf0 from Nat.ne_of_lt (Nat.lt_of_lt_of_le Xb0.out.lt ef0))
  have Nc0f0 := Lib.hid (show w.heap.size + 1 + 1 ≠ gf0 from Nat.ne_of_lt (Nat.lt_of_lt_of_le Xc0.out.lt ef0))
  have Nd0f0 := Lib.hid (show w3.heap.size ≠ gf0 from Nat.ne_of_lt (Nat.lt_of_lt_of_le Xd0.out.lt ef0))
  have Ne0f0 := Lib.hid (show ge0 ≠ gf0 from Nat.ne_of_lt (Nat.lt_of_lt_of_le Xe0.out.lt ef0))
  have Gf0 := Lib.hid (show w.heap.size ≤ gf0 from Nat.le_trans HB.out.size ef0)
  have Ef0 := Lib.hid ef0
  clear ef0
  have Ha := Lib.hid (AR.keep Ha.out (Keep.call HG.out))
  have Hg := Lib.hid (CR.keep Hg.out (Keep.call HG.out))
  have Xa0 := Lib.hid (Box.pcall HG.out Xa0.out)
  have Xb0 := Lib.hid (Box.pcall HG.out Xb0.out)
  have Xc0 := Lib.hid (Box.pcall HG.out Xc0.out)
  have Xd0 := Lib.hid (Box.pcall HG.out Xd0.out)
  have Xe0 := Lib.hid (Box.pcall HG.out Xe0.out)
  have HB := Lib.hid (below_call HB.out HG.out)
  have HS := Lib.hid (SE.of (E := []) HG.out)
  have Xf0 := Lib.hid xf0
  clear xf0
  simp only [Act.put, List.setIfInBounds_toArray, List.set_cons_zero, List.set_cons_succ]
  refine held_oneX 9 (Go.Op.store 25 (Go.Operand.tmp 7) (Go.Operand.tmp 35)) (none) (World.setCell (World.setCell (World.setCell w19 ⟨gf0, 0, none⟩ (.bool q1_b)) ⟨gf0, 1, none⟩ (.slice q1_a q1_n q1_c)) ⟨gf0, 2, none⟩ (.slice q1_d q1_m q1_e)) (by kernel_rfl) (by kernel_rfl) (by kernel_rfl) (by kernel_rfl) ?_ (HS.out.store3 (.inr Ef0.out)) ?_
  · obtain ⟨cf00, cf01, cf02, ff00, ff01, ff02⟩ := Xf0.out.c3
    first | (go_simp; done) | (go_simp; simp_all; done) | (go_simp; rfl)
  obtain ⟨W20, hW⟩ : ∃ W20, W20 = (World.setCell (World.setCell (World.setCell w19 ⟨gf0, 0, none⟩ (.bool q1_b)) ⟨gf0, 1, none⟩ (.slice q1_a q1_n q1_c)) ⟨gf0, 2, none⟩ (.slice q1_d q1_m q1_e)) := ⟨_, rfl⟩
  rw [← hW]
  obtain ⟨xf0, hk, hf, hbb, hz⟩ := stored3s hW Xf0.out (by first | exact NoInt.bool _ | exact NoInt.slice _ _ _) (by first | exact NoInt.bool _ | exact NoInt.slice _ _ _) (by first | exact NoInt.bool _ | exact NoInt.slice _ _ _)
  have Ha := Lib.hid (AR.keep Ha.out hk)
  have Hg := Lib.hid (CR.keep Hg.out hk)
  have Hq1 := Lib.hid (CR.keep Hq1.out hk)
  have Xa0 := Lib.hid (hf _ _ _ Xa0.out Na0f0.out)
  have Xb0 := Lib.hid (hf _ _ _ Xb0.out Nb0f0.out)
  have Xc0 := Lib.hid (hf _ _ _ Xc0.out Nc0f0.out)
  have Xd0 := Lib.hid (hf _ _ _ Xd0.out Nd0f0.out)
  have Xe0 := Lib.hid (hf _ _ _ Xe0.out Ne0f0.out)
  have Xf0 := Lib.hid xf0
  have HB := Lib.hid (hbb _ HB.out Gf0.out)
  have HS := Lib.hid (show SE (w12.drew) [] W20 from by rw [hW]; exact HS.out.store3 (.inr Ef0.out))
  clear hW hk hf hbb xf0
  clear hz
  refine held_pureX 10 (some 8) (Go.Op.assign (Go.Operand.tmp 36)) (none) (.int .i64 0) (by kernel_rfl) (by kernel_rfl) (by kernel_rfl) (fun _ _ _ h => h) (fun w' => by first | (go_simp; done) | (go_simp; simp_all; done) | (go_simp; rfl)) HS.out ?_
  simp only [Act.put, List.setIfInBounds_toArray, List.set_cons_zero, List.set_cons_succ]
  refine wpAnyH_done (by kernel_rfl) ?_ _
  clear HG HS Hok Ef0
  obtain ⟨ca00, ca01, ca02, fa00, fa01, fa02⟩ := Xa0.out.c3
  have la0 := Xa0.out.lt
  obtain ⟨cb00, cb01, cb02, fb00, fb01, fb02⟩ := Xb0.out.c3
  have lb0 := Xb0.out.lt
  obtain ⟨cc00, cc01, cc02, fc00, fc01, fc02⟩ := Xc0.out.c3
  have lc0 := Xc0.out.lt
  obtain ⟨cd00, cd01, cd02, fd00, fd01, fd02⟩ := Xd0.out.c3
  have ld0 := Xd0.out.lt
  obtain ⟨ce00, ce01, ce02, fe00, fe01, fe02⟩ := Xe0.out.c3
  have le0 := Xe0.out.lt
  obtain ⟨cf00, cf01, cf02, ff00, ff01, ff02⟩ := Xf0.out.c3
  have lf0 := Xf0.out.lt
  go_wp2_with fail
  clear ca00 ca01 ca02 fa00 fa01 fa02 la0 cb00 cb01 cb02 fb00 fb01 fb02 lb0 cc00 cc01 cc02 fc00 fc01 fc02 lc0 cd00 cd01 cd02 fd00 fd01 fd02 ld0 ce00 ce01 ce02 fe00 fe01 fe02 le0 cf00 cf01 cf02 ff00 ff01 ff02 lf0
  have Ha := Lib.hid (AR.keep Ha.out (Keep.drew W20))
  have Hg := Lib.hid (CR.keep Hg.out (Keep.drew W20))
  have Hq1 := Lib.hid (CR.keep Hq1.out (Keep.drew W20))
  have Xa0 := Lib.hid (Box.drew Xa0.out)
  have Xb0 := Lib.hid (Box.drew Xb0.out)
  have Xc0 := Lib.hid (Box.drew Xc0.out)
  have Xd0 := Lib.hid (Box.drew Xd0.out)
  have Xe0 := Lib.hid (Box.drew Xe0.out)
  have Xf0 := Lib.hid (Box.drew Xf0.out)
  have HB := Lib.hid (Below.drew HB.out)
  refine wp_region_float [] [⟨8, 9, 25, #[.bool false, .slice none 0 0, .slice none 0 0]⟩] (by kernel_rfl) (by kernel_rfl) 56 (by kernel_rfl) (Flok.one (by kernel_rfl) (by kernel_rfl) (by kernel_rfl) (by intro w; go_simp)) ?_
  intro ok
  have Hok := Lib.hid ok
  clear ok
  have HG := Lib.hid (Below.refl (W20.drew).heap.size (W20.drew))
  refine good_pureX 1 (some 39) (Go.Op.load 25 (Go.Operand.tmp 2)) (none) (.agg #[.bool ba, sa, ta]) (by kernel_rfl) (by kernel_rfl) (by kernel_rfl) (fun _ _ _ h => h) (fun w' hw' => ?_) ?_
  · obtain ⟨ca00, ca01, ca02, fa00, fa01, fa02⟩ := (Box.se hw' Xa0.out notin0).c3
    first | (go_simp; done) | (go_simp; simp_all; done) | (go_simp; rfl)
  simp only [Act.put, List.setIfInBounds_toArray, List.set_cons_zero, List.set_cons_succ]
  refine good_pureX 2 (some 40) (Go.Op.load 25 (Go.Operand.tmp 5)) (none) (.agg #[.bool g_b, .slice g_a g_n g_c, .slice g_d g_m g_e]) (by kernel_rfl) (by kernel_rfl) (by kernel_rfl) (fun _ _ _ h => h) (fun w' hw' => ?_) ?_
  · obtain ⟨cd00, cd01, cd02, fd00, fd01, fd02⟩ := (Box.se hw' Xd0.out notin0).c3
    first | (go_simp; done) | (go_simp; simp_all; done) | (go_simp; rfl)
  simp only [Act.put, List.setIfInBounds_toArray, List.set_cons_zero, List.set_cons_succ]
  refine good_callX 0 40 (some 38) #[Go.Operand.const (Go.Value.int Go.IntKind.i64 1)] #[3] (none) #[.int .i64 1] (by kernel_rfl) Hok.out (by kernel_rfl) (by kernel_rfl) (by kernel_rfl) (by kernel_rfl) rfl rfl rfl (by kernel_rfl) (fun w21 hb => ?_)
  have HG := Lib.hid (below_call HG.out hb)
  clear hb
  refine Calls.mono (rof_one) ?_
  rintro e w22 ⟨v22, rfl, ho2, hb⟩
  obtain ⟨o2_b, o2_a, o2_n, o2_c, o2_d, o2_m, o2_e, rfl⟩ := ho2.litb
  refine ⟨_, rfl, ?_, hb⟩
  have HG := Lib.hid (below_call HG.out hb)
  have Ho2 := Lib.hid ho2
  clear hb ho2
  simp only [Act.put, List.setIfInBounds_toArray, List.set_cons_zero, List.set_cons_succ]
  refine good_callX 3 17 (some 41) #[Go.Operand.tmp 39, Go.Operand.tmp 40] #[25, 25] (none) #[.agg #[.bool ba, sa, ta], .agg #[.bool g_b, .slice g_a g_n g_c, .slice g_d g_m g_e]] (by kernel_rfl) Hok.out (by kernel_rfl) (by kernel_rfl) (by kernel_rfl) (by kernel_rfl) rfl rfl rfl (by kernel_rfl) (fun w23 hb => ?_)
  have Ho2 := Lib.hid (CR.keep Ho2.out (Keep.call hb))
  have HG := Lib.hid (below_call HG.out hb)
  clear hb
  (first | (have hcall := rsub_ar (AR.keep Ha.out (Keep.call HG.out)) (CR.keep Hg.out (Keep.call HG.out)).ar (by omega) (by omega); refine Calls.mono hcall ?_; clear hcall) | refine Calls.mono (rsub_ar (AR.keep Ha.out (Keep.call HG.out)) (CR.keep Hg.out (Keep.call HG.out)).ar (by omega) (by omega)) ?_)
  rintro e w24 ⟨v24, rfl, hd2, hb⟩
  obtain ⟨d2_b, d2_a, d2_n, d2_c, d2_d, d2_m, d2_e, rfl⟩ := hd2.litb
  refine ⟨_, rfl, ?_, hb⟩
  have Ho2 := Lib.hid (CR.keep Ho2.out (Keep.call hb))
  have HG := Lib.hid (below_call HG.out hb)
  have Hd2 := Lib.hid hd2
  clear hb hd2
  simp only [Act.put, List.setIfInBounds_toArray, List.set_cons_zero, List.set_cons_succ]
  refine good_callX 4 35 (some 42) #[Go.Operand.tmp 38, Go.Operand.tmp 41] #[25, 25] (none) #[.agg #[.bool o2_b, .slice o2_a o2_n o2_c, .slice o2_d o2_m o2_e], .agg #[.bool d2_b, .slice d2_a d2_n d2_c, .slice d2_d d2_m d2_e]] (by kernel_rfl) Hok.out (by kernel_rfl) (by kernel_rfl) (by kernel_rfl) (by kernel_rfl) rfl rfl rfl (by kernel_rfl) (fun w25 hb => ?_)
  have Ho2 := Lib.hid (CR.keep Ho2.out (Keep.call hb))
  have Hd2 := Lib.hid (CR.keep Hd2.out (Keep.call hb))
  have HG := Lib.hid (below_call HG.out hb)
  clear hb
  (first | (have hcall := rdiv_ar Hn2.out Ho2.out.ar Hd2.out.ar (by omega) (by omega); refine Calls.mono hcall ?_; clear hcall) | refine Calls.mono (rdiv_ar Hn2.out Ho2.out.ar Hd2.out.ar (by omega) (by omega)) ?_)
  rintro e w26 ⟨t26, rfl, ⟨v26, rfl, hq2⟩, hb⟩
  obtain ⟨q2_b, q2_a, q2_n, q2_c, q2_d, q2_m, q2_e, rfl⟩ := hq2.litb
  refine ⟨_, rfl, ?_, hb⟩
  have HG := Lib.hid (below_call HG.out hb)
  have Hq2 := Lib.hid hq2
  clear hb hq2
  simp only [Act.put, List.setIfInBounds_toArray, List.set_cons_zero, List.set_cons_succ]
  refine good_pureX 5 (some 37) (Go.Op.move (Go.Operand.tmp 42)) (none) (.tuple #[.agg #[.bool q2_b, .slice q2_a q2_n q2_c, .slice q2_d q2_m q2_e], .int .i64 0]) (by kernel_rfl) (by kernel_rfl) (by kernel_rfl) (fun _ _ _ h => h) (fun w' hw' => ?_) ?_
  · first | (go_simp; done) | (go_simp; simp_all; done) | (go_simp; rfl)
  simp only [Act.put, List.setIfInBounds_toArray, List.set_cons_zero, List.set_cons_succ]
  refine good_pureX 6 (some 43) (Go.Op.extract (Go.Operand.tmp 37) 0) (none) (.agg #[.bool q2_b, .slice q2_a q2_n q2_c, .slice q2_d q2_m q2_e]) (by kernel_rfl) (by kernel_rfl) (by kernel_rfl) (fun _ _ _ h => h) (fun w' hw' => ?_) ?_
  · first | (go_simp; done) | (go_simp; simp_all; done) | (go_simp; rfl)
  simp only [Act.put, List.setIfInBounds_toArray, List.set_cons_zero, List.set_cons_succ]
  refine good_pureX 7 (some 44) (Go.Op.extract (Go.Operand.tmp 37) 1) (none) (.int .i64 0) (by kernel_rfl) (by kernel_rfl) (by kernel_rfl) (fun _ _ _ h => h) (fun w' hw' => ?_) ?_
  · first | (go_simp; done) | (go_simp; simp_all; done) | (go_simp; rfl)
  simp only [Act.put, List.setIfInBounds_toArray, List.set_cons_zero, List.set_cons_succ]
  refine good_end1 2 Hok.out (by kernel_rfl) (by kernel_rfl) (by kernel_rfl) (fun _ gg0 w27 hb eg0 xg0 => ?_)
  have Hq2 := Lib.hid (CR.keep Hq2.out (Keep.call hb))
  have HG := Lib.hid (below_call HG.out hb)
  clear hb
  have Na0g0 := Lib.hid (show w.heap.size ≠ gg0 from Nat.ne_of_lt (Nat.lt_of_lt_of_le Xa0.out.lt eg0))
  have Nb0g0 := Lib.hid (show w.heap.size + 1 ≠ gg0 from Nat.ne_of_lt (Nat.lt_of_lt_of_le Xb0.out.lt eg0))
  have Nc0g0 := Lib.hid (show w.heap.size + 1 + 1 ≠ gg0 from Nat.ne_of_lt (Nat.lt_of_lt_of_le Xc0.out.lt eg0))
  have Nd0g0 := Lib.hid (show w3.heap.size ≠ gg0 from Nat.ne_of_lt (Nat.lt_of_lt_of_le Xd0.out.lt eg0))
  have Ne0g0 := Lib.hid (show ge0 ≠ gg0 from Nat.ne_of_lt (Nat.lt_of_lt_of_le Xe0.out.lt eg0))
  have Nf0g0 := Lib.hid (show gf0 ≠ gg0 from Nat.ne_of_lt (Nat.lt_of_lt_of_le Xf0.out.lt eg0))
  have Gg0 := Lib.hid (show w.heap.size ≤ gg0 from Nat.le_trans HB.out.size eg0)
  have Eg0 := Lib.hid eg0
  clear eg0
  have Hg := Lib.hid (CR.keep Hg.out (Keep.call HG.out))
  have Hq1 := Lib.hid (CR.keep Hq1.out (Keep.call HG.out))
  have Xa0 := Lib.hid (Box.pcall HG.out Xa0.out)
  have Xb0 := Lib.hid (Box.pcall HG.out Xb0.out)
  have Xc0 := Lib.hid (Box.pcall HG.out Xc0.out)
  have Xd0 := Lib.hid (Box.pcall HG.out Xd0.out)
  have Xe0 := Lib.hid (Box.pcall HG.out Xe0.out)
  have Xf0 := Lib.hid (Box.pcall HG.out Xf0.out)
  have HB := Lib.hid (below_call HB.out HG.out)
  have HS := Lib.hid (SE.of (E := []) HG.out)
  have Xg0 := Lib.hid xg0
  clear xg0
  simp only [Act.put, List.setIfInBounds_toArray, List.set_cons_zero, List.set_cons_succ]
  refine held_oneX 9 (Go.Op.store 25 (Go.Operand.tmp 9) (Go.Operand.tmp 43)) (none) (World.setCell (World.setCell (World.setCell w27 ⟨gg0, 0, none⟩ (.bool q2_b)) ⟨gg0, 1, none⟩ (.slice q2_a q2_n q2_c)) ⟨gg0, 2, none⟩ (.slice q2_d q2_m q2_e)) (by kernel_rfl) (by kernel_rfl) (by kernel_rfl) (by kernel_rfl) ?_ (HS.out.store3 (.inr Eg0.out)) ?_
  · obtain ⟨cg00, cg01, cg02, fg00, fg01, fg02⟩ := Xg0.out.c3
    first | (go_simp; done) | (go_simp; simp_all; done) | (go_simp; rfl)
  obtain ⟨W28, hW⟩ : ∃ W28, W28 = (World.setCell (World.setCell (World.setCell w27 ⟨gg0, 0, none⟩ (.bool q2_b)) ⟨gg0, 1, none⟩ (.slice q2_a q2_n q2_c)) ⟨gg0, 2, none⟩ (.slice q2_d q2_m q2_e)) := ⟨_, rfl⟩
  rw [← hW]
  obtain ⟨xg0, hk, hf, hbb, hz⟩ := stored3s hW Xg0.out (by first | exact NoInt.bool _ | exact NoInt.slice _ _ _) (by first | exact NoInt.bool _ | exact NoInt.slice _ _ _) (by first | exact NoInt.bool _ | exact NoInt.slice _ _ _)
  have Hg := Lib.hid (CR.keep Hg.out hk)
  have Hq1 := Lib.hid (CR.keep Hq1.out hk)
  have Hq2 := Lib.hid (CR.keep Hq2.out hk)
  have Xa0 := Lib.hid (hf _ _ _ Xa0.out Na0g0.out)
  have Xb0 := Lib.hid (hf _ _ _ Xb0.out Nb0g0.out)
  have Xc0 := Lib.hid (hf _ _ _ Xc0.out Nc0g0.out)
  have Xd0 := Lib.hid (hf _ _ _ Xd0.out Nd0g0.out)
  have Xe0 := Lib.hid (hf _ _ _ Xe0.out Ne0g0.out)
  have Xf0 := Lib.hid (hf _ _ _ Xf0.out Nf0g0.out)
  have Xg0 := Lib.hid xg0
  have HB := Lib.hid (hbb _ HB.out Gg0.out)
  have HS := Lib.hid (show SE (W20.drew) [] W28 from by rw [hW]; exact HS.out.store3 (.inr Eg0.out))
  clear hW hk hf hbb xg0
  clear hz
  refine held_pureX 10 (some 10) (Go.Op.assign (Go.Operand.tmp 44)) (none) (.int .i64 0) (by kernel_rfl) (by kernel_rfl) (by kernel_rfl) (fun _ _ _ h => h) (fun w' => by first | (go_simp; done) | (go_simp; simp_all; done) | (go_simp; rfl)) HS.out ?_
  simp only [Act.put, List.setIfInBounds_toArray, List.set_cons_zero, List.set_cons_succ]
  refine wpAnyH_done (by kernel_rfl) ?_ _
  clear HG HS Hok Eg0
  obtain ⟨ca00, ca01, ca02, fa00, fa01, fa02⟩ := Xa0.out.c3
  have la0 := Xa0.out.lt
  obtain ⟨cb00, cb01, cb02, fb00, fb01, fb02⟩ := Xb0.out.c3
  have lb0 := Xb0.out.lt
  obtain ⟨cc00, cc01, cc02, fc00, fc01, fc02⟩ := Xc0.out.c3
  have lc0 := Xc0.out.lt
  obtain ⟨cd00, cd01, cd02, fd00, fd01, fd02⟩ := Xd0.out.c3
  have ld0 := Xd0.out.lt
  obtain ⟨ce00, ce01, ce02, fe00, fe01, fe02⟩ := Xe0.out.c3
  have le0 := Xe0.out.lt
  obtain ⟨cf00, cf01, cf02, ff00, ff01, ff02⟩ := Xf0.out.c3
  have lf0 := Xf0.out.lt
  obtain ⟨cg00, cg01, cg02, fg00, fg01, fg02⟩ := Xg0.out.c3
  have lg0 := Xg0.out.lt
  go_wp2_with fail
  clear ca00 ca01 ca02 fa00 fa01 fa02 la0 cb00 cb01 cb02 fb00 fb01 fb02 lb0 cc00 cc01 cc02 fc00 fc01 fc02 lc0 cd00 cd01 cd02 fd00 fd01 fd02 ld0 ce00 ce01 ce02 fe00 fe01 fe02 le0 cf00 cf01 cf02 ff00 ff01 ff02 lf0 cg00 cg01 cg02 fg00 fg01 fg02 lg0
  have Hg := Lib.hid (CR.keep Hg.out (Keep.drew W28))
  have Hq1 := Lib.hid (CR.keep Hq1.out (Keep.drew W28))
  have Hq2 := Lib.hid (CR.keep Hq2.out (Keep.drew W28))
  have Xa0 := Lib.hid (Box.drew Xa0.out)
  have Xb0 := Lib.hid (Box.drew Xb0.out)
  have Xc0 := Lib.hid (Box.drew Xc0.out)
  have Xd0 := Lib.hid (Box.drew Xd0.out)
  have Xe0 := Lib.hid (Box.drew Xe0.out)
  have Xf0 := Lib.hid (Box.drew Xf0.out)
  have Xg0 := Lib.hid (Box.drew Xg0.out)
  have HB := Lib.hid (Below.drew HB.out)
  refine wp_region_float [] [⟨8, 11, 25, #[.bool false, .slice none 0 0, .slice none 0 0]⟩] (by kernel_rfl) (by kernel_rfl) 56 (by kernel_rfl) (Flok.one (by kernel_rfl) (by kernel_rfl) (by kernel_rfl) (by intro w; go_simp)) ?_
  intro ok
  have Hok := Lib.hid ok
  clear ok
  have HG := Lib.hid (Below.refl (W28.drew).heap.size (W28.drew))
  refine good_pureX 1 (some 47) (Go.Op.load 25 (Go.Operand.tmp 7)) (none) (.agg #[.bool q1_b, .slice q1_a q1_n q1_c, .slice q1_d q1_m q1_e]) (by kernel_rfl) (by kernel_rfl) (by kernel_rfl) (fun _ _ _ h => h) (fun w' hw' => ?_) ?_
  · obtain ⟨cf00, cf01, cf02, ff00, ff01, ff02⟩ := (Box.se hw' Xf0.out notin0).c3
    first | (go_simp; done) | (go_simp; simp_all; done) | (go_simp; rfl)
  simp only [Act.put, List.setIfInBounds_toArray, List.set_cons_zero, List.set_cons_succ]
  refine good_pureX 2 (some 48) (Go.Op.load 25 (Go.Operand.tmp 9)) (none) (.agg #[.bool q2_b, .slice q2_a q2_n q2_c, .slice q2_d q2_m q2_e]) (by kernel_rfl) (by kernel_rfl) (by kernel_rfl) (fun _ _ _ h => h) (fun w' hw' => ?_) ?_
  · obtain ⟨cg00, cg01, cg02, fg00, fg01, fg02⟩ := (Box.se hw' Xg0.out notin0).c3
    first | (go_simp; done) | (go_simp; simp_all; done) | (go_simp; rfl)
  simp only [Act.put, List.setIfInBounds_toArray, List.set_cons_zero, List.set_cons_succ]
  refine good_callX 0 40 (some 46) #[Go.Operand.const (Go.Value.int Go.IntKind.i64 1)] #[3] (none) #[.int .i64 1] (by kernel_rfl) Hok.out (by kernel_rfl) (by kernel_rfl) (by kernel_rfl) (by kernel_rfl) rfl rfl rfl (by kernel_rfl) (fun w29 hb => ?_)
  have HG := Lib.hid (below_call HG.out hb)
  clear hb
  refine Calls.mono (rof_one) ?_
  rintro e w30 ⟨v30, rfl, ho3, hb⟩
  obtain ⟨o3_b, o3_a, o3_n, o3_c, o3_d, o3_m, o3_e, rfl⟩ := ho3.litb
  refine ⟨_, rfl, ?_, hb⟩
  have HG := Lib.hid (below_call HG.out hb)
  have Ho3 := Lib.hid ho3
  clear hb ho3
  simp only [Act.put, List.setIfInBounds_toArray, List.set_cons_zero, List.set_cons_succ]
  refine good_callX 3 67 (some 49) #[Go.Operand.tmp 47, Go.Operand.tmp 48] #[25, 25] (none) #[.agg #[.bool q1_b, .slice q1_a q1_n q1_c, .slice q1_d q1_m q1_e], .agg #[.bool q2_b, .slice q2_a q2_n q2_c, .slice q2_d q2_m q2_e]] (by kernel_rfl) Hok.out (by kernel_rfl) (by kernel_rfl) (by kernel_rfl) (by kernel_rfl) rfl rfl rfl (by kernel_rfl) (fun w31 hb => ?_)
  have Ho3 := Lib.hid (CR.keep Ho3.out (Keep.call hb))
  have HG := Lib.hid (below_call HG.out hb)
  clear hb
  refine Calls.mono (Hrec.out _ _ _ (CR.small (CR.keep Hq1.out (Keep.call HG.out)) Hs1.out).ar (CR.small (CR.keep Hq2.out (Keep.call HG.out)) Hs2.out).ar) ?_
  rintro e w32 ⟨v32, rfl, hx3, hb⟩
  obtain ⟨x3_b, x3_a, x3_n, x3_c, x3_d, x3_m, x3_e, rfl⟩ := hx3.litb
  refine ⟨_, rfl, ?_, hb⟩
  have Ho3 := Lib.hid (CR.keep Ho3.out (Keep.call hb))
  have HG := Lib.hid (below_call HG.out hb)
  have Hx3 := Lib.hid hx3
  clear hb hx3
  simp only [Act.put, List.setIfInBounds_toArray, List.set_cons_zero, List.set_cons_succ]
  refine good_callX 4 35 (some 50) #[Go.Operand.tmp 46, Go.Operand.tmp 49] #[25, 25] (none) #[.agg #[.bool o3_b, .slice o3_a o3_n o3_c, .slice o3_d o3_m o3_e], .agg #[.bool x3_b, .slice x3_a x3_n x3_c, .slice x3_d x3_m x3_e]] (by kernel_rfl) Hok.out (by kernel_rfl) (by kernel_rfl) (by kernel_rfl) (by kernel_rfl) rfl rfl rfl (by kernel_rfl) (fun w33 hb => ?_)
  have Ho3 := Lib.hid (CR.keep Ho3.out (Keep.call hb))
  have Hx3 := Lib.hid (CR.keep Hx3.out (Keep.call hb))
  have HG := Lib.hid (below_call HG.out hb)
  clear hb
  (first | (have hcall := rdiv_ar Hn3.out Ho3.out.ar Hx3.out.ar (by omega) (by omega); refine Calls.mono hcall ?_; clear hcall) | refine Calls.mono (rdiv_ar Hn3.out Ho3.out.ar Hx3.out.ar (by omega) (by omega)) ?_)
  rintro e w34 ⟨t34, rfl, ⟨v34, rfl, hq3⟩, hb⟩
  obtain ⟨q3_b, q3_a, q3_n, q3_c, q3_d, q3_m, q3_e, rfl⟩ := hq3.litb
  refine ⟨_, rfl, ?_, hb⟩
  have HG := Lib.hid (below_call HG.out hb)
  have Hq3 := Lib.hid hq3
  clear hb hq3
  simp only [Act.put, List.setIfInBounds_toArray, List.set_cons_zero, List.set_cons_succ]
  refine good_pureX 5 (some 45) (Go.Op.move (Go.Operand.tmp 50)) (none) (.tuple #[.agg #[.bool q3_b, .slice q3_a q3_n q3_c, .slice q3_d q3_m q3_e], .int .i64 0]) (by kernel_rfl) (by kernel_rfl) (by kernel_rfl) (fun _ _ _ h => h) (fun w' hw' => ?_) ?_
  · first | (go_simp; done) | (go_simp; simp_all; done) | (go_simp; rfl)
  simp only [Act.put, List.setIfInBounds_toArray, List.set_cons_zero, List.set_cons_succ]
  refine good_pureX 6 (some 51) (Go.Op.extract (Go.Operand.tmp 45) 0) (none) (.agg #[.bool q3_b, .slice q3_a q3_n q3_c, .slice q3_d q3_m q3_e]) (by kernel_rfl) (by kernel_rfl) (by kernel_rfl) (fun _ _ _ h => h) (fun w' hw' => ?_) ?_
  · first | (go_simp; done) | (go_simp; simp_all; done) | (go_simp; rfl)
  simp only [Act.put, List.setIfInBounds_toArray, List.set_cons_zero, List.set_cons_succ]
  refine good_pureX 7 (some 52) (Go.Op.extract (Go.Operand.tmp 45) 1) (none) (.int .i64 0) (by kernel_rfl) (by kernel_rfl) (by kernel_rfl) (fun _ _ _ h => h) (fun w' hw' => ?_) ?_
  · first | (go_simp; done) | (go_simp; simp_all; done) | (go_simp; rfl)
  simp only [Act.put, List.setIfInBounds_toArray, List.set_cons_zero, List.set_cons_succ]
  refine good_end1 2 Hok.out (by kernel_rfl) (by kernel_rfl) (by kernel_rfl) (fun _ gh0 w35 hb eh0 xh0 => ?_)
  have Hq3 := Lib.hid (CR.keep Hq3.out (Keep.call hb))
  have HG := Lib.hid (below_call HG.out hb)
  clear hb
  have Na0h0 := Lib.hid (show w.heap.size ≠ gh0 from Nat.ne_of_lt (Nat.lt_of_lt_of_le Xa0.out.lt eh0))
  have Nb0h0 := Lib.hid (show w.heap.size + 1 ≠ gh0 from Nat.ne_of_lt (Nat.lt_of_lt_of_le Xb0.out.lt eh0))
  have Nc0h0 := Lib.hid (show w.heap.size + 1 + 1 ≠ gh0 from Nat.ne_of_lt (Nat.lt_of_lt_of_le Xc0.out.lt eh0))
  have Nd0h0 := Lib.hid (show w3.heap.size ≠ gh0 from Nat.ne_of_lt (Nat.lt_of_lt_of_le Xd0.out.lt eh0))
  have Ne0h0 := Lib.hid (show ge0 ≠ gh0 from Nat.ne_of_lt (Nat.lt_of_lt_of_le Xe0.out.lt eh0))
  have Nf0h0 := Lib.hid (show gf0 ≠ gh0 from Nat.ne_of_lt (Nat.lt_of_lt_of_le Xf0.out.lt eh0))
  have Ng0h0 := Lib.hid (show gg0 ≠ gh0 from Nat.ne_of_lt (Nat.lt_of_lt_of_le Xg0.out.lt eh0))
  have Gh0 := Lib.hid (show w.heap.size ≤ gh0 from Nat.le_trans HB.out.size eh0)
  have Eh0 := Lib.hid eh0
  clear eh0
  have Hg := Lib.hid (CR.keep Hg.out (Keep.call HG.out))
  have Xa0 := Lib.hid (Box.pcall HG.out Xa0.out)
  have Xb0 := Lib.hid (Box.pcall HG.out Xb0.out)
  have Xc0 := Lib.hid (Box.pcall HG.out Xc0.out)
  have Xd0 := Lib.hid (Box.pcall HG.out Xd0.out)
  have Xe0 := Lib.hid (Box.pcall HG.out Xe0.out)
  have Xf0 := Lib.hid (Box.pcall HG.out Xf0.out)
  have Xg0 := Lib.hid (Box.pcall HG.out Xg0.out)
  have HB := Lib.hid (below_call HB.out HG.out)
  have HS := Lib.hid (SE.of (E := []) HG.out)
  have Xh0 := Lib.hid xh0
  clear xh0
  simp only [Act.put, List.setIfInBounds_toArray, List.set_cons_zero, List.set_cons_succ]
  refine held_oneX 9 (Go.Op.store 25 (Go.Operand.tmp 11) (Go.Operand.tmp 51)) (none) (World.setCell (World.setCell (World.setCell w35 ⟨gh0, 0, none⟩ (.bool q3_b)) ⟨gh0, 1, none⟩ (.slice q3_a q3_n q3_c)) ⟨gh0, 2, none⟩ (.slice q3_d q3_m q3_e)) (by kernel_rfl) (by kernel_rfl) (by kernel_rfl) (by kernel_rfl) ?_ (HS.out.store3 (.inr Eh0.out)) ?_
  · obtain ⟨ch00, ch01, ch02, fh00, fh01, fh02⟩ := Xh0.out.c3
    first | (go_simp; done) | (go_simp; simp_all; done) | (go_simp; rfl)
  obtain ⟨W36, hW⟩ : ∃ W36, W36 = (World.setCell (World.setCell (World.setCell w35 ⟨gh0, 0, none⟩ (.bool q3_b)) ⟨gh0, 1, none⟩ (.slice q3_a q3_n q3_c)) ⟨gh0, 2, none⟩ (.slice q3_d q3_m q3_e)) := ⟨_, rfl⟩
  rw [← hW]
  obtain ⟨xh0, hk, hf, hbb, hz⟩ := stored3s hW Xh0.out (by first | exact NoInt.bool _ | exact NoInt.slice _ _ _) (by first | exact NoInt.bool _ | exact NoInt.slice _ _ _) (by first | exact NoInt.bool _ | exact NoInt.slice _ _ _)
  have Hg := Lib.hid (CR.keep Hg.out hk)
  have Hq3 := Lib.hid (CR.keep Hq3.out hk)
  have Xa0 := Lib.hid (hf _ _ _ Xa0.out Na0h0.out)
  have Xb0 := Lib.hid (hf _ _ _ Xb0.out Nb0h0.out)
  have Xc0 := Lib.hid (hf _ _ _ Xc0.out Nc0h0.out)
  have Xd0 := Lib.hid (hf _ _ _ Xd0.out Nd0h0.out)
  have Xe0 := Lib.hid (hf _ _ _ Xe0.out Ne0h0.out)
  have Xf0 := Lib.hid (hf _ _ _ Xf0.out Nf0h0.out)
  have Xg0 := Lib.hid (hf _ _ _ Xg0.out Ng0h0.out)
  have Xh0 := Lib.hid xh0
  have HB := Lib.hid (hbb _ HB.out Gh0.out)
  have HS := Lib.hid (show SE (W28.drew) [] W36 from by rw [hW]; exact HS.out.store3 (.inr Eh0.out))
  clear hW hk hf hbb xh0
  clear hz
  refine held_pureX 10 (some 12) (Go.Op.assign (Go.Operand.tmp 52)) (none) (.int .i64 0) (by kernel_rfl) (by kernel_rfl) (by kernel_rfl) (fun _ _ _ h => h) (fun w' => by first | (go_simp; done) | (go_simp; simp_all; done) | (go_simp; rfl)) HS.out ?_
  simp only [Act.put, List.setIfInBounds_toArray, List.set_cons_zero, List.set_cons_succ]
  refine wpAnyH_done (by kernel_rfl) ?_ _
  clear HG HS Hok Eh0
  obtain ⟨ca00, ca01, ca02, fa00, fa01, fa02⟩ := Xa0.out.c3
  have la0 := Xa0.out.lt
  obtain ⟨cb00, cb01, cb02, fb00, fb01, fb02⟩ := Xb0.out.c3
  have lb0 := Xb0.out.lt
  obtain ⟨cc00, cc01, cc02, fc00, fc01, fc02⟩ := Xc0.out.c3
  have lc0 := Xc0.out.lt
  obtain ⟨cd00, cd01, cd02, fd00, fd01, fd02⟩ := Xd0.out.c3
  have ld0 := Xd0.out.lt
  obtain ⟨ce00, ce01, ce02, fe00, fe01, fe02⟩ := Xe0.out.c3
  have le0 := Xe0.out.lt
  obtain ⟨cf00, cf01, cf02, ff00, ff01, ff02⟩ := Xf0.out.c3
  have lf0 := Xf0.out.lt
  obtain ⟨cg00, cg01, cg02, fg00, fg01, fg02⟩ := Xg0.out.c3
  have lg0 := Xg0.out.lt
  obtain ⟨ch00, ch01, ch02, fh00, fh01, fh02⟩ := Xh0.out.c3
  have lh0 := Xh0.out.lt
  go_wp2_with fail
  clear ca00 ca01 ca02 fa00 fa01 fa02 la0 cb00 cb01 cb02 fb00 fb01 fb02 lb0 cc00 cc01 cc02 fc00 fc01 fc02 lc0 cd00 cd01 cd02 fd00 fd01 fd02 ld0 ce00 ce01 ce02 fe00 fe01 fe02 le0 cf00 cf01 cf02 ff00 ff01 ff02 lf0 cg00 cg01 cg02 fg00 fg01 fg02 lg0 ch00 ch01 ch02 fh00 fh01 fh02 lh0
  (first | (have hcall := radd_ar Hg.out.ar Hq3.out.ar (by omega) (by omega); refine Calls.mono hcall ?_; clear hcall) | refine Calls.mono (radd_ar Hg.out.ar Hq3.out.ar (by omega) (by omega)) ?_)
  rintro e w37 ⟨v37, rfl, hz, hb⟩
  obtain ⟨z_b, z_a, z_n, z_c, z_d, z_m, z_e, rfl⟩ := hz.litb
  have Xa0 := Lib.hid (Box.pcall hb Xa0.out)
  have Xb0 := Lib.hid (Box.pcall hb Xb0.out)
  have Xc0 := Lib.hid (Box.pcall hb Xc0.out)
  have Xd0 := Lib.hid (Box.pcall hb Xd0.out)
  have Xe0 := Lib.hid (Box.pcall hb Xe0.out)
  have Xf0 := Lib.hid (Box.pcall hb Xf0.out)
  have Xg0 := Lib.hid (Box.pcall hb Xg0.out)
  have Xh0 := Lib.hid (Box.pcall hb Xh0.out)
  have HB := Lib.hid (below_call HB.out hb)
  have Hz := Lib.hid hz
  clear hb hz
  obtain ⟨ca00, ca01, ca02, fa00, fa01, fa02⟩ := Xa0.out.c3
  have la0 := Xa0.out.lt
  obtain ⟨cb00, cb01, cb02, fb00, fb01, fb02⟩ := Xb0.out.c3
  have lb0 := Xb0.out.lt
  obtain ⟨cc00, cc01, cc02, fc00, fc01, fc02⟩ := Xc0.out.c3
  have lc0 := Xc0.out.lt
  obtain ⟨cd00, cd01, cd02, fd00, fd01, fd02⟩ := Xd0.out.c3
  have ld0 := Xd0.out.lt
  obtain ⟨ce00, ce01, ce02, fe00, fe01, fe02⟩ := Xe0.out.c3
  have le0 := Xe0.out.lt
  obtain ⟨cf00, cf01, cf02, ff00, ff01, ff02⟩ := Xf0.out.c3
  have lf0 := Xf0.out.lt
  obtain ⟨cg00, cg01, cg02, fg00, fg01, fg02⟩ := Xg0.out.c3
  have lg0 := Xg0.out.lt
  obtain ⟨ch00, ch01, ch02, fh00, fh01, fh02⟩ := Xh0.out.c3
  have lh0 := Xh0.out.lt
  go_wp2
  clear ca00 ca01 ca02 fa00 fa01 fa02 la0 cb00 cb01 cb02 fb00 fb01 fb02 lb0 cc00 cc01 cc02 fc00 fc01 fc02 lc0 cd00 cd01 cd02 fd00 fd01 fd02 ld0 ce00 ce01 ce02 fe00 fe01 fe02 le0 cf00 cf01 cf02 ff00 ff01 ff02 lf0 cg00 cg01 cg02 fg00 fg01 fg02 lg0 ch00 ch01 ch02 fh00 fh01 fh02 lh0
  obtain ⟨W38, hW⟩ : ∃ W38, W38 = (World.setCell (World.setCell (World.setCell w37 ⟨w.heap.size + 1 + 1, 0, none⟩ (.bool z_b)) ⟨w.heap.size + 1 + 1, 1, none⟩ (.slice z_a z_n z_c)) ⟨w.heap.size + 1 + 1, 2, none⟩ (.slice z_d z_m z_e)) := ⟨_, rfl⟩
  rw [← hW]
  obtain ⟨xc0, hk, hf, hbb, hz⟩ := stored3s hW Xc0.out (by first | exact NoInt.bool _ | exact NoInt.slice _ _ _) (by first | exact NoInt.bool _ | exact NoInt.slice _ _ _) (by first | exact NoInt.bool _ | exact NoInt.slice _ _ _)
  have Hz := Lib.hid (CR.keep Hz.out hk)
  have Xa0 := Lib.hid (hf _ _ _ Xa0.out (by omega))
  have Xb0 := Lib.hid (hf _ _ _ Xb0.out (by omega))
  have Xc0 := Lib.hid xc0
  have Xd0 := Lib.hid (hf _ _ _ Xd0.out Nc0d0.out.symm)
  have Xe0 := Lib.hid (hf _ _ _ Xe0.out Nc0e0.out.symm)
  have Xf0 := Lib.hid (hf _ _ _ Xf0.out Nc0f0.out.symm)
  have Xg0 := Lib.hid (hf _ _ _ Xg0.out Nc0g0.out.symm)
  have Xh0 := Lib.hid (hf _ _ _ Xh0.out Nc0h0.out.symm)
  have HB := Lib.hid (hbb _ HB.out Gc0.out)
  clear hW hk hf hbb xc0
  clear hz
  exact ret_rat1 rfl rfl rfl Xc0.out (CR.mono Hz.out (by omega)) HB.out


theorem des_ar : ∀ (n : Nat) {lo hi : Rat} {L : Nat} {u v : Value} {w : World}, 0 < lo → lo ≤ hi → lo.den + hi.den ≤ n → AR lo L w u → AR hi L w v → 1 ≤ L → L ≤ 10000 →
    Calls Try.prog 67 #[u, v] w (Ret w (CR (spl n lo hi) L)) := by
  intro n
  induction n with
  | zero => intro lo hi L u v w _ _ hn; have := lo.den_pos; omega
  | succ n ih =>
    intro lo hi L u v w h0 h hn hu hv h1 hL
    have hs := spl_sm h0 h hn (hu.smL h1)
    obtain ⟨ba, sa, ta, rfl⟩ := hu.agg
    obtain ⟨bb, sb, tb, rfl⟩ := hv.agg
    by_cases e1 : (lo.floor : Rat) = lo
    · have e : spl (n + 1) lo hi = (lo.floor : Rat) := by rw [spl, if_pos e1]
      rw [e] at hs ⊢
      exact (des_1 (cmpQ_zero.2 e1) hu hv hL).mono fun _ _ k => k.imp fun _ _ x => x.small hs
    · have k0 : (cmpQ (lo.floor : Rat) lo == 0) = false := by simpa using mt cmpQ_zero.1 e1
      by_cases e2 : (lo.floor : Rat) + 1 ≤ hi
      · have e : spl (n + 1) lo hi = (lo.floor : Rat) + 1 := by rw [spl, if_neg e1, if_pos e2]
        rw [e] at hs ⊢
        exact (des_2 _ _ rfl k0 rfl (by simpa using cmpQ_le.2 e2) hu hv hL).mono fun _ _ k => k.imp fun _ _ x => x.small hs
      · have d := Down.mk' h0 h e1 e2
        have hd := d.sum
        have hi' := d.inv
        have sm := d.sm (hu.smL h1) (hv.smL h1)
        have sp := spl_pos hi'.1 hi'.2 (show _ ≤ n by omega)
        rw [spl_down e1 e2] at hs ⊢
        refine (des_3 _ _ rfl k0 rfl (by simpa using mt cmpQ_le.1 e2) (Ne.symm (Rat.ne_of_lt d.a)) (Ne.symm (Rat.ne_of_lt d.b)) (Ne.symm (Rat.ne_of_lt sp)) sm.1 sm.2 (fun w u v p q => ?_) hu hv hL).mono fun _ _ k => k.imp fun _ _ x => x.small hs
        exact ih hi'.1 hi'.2 (by omega) p q h1 hL

set_option maxRecDepth 100000 in
set_option maxHeartbeats 4000000 in
theorem pos_1 {L : Nat} {qa : Rat} {ba : Bool} {sa ta : Value} {qb : Rat} {bb : Bool} {sb tb : Value} {w : World} (hk : cmpQ (qa.floor : Rat) qa = 0) (ha : AR qa L w (.agg #[.bool ba, sa, ta])) (hb : AR qb L w (.agg #[.bool bb, sb, tb])) (hL : L ≤ 10000) :
    Calls Try.prog 68 #[.agg #[.bool ba, sa, ta], .agg #[.bool bb, sb, tb]] w (Ret w (CR (qa.floor : Rat) (L + 3))) := by
  have Ha := Lib.hid ha
  have Hb := Lib.hid hb
  have Hk := Lib.hid hk
  clear ha hb hk
  go_enter Try.func68, Try.ntmps68
  have HB := Lib.hid (Below.refl w.heap.size w)
  go_wp2_with fail
  obtain ⟨W1, hW⟩ : ∃ W1, W1 = (World.alloc (World.alloc (World.alloc w (.cells #[.bool ba, sa, ta] 25)) (.cells #[.bool bb, sb, tb] 25)) (.cells #[.bool false, .slice none 0 0, .slice none 0 0] 25)) := ⟨_, rfl⟩
  rw [← hW]
  obtain ⟨xa0, xb0, xc0, hk, hb⟩ := boxes_3 _ _ _ _ _ _ _ hW
  clear hW
  have Ha := Lib.hid (AR.keep Ha.out hk)
  have Ga0 := Lib.hid (show w.heap.size ≤ w.heap.size from Nat.le_trans HB.out.size (by omega))
  have Gb0 := Lib.hid (show w.heap.size ≤ w.heap.size + 1 from Nat.le_trans HB.out.size (by omega))
  have Gc0 := Lib.hid (show w.heap.size ≤ w.heap.size + 1 + 1 from Nat.le_trans HB.out.size (by omega))
  have Xa0 := Lib.hid xa0
  have Xb0 := Lib.hid xb0
  have Xc0 := Lib.hid xc0
  have HB := Lib.hid (below_call HB.out hb)
  clear hk hb xa0 xb0 xc0
  (first | (have hcall := zfloor_ar Ha.out (by omega); refine Calls.mono hcall ?_; clear hcall) | refine Calls.mono (zfloor_ar Ha.out (by omega)) ?_)
  rintro e w2 ⟨v2, rfl, hf, hb⟩
  obtain ⟨f_b, f_a, f_n, f_c, rfl⟩ := hf.litb
  have Ha := Lib.hid (AR.keep Ha.out (Keep.call hb))
  have Xa0 := Lib.hid (Box.pcall hb Xa0.out)
  have Xb0 := Lib.hid (Box.pcall hb Xb0.out)
  have Xc0 := Lib.hid (Box.pcall hb Xc0.out)
  have HB := Lib.hid (below_call HB.out hb)
  have Hf := Lib.hid hf
  clear hb hf
  obtain ⟨ca00, ca01, ca02, fa00, fa01, fa02⟩ := Xa0.out.c3
  have la0 := Xa0.out.lt
  obtain ⟨cb00, cb01, cb02, fb00, fb01, fb02⟩ := Xb0.out.c3
  have lb0 := Xb0.out.lt
  obtain ⟨cc00, cc01, cc02, fc00, fc01, fc02⟩ := Xc0.out.c3
  have lc0 := Xc0.out.lt
  go_wp2_with fail
  clear ca00 ca01 ca02 fa00 fa01 fa02 la0 cb00 cb01 cb02 fb00 fb01 fb02 lb0 cc00 cc01 cc02 fc00 fc01 fc02 lc0
  (first | (have hcall := zwhole_ai Hf.out.ai (by omega); refine Calls.mono hcall ?_; clear hcall) | refine Calls.mono (zwhole_ai Hf.out.ai (by omega)) ?_)
  rintro e w3 ⟨v3, rfl, hg, hb⟩
  obtain ⟨g_b, g_a, g_n, g_c, g_d, g_m, g_e, rfl⟩ := hg.litb
  have Ha := Lib.hid (AR.keep Ha.out (Keep.call hb))
  have Xa0 := Lib.hid (Box.pcall hb Xa0.out)
  have Xb0 := Lib.hid (Box.pcall hb Xb0.out)
  have Xc0 := Lib.hid (Box.pcall hb Xc0.out)
  have HB := Lib.hid (below_call HB.out hb)
  have Hg := Lib.hid hg
  clear hb hg
  obtain ⟨ca00, ca01, ca02, fa00, fa01, fa02⟩ := Xa0.out.c3
  have la0 := Xa0.out.lt
  obtain ⟨cb00, cb01, cb02, fb00, fb01, fb02⟩ := Xb0.out.c3
  have lb0 := Xb0.out.lt
  obtain ⟨cc00, cc01, cc02, fc00, fc01, fc02⟩ := Xc0.out.c3
  have lc0 := Xc0.out.lt
  go_wp2_with fail
  clear ca00 ca01 ca02 fa00 fa01 fa02 la0 cb00 cb01 cb02 fb00 fb01 fb02 lb0 cc00 cc01 cc02 fc00 fc01 fc02 lc0
  obtain ⟨W4, hW⟩ : ∃ W4, W4 = (World.alloc w3 (.cells #[.bool g_b, .slice g_a g_n g_c, .slice g_d g_m g_e] 25)) := ⟨_, rfl⟩
  rw [← hW]
  obtain ⟨xd0, hk, hb⟩ := boxes_1 _ _ _ hW
  clear hW
  have Ha := Lib.hid (AR.keep Ha.out hk)
  have Hg := Lib.hid (CR.keep Hg.out hk)
  have Na0d0 := Lib.hid (show w.heap.size ≠ w3.heap.size from Nat.ne_of_lt (Nat.lt_of_lt_of_le Xa0.out.lt (by omega)))
  have Nb0d0 := Lib.hid (show w.heap.size + 1 ≠ w3.heap.size from Nat.ne_of_lt (Nat.lt_of_lt_of_le Xb0.out.lt (by omega)))
  have Nc0d0 := Lib.hid (show w.heap.size + 1 + 1 ≠ w3.heap.size from Nat.ne_of_lt (Nat.lt_of_lt_of_le Xc0.out.lt (by omega)))
  have Gd0 := Lib.hid (show w.heap.size ≤ w3.heap.size from Nat.le_trans HB.out.size (by omega))
  have Xa0 := Lib.hid (Box.pcall hb Xa0.out)
  have Xb0 := Lib.hid (Box.pcall hb Xb0.out)
  have Xc0 := Lib.hid (Box.pcall hb Xc0.out)
  have Xd0 := Lib.hid xd0
  have HB := Lib.hid (below_call HB.out hb)
  clear hk hb xd0
  (first | (have hcall := zcmp_ar 0 Hg.out.ar Ha.out Hk.out (by omega) (by omega); refine Calls.mono hcall ?_; clear hcall) | refine Calls.mono (zcmp_ar 0 Hg.out.ar Ha.out Hk.out (by omega) (by omega)) ?_)
  rintro e w5 ⟨v5, rfl, rfl, hb⟩
  have Hg := Lib.hid (CR.keep Hg.out (Keep.call hb))
  have Xa0 := Lib.hid (Box.pcall hb Xa0.out)
  have Xb0 := Lib.hid (Box.pcall hb Xb0.out)
  have Xc0 := Lib.hid (Box.pcall hb Xc0.out)
  have Xd0 := Lib.hid (Box.pcall hb Xd0.out)
  have HB := Lib.hid (below_call HB.out hb)
  clear hb
  obtain ⟨ca00, ca01, ca02, fa00, fa01, fa02⟩ := Xa0.out.c3
  have la0 := Xa0.out.lt
  obtain ⟨cb00, cb01, cb02, fb00, fb01, fb02⟩ := Xb0.out.c3
  have lb0 := Xb0.out.lt
  obtain ⟨cc00, cc01, cc02, fc00, fc01, fc02⟩ := Xc0.out.c3
  have lc0 := Xc0.out.lt
  obtain ⟨cd00, cd01, cd02, fd00, fd01, fd02⟩ := Xd0.out.c3
  have ld0 := Xd0.out.lt
  go_wp2
  clear ca00 ca01 ca02 fa00 fa01 fa02 la0 cb00 cb01 cb02 fb00 fb01 fb02 lb0 cc00 cc01 cc02 fc00 fc01 fc02 lc0 cd00 cd01 cd02 fd00 fd01 fd02 ld0
  obtain ⟨W6, hW⟩ : ∃ W6, W6 = (World.setCell (World.setCell (World.setCell w5 ⟨w.heap.size + 1 + 1, 0, none⟩ (.bool g_b)) ⟨w.heap.size + 1 + 1, 1, none⟩ (.slice g_a g_n g_c)) ⟨w.heap.size + 1 + 1, 2, none⟩ (.slice g_d g_m g_e)) := ⟨_, rfl⟩
  rw [← hW]
  obtain ⟨xc0, hk, hf, hbb, hz⟩ := stored3s hW Xc0.out (by first | exact NoInt.bool _ | exact NoInt.slice _ _ _) (by first | exact NoInt.bool _ | exact NoInt.slice _ _ _) (by first | exact NoInt.bool _ | exact NoInt.slice _ _ _)
  have Hg := Lib.hid (CR.keep Hg.out hk)
  have Xa0 := Lib.hid (hf _ _ _ Xa0.out (by omega))
  have Xb0 := Lib.hid (hf _ _ _ Xb0.out (by omega))
  have Xc0 := Lib.hid xc0
  have Xd0 := Lib.hid (hf _ _ _ Xd0.out Nc0d0.out.symm)
  have HB := Lib.hid (hbb _ HB.out Gc0.out)
  clear hW hk hf hbb xc0
  clear hz
  exact ret_rat1 rfl rfl rfl Xc0.out (CR.mono Hg.out (by omega)) HB.out


set_option maxRecDepth 100000 in
set_option maxHeartbeats 4000000 in
theorem pos_2 {L : Nat} {qa : Rat} {ba : Bool} {sa ta : Value} {qb : Rat} {bb : Bool} {sb tb : Value} {w : World} (k m : Int) (hk : cmpQ (qa.floor : Rat) qa = k) (hk0 : (k == 0) = false) (hm : cmpQ ((qa.floor : Rat) + 1) qb = m) (hm0 : decide (m ≤ 0) = true) (ha : AR qa L w (.agg #[.bool ba, sa, ta])) (hb : AR qb L w (.agg #[.bool bb, sb, tb])) (hL : L ≤ 10000) :
    Calls Try.prog 68 #[.agg #[.bool ba, sa, ta], .agg #[.bool bb, sb, tb]] w (Ret w (CR ((qa.floor : Rat) + 1) (L + 8))) := by
  have Ha := Lib.hid ha
  have Hb := Lib.hid hb
  have Hk := Lib.hid hk
  have Hk0 := Lib.hid hk0
  have Hm := Lib.hid hm
  have Hm0 := Lib.hid hm0
  clear ha hb hk hk0 hm hm0
  go_enter Try.func68, Try.ntmps68
  have HB := Lib.hid (Below.refl w.heap.size w)
  go_wp2_with fail
  obtain ⟨W1, hW⟩ : ∃ W1, W1 = (World.alloc (World.alloc (World.alloc w (.cells #[.bool ba, sa, ta] 25)) (.cells #[.bool bb, sb, tb] 25)) (.cells #[.bool false, .slice none 0 0, .slice none 0 0] 25)) := ⟨_, rfl⟩
  rw [← hW]
  obtain ⟨xa0, xb0, xc0, hk, hb⟩ := boxes_3 _ _ _ _ _ _ _ hW
  clear hW
  have Ha := Lib.hid (AR.keep Ha.out hk)
  have Hb := Lib.hid (AR.keep Hb.out hk)
  have Ga0 := Lib.hid (show w.heap.size ≤ w.heap.size from Nat.le_trans HB.out.size (by omega))
  have Gb0 := Lib.hid (show w.heap.size ≤ w.heap.size + 1 from Nat.le_trans HB.out.size (by omega))
  have Gc0 := Lib.hid (show w.heap.size ≤ w.heap.size + 1 + 1 from Nat.le_trans HB.out.size (by omega))
  have Xa0 := Lib.hid xa0
  have Xb0 := Lib.hid xb0
  have Xc0 := Lib.hid xc0
  have HB := Lib.hid (below_call HB.out hb)
  clear hk hb xa0 xb0 xc0
  (first | (have hcall := zfloor_ar Ha.out (by omega); refine Calls.mono hcall ?_; clear hcall) | refine Calls.mono (zfloor_ar Ha.out (by omega)) ?_)
  rintro e w2 ⟨v2, rfl, hf, hb⟩
  obtain ⟨f_b, f_a, f_n, f_c, rfl⟩ := hf.litb
  have Ha := Lib.hid (AR.keep Ha.out (Keep.call hb))
  have Hb := Lib.hid (AR.keep Hb.out (Keep.call hb))
  have Xa0 := Lib.hid (Box.pcall hb Xa0.out)
  have Xb0 := Lib.hid (Box.pcall hb Xb0.out)
  have Xc0 := Lib.hid (Box.pcall hb Xc0.out)
  have HB := Lib.hid (below_call HB.out hb)
  have Hf := Lib.hid hf
  clear hb hf
  obtain ⟨ca00, ca01, ca02, fa00, fa01, fa02⟩ := Xa0.out.c3
  have la0 := Xa0.out.lt
  obtain ⟨cb00, cb01, cb02, fb00, fb01, fb02⟩ := Xb0.out.c3
  have lb0 := Xb0.out.lt
  obtain ⟨cc00, cc01, cc02, fc00, fc01, fc02⟩ := Xc0.out.c3
  have lc0 := Xc0.out.lt
  go_wp2_with fail
  clear ca00 ca01 ca02 fa00 fa01 fa02 la0 cb00 cb01 cb02 fb00 fb01 fb02 lb0 cc00 cc01 cc02 fc00 fc01 fc02 lc0
  (first | (have hcall := zwhole_ai Hf.out.ai (by omega); refine Calls.mono hcall ?_; clear hcall) | refine Calls.mono (zwhole_ai Hf.out.ai (by omega)) ?_)
  rintro e w3 ⟨v3, rfl, hg, hb⟩
  obtain ⟨g_b, g_a, g_n, g_c, g_d, g_m, g_e, rfl⟩ := hg.litb
  have Ha := Lib.hid (AR.keep Ha.out (Keep.call hb))
  have Hb := Lib.hid (AR.keep Hb.out (Keep.call hb))
  have Xa0 := Lib.hid (Box.pcall hb Xa0.out)
  have Xb0 := Lib.hid (Box.pcall hb Xb0.out)
  have Xc0 := Lib.hid (Box.pcall hb Xc0.out)
  have HB := Lib.hid (below_call HB.out hb)
  have Hg := Lib.hid hg
  clear hb hg
  obtain ⟨ca00, ca01, ca02, fa00, fa01, fa02⟩ := Xa0.out.c3
  have la0 := Xa0.out.lt
  obtain ⟨cb00, cb01, cb02, fb00, fb01, fb02⟩ := Xb0.out.c3
  have lb0 := Xb0.out.lt
  obtain ⟨cc00, cc01, cc02, fc00, fc01, fc02⟩ := Xc0.out.c3
  have lc0 := Xc0.out.lt
  go_wp2_with fail
  clear ca00 ca01 ca02 fa00 fa01 fa02 la0 cb00 cb01 cb02 fb00 fb01 fb02 lb0 cc00 cc01 cc02 fc00 fc01 fc02 lc0
  obtain ⟨W4, hW⟩ : ∃ W4, W4 = (World.alloc w3 (.cells #[.bool g_b, .slice g_a g_n g_c, .slice g_d g_m g_e] 25)) := ⟨_, rfl⟩
  rw [← hW]
  obtain ⟨xd0, hk, hb⟩ := boxes_1 _ _ _ hW
  clear hW
  have Ha := Lib.hid (AR.keep Ha.out hk)
  have Hb := Lib.hid (AR.keep Hb.out hk)
  have Hg := Lib.hid (CR.keep Hg.out hk)
  have Na0d0 := Lib.hid (show w.heap.size ≠ w3.heap.size from Nat.ne_of_lt (Nat.lt_of_lt_of_le Xa0.out.lt (by omega)))
  have Nb0d0 := Lib.hid (show w.heap.size + 1 ≠ w3.heap.size from Nat.ne_of_lt (Nat.lt_of_lt_of_le Xb0.out.lt (by omega)))
  have Nc0d0 := Lib.hid (show w.heap.size + 1 + 1 ≠ w3.heap.size from Nat.ne_of_lt (Nat.lt_of_lt_of_le Xc0.out.lt (by omega)))
  have Gd0 := Lib.hid (show w.heap.size ≤ w3.heap.size from Nat.le_trans HB.out.size (by omega))
  have Xa0 := Lib.hid (Box.pcall hb Xa0.out)
  have Xb0 := Lib.hid (Box.pcall hb Xb0.out)
  have Xc0 := Lib.hid (Box.pcall hb Xc0.out)
  have Xd0 := Lib.hid xd0
  have HB := Lib.hid (below_call HB.out hb)
  clear hk hb xd0
  (first | (have hcall := zcmp_ar k Hg.out.ar Ha.out Hk.out (by omega) (by omega); refine Calls.mono hcall ?_; clear hcall) | refine Calls.mono (zcmp_ar k Hg.out.ar Ha.out Hk.out (by omega) (by omega)) ?_)
  rintro e w5 ⟨v5, rfl, rfl, hb⟩
  have Hb := Lib.hid (AR.keep Hb.out (Keep.call hb))
  have Hg := Lib.hid (CR.keep Hg.out (Keep.call hb))
  have Xa0 := Lib.hid (Box.pcall hb Xa0.out)
  have Xb0 := Lib.hid (Box.pcall hb Xb0.out)
  have Xc0 := Lib.hid (Box.pcall hb Xc0.out)
  have Xd0 := Lib.hid (Box.pcall hb Xd0.out)
  have HB := Lib.hid (below_call HB.out hb)
  clear hb
  have hk0 : (k == 0) = false := Hk0.out
  obtain ⟨ca00, ca01, ca02, fa00, fa01, fa02⟩ := Xa0.out.c3
  have la0 := Xa0.out.lt
  obtain ⟨cb00, cb01, cb02, fb00, fb01, fb02⟩ := Xb0.out.c3
  have lb0 := Xb0.out.lt
  obtain ⟨cc00, cc01, cc02, fc00, fc01, fc02⟩ := Xc0.out.c3
  have lc0 := Xc0.out.lt
  obtain ⟨cd00, cd01, cd02, fd00, fd01, fd02⟩ := Xd0.out.c3
  have ld0 := Xd0.out.lt
  go_wp2_with fail
  clear ca00 ca01 ca02 fa00 fa01 fa02 la0 cb00 cb01 cb02 fb00 fb01 fb02 lb0 cc00 cc01 cc02 fc00 fc01 fc02 lc0 cd00 cd01 cd02 fd00 fd01 fd02 ld0
  have Hb := Lib.hid (AR.keep Hb.out (Keep.drew w5))
  have Hg := Lib.hid (CR.keep Hg.out (Keep.drew w5))
  have Xa0 := Lib.hid (Box.drew Xa0.out)
  have Xb0 := Lib.hid (Box.drew Xb0.out)
  have Xc0 := Lib.hid (Box.drew Xc0.out)
  have Xd0 := Lib.hid (Box.drew Xd0.out)
  have HB := Lib.hid (Below.drew HB.out)
  refine wp_region_float [] [⟨3, 6, 25, #[.bool false, .slice none 0 0, .slice none 0 0]⟩] (by kernel_rfl) (by kernel_rfl) 56 (by kernel_rfl) (Flok.one (by kernel_rfl) (by kernel_rfl) (by kernel_rfl) (by intro w; go_simp)) ?_
  intro ok
  have Hok := Lib.hid ok
  clear ok
  have HG := Lib.hid (Below.refl (w5.drew).heap.size (w5.drew))
  refine good_pureX 0 (some 21) (Go.Op.load 25 (Go.Operand.tmp 5)) (none) (.agg #[.bool g_b, .slice g_a g_n g_c, .slice g_d g_m g_e]) (by kernel_rfl) (by kernel_rfl) (by kernel_rfl) (fun _ _ _ h => h) (fun w' hw' => ?_) ?_
  · obtain ⟨cd00, cd01, cd02, fd00, fd01, fd02⟩ := (Box.se hw' Xd0.out notin0).c3
    first | (go_simp; done) | (go_simp; simp_all; done) | (go_simp; rfl)
  simp only [Act.put, List.setIfInBounds_toArray, List.set_cons_zero, List.set_cons_succ]
  refine good_callX 1 24 (some 22) #[Go.Operand.const (Go.Value.int Go.IntKind.i64 1)] #[3] (none) #[.int .i64 1] (by kernel_rfl) Hok.out (by kernel_rfl) (by kernel_rfl) (by kernel_rfl) (by kernel_rfl) rfl rfl rfl (by kernel_rfl) (fun w6 hb => ?_)
  have HG := Lib.hid (below_call HG.out hb)
  clear hb
  refine Calls.mono (zof_one) ?_
  rintro e w7 ⟨v7, rfl, ho, hb⟩
  obtain ⟨o_b, o_a, o_n, o_c, o_d, o_m, o_e, rfl⟩ := ho.litb
  refine ⟨_, rfl, ?_, hb⟩
  have HG := Lib.hid (below_call HG.out hb)
  have Ho := Lib.hid ho
  clear hb ho
  simp only [Act.put, List.setIfInBounds_toArray, List.set_cons_zero, List.set_cons_succ]
  refine good_callX 2 16 (some 23) #[Go.Operand.tmp 21, Go.Operand.tmp 22] #[25, 25] (none) #[.agg #[.bool g_b, .slice g_a g_n g_c, .slice g_d g_m g_e], .agg #[.bool o_b, .slice o_a o_n o_c, .slice o_d o_m o_e]] (by kernel_rfl) Hok.out (by kernel_rfl) (by kernel_rfl) (by kernel_rfl) (by kernel_rfl) rfl rfl rfl (by kernel_rfl) (fun w8 hb => ?_)
  have Ho := Lib.hid (CR.keep Ho.out (Keep.call hb))
  have HG := Lib.hid (below_call HG.out hb)
  clear hb
  (first | (have hcall := zadd_ar (CR.keep Hg.out (Keep.call HG.out)).ar Ho.out.ar (by omega) (by omega); refine Calls.mono hcall ?_; clear hcall) | refine Calls.mono (zadd_ar (CR.keep Hg.out (Keep.call HG.out)).ar Ho.out.ar (by omega) (by omega)) ?_)
  rintro e w9 ⟨v9, rfl, hn, hb⟩
  obtain ⟨n_b, n_a, n_n, n_c, n_d, n_m, n_e, rfl⟩ := hn.litb
  refine ⟨_, rfl, ?_, hb⟩
  have HG := Lib.hid (below_call HG.out hb)
  have Hn := Lib.hid hn
  clear hb hn
  simp only [Act.put, List.setIfInBounds_toArray, List.set_cons_zero, List.set_cons_succ]
  refine good_end1 1 Hok.out (by kernel_rfl) (by kernel_rfl) (by kernel_rfl) (fun _ ge0 w10 hb ee0 xe0 => ?_)
  have Hn := Lib.hid (CR.keep Hn.out (Keep.call hb))
  have HG := Lib.hid (below_call HG.out hb)
  clear hb
  have Na0e0 := Lib.hid (show w.heap.size ≠ ge0 from Nat.ne_of_lt (Nat.lt_of_lt_of_le Xa0.out.lt ee0))
  have Nb0e0 := Lib.hid (show w.heap.size + 1 ≠ ge0 from Nat.ne_of_lt (Nat.lt_of_lt_of_le Xb0.out.lt ee0))
  have Nc0e0 := Lib.hid (show w.heap.size + 1 + 1 ≠ ge0 from Nat.ne_of_lt (Nat.lt_of_lt_of_le Xc0.out.lt ee0))
  have Nd0e0 := Lib.hid (show w3.heap.size ≠ ge0 from Nat.ne_of_lt (Nat.lt_of_lt_of_le Xd0.out.lt ee0))
  have Ge0 := Lib.hid (show w.heap.size ≤ ge0 from Nat.le_trans HB.out.size ee0)
  have Ee0 := Lib.hid ee0
  clear ee0
  have Hb := Lib.hid (AR.keep Hb.out (Keep.call HG.out))
  have Xa0 := Lib.hid (Box.pcall HG.out Xa0.out)
  have Xb0 := Lib.hid (Box.pcall HG.out Xb0.out)
  have Xc0 := Lib.hid (Box.pcall HG.out Xc0.out)
  have Xd0 := Lib.hid (Box.pcall HG.out Xd0.out)
  have HB := Lib.hid (below_call HB.out HG.out)
  have HS := Lib.hid (SE.of (E := []) HG.out)
  have Xe0 := Lib.hid xe0
  clear xe0
  simp only [Act.put, List.setIfInBounds_toArray, List.set_cons_zero, List.set_cons_succ]
  refine held_oneX 4 (Go.Op.store 25 (Go.Operand.tmp 6) (Go.Operand.tmp 23)) (none) (World.setCell (World.setCell (World.setCell w10 ⟨ge0, 0, none⟩ (.bool n_b)) ⟨ge0, 1, none⟩ (.slice n_a n_n n_c)) ⟨ge0, 2, none⟩ (.slice n_d n_m n_e)) (by kernel_rfl) (by kernel_rfl) (by kernel_rfl) (by kernel_rfl) ?_ (HS.out.store3 (.inr Ee0.out)) ?_
  · obtain ⟨ce00, ce01, ce02, fe00, fe01, fe02⟩ := Xe0.out.c3
    first | (go_simp; done) | (go_simp; simp_all; done) | (go_simp; rfl)
  obtain ⟨W11, hW⟩ : ∃ W11, W11 = (World.setCell (World.setCell (World.setCell w10 ⟨ge0, 0, none⟩ (.bool n_b)) ⟨ge0, 1, none⟩ (.slice n_a n_n n_c)) ⟨ge0, 2, none⟩ (.slice n_d n_m n_e)) := ⟨_, rfl⟩
  rw [← hW]
  obtain ⟨xe0, hk, hf, hbb, hz⟩ := stored3s hW Xe0.out (by first | exact NoInt.bool _ | exact NoInt.slice _ _ _) (by first | exact NoInt.bool _ | exact NoInt.slice _ _ _) (by first | exact NoInt.bool _ | exact NoInt.slice _ _ _)
  have Hb := Lib.hid (AR.keep Hb.out hk)
  have Hn := Lib.hid (CR.keep Hn.out hk)
  have Xa0 := Lib.hid (hf _ _ _ Xa0.out Na0e0.out)
  have Xb0 := Lib.hid (hf _ _ _ Xb0.out Nb0e0.out)
  have Xc0 := Lib.hid (hf _ _ _ Xc0.out Nc0e0.out)
  have Xd0 := Lib.hid (hf _ _ _ Xd0.out Nd0e0.out)
  have Xe0 := Lib.hid xe0
  have HB := Lib.hid (hbb _ HB.out Ge0.out)
  have HS := Lib.hid (show SE (w5.drew) [] W11 from by rw [hW]; exact HS.out.store3 (.inr Ee0.out))
  clear hW hk hf hbb xe0
  clear hz
  refine wpAnyH_done (by kernel_rfl) ?_ _
  clear HG HS Hok Ee0
  obtain ⟨ca00, ca01, ca02, fa00, fa01, fa02⟩ := Xa0.out.c3
  have la0 := Xa0.out.lt
  obtain ⟨cb00, cb01, cb02, fb00, fb01, fb02⟩ := Xb0.out.c3
  have lb0 := Xb0.out.lt
  obtain ⟨cc00, cc01, cc02, fc00, fc01, fc02⟩ := Xc0.out.c3
  have lc0 := Xc0.out.lt
  obtain ⟨cd00, cd01, cd02, fd00, fd01, fd02⟩ := Xd0.out.c3
  have ld0 := Xd0.out.lt
  obtain ⟨ce00, ce01, ce02, fe00, fe01, fe02⟩ := Xe0.out.c3
  have le0 := Xe0.out.lt
  go_wp2_with fail
  clear ca00 ca01 ca02 fa00 fa01 fa02 la0 cb00 cb01 cb02 fb00 fb01 fb02 lb0 cc00 cc01 cc02 fc00 fc01 fc02 lc0 cd00 cd01 cd02 fd00 fd01 fd02 ld0 ce00 ce01 ce02 fe00 fe01 fe02 le0
  (first | (have hcall := zcmp_ar m Hn.out.ar Hb.out Hm.out (by omega) (by omega); refine Calls.mono hcall ?_; clear hcall) | refine Calls.mono (zcmp_ar m Hn.out.ar Hb.out Hm.out (by omega) (by omega)) ?_)
  rintro e w12 ⟨v12, rfl, rfl, hb⟩
  have Hn := Lib.hid (CR.keep Hn.out (Keep.call hb))
  have Xa0 := Lib.hid (Box.pcall hb Xa0.out)
  have Xb0 := Lib.hid (Box.pcall hb Xb0.out)
  have Xc0 := Lib.hid (Box.pcall hb Xc0.out)
  have Xd0 := Lib.hid (Box.pcall hb Xd0.out)
  have Xe0 := Lib.hid (Box.pcall hb Xe0.out)
  have HB := Lib.hid (below_call HB.out hb)
  clear hb
  have hm0 : decide (m ≤ 0) = true := Hm0.out
  obtain ⟨ca00, ca01, ca02, fa00, fa01, fa02⟩ := Xa0.out.c3
  have la0 := Xa0.out.lt
  obtain ⟨cb00, cb01, cb02, fb00, fb01, fb02⟩ := Xb0.out.c3
  have lb0 := Xb0.out.lt
  obtain ⟨cc00, cc01, cc02, fc00, fc01, fc02⟩ := Xc0.out.c3
  have lc0 := Xc0.out.lt
  obtain ⟨cd00, cd01, cd02, fd00, fd01, fd02⟩ := Xd0.out.c3
  have ld0 := Xd0.out.lt
  obtain ⟨ce00, ce01, ce02, fe00, fe01, fe02⟩ := Xe0.out.c3
  have le0 := Xe0.out.lt
  go_wp2
  clear ca00 ca01 ca02 fa00 fa01 fa02 la0 cb00 cb01 cb02 fb00 fb01 fb02 lb0 cc00 cc01 cc02 fc00 fc01 fc02 lc0 cd00 cd01 cd02 fd00 fd01 fd02 ld0 ce00 ce01 ce02 fe00 fe01 fe02 le0
  obtain ⟨W13, hW⟩ : ∃ W13, W13 = (World.setCell (World.setCell (World.setCell w12 ⟨w.heap.size + 1 + 1, 0, none⟩ (.bool n_b)) ⟨w.heap.size + 1 + 1, 1, none⟩ (.slice n_a n_n n_c)) ⟨w.heap.size + 1 + 1, 2, none⟩ (.slice n_d n_m n_e)) := ⟨_, rfl⟩
  rw [← hW]
  obtain ⟨xc0, hk, hf, hbb, hz⟩ := stored3s hW Xc0.out (by first | exact NoInt.bool _ | exact NoInt.slice _ _ _) (by first | exact NoInt.bool _ | exact NoInt.slice _ _ _) (by first | exact NoInt.bool _ | exact NoInt.slice _ _ _)
  have Hn := Lib.hid (CR.keep Hn.out hk)
  have Xa0 := Lib.hid (hf _ _ _ Xa0.out (by omega))
  have Xb0 := Lib.hid (hf _ _ _ Xb0.out (by omega))
  have Xc0 := Lib.hid xc0
  have Xd0 := Lib.hid (hf _ _ _ Xd0.out Nc0d0.out.symm)
  have Xe0 := Lib.hid (hf _ _ _ Xe0.out Nc0e0.out.symm)
  have HB := Lib.hid (hbb _ HB.out Gc0.out)
  clear hW hk hf hbb xc0
  clear hz
  exact ret_rat1 rfl rfl rfl Xc0.out (CR.mono Hn.out (by omega)) HB.out


set_option maxRecDepth 100000 in
set_option maxHeartbeats 4000000 in
theorem pos_3 {L : Nat} {qa : Rat} {ba : Bool} {sa ta : Value} {qb : Rat} {bb : Bool} {sb tb : Value} {w : World} {r : Rat} (k m : Int) (hk : cmpQ (qa.floor : Rat) qa = k) (hk0 : (k == 0) = false) (hm : cmpQ ((qa.floor : Rat) + 1) qb = m) (hm0 : decide (m ≤ 0) = false) (hn1 : qb - (qa.floor : Rat) ≠ 0) (hn2 : qa - (qa.floor : Rat) ≠ 0) (hn3 : r ≠ 0) (hs1 : Sm L (1 / (qb - (qa.floor : Rat)))) (hs2 : Sm L (1 / (qa - (qa.floor : Rat)))) (hrec : ∀ (w : World) (u v : Value), AR (1 / (qb - (qa.floor : Rat))) L w u → AR (1 / (qa - (qa.floor : Rat))) L w v → Calls Try.prog 68 #[u, v] w (Ret w (CR r L))) (ha : AR qa L w (.agg #[.bool ba, sa, ta])) (hb : AR qb L w (.agg #[.bool bb, sb, tb])) (hL : L ≤ 10000) :
    Calls Try.prog 68 #[.agg #[.bool ba, sa, ta], .agg #[.bool bb, sb, tb]] w (Ret w (CR ((qa.floor : Rat) + 1 / r) (L + L + 10))) := by
  have Ha := Lib.hid ha
  have Hb := Lib.hid hb
  have Hk := Lib.hid hk
  have Hk0 := Lib.hid hk0
  have Hm := Lib.hid hm
  have Hm0 := Lib.hid hm0
  have Hn1 := Lib.hid hn1
  have Hn2 := Lib.hid hn2
  have Hn3 := Lib.hid hn3
  have Hs1 := Lib.hid hs1
  have Hs2 := Lib.hid hs2
  have Hrec := Lib.hid hrec
  clear ha hb hk hk0 hm hm0 hn1 hn2 hn3 hs1 hs2 hrec
  go_enter Try.func68, Try.ntmps68
  have HB := Lib.hid (Below.refl w.heap.size w)
  go_wp2_with fail
  obtain ⟨W1, hW⟩ : ∃ W1, W1 = (World.alloc (World.alloc (World.alloc w (.cells #[.bool ba, sa, ta] 25)) (.cells #[.bool bb, sb, tb] 25)) (.cells #[.bool false, .slice none 0 0, .slice none 0 0] 25)) := ⟨_, rfl⟩
  rw [← hW]
  obtain ⟨xa0, xb0, xc0, hk, hb⟩ := boxes_3 _ _ _ _ _ _ _ hW
  clear hW
  have Ha := Lib.hid (AR.keep Ha.out hk)
  have Hb := Lib.hid (AR.keep Hb.out hk)
  have Ga0 := Lib.hid (show w.heap.size ≤ w.heap.size from Nat.le_trans HB.out.size (by omega))
  have Gb0 := Lib.hid (show w.heap.size ≤ w.heap.size + 1 from Nat.le_trans HB.out.size (by omega))
  have Gc0 := Lib.hid (show w.heap.size ≤ w.heap.size + 1 + 1 from Nat.le_trans HB.out.size (by omega))
  have Xa0 := Lib.hid xa0
  have Xb0 := Lib.hid xb0
  have Xc0 := Lib.hid xc0
  have HB := Lib.hid (below_call HB.out hb)
  clear hk hb xa0 xb0 xc0
  (first | (have hcall := zfloor_ar Ha.out (by omega); refine Calls.mono hcall ?_; clear hcall) | refine Calls.mono (zfloor_ar Ha.out (by omega)) ?_)
  rintro e w2 ⟨v2, rfl, hf, hb⟩
  obtain ⟨f_b, f_a, f_n, f_c, rfl⟩ := hf.litb
  have Ha := Lib.hid (AR.keep Ha.out (Keep.call hb))
  have Hb := Lib.hid (AR.keep Hb.out (Keep.call hb))
  have Xa0 := Lib.hid (Box.pcall hb Xa0.out)
  have Xb0 := Lib.hid (Box.pcall hb Xb0.out)
  have Xc0 := Lib.hid (Box.pcall hb Xc0.out)
  have HB := Lib.hid (below_call HB.out hb)
  have Hf := Lib.hid hf
  clear hb hf
  obtain ⟨ca00, ca01, ca02, fa00, fa01, fa02⟩ := Xa0.out.c3
  have la0 := Xa0.out.lt
  obtain ⟨cb00, cb01, cb02, fb00, fb01, fb02⟩ := Xb0.out.c3
  have lb0 := Xb0.out.lt
  obtain ⟨cc00, cc01, cc02, fc00, fc01, fc02⟩ := Xc0.out.c3
  have lc0 := Xc0.out.lt
  go_wp2_with fail
  clear ca00 ca01 ca02 fa00 fa01 fa02 la0 cb00 cb01 cb02 fb00 fb01 fb02 lb0 cc00 cc01 cc02 fc00 fc01 fc02 lc0
  (first | (have hcall := zwhole_ai Hf.out.ai (by omega); refine Calls.mono hcall ?_; clear hcall) | refine Calls.mono (zwhole_ai Hf.out.ai (by omega)) ?_)
  rintro e w3 ⟨v3, rfl, hg, hb⟩
  obtain ⟨g_b, g_a, g_n, g_c, g_d, g_m, g_e, rfl⟩ := hg.litb
  have Ha := Lib.hid (AR.keep Ha.out (Keep.call hb))
  have Hb := Lib.hid (AR.keep Hb.out (Keep.call hb))
  have Xa0 := Lib.hid (Box.pcall hb Xa0.out)
  have Xb0 := Lib.hid (Box.pcall hb Xb0.out)
  have Xc0 := Lib.hid (Box.pcall hb Xc0.out)
  have HB := Lib.hid (below_call HB.out hb)
  have Hg := Lib.hid hg
  clear hb hg
  obtain ⟨ca00, ca01, ca02, fa00, fa01, fa02⟩ := Xa0.out.c3
  have la0 := Xa0.out.lt
  obtain ⟨cb00, cb01, cb02, fb00, fb01, fb02⟩ := Xb0.out.c3
  have lb0 := Xb0.out.lt
  obtain ⟨cc00, cc01, cc02, fc00, fc01, fc02⟩ := Xc0.out.c3
  have lc0 := Xc0.out.lt
  go_wp2_with fail
  clear ca00 ca01 ca02 fa00 fa01 fa02 la0 cb00 cb01 cb02 fb00 fb01 fb02 lb0 cc00 cc01 cc02 fc00 fc01 fc02 lc0
  obtain ⟨W4, hW⟩ : ∃ W4, W4 = (World.alloc w3 (.cells #[.bool g_b, .slice g_a g_n g_c, .slice g_d g_m g_e] 25)) := ⟨_, rfl⟩
  rw [← hW]
  obtain ⟨xd0, hk, hb⟩ := boxes_1 _ _ _ hW
  clear hW
  have Ha := Lib.hid (AR.keep Ha.out hk)
  have Hb := Lib.hid (AR.keep Hb.out hk)
  have Hg := Lib.hid (CR.keep Hg.out hk)
  have Na0d0 := Lib.hid (show w.heap.size ≠ w3.heap.size from Nat.ne_of_lt (Nat.lt_of_lt_of_le Xa0.out.lt (by omega)))
  have Nb0d0 := Lib.hid (show w.heap.size + 1 ≠ w3.heap.size from Nat.ne_of_lt (Nat.lt_of_lt_of_le Xb0.out.lt (by omega)))
  have Nc0d0 := Lib.hid (show w.heap.size + 1 + 1 ≠ w3.heap.size from Nat.ne_of_lt (Nat.lt_of_lt_of_le Xc0.out.lt (by omega)))
  have Gd0 := Lib.hid (show w.heap.size ≤ w3.heap.size from Nat.le_trans HB.out.size (by omega))
  have Xa0 := Lib.hid (Box.pcall hb Xa0.out)
  have Xb0 := Lib.hid (Box.pcall hb Xb0.out)
  have Xc0 := Lib.hid (Box.pcall hb Xc0.out)
  have Xd0 := Lib.hid xd0
  have HB := Lib.hid (below_call HB.out hb)
  clear hk hb xd0
  (first | (have hcall := zcmp_ar k Hg.out.ar Ha.out Hk.out (by omega) (by omega); refine Calls.mono hcall ?_; clear hcall) | refine Calls.mono (zcmp_ar k Hg.out.ar Ha.out Hk.out (by omega) (by omega)) ?_)
  rintro e w5 ⟨v5, rfl, rfl, hb⟩
  have Ha := Lib.hid (AR.keep Ha.out (Keep.call hb))
  have Hb := Lib.hid (AR.keep Hb.out (Keep.call hb))
  have Hg := Lib.hid (CR.keep Hg.out (Keep.call hb))
  have Xa0 := Lib.hid (Box.pcall hb Xa0.out)
  have Xb0 := Lib.hid (Box.pcall hb Xb0.out)
  have Xc0 := Lib.hid (Box.pcall hb Xc0.out)
  have Xd0 := Lib.hid (Box.pcall hb Xd0.out)
  have HB := Lib.hid (below_call HB.out hb)
  clear hb
  have hk0 : (k == 0) = false := Hk0.out
  obtain ⟨ca00, ca01, ca02, fa00, fa01, fa02⟩ := Xa0.out.c3
  have la0 := Xa0.out.lt
  obtain ⟨cb00, cb01, cb02, fb00, fb01, fb02⟩ := Xb0.out.c3
  have lb0 := Xb0.out.lt
  obtain ⟨cc00, cc01, cc02, fc00, fc01, fc02⟩ := Xc0.out.c3
  have lc0 := Xc0.out.lt
  obtain ⟨cd00, cd01, cd02, fd00, fd01, fd02⟩ := Xd0.out.c3
  have ld0 := Xd0.out.lt
  go_wp2_with fail
  clear ca00 ca01 ca02 fa00 fa01 fa02 la0 cb00 cb01 cb02 fb00 fb01 fb02 lb0 cc00 cc01 cc02 fc00 fc01 fc02 lc0 cd00 cd01 cd02 fd00 fd01 fd02 ld0
  have Ha := Lib.hid (AR.keep Ha.out (Keep.drew w5))
  have Hb := Lib.hid (AR.keep Hb.out (Keep.drew w5))
  have Hg := Lib.hid (CR.keep Hg.out (Keep.drew w5))
  have Xa0 := Lib.hid (Box.drew Xa0.out)
  have Xb0 := Lib.hid (Box.drew Xb0.out)
  have Xc0 := Lib.hid (Box.drew Xc0.out)
  have Xd0 := Lib.hid (Box.drew Xd0.out)
  have HB := Lib.hid (Below.drew HB.out)
  refine wp_region_float [] [⟨3, 6, 25, #[.bool false, .slice none 0 0, .slice none 0 0]⟩] (by kernel_rfl) (by kernel_rfl) 56 (by kernel_rfl) (Flok.one (by kernel_rfl) (by kernel_rfl) (by kernel_rfl) (by intro w; go_simp)) ?_
  intro ok
  have Hok := Lib.hid ok
  clear ok
  have HG := Lib.hid (Below.refl (w5.drew).heap.size (w5.drew))
  refine good_pureX 0 (some 21) (Go.Op.load 25 (Go.Operand.tmp 5)) (none) (.agg #[.bool g_b, .slice g_a g_n g_c, .slice g_d g_m g_e]) (by kernel_rfl) (by kernel_rfl) (by kernel_rfl) (fun _ _ _ h => h) (fun w' hw' => ?_) ?_
  · obtain ⟨cd00, cd01, cd02, fd00, fd01, fd02⟩ := (Box.se hw' Xd0.out notin0).c3
    first | (go_simp; done) | (go_simp; simp_all; done) | (go_simp; rfl)
  simp only [Act.put, List.setIfInBounds_toArray, List.set_cons_zero, List.set_cons_succ]
  refine good_callX 1 24 (some 22) #[Go.Operand.const (Go.Value.int Go.IntKind.i64 1)] #[3] (none) #[.int .i64 1] (by kernel_rfl) Hok.out (by kernel_rfl) (by kernel_rfl) (by kernel_rfl) (by kernel_rfl) rfl rfl rfl (by kernel_rfl) (fun w6 hb => ?_)
  have HG := Lib.hid (below_call HG.out hb)
  clear hb
  refine Calls.mono (zof_one) ?_
  rintro e w7 ⟨v7, rfl, ho, hb⟩
  obtain ⟨o_b, o_a, o_n, o_c, o_d, o_m, o_e, rfl⟩ := ho.litb
  refine ⟨_, rfl, ?_, hb⟩
  have HG := Lib.hid (below_call HG.out hb)
  have Ho := Lib.hid ho
  clear hb ho
  simp only [Act.put, List.setIfInBounds_toArray, List.set_cons_zero, List.set_cons_succ]
  refine good_callX 2 16 (some 23) #[Go.Operand.tmp 21, Go.Operand.tmp 22] #[25, 25] (none) #[.agg #[.bool g_b, .slice g_a g_n g_c, .slice g_d g_m g_e], .agg #[.bool o_b, .slice o_a o_n o_c, .slice o_d o_m o_e]] (by kernel_rfl) Hok.out (by kernel_rfl) (by kernel_rfl) (by kernel_rfl) (by kernel_rfl) rfl rfl rfl (by kernel_rfl) (fun w8 hb => ?_)
  have Ho := Lib.hid (CR.keep Ho.out (Keep.call hb))
  have HG := Lib.hid (below_call HG.out hb)
  clear hb
  (first | (have hcall := zadd_ar (CR.keep Hg.out (Keep.call HG.out)).ar Ho.out.ar (by omega) (by omega); refine Calls.mono hcall ?_; clear hcall) | refine Calls.mono (zadd_ar (CR.keep Hg.out (Keep.call HG.out)).ar Ho.out.ar (by omega) (by omega)) ?_)
  rintro e w9 ⟨v9, rfl, hn, hb⟩
  obtain ⟨n_b, n_a, n_n, n_c, n_d, n_m, n_e, rfl⟩ := hn.litb
  refine ⟨_, rfl, ?_, hb⟩
  have HG := Lib.hid (below_call HG.out hb)
  have Hn := Lib.hid hn
  clear hb hn
  simp only [Act.put, List.setIfInBounds_toArray, List.set_cons_zero, List.set_cons_succ]
  refine good_end1 1 Hok.out (by kernel_rfl) (by kernel_rfl) (by kernel_rfl) (fun _ ge0 w10 hb ee0 xe0 => ?_)
  have Hn := Lib.hid (CR.keep Hn.out (Keep.call hb))
  have HG := Lib.hid (below_call HG.out hb)
  clear hb
  have Na0e0 := Lib.hid (show w.heap.size ≠ ge0 from Nat.ne_of_lt (Nat.lt_of_lt_of_le Xa0.out.lt ee0))
  have Nb0e0 := Lib.hid (show w.heap.size + 1 ≠ ge0 from Nat.ne_of_lt (Nat.lt_of_lt_of_le Xb0.out.lt ee0))
  have Nc0e0 := Lib.hid (show w.heap.size + 1 + 1 ≠ ge0 from Nat.ne_of_lt (Nat.lt_of_lt_of_le Xc0.out.lt ee0))
  have Nd0e0 := Lib.hid (show w3.heap.size ≠ ge0 from Nat.ne_of_lt (Nat.lt_of_lt_of_le Xd0.out.lt ee0))
  have Ge0 := Lib.hid (show w.heap.size ≤ ge0 from Nat.le_trans HB.out.size ee0)
  have Ee0 := Lib.hid ee0
  clear ee0
  have Ha := Lib.hid (AR.keep Ha.out (Keep.call HG.out))
  have Hb := Lib.hid (AR.keep Hb.out (Keep.call HG.out))
  have Hg := Lib.hid (CR.keep Hg.out (Keep.call HG.out))
  have Xa0 := Lib.hid (Box.pcall HG.out Xa0.out)
  have Xb0 := Lib.hid (Box.pcall HG.out Xb0.out)
  have Xc0 := Lib.hid (Box.pcall HG.out Xc0.out)
  have Xd0 := Lib.hid (Box.pcall HG.out Xd0.out)
  have HB := Lib.hid (below_call HB.out HG.out)
  have HS := Lib.hid (SE.of (E := []) HG.out)
  have Xe0 := Lib.hid xe0
  clear xe0
  simp only [Act.put, List.setIfInBounds_toArray, List.set_cons_zero, List.set_cons_succ]
  refine held_oneX 4 (Go.Op.store 25 (Go.Operand.tmp 6) (Go.Operand.tmp 23)) (none) (World.setCell (World.setCell (World.setCell w10 ⟨ge0, 0, none⟩ (.bool n_b)) ⟨ge0, 1, none⟩ (.slice n_a n_n n_c)) ⟨ge0, 2, none⟩ (.slice n_d n_m n_e)) (by kernel_rfl) (by kernel_rfl) (by kernel_rfl) (by kernel_rfl) ?_ (HS.out.store3 (.inr Ee0.out)) ?_
  · obtain ⟨ce00, ce01, ce02, fe00, fe01, fe02⟩ := Xe0.out.c3
    first | (go_simp; done) | (go_simp; simp_all; done) | (go_simp; rfl)
  obtain ⟨W11, hW⟩ : ∃ W11, W11 = (World.setCell (World.setCell (World.setCell w10 ⟨ge0, 0, none⟩ (.bool n_b)) ⟨ge0, 1, none⟩ (.slice n_a n_n n_c)) ⟨ge0, 2, none⟩ (.slice n_d n_m n_e)) := ⟨_, rfl⟩
  rw [← hW]
  obtain ⟨xe0, hk, hf, hbb, hz⟩ := stored3s hW Xe0.out (by first | exact NoInt.bool _ | exact NoInt.slice _ _ _) (by first | exact NoInt.bool _ | exact NoInt.slice _ _ _) (by first | exact NoInt.bool _ | exact NoInt.slice _ _ _)
  have Ha := Lib.hid (AR.keep Ha.out hk)
  have Hb := Lib.hid (AR.keep Hb.out hk)
  have Hg := Lib.hid (CR.keep Hg.out hk)
  have Hn := Lib.hid (CR.keep Hn.out hk)
  have Xa0 := Lib.hid (hf _ _ _ Xa0.out Na0e0.out)
  have Xb0 := Lib.hid (hf _ _ _ Xb0.out Nb0e0.out)
  have Xc0 := Lib.hid (hf _ _ _ Xc0.out Nc0e0.out)
  have Xd0 := Lib.hid (hf _ _ _ Xd0.out Nd0e0.out)
  have Xe0 := Lib.hid xe0
  have HB := Lib.hid (hbb _ HB.out Ge0.out)
  have HS := Lib.hid (show SE (w5.drew) [] W11 from by rw [hW]; exact HS.out.store3 (.inr Ee0.out))
  clear hW hk hf hbb xe0
  clear hz
  refine wpAnyH_done (by kernel_rfl) ?_ _
  clear HG HS Hok Ee0
  obtain ⟨ca00, ca01, ca02, fa00, fa01, fa02⟩ := Xa0.out.c3
  have la0 := Xa0.out.lt
  obtain ⟨cb00, cb01, cb02, fb00, fb01, fb02⟩ := Xb0.out.c3
  have lb0 := Xb0.out.lt
  obtain ⟨cc00, cc01, cc02, fc00, fc01, fc02⟩ := Xc0.out.c3
  have lc0 := Xc0.out.lt
  obtain ⟨cd00, cd01, cd02, fd00, fd01, fd02⟩ := Xd0.out.c3
  have ld0 := Xd0.out.lt
  obtain ⟨ce00, ce01, ce02, fe00, fe01, fe02⟩ := Xe0.out.c3
  have le0 := Xe0.out.lt
  go_wp2_with fail
  clear ca00 ca01 ca02 fa00 fa01 fa02 la0 cb00 cb01 cb02 fb00 fb01 fb02 lb0 cc00 cc01 cc02 fc00 fc01 fc02 lc0 cd00 cd01 cd02 fd00 fd01 fd02 ld0 ce00 ce01 ce02 fe00 fe01 fe02 le0
  (first | (have hcall := zcmp_ar m Hn.out.ar Hb.out Hm.out (by omega) (by omega); refine Calls.mono hcall ?_; clear hcall) | refine Calls.mono (zcmp_ar m Hn.out.ar Hb.out Hm.out (by omega) (by omega)) ?_)
  rintro e w12 ⟨v12, rfl, rfl, hb⟩
  have Ha := Lib.hid (AR.keep Ha.out (Keep.call hb))
  have Hb := Lib.hid (AR.keep Hb.out (Keep.call hb))
  have Hg := Lib.hid (CR.keep Hg.out (Keep.call hb))
  have Xa0 := Lib.hid (Box.pcall hb Xa0.out)
  have Xb0 := Lib.hid (Box.pcall hb Xb0.out)
  have Xc0 := Lib.hid (Box.pcall hb Xc0.out)
  have Xd0 := Lib.hid (Box.pcall hb Xd0.out)
  have Xe0 := Lib.hid (Box.pcall hb Xe0.out)
  have HB := Lib.hid (below_call HB.out hb)
  clear hb
  have hm0 : decide (m ≤ 0) = false := Hm0.out
  obtain ⟨ca00, ca01, ca02, fa00, fa01, fa02⟩ := Xa0.out.c3
  have la0 := Xa0.out.lt
  obtain ⟨cb00, cb01, cb02, fb00, fb01, fb02⟩ := Xb0.out.c3
  have lb0 := Xb0.out.lt
  obtain ⟨cc00, cc01, cc02, fc00, fc01, fc02⟩ := Xc0.out.c3
  have lc0 := Xc0.out.lt
  obtain ⟨cd00, cd01, cd02, fd00, fd01, fd02⟩ := Xd0.out.c3
  have ld0 := Xd0.out.lt
  obtain ⟨ce00, ce01, ce02, fe00, fe01, fe02⟩ := Xe0.out.c3
  have le0 := Xe0.out.lt
  go_wp2_with fail
  clear ca00 ca01 ca02 fa00 fa01 fa02 la0 cb00 cb01 cb02 fb00 fb01 fb02 lb0 cc00 cc01 cc02 fc00 fc01 fc02 lc0 cd00 cd01 cd02 fd00 fd01 fd02 ld0 ce00 ce01 ce02 fe00 fe01 fe02 le0
  have Ha := Lib.hid (AR.keep Ha.out (Keep.drew w12))
  have Hb := Lib.hid (AR.keep Hb.out (Keep.drew w12))
  have Hg := Lib.hid (CR.keep Hg.out (Keep.drew w12))
  have Xa0 := Lib.hid (Box.drew Xa0.out)
  have Xb0 := Lib.hid (Box.drew Xb0.out)
  have Xc0 := Lib.hid (Box.drew Xc0.out)
  have Xd0 := Lib.hid (Box.drew Xd0.out)
  have Xe0 := Lib.hid (Box.drew Xe0.out)
  have HB := Lib.hid (Below.drew HB.out)
  refine wp_region_float [] [⟨8, 7, 25, #[.bool false, .slice none 0 0, .slice none 0 0]⟩] (by kernel_rfl) (by kernel_rfl) 56 (by kernel_rfl) (Flok.one (by kernel_rfl) (by kernel_rfl) (by kernel_rfl) (by intro w; go_simp)) ?_
  intro ok
  have Hok := Lib.hid ok
  clear ok
  have HG := Lib.hid (Below.refl (w12.drew).heap.size (w12.drew))
  refine good_pureX 1 (some 31) (Go.Op.load 25 (Go.Operand.tmp 3)) (none) (.agg #[.bool bb, sb, tb]) (by kernel_rfl) (by kernel_rfl) (by kernel_rfl) (fun _ _ _ h => h) (fun w' hw' => ?_) ?_
  · obtain ⟨cb00, cb01, cb02, fb00, fb01, fb02⟩ := (Box.se hw' Xb0.out notin0).c3
    first | (go_simp; done) | (go_simp; simp_all; done) | (go_simp; rfl)
  simp only [Act.put, List.setIfInBounds_toArray, List.set_cons_zero, List.set_cons_succ]
  refine good_pureX 2 (some 32) (Go.Op.load 25 (Go.Operand.tmp 5)) (none) (.agg #[.bool g_b, .slice g_a g_n g_c, .slice g_d g_m g_e]) (by kernel_rfl) (by kernel_rfl) (by kernel_rfl) (fun _ _ _ h => h) (fun w' hw' => ?_) ?_
  · obtain ⟨cd00, cd01, cd02, fd00, fd01, fd02⟩ := (Box.se hw' Xd0.out notin0).c3
    first | (go_simp; done) | (go_simp; simp_all; done) | (go_simp; rfl)
  simp only [Act.put, List.setIfInBounds_toArray, List.set_cons_zero, List.set_cons_succ]
  refine good_callX 0 24 (some 30) #[Go.Operand.const (Go.Value.int Go.IntKind.i64 1)] #[3] (none) #[.int .i64 1] (by kernel_rfl) Hok.out (by kernel_rfl) (by kernel_rfl) (by kernel_rfl) (by kernel_rfl) rfl rfl rfl (by kernel_rfl) (fun w13 hb => ?_)
  have HG := Lib.hid (below_call HG.out hb)
  clear hb
  refine Calls.mono (zof_one) ?_
  rintro e w14 ⟨v14, rfl, ho1, hb⟩
  obtain ⟨o1_b, o1_a, o1_n, o1_c, o1_d, o1_m, o1_e, rfl⟩ := ho1.litb
  refine ⟨_, rfl, ?_, hb⟩
  have HG := Lib.hid (below_call HG.out hb)
  have Ho1 := Lib.hid ho1
  clear hb ho1
  simp only [Act.put, List.setIfInBounds_toArray, List.set_cons_zero, List.set_cons_succ]
  refine good_callX 3 18 (some 33) #[Go.Operand.tmp 31, Go.Operand.tmp 32] #[25, 25] (none) #[.agg #[.bool bb, sb, tb], .agg #[.bool g_b, .slice g_a g_n g_c, .slice g_d g_m g_e]] (by kernel_rfl) Hok.out (by kernel_rfl) (by kernel_rfl) (by kernel_rfl) (by kernel_rfl) rfl rfl rfl (by kernel_rfl) (fun w15 hb => ?_)
  have Ho1 := Lib.hid (CR.keep Ho1.out (Keep.call hb))
  have HG := Lib.hid (below_call HG.out hb)
  clear hb
  (first | (have hcall := zsub_ar (AR.keep Hb.out (Keep.call HG.out)) (CR.keep Hg.out (Keep.call HG.out)).ar (by omega) (by omega); refine Calls.mono hcall ?_; clear hcall) | refine Calls.mono (zsub_ar (AR.keep Hb.out (Keep.call HG.out)) (CR.keep Hg.out (Keep.call HG.out)).ar (by omega) (by omega)) ?_)
  rintro e w16 ⟨v16, rfl, hd1, hb⟩
  obtain ⟨d1_b, d1_a, d1_n, d1_c, d1_d, d1_m, d1_e, rfl⟩ := hd1.litb
  refine ⟨_, rfl, ?_, hb⟩
  have Ho1 := Lib.hid (CR.keep Ho1.out (Keep.call hb))
  have HG := Lib.hid (below_call HG.out hb)
  have Hd1 := Lib.hid hd1
  clear hb hd1
  simp only [Act.put, List.setIfInBounds_toArray, List.set_cons_zero, List.set_cons_succ]
  refine good_callX 4 98 (some 34) #[Go.Operand.tmp 30, Go.Operand.tmp 33] #[25, 25] (none) #[.agg #[.bool o1_b, .slice o1_a o1_n o1_c, .slice o1_d o1_m o1_e], .agg #[.bool d1_b, .slice d1_a d1_n d1_c, .slice d1_d d1_m d1_e]] (by kernel_rfl) Hok.out (by kernel_rfl) (by kernel_rfl) (by kernel_rfl) (by kernel_rfl) rfl rfl rfl (by kernel_rfl) (fun w17 hb => ?_)
  have Ho1 := Lib.hid (CR.keep Ho1.out (Keep.call hb))
  have Hd1 := Lib.hid (CR.keep Hd1.out (Keep.call hb))
  have HG := Lib.hid (below_call HG.out hb)
  clear hb
  (first | (have hcall := zdiv_ar Hn1.out Ho1.out.ar Hd1.out.ar (by omega) (by omega); refine Calls.mono hcall ?_; clear hcall) | refine Calls.mono (zdiv_ar Hn1.out Ho1.out.ar Hd1.out.ar (by omega) (by omega)) ?_)
  rintro e w18 ⟨t18, rfl, ⟨v18, rfl, hq1⟩, hb⟩
  obtain ⟨q1_b, q1_a, q1_n, q1_c, q1_d, q1_m, q1_e, rfl⟩ := hq1.litb
  refine ⟨_, rfl, ?_, hb⟩
  have HG := Lib.hid (below_call HG.out hb)
  have Hq1 := Lib.hid hq1
  clear hb hq1
  simp only [Act.put, List.setIfInBounds_toArray, List.set_cons_zero, List.set_cons_succ]
  refine good_pureX 5 (some 29) (Go.Op.move (Go.Operand.tmp 34)) (none) (.tuple #[.agg #[.bool q1_b, .slice q1_a q1_n q1_c, .slice q1_d q1_m q1_e], .int .i64 0]) (by kernel_rfl) (by kernel_rfl) (by kernel_rfl) (fun _ _ _ h => h) (fun w' hw' => ?_) ?_
  · first | (go_simp; done) | (go_simp; simp_all; done) | (go_simp; rfl)
  simp only [Act.put, List.setIfInBounds_toArray, List.set_cons_zero, List.set_cons_succ]
  refine good_pureX 6 (some 35) (Go.Op.extract (Go.Operand.tmp 29) 0) (none) (.agg #[.bool q1_b, .slice q1_a q1_n q1_c, .slice q1_d q1_m q1_e]) (by kernel_rfl) (by kernel_rfl) (by kernel_rfl) (fun _ _ _ h => h) (fun w' hw' => ?_) ?_
  · first | (go_simp; done) | (go_simp; simp_all; done) | (go_simp; rfl)
  simp only [Act.put, List.setIfInBounds_toArray, List.set_cons_zero, List.set_cons_succ]
  refine good_pureX 7 (some 36) (Go.Op.extract (Go.Operand.tmp 29) 1) (none) (.int .i64 0) (by kernel_rfl) (by kernel_rfl) (by kernel_rfl) (fun _ _ _ h => h) (fun w' hw' => ?_) ?_
  · first | (go_simp; done) | (go_simp; simp_all; done) | (go_simp; rfl)
  simp only [Act.put, List.setIfInBounds_toArray, List.set_cons_zero, List.set_cons_succ]
  refine good_end1 2 Hok.out (by kernel_rfl) (by kernel_rfl) (by kernel_rfl) (fun _ gf0 w19 hb ef0 xf0 => ?_)
  have Hq1 := Lib.hid (CR.keep Hq1.out (Keep.call hb))
  have HG := Lib.hid (below_call HG.out hb)
  clear hb
  have Na0f0 := Lib.hid (show w.heap.size ≠ gf0 from Nat.ne_of_lt (Nat.lt_of_lt_of_le Xa0.out.lt ef0))
  have Nb0f0 := Lib.hid (show w.heap.size + 1 ≠ gf0 from Nat.ne_of_lt (Nat.lt_of_lt_of_le Xb0.out.lt ef0))
  have Nc0f0 := Lib.hid (show w.heap.size + 1 + 1 ≠ gf0 from Nat.ne_of_lt (Nat.lt_of_lt_of_le Xc0.out.lt ef0))
  have Nd0f0 := Lib.hid (show w3.heap.size ≠ gf0 from Nat.ne_of_lt (Nat.lt_of_lt_of_le Xd0.out.lt ef0))
  have Ne0f0 := Lib.hid (show ge0 ≠ gf0 from Nat.ne_of_lt (Nat.lt_of_lt_of_le Xe0.out.lt ef0))
  have Gf0 := Lib.hid (show w.heap.size ≤ gf0 from Nat.le_trans HB.out.size ef0)
  have Ef0 := Lib.hid ef0
  clear ef0
  have Ha := Lib.hid (AR.keep Ha.out (Keep.call HG.out))
  have Hg := Lib.hid (CR.keep Hg.out (Keep.call HG.out))
  have Xa0 := Lib.hid (Box.pcall HG.out Xa0.out)
  have Xb0 := Lib.hid (Box.pcall HG.out Xb0.out)
  have Xc0 := Lib.hid (Box.pcall HG.out Xc0.out)
  have Xd0 := Lib.hid (Box.pcall HG.out Xd0.out)
  have Xe0 := Lib.hid (Box.pcall HG.out Xe0.out)
  have HB := Lib.hid (below_call HB.out HG.out)
  have HS := Lib.hid (SE.of (E := []) HG.out)
  have Xf0 := Lib.hid xf0
  clear xf0
  simp only [Act.put, List.setIfInBounds_toArray, List.set_cons_zero, List.set_cons_succ]
  refine held_oneX 9 (Go.Op.store 25 (Go.Operand.tmp 7) (Go.Operand.tmp 35)) (none) (World.setCell (World.setCell (World.setCell w19 ⟨gf0, 0, none⟩ (.bool q1_b)) ⟨gf0, 1, none⟩ (.slice q1_a q1_n q1_c)) ⟨gf0, 2, none⟩ (.slice q1_d q1_m q1_e)) (by kernel_rfl) (by kernel_rfl) (by kernel_rfl) (by kernel_rfl) ?_ (HS.out.store3 (.inr Ef0.out)) ?_
  · obtain ⟨cf00, cf01, cf02, ff00, ff01, ff02⟩ := Xf0.out.c3
    first | (go_simp; done) | (go_simp; simp_all; done) | (go_simp; rfl)
  obtain ⟨W20, hW⟩ : ∃ W20, W20 = (World.setCell (World.setCell (World.setCell w19 ⟨gf0, 0, none⟩ (.bool q1_b)) ⟨gf0, 1, none⟩ (.slice q1_a q1_n q1_c)) ⟨gf0, 2, none⟩ (.slice q1_d q1_m q1_e)) := ⟨_, rfl⟩
  rw [← hW]
  obtain ⟨xf0, hk, hf, hbb, hz⟩ := stored3s hW Xf0.out (by first | exact NoInt.bool _ | exact NoInt.slice _ _ _) (by first | exact NoInt.bool _ | exact NoInt.slice _ _ _) (by first | exact NoInt.bool _ | exact NoInt.slice _ _ _)
  have Ha := Lib.hid (AR.keep Ha.out hk)
  have Hg := Lib.hid (CR.keep Hg.out hk)
  have Hq1 := Lib.hid (CR.keep Hq1.out hk)
  have Xa0 := Lib.hid (hf _ _ _ Xa0.out Na0f0.out)
  have Xb0 := Lib.hid (hf _ _ _ Xb0.out Nb0f0.out)
  have Xc0 := Lib.hid (hf _ _ _ Xc0.out Nc0f0.out)
  have Xd0 := Lib.hid (hf _ _ _ Xd0.out Nd0f0.out)
  have Xe0 := Lib.hid (hf _ _ _ Xe0.out Ne0f0.out)
  have Xf0 := Lib.hid xf0
  have HB := Lib.hid (hbb _ HB.out Gf0.out)
  have HS := Lib.hid (show SE (w12.drew) [] W20 from by rw [hW]; exact HS.out.store3 (.inr Ef0.out))
  clear hW hk hf hbb xf0
  clear hz
  refine held_pureX 10 (some 8) (Go.Op.assign (Go.Operand.tmp 36)) (none) (.int .i64 0) (by kernel_rfl) (by kernel_rfl) (by kernel_rfl) (fun _ _ _ h => h) (fun w' => by first | (go_simp; done) | (go_simp; simp_all; done) | (go_simp; rfl)) HS.out ?_
  simp only [Act.put, List.setIfInBounds_toArray, List.set_cons_zero, List.set_cons_succ]
  refine wpAnyH_done (by kernel_rfl) ?_ _
  clear HG HS Hok Ef0
  obtain ⟨ca00, ca01, ca02, fa00, fa01, fa02⟩ := Xa0.out.c3
  have la0 := Xa0.out.lt
  obtain ⟨cb00, cb01, cb02, fb00, fb01, fb02⟩ := Xb0.out.c3
  have lb0 := Xb0.out.lt
  obtain ⟨cc00, cc01, cc02, fc00, fc01, fc02⟩ := Xc0.out.c3
  have lc0 := Xc0.out.lt
  obtain ⟨cd00, cd01, cd02, fd00, fd01, fd02⟩ := Xd0.out.c3
  have ld0 := Xd0.out.lt
  obtain ⟨ce00, ce01, ce02, fe00, fe01, fe02⟩ := Xe0.out.c3
  have le0 := Xe0.out.lt
  obtain ⟨cf00, cf01, cf02, ff00, ff01, ff02⟩ := Xf0.out.c3
  have lf0 := Xf0.out.lt
  go_wp2_with fail
  clear ca00 ca01 ca02 fa00 fa01 fa02 la0 cb00 cb01 cb02 fb00 fb01 fb02 lb0 cc00 cc01 cc02 fc00 fc01 fc02 lc0 cd00 cd01 cd02 fd00 fd01 fd02 ld0 ce00 ce01 ce02 fe00 fe01 fe02 le0 cf00 cf01 cf02 ff00 ff01 ff02 lf0
  have Ha := Lib.hid (AR.keep Ha.out (Keep.drew W20))
  have Hg := Lib.hid (CR.keep Hg.out (Keep.drew W20))
  have Hq1 := Lib.hid (CR.keep Hq1.out (Keep.drew W20))
  have Xa0 := Lib.hid (Box.drew Xa0.out)
  have Xb0 := Lib.hid (Box.drew Xb0.out)
  have Xc0 := Lib.hid (Box.drew Xc0.out)
  have Xd0 := Lib.hid (Box.drew Xd0.out)
  have Xe0 := Lib.hid (Box.drew Xe0.out)
  have Xf0 := Lib.hid (Box.drew Xf0.out)
  have HB := Lib.hid (Below.drew HB.out)
  refine wp_region_float [] [⟨8, 9, 25, #[.bool false, .slice none 0 0, .slice none 0 0]⟩] (by kernel_rfl) (by kernel_rfl) 56 (by kernel_rfl) (Flok.one (by kernel_rfl) (by kernel_rfl) (by kernel_rfl) (by intro w; go_simp)) ?_
  intro ok
  have Hok := Lib.hid ok
  clear ok
  have HG := Lib.hid (Below.refl (W20.drew).heap.size (W20.drew))
  refine good_pureX 1 (some 39) (Go.Op.load 25 (Go.Operand.tmp 2)) (none) (.agg #[.bool ba, sa, ta]) (by kernel_rfl) (by kernel_rfl) (by kernel_rfl) (fun _ _ _ h => h) (fun w' hw' => ?_) ?_
  · obtain ⟨ca00, ca01, ca02, fa00, fa01, fa02⟩ := (Box.se hw' Xa0.out notin0).c3
    first | (go_simp; done) | (go_simp; simp_all; done) | (go_simp; rfl)
  simp only [Act.put, List.setIfInBounds_toArray, List.set_cons_zero, List.set_cons_succ]
  refine good_pureX 2 (some 40) (Go.Op.load 25 (Go.Operand.tmp 5)) (none) (.agg #[.bool g_b, .slice g_a g_n g_c, .slice g_d g_m g_e]) (by kernel_rfl) (by kernel_rfl) (by kernel_rfl) (fun _ _ _ h => h) (fun w' hw' => ?_) ?_
  · obtain ⟨cd00, cd01, cd02, fd00, fd01, fd02⟩ := (Box.se hw' Xd0.out notin0).c3
    first | (go_simp; done) | (go_simp; simp_all; done) | (go_simp; rfl)
  simp only [Act.put, List.setIfInBounds_toArray, List.set_cons_zero, List.set_cons_succ]
  refine good_callX 0 24 (some 38) #[Go.Operand.const (Go.Value.int Go.IntKind.i64 1)] #[3] (none) #[.int .i64 1] (by kernel_rfl) Hok.out (by kernel_rfl) (by kernel_rfl) (by kernel_rfl) (by kernel_rfl) rfl rfl rfl (by kernel_rfl) (fun w21 hb => ?_)
  have HG := Lib.hid (below_call HG.out hb)
  clear hb
  refine Calls.mono (zof_one) ?_
  rintro e w22 ⟨v22, rfl, ho2, hb⟩
  obtain ⟨o2_b, o2_a, o2_n, o2_c, o2_d, o2_m, o2_e, rfl⟩ := ho2.litb
  refine ⟨_, rfl, ?_, hb⟩
  have HG := Lib.hid (below_call HG.out hb)
  have Ho2 := Lib.hid ho2
  clear hb ho2
  simp only [Act.put, List.setIfInBounds_toArray, List.set_cons_zero, List.set_cons_succ]
  refine good_callX 3 18 (some 41) #[Go.Operand.tmp 39, Go.Operand.tmp 40] #[25, 25] (none) #[.agg #[.bool ba, sa, ta], .agg #[.bool g_b, .slice g_a g_n g_c, .slice g_d g_m g_e]] (by kernel_rfl) Hok.out (by kernel_rfl) (by kernel_rfl) (by kernel_rfl) (by kernel_rfl) rfl rfl rfl (by kernel_rfl) (fun w23 hb => ?_)
  have Ho2 := Lib.hid (CR.keep Ho2.out (Keep.call hb))
  have HG := Lib.hid (below_call HG.out hb)
  clear hb
  (first | (have hcall := zsub_ar (AR.keep Ha.out (Keep.call HG.out)) (CR.keep Hg.out (Keep.call HG.out)).ar (by omega) (by omega); refine Calls.mono hcall ?_; clear hcall) | refine Calls.mono (zsub_ar (AR.keep Ha.out (Keep.call HG.out)) (CR.keep Hg.out (Keep.call HG.out)).ar (by omega) (by omega)) ?_)
  rintro e w24 ⟨v24, rfl, hd2, hb⟩
  obtain ⟨d2_b, d2_a, d2_n, d2_c, d2_d, d2_m, d2_e, rfl⟩ := hd2.litb
  refine ⟨_, rfl, ?_, hb⟩
  have Ho2 := Lib.hid (CR.keep Ho2.out (Keep.call hb))
  have HG := Lib.hid (below_call HG.out hb)
  have Hd2 := Lib.hid hd2
  clear hb hd2
  simp only [Act.put, List.setIfInBounds_toArray, List.set_cons_zero, List.set_cons_succ]
  refine good_callX 4 98 (some 42) #[Go.Operand.tmp 38, Go.Operand.tmp 41] #[25, 25] (none) #[.agg #[.bool o2_b, .slice o2_a o2_n o2_c, .slice o2_d o2_m o2_e], .agg #[.bool d2_b, .slice d2_a d2_n d2_c, .slice d2_d d2_m d2_e]] (by kernel_rfl) Hok.out (by kernel_rfl) (by kernel_rfl) (by kernel_rfl) (by kernel_rfl) rfl rfl rfl (by kernel_rfl) (fun w25 hb => ?_)
  have Ho2 := Lib.hid (CR.keep Ho2.out (Keep.call hb))
  have Hd2 := Lib.hid (CR.keep Hd2.out (Keep.call hb))
  have HG := Lib.hid (below_call HG.out hb)
  clear hb
  (first | (have hcall := zdiv_ar Hn2.out Ho2.out.ar Hd2.out.ar (by omega) (by omega); refine Calls.mono hcall ?_; clear hcall) | refine Calls.mono (zdiv_ar Hn2.out Ho2.out.ar Hd2.out.ar (by omega) (by omega)) ?_)
  rintro e w26 ⟨t26, rfl, ⟨v26, rfl, hq2⟩, hb⟩
  obtain ⟨q2_b, q2_a, q2_n, q2_c, q2_d, q2_m, q2_e, rfl⟩ := hq2.litb
  refine ⟨_, rfl, ?_, hb⟩
  have HG := Lib.hid (below_call HG.out hb)
  have Hq2 := Lib.hid hq2
  clear hb hq2
  simp only [Act.put, List.setIfInBounds_toArray, List.set_cons_zero, List.set_cons_succ]
  refine good_pureX 5 (some 37) (Go.Op.move (Go.Operand.tmp 42)) (none) (.tuple #[.agg #[.bool q2_b, .slice q2_a q2_n q2_c, .slice q2_d q2_m q2_e], .int .i64 0]) (by kernel_rfl) (by kernel_rfl) (by kernel_rfl) (fun _ _ _ h => h) (fun w' hw' => ?_) ?_
  · first | (go_simp; done) | (go_simp; simp_all; done) | (go_simp; rfl)
  simp only [Act.put, List.setIfInBounds_toArray, List.set_cons_zero, List.set_cons_succ]
  refine good_pureX 6 (some 43) (Go.Op.extract (Go.Operand.tmp 37) 0) (none) (.agg #[.bool q2_b, .slice q2_a q2_n q2_c, .slice q2_d q2_m q2_e]) (by kernel_rfl) (by kernel_rfl) (by kernel_rfl) (fun _ _ _ h => h) (fun w' hw' => ?_) ?_
  · first | (go_simp; done) | (go_simp; simp_all; done) | (go_simp; rfl)
  simp only [Act.put, List.setIfInBounds_toArray, List.set_cons_zero, List.set_cons_succ]
  refine good_pureX 7 (some 44) (Go.Op.extract (Go.Operand.tmp 37) 1) (none) (.int .i64 0) (by kernel_rfl) (by kernel_rfl) (by kernel_rfl) (fun _ _ _ h => h) (fun w' hw' => ?_) ?_
  · first | (go_simp; done) | (go_simp; simp_all; done) | (go_simp; rfl)
  simp only [Act.put, List.setIfInBounds_toArray, List.set_cons_zero, List.set_cons_succ]
  refine good_end1 2 Hok.out (by kernel_rfl) (by kernel_rfl) (by kernel_rfl) (fun _ gg0 w27 hb eg0 xg0 => ?_)
  have Hq2 := Lib.hid (CR.keep Hq2.out (Keep.call hb))
  have HG := Lib.hid (below_call HG.out hb)
  clear hb
  have Na0g0 := Lib.hid (show w.heap.size ≠ gg0 from Nat.ne_of_lt (Nat.lt_of_lt_of_le Xa0.out.lt eg0))
  have Nb0g0 := Lib.hid (show w.heap.size + 1 ≠ gg0 from Nat.ne_of_lt (Nat.lt_of_lt_of_le Xb0.out.lt eg0))
  have Nc0g0 := Lib.hid (show w.heap.size + 1 + 1 ≠ gg0 from Nat.ne_of_lt (Nat.lt_of_lt_of_le Xc0.out.lt eg0))
  have Nd0g0 := Lib.hid (show w3.heap.size ≠ gg0 from Nat.ne_of_lt (Nat.lt_of_lt_of_le Xd0.out.lt eg0))
  have Ne0g0 := Lib.hid (show ge0 ≠ gg0 from Nat.ne_of_lt (Nat.lt_of_lt_of_le Xe0.out.lt eg0))
  have Nf0g0 := Lib.hid (show gf0 ≠ gg0 from Nat.ne_of_lt (Nat.lt_of_lt_of_le Xf0.out.lt eg0))
  have Gg0 := Lib.hid (show w.heap.size ≤ gg0 from Nat.le_trans HB.out.size eg0)
  have Eg0 := Lib.hid eg0
  clear eg0
  have Hg := Lib.hid (CR.keep Hg.out (Keep.call HG.out))
  have Hq1 := Lib.hid (CR.keep Hq1.out (Keep.call HG.out))
  have Xa0 := Lib.hid (Box.pcall HG.out Xa0.out)
  have Xb0 := Lib.hid (Box.pcall HG.out Xb0.out)
  have Xc0 := Lib.hid (Box.pcall HG.out Xc0.out)
  have Xd0 := Lib.hid (Box.pcall HG.out Xd0.out)
  have Xe0 := Lib.hid (Box.pcall HG.out Xe0.out)
  have Xf0 := Lib.hid (Box.pcall HG.out Xf0.out)
  have HB := Lib.hid (below_call HB.out HG.out)
  have HS := Lib.hid (SE.of (E := []) HG.out)
  have Xg0 := Lib.hid xg0
  clear xg0
  simp only [Act.put, List.setIfInBounds_toArray, List.set_cons_zero, List.set_cons_succ]
  refine held_oneX 9 (Go.Op.store 25 (Go.Operand.tmp 9) (Go.Operand.tmp 43)) (none) (World.setCell (World.setCell (World.setCell w27 ⟨gg0, 0, none⟩ (.bool q2_b)) ⟨gg0, 1, none⟩ (.slice q2_a q2_n q2_c)) ⟨gg0, 2, none⟩ (.slice q2_d q2_m q2_e)) (by kernel_rfl) (by kernel_rfl) (by kernel_rfl) (by kernel_rfl) ?_ (HS.out.store3 (.inr Eg0.out)) ?_
  · obtain ⟨cg00, cg01, cg02, fg00, fg01, fg02⟩ := Xg0.out.c3
    first | (go_simp; done) | (go_simp; simp_all; done) | (go_simp; rfl)
  obtain ⟨W28, hW⟩ : ∃ W28, W28 = (World.setCell (World.setCell (World.setCell w27 ⟨gg0, 0, none⟩ (.bool q2_b)) ⟨gg0, 1, none⟩ (.slice q2_a q2_n q2_c)) ⟨gg0, 2, none⟩ (.slice q2_d q2_m q2_e)) := ⟨_, rfl⟩
  rw [← hW]
  obtain ⟨xg0, hk, hf, hbb, hz⟩ := stored3s hW Xg0.out (by first | exact NoInt.bool _ | exact NoInt.slice _ _ _) (by first | exact NoInt.bool _ | exact NoInt.slice _ _ _) (by first | exact NoInt.bool _ | exact NoInt.slice _ _ _)
  have Hg := Lib.hid (CR.keep Hg.out hk)
  have Hq1 := Lib.hid (CR.keep Hq1.out hk)
  have Hq2 := Lib.hid (CR.keep Hq2.out hk)
  have Xa0 := Lib.hid (hf _ _ _ Xa0.out Na0g0.out)
  have Xb0 := Lib.hid (hf _ _ _ Xb0.out Nb0g0.out)
  have Xc0 := Lib.hid (hf _ _ _ Xc0.out Nc0g0.out)
  have Xd0 := Lib.hid (hf _ _ _ Xd0.out Nd0g0.out)
  have Xe0 := Lib.hid (hf _ _ _ Xe0.out Ne0g0.out)
  have Xf0 := Lib.hid (hf _ _ _ Xf0.out Nf0g0.out)
  have Xg0 := Lib.hid xg0
  have HB := Lib.hid (hbb _ HB.out Gg0.out)
  have HS := Lib.hid (show SE (W20.drew) [] W28 from by rw [hW]; exact HS.out.store3 (.inr Eg0.out))
  clear hW hk hf hbb xg0
  clear hz
  refine held_pureX 10 (some 10) (Go.Op.assign (Go.Operand.tmp 44)) (none) (.int .i64 0) (by kernel_rfl) (by kernel_rfl) (by kernel_rfl) (fun _ _ _ h => h) (fun w' => by first | (go_simp; done) | (go_simp; simp_all; done) | (go_simp; rfl)) HS.out ?_
  simp only [Act.put, List.setIfInBounds_toArray, List.set_cons_zero, List.set_cons_succ]
  refine wpAnyH_done (by kernel_rfl) ?_ _
  clear HG HS Hok Eg0
  obtain ⟨ca00, ca01, ca02, fa00, fa01, fa02⟩ := Xa0.out.c3
  have la0 := Xa0.out.lt
  obtain ⟨cb00, cb01, cb02, fb00, fb01, fb02⟩ := Xb0.out.c3
  have lb0 := Xb0.out.lt
  obtain ⟨cc00, cc01, cc02, fc00, fc01, fc02⟩ := Xc0.out.c3
  have lc0 := Xc0.out.lt
  obtain ⟨cd00, cd01, cd02, fd00, fd01, fd02⟩ := Xd0.out.c3
  have ld0 := Xd0.out.lt
  obtain ⟨ce00, ce01, ce02, fe00, fe01, fe02⟩ := Xe0.out.c3
  have le0 := Xe0.out.lt
  obtain ⟨cf00, cf01, cf02, ff00, ff01, ff02⟩ := Xf0.out.c3
  have lf0 := Xf0.out.lt
  obtain ⟨cg00, cg01, cg02, fg00, fg01, fg02⟩ := Xg0.out.c3
  have lg0 := Xg0.out.lt
  go_wp2_with fail
  clear ca00 ca01 ca02 fa00 fa01 fa02 la0 cb00 cb01 cb02 fb00 fb01 fb02 lb0 cc00 cc01 cc02 fc00 fc01 fc02 lc0 cd00 cd01 cd02 fd00 fd01 fd02 ld0 ce00 ce01 ce02 fe00 fe01 fe02 le0 cf00 cf01 cf02 ff00 ff01 ff02 lf0 cg00 cg01 cg02 fg00 fg01 fg02 lg0
  have Hg := Lib.hid (CR.keep Hg.out (Keep.drew W28))
  have Hq1 := Lib.hid (CR.keep Hq1.out (Keep.drew W28))
  have Hq2 := Lib.hid (CR.keep Hq2.out (Keep.drew W28))
  have Xa0 := Lib.hid (Box.drew Xa0.out)
  have Xb0 := Lib.hid (Box.drew Xb0.out)
  have Xc0 := Lib.hid (Box.drew Xc0.out)
  have Xd0 := Lib.hid (Box.drew Xd0.out)
  have Xe0 := Lib.hid (Box.drew Xe0.out)
  have Xf0 := Lib.hid (Box.drew Xf0.out)
  have Xg0 := Lib.hid (Box.drew Xg0.out)
  have HB := Lib.hid (Below.drew HB.out)
  refine wp_region_float [] [⟨8, 11, 25, #[.bool false, .slice none 0 0, .slice none 0 0]⟩] (by kernel_rfl) (by kernel_rfl) 56 (by kernel_rfl) (Flok.one (by kernel_rfl) (by kernel_rfl) (by kernel_rfl) (by intro w; go_simp)) ?_
  intro ok
  have Hok := Lib.hid ok
  clear ok
  have HG := Lib.hid (Below.refl (W28.drew).heap.size (W28.drew))
  refine good_pureX 1 (some 47) (Go.Op.load 25 (Go.Operand.tmp 7)) (none) (.agg #[.bool q1_b, .slice q1_a q1_n q1_c, .slice q1_d q1_m q1_e]) (by kernel_rfl) (by kernel_rfl) (by kernel_rfl) (fun _ _ _ h => h) (fun w' hw' => ?_) ?_
  · obtain ⟨cf00, cf01, cf02, ff00, ff01, ff02⟩ := (Box.se hw' Xf0.out notin0).c3
    first | (go_simp; done) | (go_simp; simp_all; done) | (go_simp; rfl)
  simp only [Act.put, List.setIfInBounds_toArray, List.set_cons_zero, List.set_cons_succ]
  refine good_pureX 2 (some 48) (Go.Op.load 25 (Go.Operand.tmp 9)) (none) (.agg #[.bool q2_b, .slice q2_a q2_n q2_c, .slice q2_d q2_m q2_e]) (by kernel_rfl) (by kernel_rfl) (by kernel_rfl) (fun _ _ _ h => h) (fun w' hw' => ?_) ?_
  · obtain ⟨cg00, cg01, cg02, fg00, fg01, fg02⟩ := (Box.se hw' Xg0.out notin0).c3
    first | (go_simp; done) | (go_simp; simp_all; done) | (go_simp; rfl)
  simp only [Act.put, List.setIfInBounds_toArray, List.set_cons_zero, List.set_cons_succ]
  refine good_callX 0 24 (some 46) #[Go.Operand.const (Go.Value.int Go.IntKind.i64 1)] #[3] (none) #[.int .i64 1] (by kernel_rfl) Hok.out (by kernel_rfl) (by kernel_rfl) (by kernel_rfl) (by kernel_rfl) rfl rfl rfl (by kernel_rfl) (fun w29 hb => ?_)
  have HG := Lib.hid (below_call HG.out hb)
  clear hb
  refine Calls.mono (zof_one) ?_
  rintro e w30 ⟨v30, rfl, ho3, hb⟩
  obtain ⟨o3_b, o3_a, o3_n, o3_c, o3_d, o3_m, o3_e, rfl⟩ := ho3.litb
  refine ⟨_, rfl, ?_, hb⟩
  have HG := Lib.hid (below_call HG.out hb)
  have Ho3 := Lib.hid ho3
  clear hb ho3
  simp only [Act.put, List.setIfInBounds_toArray, List.set_cons_zero, List.set_cons_succ]
  refine good_callX 3 68 (some 49) #[Go.Operand.tmp 47, Go.Operand.tmp 48] #[25, 25] (none) #[.agg #[.bool q1_b, .slice q1_a q1_n q1_c, .slice q1_d q1_m q1_e], .agg #[.bool q2_b, .slice q2_a q2_n q2_c, .slice q2_d q2_m q2_e]] (by kernel_rfl) Hok.out (by kernel_rfl) (by kernel_rfl) (by kernel_rfl) (by kernel_rfl) rfl rfl rfl (by kernel_rfl) (fun w31 hb => ?_)
  have Ho3 := Lib.hid (CR.keep Ho3.out (Keep.call hb))
  have HG := Lib.hid (below_call HG.out hb)
  clear hb
  refine Calls.mono (Hrec.out _ _ _ (CR.small (CR.keep Hq1.out (Keep.call HG.out)) Hs1.out).ar (CR.small (CR.keep Hq2.out (Keep.call HG.out)) Hs2.out).ar) ?_
  rintro e w32 ⟨v32, rfl, hx3, hb⟩
  obtain ⟨x3_b, x3_a, x3_n, x3_c, x3_d, x3_m, x3_e, rfl⟩ := hx3.litb
  refine ⟨_, rfl, ?_, hb⟩
  have Ho3 := Lib.hid (CR.keep Ho3.out (Keep.call hb))
  have HG := Lib.hid (below_call HG.out hb)
  have Hx3 := Lib.hid hx3
  clear hb hx3
  simp only [Act.put, List.setIfInBounds_toArray, List.set_cons_zero, List.set_cons_succ]
  refine good_callX 4 98 (some 50) #[Go.Operand.tmp 46, Go.Operand.tmp 49] #[25, 25] (none) #[.agg #[.bool o3_b, .slice o3_a o3_n o3_c, .slice o3_d o3_m o3_e], .agg #[.bool x3_b, .slice x3_a x3_n x3_c, .slice x3_d x3_m x3_e]] (by kernel_rfl) Hok.out (by kernel_rfl) (by kernel_rfl) (by kernel_rfl) (by kernel_rfl) rfl rfl rfl (by kernel_rfl) (fun w33 hb => ?_)
  have Ho3 := Lib.hid (CR.keep Ho3.out (Keep.call hb))
  have Hx3 := Lib.hid (CR.keep Hx3.out (Keep.call hb))
  have HG := Lib.hid (below_call HG.out hb)
  clear hb
  (first | (have hcall := zdiv_ar Hn3.out Ho3.out.ar Hx3.out.ar (by omega) (by omega); refine Calls.mono hcall ?_; clear hcall) | refine Calls.mono (zdiv_ar Hn3.out Ho3.out.ar Hx3.out.ar (by omega) (by omega)) ?_)
  rintro e w34 ⟨t34, rfl, ⟨v34, rfl, hq3⟩, hb⟩
  obtain ⟨q3_b, q3_a, q3_n, q3_c, q3_d, q3_m, q3_e, rfl⟩ := hq3.litb
  refine ⟨_, rfl, ?_, hb⟩
  have HG := Lib.hid (below_call HG.out hb)
  have Hq3 := Lib.hid hq3
  clear hb hq3
  simp only [Act.put, List.setIfInBounds_toArray, List.set_cons_zero, List.set_cons_succ]
  refine good_pureX 5 (some 45) (Go.Op.move (Go.Operand.tmp 50)) (none) (.tuple #[.agg #[.bool q3_b, .slice q3_a q3_n q3_c, .slice q3_d q3_m q3_e], .int .i64 0]) (by kernel_rfl) (by kernel_rfl) (by kernel_rfl) (fun _ _ _ h => h) (fun w' hw' => ?_) ?_
  · first | (go_simp; done) | (go_simp; simp_all; done) | (go_simp; rfl)
  simp only [Act.put, List.setIfInBounds_toArray, List.set_cons_zero, List.set_cons_succ]
  refine good_pureX 6 (some 51) (Go.Op.extract (Go.Operand.tmp 45) 0) (none) (.agg #[.bool q3_b, .slice q3_a q3_n q3_c, .slice q3_d q3_m q3_e]) (by kernel_rfl) (by kernel_rfl) (by kernel_rfl) (fun _ _ _ h => h) (fun w' hw' => ?_) ?_
  · first | (go_simp; done) | (go_simp; simp_all; done) | (go_simp; rfl)
  simp only [Act.put, List.setIfInBounds_toArray, List.set_cons_zero, List.set_cons_succ]
  refine good_pureX 7 (some 52) (Go.Op.extract (Go.Operand.tmp 45) 1) (none) (.int .i64 0) (by kernel_rfl) (by kernel_rfl) (by kernel_rfl) (fun _ _ _ h => h) (fun w' hw' => ?_) ?_
  · first | (go_simp; done) | (go_simp; simp_all; done) | (go_simp; rfl)
  simp only [Act.put, List.setIfInBounds_toArray, List.set_cons_zero, List.set_cons_succ]
  refine good_end1 2 Hok.out (by kernel_rfl) (by kernel_rfl) (by kernel_rfl) (fun _ gh0 w35 hb eh0 xh0 => ?_)
  have Hq3 := Lib.hid (CR.keep Hq3.out (Keep.call hb))
  have HG := Lib.hid (below_call HG.out hb)
  clear hb
  have Na0h0 := Lib.hid (show w.heap.size ≠ gh0 from Nat.ne_of_lt (Nat.lt_of_lt_of_le Xa0.out.lt eh0))
  have Nb0h0 := Lib.hid (show w.heap.size + 1 ≠ gh0 from Nat.ne_of_lt (Nat.lt_of_lt_of_le Xb0.out.lt eh0))
  have Nc0h0 := Lib.hid (show w.heap.size + 1 + 1 ≠ gh0 from Nat.ne_of_lt (Nat.lt_of_lt_of_le Xc0.out.lt eh0))
  have Nd0h0 := Lib.hid (show w3.heap.size ≠ gh0 from Nat.ne_of_lt (Nat.lt_of_lt_of_le Xd0.out.lt eh0))
  have Ne0h0 := Lib.hid (show ge0 ≠ gh0 from Nat.ne_of_lt (Nat.lt_of_lt_of_le Xe0.out.lt eh0))
  have Nf0h0 := Lib.hid (show gf0 ≠ gh0 from Nat.ne_of_lt (Nat.lt_of_lt_of_le Xf0.out.lt eh0))
  have Ng0h0 := Lib.hid (show gg0 ≠ gh0 from Nat.ne_of_lt (Nat.lt_of_lt_of_le Xg0.out.lt eh0))
  have Gh0 := Lib.hid (show w.heap.size ≤ gh0 from Nat.le_trans HB.out.size eh0)
  have Eh0 := Lib.hid eh0
  clear eh0
  have Hg := Lib.hid (CR.keep Hg.out (Keep.call HG.out))
  have Xa0 := Lib.hid (Box.pcall HG.out Xa0.out)
  have Xb0 := Lib.hid (Box.pcall HG.out Xb0.out)
  have Xc0 := Lib.hid (Box.pcall HG.out Xc0.out)
  have Xd0 := Lib.hid (Box.pcall HG.out Xd0.out)
  have Xe0 := Lib.hid (Box.pcall HG.out Xe0.out)
  have Xf0 := Lib.hid (Box.pcall HG.out Xf0.out)
  have Xg0 := Lib.hid (Box.pcall HG.out Xg0.out)
  have HB := Lib.hid (below_call HB.out HG.out)
  have HS := Lib.hid (SE.of (E := []) HG.out)
  have Xh0 := Lib.hid xh0
  clear xh0
  simp only [Act.put, List.setIfInBounds_toArray, List.set_cons_zero, List.set_cons_succ]
  refine held_oneX 9 (Go.Op.store 25 (Go.Operand.tmp 11) (Go.Operand.tmp 51)) (none) (World.setCell (World.setCell (World.setCell w35 ⟨gh0, 0, none⟩ (.bool q3_b)) ⟨gh0, 1, none⟩ (.slice q3_a q3_n q3_c)) ⟨gh0, 2, none⟩ (.slice q3_d q3_m q3_e)) (by kernel_rfl) (by kernel_rfl) (by kernel_rfl) (by kernel_rfl) ?_ (HS.out.store3 (.inr Eh0.out)) ?_
  · obtain ⟨ch00, ch01, ch02, fh00, fh01, fh02⟩ := Xh0.out.c3
    first | (go_simp; done) | (go_simp; simp_all; done) | (go_simp; rfl)
  obtain ⟨W36, hW⟩ : ∃ W36, W36 = (World.setCell (World.setCell (World.setCell w35 ⟨gh0, 0, none⟩ (.bool q3_b)) ⟨gh0, 1, none⟩ (.slice q3_a q3_n q3_c)) ⟨gh0, 2, none⟩ (.slice q3_d q3_m q3_e)) := ⟨_, rfl⟩
  rw [← hW]
  obtain ⟨xh0, hk, hf, hbb, hz⟩ := stored3s hW Xh0.out (by first | exact NoInt.bool _ | exact NoInt.slice _ _ _) (by first | exact NoInt.bool _ | exact NoInt.slice _ _ _) (by first | exact NoInt.bool _ | exact NoInt.slice _ _ _)
  have Hg := Lib.hid (CR.keep Hg.out hk)
  have Hq3 := Lib.hid (CR.keep Hq3.out hk)
  have Xa0 := Lib.hid (hf _ _ _ Xa0.out Na0h0.out)
  have Xb0 := Lib.hid (hf _ _ _ Xb0.out Nb0h0.out)
  have Xc0 := Lib.hid (hf _ _ _ Xc0.out Nc0h0.out)
  have Xd0 := Lib.hid (hf _ _ _ Xd0.out Nd0h0.out)
  have Xe0 := Lib.hid (hf _ _ _ Xe0.out Ne0h0.out)
  have Xf0 := Lib.hid (hf _ _ _ Xf0.out Nf0h0.out)
  have Xg0 := Lib.hid (hf _ _ _ Xg0.out Ng0h0.out)
  have Xh0 := Lib.hid xh0
  have HB := Lib.hid (hbb _ HB.out Gh0.out)
  have HS := Lib.hid (show SE (W28.drew) [] W36 from by rw [hW]; exact HS.out.store3 (.inr Eh0.out))
  clear hW hk hf hbb xh0
  clear hz
  refine held_pureX 10 (some 12) (Go.Op.assign (Go.Operand.tmp 52)) (none) (.int .i64 0) (by kernel_rfl) (by kernel_rfl) (by kernel_rfl) (fun _ _ _ h => h) (fun w' => by first | (go_simp; done) | (go_simp; simp_all; done) | (go_simp; rfl)) HS.out ?_
  simp only [Act.put, List.setIfInBounds_toArray, List.set_cons_zero, List.set_cons_succ]
  refine wpAnyH_done (by kernel_rfl) ?_ _
  clear HG HS Hok Eh0
  obtain ⟨ca00, ca01, ca02, fa00, fa01, fa02⟩ := Xa0.out.c3
  have la0 := Xa0.out.lt
  obtain ⟨cb00, cb01, cb02, fb00, fb01, fb02⟩ := Xb0.out.c3
  have lb0 := Xb0.out.lt
  obtain ⟨cc00, cc01, cc02, fc00, fc01, fc02⟩ := Xc0.out.c3
  have lc0 := Xc0.out.lt
  obtain ⟨cd00, cd01, cd02, fd00, fd01, fd02⟩ := Xd0.out.c3
  have ld0 := Xd0.out.lt
  obtain ⟨ce00, ce01, ce02, fe00, fe01, fe02⟩ := Xe0.out.c3
  have le0 := Xe0.out.lt
  obtain ⟨cf00, cf01, cf02, ff00, ff01, ff02⟩ := Xf0.out.c3
  have lf0 := Xf0.out.lt
  obtain ⟨cg00, cg01, cg02, fg00, fg01, fg02⟩ := Xg0.out.c3
  have lg0 := Xg0.out.lt
  obtain ⟨ch00, ch01, ch02, fh00, fh01, fh02⟩ := Xh0.out.c3
  have lh0 := Xh0.out.lt
  go_wp2_with fail
  clear ca00 ca01 ca02 fa00 fa01 fa02 la0 cb00 cb01 cb02 fb00 fb01 fb02 lb0 cc00 cc01 cc02 fc00 fc01 fc02 lc0 cd00 cd01 cd02 fd00 fd01 fd02 ld0 ce00 ce01 ce02 fe00 fe01 fe02 le0 cf00 cf01 cf02 ff00 ff01 ff02 lf0 cg00 cg01 cg02 fg00 fg01 fg02 lg0 ch00 ch01 ch02 fh00 fh01 fh02 lh0
  (first | (have hcall := zadd_ar Hg.out.ar Hq3.out.ar (by omega) (by omega); refine Calls.mono hcall ?_; clear hcall) | refine Calls.mono (zadd_ar Hg.out.ar Hq3.out.ar (by omega) (by omega)) ?_)
  rintro e w37 ⟨v37, rfl, hz, hb⟩
  obtain ⟨z_b, z_a, z_n, z_c, z_d, z_m, z_e, rfl⟩ := hz.litb
  have Xa0 := Lib.hid (Box.pcall hb Xa0.out)
  have Xb0 := Lib.hid (Box.pcall hb Xb0.out)
  have Xc0 := Lib.hid (Box.pcall hb Xc0.out)
  have Xd0 := Lib.hid (Box.pcall hb Xd0.out)
  have Xe0 := Lib.hid (Box.pcall hb Xe0.out)
  have Xf0 := Lib.hid (Box.pcall hb Xf0.out)
  have Xg0 := Lib.hid (Box.pcall hb Xg0.out)
  have Xh0 := Lib.hid (Box.pcall hb Xh0.out)
  have HB := Lib.hid (below_call HB.out hb)
  have Hz := Lib.hid hz
  clear hb hz
  obtain ⟨ca00, ca01, ca02, fa00, fa01, fa02⟩ := Xa0.out.c3
  have la0 := Xa0.out.lt
  obtain ⟨cb00, cb01, cb02, fb00, fb01, fb02⟩ := Xb0.out.c3
  have lb0 := Xb0.out.lt
  obtain ⟨cc00, cc01, cc02, fc00, fc01, fc02⟩ := Xc0.out.c3
  have lc0 := Xc0.out.lt
  obtain ⟨cd00, cd01, cd02, fd00, fd01, fd02⟩ := Xd0.out.c3
  have ld0 := Xd0.out.lt
  obtain ⟨ce00, ce01, ce02, fe00, fe01, fe02⟩ := Xe0.out.c3
  have le0 := Xe0.out.lt
  obtain ⟨cf00, cf01, cf02, ff00, ff01, ff02⟩ := Xf0.out.c3
  have lf0 := Xf0.out.lt
  obtain ⟨cg00, cg01, cg02, fg00, fg01, fg02⟩ := Xg0.out.c3
  have lg0 := Xg0.out.lt
  obtain ⟨ch00, ch01, ch02, fh00, fh01, fh02⟩ := Xh0.out.c3
  have lh0 := Xh0.out.lt
  go_wp2
  clear ca00 ca01 ca02 fa00 fa01 fa02 la0 cb00 cb01 cb02 fb00 fb01 fb02 lb0 cc00 cc01 cc02 fc00 fc01 fc02 lc0 cd00 cd01 cd02 fd00 fd01 fd02 ld0 ce00 ce01 ce02 fe00 fe01 fe02 le0 cf00 cf01 cf02 ff00 ff01 ff02 lf0 cg00 cg01 cg02 fg00 fg01 fg02 lg0 ch00 ch01 ch02 fh00 fh01 fh02 lh0
  obtain ⟨W38, hW⟩ : ∃ W38, W38 = (World.setCell (World.setCell (World.setCell w37 ⟨w.heap.size + 1 + 1, 0, none⟩ (.bool z_b)) ⟨w.heap.size + 1 + 1, 1, none⟩ (.slice z_a z_n z_c)) ⟨w.heap.size + 1 + 1, 2, none⟩ (.slice z_d z_m z_e)) := ⟨_, rfl⟩
  rw [← hW]
  obtain ⟨xc0, hk, hf, hbb, hz⟩ := stored3s hW Xc0.out (by first | exact NoInt.bool _ | exact NoInt.slice _ _ _) (by first | exact NoInt.bool _ | exact NoInt.slice _ _ _) (by first | exact NoInt.bool _ | exact NoInt.slice _ _ _)
  have Hz := Lib.hid (CR.keep Hz.out hk)
  have Xa0 := Lib.hid (hf _ _ _ Xa0.out (by omega))
  have Xb0 := Lib.hid (hf _ _ _ Xb0.out (by omega))
  have Xc0 := Lib.hid xc0
  have Xd0 := Lib.hid (hf _ _ _ Xd0.out Nc0d0.out.symm)
  have Xe0 := Lib.hid (hf _ _ _ Xe0.out Nc0e0.out.symm)
  have Xf0 := Lib.hid (hf _ _ _ Xf0.out Nc0f0.out.symm)
  have Xg0 := Lib.hid (hf _ _ _ Xg0.out Nc0g0.out.symm)
  have Xh0 := Lib.hid (hf _ _ _ Xh0.out Nc0h0.out.symm)
  have HB := Lib.hid (hbb _ HB.out Gc0.out)
  clear hW hk hf hbb xc0
  clear hz
  exact ret_rat1 rfl rfl rfl Xc0.out (CR.mono Hz.out (by omega)) HB.out


theorem pos_ar : ∀ (n : Nat) {lo hi : Rat} {L : Nat} {u v : Value} {w : World}, 0 < lo → lo ≤ hi → lo.den + hi.den ≤ n → AR lo L w u → AR hi L w v → 1 ≤ L → L ≤ 10000 →
    Calls Try.prog 68 #[u, v] w (Ret w (CR (spl n lo hi) L)) := by
  intro n
  induction n with
  | zero => intro lo hi L u v w _ _ hn; have := lo.den_pos; omega
  | succ n ih =>
    intro lo hi L u v w h0 h hn hu hv h1 hL
    have hs := spl_sm h0 h hn (hu.smL h1)
    obtain ⟨ba, sa, ta, rfl⟩ := hu.agg
    obtain ⟨bb, sb, tb, rfl⟩ := hv.agg
    by_cases e1 : (lo.floor : Rat) = lo
    · have e : spl (n + 1) lo hi = (lo.floor : Rat) := by rw [spl, if_pos e1]
      rw [e] at hs ⊢
      exact (pos_1 (cmpQ_zero.2 e1) hu hv hL).mono fun _ _ k => k.imp fun _ _ x => x.small hs
    · have k0 : (cmpQ (lo.floor : Rat) lo == 0) = false := by simpa using mt cmpQ_zero.1 e1
      by_cases e2 : (lo.floor : Rat) + 1 ≤ hi
      · have e : spl (n + 1) lo hi = (lo.floor : Rat) + 1 := by rw [spl, if_neg e1, if_pos e2]
        rw [e] at hs ⊢
        exact (pos_2 _ _ rfl k0 rfl (by simpa using cmpQ_le.2 e2) hu hv hL).mono fun _ _ k => k.imp fun _ _ x => x.small hs
      · have d := Down.mk' h0 h e1 e2
        have hd := d.sum
        have hi' := d.inv
        have sm := d.sm (hu.smL h1) (hv.smL h1)
        have sp := spl_pos hi'.1 hi'.2 (show _ ≤ n by omega)
        rw [spl_down e1 e2] at hs ⊢
        refine (pos_3 _ _ rfl k0 rfl (by simpa using mt cmpQ_le.1 e2) (Ne.symm (Rat.ne_of_lt d.a)) (Ne.symm (Rat.ne_of_lt d.b)) (Ne.symm (Rat.ne_of_lt sp)) sm.1 sm.2 (fun w u v p q => ?_) hu hv hL).mono fun _ _ k => k.imp fun _ _ x => x.small hs
        exact ih hi'.1 hi'.2 (by omega) p q h1 hL

end Go.Proofs.Ytfkjhaniglmejaa
