/- Texts RatF, in this order. -/
import Derived.Test.YtikglhmabidjoaaGreatDoorCc
namespace Go.Proofs.YtikglhmabidjoaaGreatDoor
open Go.RowKit Nt
set_option linter.unusedVariables false
set_option maxRecDepth 100000 in
set_option maxHeartbeats 4000000 in
theorem zadd_p {L M : Nat} {ba : Bool} {na da : Nat} {sa ta : Value} {bb : Bool} {nb db : Nat} {sb tb : Value} {w : World} (hna : Is na L w sa) (hda : Is da L w ta) (hnb : Is nb M w sb) (hdb : Is db M w tb) (hL : L ≤ 100000000) (hM : M ≤ 100000000) :
    Calls Tryz.prog 48 #[.agg #[.bool ba, sa, ta], .agg #[.bool bb, sb, tb]] w (Ret w (CR (rv ba na da + rv bb nb db) (L + M + 3))) := by
  have Hna := Lib.hid hna
  have Hda := Lib.hid hda
  have Hnb := Lib.hid hnb
  have Hdb := Lib.hid hdb
  clear hna hda hnb hdb
  go_enter Tryz.func48, Tryz.ntmps48
  have HB := Lib.hid (Below.refl w.heap.size w)
  go_wp2_with fail
  obtain ⟨W1, hW⟩ : ∃ W1, W1 = (World.alloc (World.alloc (World.alloc w (.cells #[.bool ba, sa, ta] 37)) (.cells #[.bool bb, sb, tb] 37)) (.cells #[.bool false, .slice none 0 0, .slice none 0 0] 37)) := ⟨_, rfl⟩
  rw [← hW]
  obtain ⟨xa0, xb0, xc0, hk, hb⟩ := boxes_3 _ _ _ _ _ _ _ hW
  clear hW
  have Hna := Lib.hid (Is.keep Hna.out hk)
  have Hda := Lib.hid (Is.keep Hda.out hk)
  have Hnb := Lib.hid (Is.keep Hnb.out hk)
  have Hdb := Lib.hid (Is.keep Hdb.out hk)
  have Ga0 := Lib.hid (show w.heap.size ≤ w.heap.size from Nat.le_trans HB.out.size (by omega))
  have Gb0 := Lib.hid (show w.heap.size ≤ w.heap.size + 1 from Nat.le_trans HB.out.size (by omega))
  have Gc0 := Lib.hid (show w.heap.size ≤ w.heap.size + 1 + 1 from Nat.le_trans HB.out.size (by omega))
  have Xa0 := Lib.hid xa0
  have Xb0 := Lib.hid xb0
  have Xc0 := Lib.hid xc0
  have HB := Lib.hid (below_call HB.out hb)
  clear hk hb xa0 xb0 xc0
  have Hna := Lib.hid (Is.keep Hna.out (Keep.drew W1))
  have Hda := Lib.hid (Is.keep Hda.out (Keep.drew W1))
  have Hnb := Lib.hid (Is.keep Hnb.out (Keep.drew W1))
  have Hdb := Lib.hid (Is.keep Hdb.out (Keep.drew W1))
  have Xa0 := Lib.hid (Box.drew Xa0.out)
  have Xb0 := Lib.hid (Box.drew Xb0.out)
  have Xc0 := Lib.hid (Box.drew Xc0.out)
  have HB := Lib.hid (Below.drew HB.out)
  refine wp_region_float [] [⟨9, 5, 105, #[.bool false, .slice none 0 0]⟩] (by kernel_rfl) (by kernel_rfl) 41 (by kernel_rfl) (Flok.one (by kernel_rfl) (by kernel_rfl) (by kernel_rfl) (by intro w; go_simp)) ?_
  intro ok
  have Hok := Lib.hid ok
  clear ok
  have HG := Lib.hid (Below.refl (W1.drew).heap.size (W1.drew))
  refine good_pureX 0 (some 8) (Go.Op.fieldAddr 37 (Go.Operand.tmp 2) 0) (none) (.pointer (some ⟨w.heap.size, 0, none⟩)) (by kernel_rfl) (by kernel_rfl) (by kernel_rfl) (fun _ _ _ h => h) (fun w' hw' => ?_) ?_
  · first | (go_simp; done) | (go_simp; simp_all; done) | (go_simp; rfl)
  simp only [Act.put, List.setIfInBounds_toArray, List.set_cons_zero, List.set_cons_succ]
  refine good_pureX 1 (some 9) (Go.Op.load 4 (Go.Operand.tmp 8)) (none) (.bool ba) (by kernel_rfl) (by kernel_rfl) (by kernel_rfl) (fun _ _ _ h => h) (fun w' hw' => ?_) ?_
  · obtain ⟨ca00, ca01, ca02, fa00, fa01, fa02⟩ := (Box.se hw' Xa0.out notin0).c3
    first | (go_simp; done) | (go_simp; simp_all; done) | (go_simp; rfl)
  simp only [Act.put, List.setIfInBounds_toArray, List.set_cons_zero, List.set_cons_succ]
  refine good_pureX 2 (some 10) (Go.Op.fieldAddr 37 (Go.Operand.tmp 2) 1) (none) (.pointer (some ⟨w.heap.size, 1, none⟩)) (by kernel_rfl) (by kernel_rfl) (by kernel_rfl) (fun _ _ _ h => h) (fun w' hw' => ?_) ?_
  · first | (go_simp; done) | (go_simp; simp_all; done) | (go_simp; rfl)
  simp only [Act.put, List.setIfInBounds_toArray, List.set_cons_zero, List.set_cons_succ]
  refine good_pureX 3 (some 11) (Go.Op.load 35 (Go.Operand.tmp 10)) (none) (sa) (by kernel_rfl) (by kernel_rfl) (by kernel_rfl) (fun _ _ _ h => h) (fun w' hw' => ?_) ?_
  · obtain ⟨ca00, ca01, ca02, fa00, fa01, fa02⟩ := (Box.se hw' Xa0.out notin0).c3
    first | (go_simp; done) | (go_simp; simp_all; done) | (go_simp; rfl)
  simp only [Act.put, List.setIfInBounds_toArray, List.set_cons_zero, List.set_cons_succ]
  refine good_pureX 4 (some 12) (Go.Op.fieldAddr 37 (Go.Operand.tmp 3) 2) (none) (.pointer (some ⟨w.heap.size + 1, 2, none⟩)) (by kernel_rfl) (by kernel_rfl) (by kernel_rfl) (fun _ _ _ h => h) (fun w' hw' => ?_) ?_
  · first | (go_simp; done) | (go_simp; simp_all; done) | (go_simp; rfl)
  simp only [Act.put, List.setIfInBounds_toArray, List.set_cons_zero, List.set_cons_succ]
  refine good_pureX 5 (some 13) (Go.Op.load 35 (Go.Operand.tmp 12)) (none) (tb) (by kernel_rfl) (by kernel_rfl) (by kernel_rfl) (fun _ _ _ h => h) (fun w' hw' => ?_) ?_
  · obtain ⟨cb00, cb01, cb02, fb00, fb01, fb02⟩ := (Box.se hw' Xb0.out notin0).c3
    first | (go_simp; done) | (go_simp; simp_all; done) | (go_simp; rfl)
  simp only [Act.put, List.setIfInBounds_toArray, List.set_cons_zero, List.set_cons_succ]
  refine good_callX 6 98 (some 14) #[Go.Operand.tmp 13] #[35] (none) #[tb] (by kernel_rfl) Hok.out (by kernel_rfl) (by kernel_rfl) (by kernel_rfl) (by kernel_rfl) rfl rfl rfl (by kernel_rfl) (fun w2 hb => ?_)
  have HG := Lib.hid (below_call HG.out hb)
  clear hb
  (first | (have hcall := r3one_is (Is.keep Hdb.out (Keep.call HG.out)); refine Calls.mono hcall ?_; clear hcall) | refine Calls.mono (r3one_is (Is.keep Hdb.out (Keep.call HG.out))) ?_)
  rintro e w3 ⟨v3, rfl, ho, hb⟩
  obtain ⟨o_a, o_n, o_c, rfl⟩ := ho.lit
  refine ⟨_, rfl, ?_, hb⟩
  have HG := Lib.hid (below_call HG.out hb)
  have Ho := Lib.hid ho
  clear hb ho
  simp only [Act.put, List.setIfInBounds_toArray, List.set_cons_zero, List.set_cons_succ]
  refine good_callX 7 97 (some 15) #[Go.Operand.tmp 11, Go.Operand.tmp 14] #[35, 35] (none) #[sa, .slice o_a o_n o_c] (by kernel_rfl) Hok.out (by kernel_rfl) (by kernel_rfl) (by kernel_rfl) (by kernel_rfl) rfl rfl rfl (by kernel_rfl) (fun w4 hb => ?_)
  have Ho := Lib.hid (Is.keep Ho.out (Keep.call hb))
  have HG := Lib.hid (below_call HG.out hb)
  clear hb
  (first | (have hcall := rmul_is (Is.keep Hna.out (Keep.call HG.out)) Ho.out (by omega) (by omega); refine Calls.mono hcall ?_; clear hcall) | refine Calls.mono (rmul_is (Is.keep Hna.out (Keep.call HG.out)) Ho.out (by omega) (by omega)) ?_)
  rintro e w5 ⟨v5, rfl, hx, hb⟩
  obtain ⟨x_a, x_n, x_c, rfl⟩ := hx.is.lit
  refine ⟨_, rfl, ?_, hb⟩
  have HG := Lib.hid (below_call HG.out hb)
  have Hx := Lib.hid hx
  clear hb hx
  simp only [Act.put, List.setIfInBounds_toArray, List.set_cons_zero, List.set_cons_succ]
  refine good_pureX 8 (some 16) (Go.Op.build 105 #[(0, Go.Operand.tmp 9), (1, Go.Operand.tmp 15)]) (none) (.agg #[.bool ba, .slice x_a x_n x_c]) (by kernel_rfl) (by kernel_rfl) (by kernel_rfl) (fun _ _ _ h => h) (fun w' hw' => ?_) ?_
  · first | (go_simp; done) | (go_simp; simp_all; done) | (go_simp; rfl)
  simp only [Act.put, List.setIfInBounds_toArray, List.set_cons_zero, List.set_cons_succ]
  refine good_end1 1 Hok.out (by kernel_rfl) (by kernel_rfl) (by kernel_rfl) (fun _ gd0 w6 hb ed0 xd0 => ?_)
  have Hx := Lib.hid (Can.keep Hx.out (Keep.call hb))
  have HG := Lib.hid (below_call HG.out hb)
  clear hb
  have Na0d0 := Lib.hid (show w.heap.size ≠ gd0 from Nat.ne_of_lt (Nat.lt_of_lt_of_le Xa0.out.lt ed0))
  have Nb0d0 := Lib.hid (show w.heap.size + 1 ≠ gd0 from Nat.ne_of_lt (Nat.lt_of_lt_of_le Xb0.out.lt ed0))
  have Nc0d0 := Lib.hid (show w.heap.size + 1 + 1 ≠ gd0 from Nat.ne_of_lt (Nat.lt_of_lt_of_le Xc0.out.lt ed0))
  have Gd0 := Lib.hid (show w.heap.size ≤ gd0 from Nat.le_trans HB.out.size ed0)
  have Ed0 := Lib.hid ed0
  clear ed0
  have Hda := Lib.hid (Is.keep Hda.out (Keep.call HG.out))
  have Hnb := Lib.hid (Is.keep Hnb.out (Keep.call HG.out))
  have Hdb := Lib.hid (Is.keep Hdb.out (Keep.call HG.out))
  have Xa0 := Lib.hid (Box.pcall HG.out Xa0.out)
  have Xb0 := Lib.hid (Box.pcall HG.out Xb0.out)
  have Xc0 := Lib.hid (Box.pcall HG.out Xc0.out)
  have HB := Lib.hid (below_call HB.out HG.out)
  have HS := Lib.hid (SE.of (E := []) HG.out)
  have Xd0 := Lib.hid xd0
  clear xd0
  simp only [Act.put, List.setIfInBounds_toArray, List.set_cons_zero, List.set_cons_succ]
  refine held_oneX 10 (Go.Op.store 105 (Go.Operand.tmp 5) (Go.Operand.tmp 16)) (none) (World.setCell (World.setCell w6 ⟨gd0, 0, none⟩ (.bool ba)) ⟨gd0, 1, none⟩ (.slice x_a x_n x_c)) (by kernel_rfl) (by kernel_rfl) (by kernel_rfl) (by kernel_rfl) ?_ (HS.out.store2 (.inr Ed0.out)) ?_
  · obtain ⟨cd00, cd01, fd00, fd01⟩ := Xd0.out.c2
    first | (go_simp; done) | (go_simp; simp_all; done) | (go_simp; rfl)
  obtain ⟨W7, hW⟩ : ∃ W7, W7 = (World.setCell (World.setCell w6 ⟨gd0, 0, none⟩ (.bool ba)) ⟨gd0, 1, none⟩ (.slice x_a x_n x_c)) := ⟨_, rfl⟩
  rw [← hW]
  obtain ⟨xd0, hk, hf, hbb, hz⟩ := stored2s hW Xd0.out (by first | exact NoInt.bool _ | exact NoInt.slice _ _ _) (by first | exact NoInt.bool _ | exact NoInt.slice _ _ _)
  have Hda := Lib.hid (Is.keep Hda.out hk)
  have Hnb := Lib.hid (Is.keep Hnb.out hk)
  have Hdb := Lib.hid (Is.keep Hdb.out hk)
  have Hx := Lib.hid (Can.keep Hx.out hk)
  have Xa0 := Lib.hid (hf _ _ _ Xa0.out Na0d0.out)
  have Xb0 := Lib.hid (hf _ _ _ Xb0.out Nb0d0.out)
  have Xc0 := Lib.hid (hf _ _ _ Xc0.out Nc0d0.out)
  have Xd0 := Lib.hid xd0
  have HB := Lib.hid (hbb _ HB.out Gd0.out)
  have HS := Lib.hid (show SE (W1.drew) [] W7 from by rw [hW]; exact HS.out.store2 (.inr Ed0.out))
  clear hW hk hf hbb xd0
  clear hz
  refine wpAnyH_done (by kernel_rfl) ?_ _
  clear HG HS Hok Ed0
  obtain ⟨ca00, ca01, ca02, fa00, fa01, fa02⟩ := Xa0.out.c3
  have la0 := Xa0.out.lt
  obtain ⟨cb00, cb01, cb02, fb00, fb01, fb02⟩ := Xb0.out.c3
  have lb0 := Xb0.out.lt
  obtain ⟨cc00, cc01, cc02, fc00, fc01, fc02⟩ := Xc0.out.c3
  have lc0 := Xc0.out.lt
  obtain ⟨cd00, cd01, fd00, fd01⟩ := Xd0.out.c2
  have ld0 := Xd0.out.lt
  go_wp2_with fail
  clear ca00 ca01 ca02 fa00 fa01 fa02 la0 cb00 cb01 cb02 fb00 fb01 fb02 lb0 cc00 cc01 cc02 fc00 fc01 fc02 lc0 cd00 cd01 fd00 fd01 ld0
  have Hda := Lib.hid (Is.keep Hda.out (Keep.drew W7))
  have Hnb := Lib.hid (Is.keep Hnb.out (Keep.drew W7))
  have Hdb := Lib.hid (Is.keep Hdb.out (Keep.drew W7))
  have Hx := Lib.hid (Can.keep Hx.out (Keep.drew W7))
  have Xa0 := Lib.hid (Box.drew Xa0.out)
  have Xb0 := Lib.hid (Box.drew Xb0.out)
  have Xc0 := Lib.hid (Box.drew Xc0.out)
  have Xd0 := Lib.hid (Box.drew Xd0.out)
  have HB := Lib.hid (Below.drew HB.out)
  refine wp_region_float [] [⟨9, 6, 105, #[.bool false, .slice none 0 0]⟩] (by kernel_rfl) (by kernel_rfl) 41 (by kernel_rfl) (Flok.one (by kernel_rfl) (by kernel_rfl) (by kernel_rfl) (by intro w; go_simp)) ?_
  intro ok
  have Hok := Lib.hid ok
  clear ok
  have HG := Lib.hid (Below.refl (W7.drew).heap.size (W7.drew))
  refine good_pureX 0 (some 17) (Go.Op.fieldAddr 37 (Go.Operand.tmp 3) 0) (none) (.pointer (some ⟨w.heap.size + 1, 0, none⟩)) (by kernel_rfl) (by kernel_rfl) (by kernel_rfl) (fun _ _ _ h => h) (fun w' hw' => ?_) ?_
  · first | (go_simp; done) | (go_simp; simp_all; done) | (go_simp; rfl)
  simp only [Act.put, List.setIfInBounds_toArray, List.set_cons_zero, List.set_cons_succ]
  refine good_pureX 1 (some 18) (Go.Op.load 4 (Go.Operand.tmp 17)) (none) (.bool bb) (by kernel_rfl) (by kernel_rfl) (by kernel_rfl) (fun _ _ _ h => h) (fun w' hw' => ?_) ?_
  · obtain ⟨cb00, cb01, cb02, fb00, fb01, fb02⟩ := (Box.se hw' Xb0.out notin0).c3
    first | (go_simp; done) | (go_simp; simp_all; done) | (go_simp; rfl)
  simp only [Act.put, List.setIfInBounds_toArray, List.set_cons_zero, List.set_cons_succ]
  refine good_pureX 2 (some 19) (Go.Op.fieldAddr 37 (Go.Operand.tmp 3) 1) (none) (.pointer (some ⟨w.heap.size + 1, 1, none⟩)) (by kernel_rfl) (by kernel_rfl) (by kernel_rfl) (fun _ _ _ h => h) (fun w' hw' => ?_) ?_
  · first | (go_simp; done) | (go_simp; simp_all; done) | (go_simp; rfl)
  simp only [Act.put, List.setIfInBounds_toArray, List.set_cons_zero, List.set_cons_succ]
  refine good_pureX 3 (some 20) (Go.Op.load 35 (Go.Operand.tmp 19)) (none) (sb) (by kernel_rfl) (by kernel_rfl) (by kernel_rfl) (fun _ _ _ h => h) (fun w' hw' => ?_) ?_
  · obtain ⟨cb00, cb01, cb02, fb00, fb01, fb02⟩ := (Box.se hw' Xb0.out notin0).c3
    first | (go_simp; done) | (go_simp; simp_all; done) | (go_simp; rfl)
  simp only [Act.put, List.setIfInBounds_toArray, List.set_cons_zero, List.set_cons_succ]
  refine good_pureX 4 (some 21) (Go.Op.fieldAddr 37 (Go.Operand.tmp 2) 2) (none) (.pointer (some ⟨w.heap.size, 2, none⟩)) (by kernel_rfl) (by kernel_rfl) (by kernel_rfl) (fun _ _ _ h => h) (fun w' hw' => ?_) ?_
  · first | (go_simp; done) | (go_simp; simp_all; done) | (go_simp; rfl)
  simp only [Act.put, List.setIfInBounds_toArray, List.set_cons_zero, List.set_cons_succ]
  refine good_pureX 5 (some 22) (Go.Op.load 35 (Go.Operand.tmp 21)) (none) (ta) (by kernel_rfl) (by kernel_rfl) (by kernel_rfl) (fun _ _ _ h => h) (fun w' hw' => ?_) ?_
  · obtain ⟨ca00, ca01, ca02, fa00, fa01, fa02⟩ := (Box.se hw' Xa0.out notin0).c3
    first | (go_simp; done) | (go_simp; simp_all; done) | (go_simp; rfl)
  simp only [Act.put, List.setIfInBounds_toArray, List.set_cons_zero, List.set_cons_succ]
  refine good_callX 6 98 (some 23) #[Go.Operand.tmp 22] #[35] (none) #[ta] (by kernel_rfl) Hok.out (by kernel_rfl) (by kernel_rfl) (by kernel_rfl) (by kernel_rfl) rfl rfl rfl (by kernel_rfl) (fun w8 hb => ?_)
  have HG := Lib.hid (below_call HG.out hb)
  clear hb
  (first | (have hcall := r3one_is (Is.keep Hda.out (Keep.call HG.out)); refine Calls.mono hcall ?_; clear hcall) | refine Calls.mono (r3one_is (Is.keep Hda.out (Keep.call HG.out))) ?_)
  rintro e w9 ⟨v9, rfl, hp, hb⟩
  obtain ⟨p_a, p_n, p_c, rfl⟩ := hp.lit
  refine ⟨_, rfl, ?_, hb⟩
  have HG := Lib.hid (below_call HG.out hb)
  have Hp := Lib.hid hp
  clear hb hp
  simp only [Act.put, List.setIfInBounds_toArray, List.set_cons_zero, List.set_cons_succ]
  refine good_callX 7 97 (some 24) #[Go.Operand.tmp 20, Go.Operand.tmp 23] #[35, 35] (none) #[sb, .slice p_a p_n p_c] (by kernel_rfl) Hok.out (by kernel_rfl) (by kernel_rfl) (by kernel_rfl) (by kernel_rfl) rfl rfl rfl (by kernel_rfl) (fun w10 hb => ?_)
  have Hp := Lib.hid (Is.keep Hp.out (Keep.call hb))
  have HG := Lib.hid (below_call HG.out hb)
  clear hb
  (first | (have hcall := rmul_is (Is.keep Hnb.out (Keep.call HG.out)) Hp.out (by omega) (by omega); refine Calls.mono hcall ?_; clear hcall) | refine Calls.mono (rmul_is (Is.keep Hnb.out (Keep.call HG.out)) Hp.out (by omega) (by omega)) ?_)
  rintro e w11 ⟨v11, rfl, hv, hb⟩
  obtain ⟨v_a, v_n, v_c, rfl⟩ := hv.is.lit
  refine ⟨_, rfl, ?_, hb⟩
  have HG := Lib.hid (below_call HG.out hb)
  have Hv := Lib.hid hv
  clear hb hv
  simp only [Act.put, List.setIfInBounds_toArray, List.set_cons_zero, List.set_cons_succ]
  refine good_pureX 8 (some 25) (Go.Op.build 105 #[(0, Go.Operand.tmp 18), (1, Go.Operand.tmp 24)]) (none) (.agg #[.bool bb, .slice v_a v_n v_c]) (by kernel_rfl) (by kernel_rfl) (by kernel_rfl) (fun _ _ _ h => h) (fun w' hw' => ?_) ?_
  · first | (go_simp; done) | (go_simp; simp_all; done) | (go_simp; rfl)
  simp only [Act.put, List.setIfInBounds_toArray, List.set_cons_zero, List.set_cons_succ]
  refine good_end1 1 Hok.out (by kernel_rfl) (by kernel_rfl) (by kernel_rfl) (fun _ ge0 w12 hb ee0 xe0 => ?_)
  have Hv := Lib.hid (Can.keep Hv.out (Keep.call hb))
  have HG := Lib.hid (below_call HG.out hb)
  clear hb
  have Na0e0 := Lib.hid (show w.heap.size ≠ ge0 from Nat.ne_of_lt (Nat.lt_of_lt_of_le Xa0.out.lt ee0))
  have Nb0e0 := Lib.hid (show w.heap.size + 1 ≠ ge0 from Nat.ne_of_lt (Nat.lt_of_lt_of_le Xb0.out.lt ee0))
  have Nc0e0 := Lib.hid (show w.heap.size + 1 + 1 ≠ ge0 from Nat.ne_of_lt (Nat.lt_of_lt_of_le Xc0.out.lt ee0))
  have Nd0e0 := Lib.hid (show gd0 ≠ ge0 from Nat.ne_of_lt (Nat.lt_of_lt_of_le Xd0.out.lt ee0))
  have Ge0 := Lib.hid (show w.heap.size ≤ ge0 from Nat.le_trans HB.out.size ee0)
  have Ee0 := Lib.hid ee0
  clear ee0
  have Hda := Lib.hid (Is.keep Hda.out (Keep.call HG.out))
  have Hdb := Lib.hid (Is.keep Hdb.out (Keep.call HG.out))
  have Hx := Lib.hid (Can.keep Hx.out (Keep.call HG.out))
  have Xa0 := Lib.hid (Box.pcall HG.out Xa0.out)
  have Xb0 := Lib.hid (Box.pcall HG.out Xb0.out)
  have Xc0 := Lib.hid (Box.pcall HG.out Xc0.out)
  have Xd0 := Lib.hid (Box.pcall HG.out Xd0.out)
  have HB := Lib.hid (below_call HB.out HG.out)
  have HS := Lib.hid (SE.of (E := []) HG.out)
  have Xe0 := Lib.hid xe0
  clear xe0
  simp only [Act.put, List.setIfInBounds_toArray, List.set_cons_zero, List.set_cons_succ]
  refine held_oneX 10 (Go.Op.store 105 (Go.Operand.tmp 6) (Go.Operand.tmp 25)) (none) (World.setCell (World.setCell w12 ⟨ge0, 0, none⟩ (.bool bb)) ⟨ge0, 1, none⟩ (.slice v_a v_n v_c)) (by kernel_rfl) (by kernel_rfl) (by kernel_rfl) (by kernel_rfl) ?_ (HS.out.store2 (.inr Ee0.out)) ?_
  · obtain ⟨ce00, ce01, fe00, fe01⟩ := Xe0.out.c2
    first | (go_simp; done) | (go_simp; simp_all; done) | (go_simp; rfl)
  obtain ⟨W13, hW⟩ : ∃ W13, W13 = (World.setCell (World.setCell w12 ⟨ge0, 0, none⟩ (.bool bb)) ⟨ge0, 1, none⟩ (.slice v_a v_n v_c)) := ⟨_, rfl⟩
  rw [← hW]
  obtain ⟨xe0, hk, hf, hbb, hz⟩ := stored2s hW Xe0.out (by first | exact NoInt.bool _ | exact NoInt.slice _ _ _) (by first | exact NoInt.bool _ | exact NoInt.slice _ _ _)
  have Hda := Lib.hid (Is.keep Hda.out hk)
  have Hdb := Lib.hid (Is.keep Hdb.out hk)
  have Hx := Lib.hid (Can.keep Hx.out hk)
  have Hv := Lib.hid (Can.keep Hv.out hk)
  have Xa0 := Lib.hid (hf _ _ _ Xa0.out Na0e0.out)
  have Xb0 := Lib.hid (hf _ _ _ Xb0.out Nb0e0.out)
  have Xc0 := Lib.hid (hf _ _ _ Xc0.out Nc0e0.out)
  have Xd0 := Lib.hid (hf _ _ _ Xd0.out Nd0e0.out)
  have Xe0 := Lib.hid xe0
  have HB := Lib.hid (hbb _ HB.out Ge0.out)
  have HS := Lib.hid (show SE (W7.drew) [] W13 from by rw [hW]; exact HS.out.store2 (.inr Ee0.out))
  clear hW hk hf hbb xe0
  clear hz
  refine wpAnyH_done (by kernel_rfl) ?_ _
  clear HG HS Hok Ee0
  obtain ⟨ca00, ca01, ca02, fa00, fa01, fa02⟩ := Xa0.out.c3
  have la0 := Xa0.out.lt
  obtain ⟨cb00, cb01, cb02, fb00, fb01, fb02⟩ := Xb0.out.c3
  have lb0 := Xb0.out.lt
  obtain ⟨cc00, cc01, cc02, fc00, fc01, fc02⟩ := Xc0.out.c3
  have lc0 := Xc0.out.lt
  obtain ⟨cd00, cd01, fd00, fd01⟩ := Xd0.out.c2
  have ld0 := Xd0.out.lt
  obtain ⟨ce00, ce01, fe00, fe01⟩ := Xe0.out.c2
  have le0 := Xe0.out.lt
  go_wp2_with fail
  clear ca00 ca01 ca02 fa00 fa01 fa02 la0 cb00 cb01 cb02 fb00 fb01 fb02 lb0 cc00 cc01 cc02 fc00 fc01 fc02 lc0 cd00 cd01 fd00 fd01 ld0 ce00 ce01 fe00 fe01 le0
  (first | (have hcall := riadd_ai (AI.mk (n := ba) Hx.out.is) (AI.mk (n := bb) Hv.out.is) (by omega) (by omega); refine Calls.mono hcall ?_; clear hcall) | refine Calls.mono (riadd_ai (AI.mk (n := ba) Hx.out.is) (AI.mk (n := bb) Hv.out.is) (by omega) (by omega)) ?_)
  rintro e w14 ⟨v14, rfl, hs, hb⟩
  obtain ⟨s_b, s_a, s_n, s_c, rfl⟩ := hs.litb
  have Hda := Lib.hid (Is.keep Hda.out (Keep.call hb))
  have Hdb := Lib.hid (Is.keep Hdb.out (Keep.call hb))
  have Xa0 := Lib.hid (Box.pcall hb Xa0.out)
  have Xb0 := Lib.hid (Box.pcall hb Xb0.out)
  have Xc0 := Lib.hid (Box.pcall hb Xc0.out)
  have Xd0 := Lib.hid (Box.pcall hb Xd0.out)
  have Xe0 := Lib.hid (Box.pcall hb Xe0.out)
  have HB := Lib.hid (below_call HB.out hb)
  have Hs := Lib.hid hs
  clear hb hs
  obtain ⟨ca00, ca01, ca02, fa00, fa01, fa02⟩ := Xa0.out.c3
  have la0 := Xa0.out.lt
  obtain ⟨cb00, cb01, cb02, fb00, fb01, fb02⟩ := Xb0.out.c3
  have lb0 := Xb0.out.lt
  obtain ⟨cc00, cc01, cc02, fc00, fc01, fc02⟩ := Xc0.out.c3
  have lc0 := Xc0.out.lt
  obtain ⟨cd00, cd01, fd00, fd01⟩ := Xd0.out.c2
  have ld0 := Xd0.out.lt
  obtain ⟨ce00, ce01, fe00, fe01⟩ := Xe0.out.c2
  have le0 := Xe0.out.lt
  go_wp2_with fail
  clear ca00 ca01 ca02 fa00 fa01 fa02 la0 cb00 cb01 cb02 fb00 fb01 fb02 lb0 cc00 cc01 cc02 fc00 fc01 fc02 lc0 cd00 cd01 fd00 fd01 ld0 ce00 ce01 fe00 fe01 le0
  obtain ⟨W15, hW⟩ : ∃ W15, W15 = (World.alloc w14 (.cells #[.bool s_b, .slice s_a s_n s_c] 105)) := ⟨_, rfl⟩
  rw [← hW]
  obtain ⟨xf0, hk, hb⟩ := boxes_1 _ _ _ hW
  clear hW
  have Hda := Lib.hid (Is.keep Hda.out hk)
  have Hdb := Lib.hid (Is.keep Hdb.out hk)
  have Hs := Lib.hid (CL.keep Hs.out hk)
  have Na0f0 := Lib.hid (show w.heap.size ≠ w14.heap.size from Nat.ne_of_lt (Nat.lt_of_lt_of_le Xa0.out.lt (by omega)))
  have Nb0f0 := Lib.hid (show w.heap.size + 1 ≠ w14.heap.size from Nat.ne_of_lt (Nat.lt_of_lt_of_le Xb0.out.lt (by omega)))
  have Nc0f0 := Lib.hid (show w.heap.size + 1 + 1 ≠ w14.heap.size from Nat.ne_of_lt (Nat.lt_of_lt_of_le Xc0.out.lt (by omega)))
  have Nd0f0 := Lib.hid (show gd0 ≠ w14.heap.size from Nat.ne_of_lt (Nat.lt_of_lt_of_le Xd0.out.lt (by omega)))
  have Ne0f0 := Lib.hid (show ge0 ≠ w14.heap.size from Nat.ne_of_lt (Nat.lt_of_lt_of_le Xe0.out.lt (by omega)))
  have Gf0 := Lib.hid (show w.heap.size ≤ w14.heap.size from Nat.le_trans HB.out.size (by omega))
  have Xa0 := Lib.hid (Box.pcall hb Xa0.out)
  have Xb0 := Lib.hid (Box.pcall hb Xb0.out)
  have Xc0 := Lib.hid (Box.pcall hb Xc0.out)
  have Xd0 := Lib.hid (Box.pcall hb Xd0.out)
  have Xe0 := Lib.hid (Box.pcall hb Xe0.out)
  have Xf0 := Lib.hid xf0
  have HB := Lib.hid (below_call HB.out hb)
  clear hk hb xf0
  have Hda := Lib.hid (Is.keep Hda.out (Keep.drew W15))
  have Hdb := Lib.hid (Is.keep Hdb.out (Keep.drew W15))
  have Hs := Lib.hid (CL.keep Hs.out (Keep.drew W15))
  have Xa0 := Lib.hid (Box.drew Xa0.out)
  have Xb0 := Lib.hid (Box.drew Xb0.out)
  have Xc0 := Lib.hid (Box.drew Xc0.out)
  have Xd0 := Lib.hid (Box.drew Xd0.out)
  have Xe0 := Lib.hid (Box.drew Xe0.out)
  have Xf0 := Lib.hid (Box.drew Xf0.out)
  have HB := Lib.hid (Below.drew HB.out)
  refine wp_region_float [w.heap.size + 1 + 1] [] (by kernel_rfl) (by kernel_rfl) 41 (by kernel_rfl) Flok.nil ?_
  intro ok
  have Hok := Lib.hid ok
  clear ok
  have HG := Lib.hid (Below.refl (W15.drew).heap.size (W15.drew))
  refine good_pureX 0 (some 29) (Go.Op.fieldAddr 105 (Go.Operand.tmp 7) 0) (none) (.pointer (some ⟨w14.heap.size, 0, none⟩)) (by kernel_rfl) (by kernel_rfl) (by kernel_rfl) (fun _ _ _ h => h) (fun w' hw' => ?_) ?_
  · first | (go_simp; done) | (go_simp; simp_all; done) | (go_simp; rfl)
  simp only [Act.put, List.setIfInBounds_toArray, List.set_cons_zero, List.set_cons_succ]
  refine good_pureX 1 (some 30) (Go.Op.load 4 (Go.Operand.tmp 29)) (none) (.bool s_b) (by kernel_rfl) (by kernel_rfl) (by kernel_rfl) (fun _ _ _ h => h) (fun w' hw' => ?_) ?_
  · obtain ⟨cf00, cf01, ff00, ff01⟩ := (Box.se hw' Xf0.out (notin1 Nc0f0.out.symm)).c2
    first | (go_simp; done) | (go_simp; simp_all; done) | (go_simp; rfl)
  simp only [Act.put, List.setIfInBounds_toArray, List.set_cons_zero, List.set_cons_succ]
  refine good_pureX 2 (some 31) (Go.Op.fieldAddr 105 (Go.Operand.tmp 7) 1) (none) (.pointer (some ⟨w14.heap.size, 1, none⟩)) (by kernel_rfl) (by kernel_rfl) (by kernel_rfl) (fun _ _ _ h => h) (fun w' hw' => ?_) ?_
  · first | (go_simp; done) | (go_simp; simp_all; done) | (go_simp; rfl)
  simp only [Act.put, List.setIfInBounds_toArray, List.set_cons_zero, List.set_cons_succ]
  refine good_pureX 3 (some 32) (Go.Op.load 35 (Go.Operand.tmp 31)) (none) (.slice s_a s_n s_c) (by kernel_rfl) (by kernel_rfl) (by kernel_rfl) (fun _ _ _ h => h) (fun w' hw' => ?_) ?_
  · obtain ⟨cf00, cf01, ff00, ff01⟩ := (Box.se hw' Xf0.out (notin1 Nc0f0.out.symm)).c2
    first | (go_simp; done) | (go_simp; simp_all; done) | (go_simp; rfl)
  simp only [Act.put, List.setIfInBounds_toArray, List.set_cons_zero, List.set_cons_succ]
  refine good_pureX 4 (some 33) (Go.Op.fieldAddr 37 (Go.Operand.tmp 2) 2) (none) (.pointer (some ⟨w.heap.size, 2, none⟩)) (by kernel_rfl) (by kernel_rfl) (by kernel_rfl) (fun _ _ _ h => h) (fun w' hw' => ?_) ?_
  · first | (go_simp; done) | (go_simp; simp_all; done) | (go_simp; rfl)
  simp only [Act.put, List.setIfInBounds_toArray, List.set_cons_zero, List.set_cons_succ]
  refine good_pureX 5 (some 34) (Go.Op.load 35 (Go.Operand.tmp 33)) (none) (ta) (by kernel_rfl) (by kernel_rfl) (by kernel_rfl) (fun _ _ _ h => h) (fun w' hw' => ?_) ?_
  · obtain ⟨ca00, ca01, ca02, fa00, fa01, fa02⟩ := (Box.se hw' Xa0.out (notin1 (by omega))).c3
    first | (go_simp; done) | (go_simp; simp_all; done) | (go_simp; rfl)
  simp only [Act.put, List.setIfInBounds_toArray, List.set_cons_zero, List.set_cons_succ]
  refine good_pureX 7 (some 36) (Go.Op.fieldAddr 37 (Go.Operand.tmp 3) 2) (none) (.pointer (some ⟨w.heap.size + 1, 2, none⟩)) (by kernel_rfl) (by kernel_rfl) (by kernel_rfl) (fun _ _ _ h => h) (fun w' hw' => ?_) ?_
  · first | (go_simp; done) | (go_simp; simp_all; done) | (go_simp; rfl)
  simp only [Act.put, List.setIfInBounds_toArray, List.set_cons_zero, List.set_cons_succ]
  refine good_pureX 8 (some 37) (Go.Op.load 35 (Go.Operand.tmp 36)) (none) (tb) (by kernel_rfl) (by kernel_rfl) (by kernel_rfl) (fun _ _ _ h => h) (fun w' hw' => ?_) ?_
  · obtain ⟨cb00, cb01, cb02, fb00, fb01, fb02⟩ := (Box.se hw' Xb0.out (notin1 (by omega))).c3
    first | (go_simp; done) | (go_simp; simp_all; done) | (go_simp; rfl)
  simp only [Act.put, List.setIfInBounds_toArray, List.set_cons_zero, List.set_cons_succ]
  refine good_callX 6 98 (some 35) #[Go.Operand.tmp 34] #[35] (none) #[ta] (by kernel_rfl) Hok.out (by kernel_rfl) (by kernel_rfl) (by kernel_rfl) (by kernel_rfl) rfl rfl rfl (by kernel_rfl) (fun w16 hb => ?_)
  have HG := Lib.hid (below_call HG.out hb)
  clear hb
  (first | (have hcall := r3one_is (Is.keep Hda.out (Keep.call HG.out)); refine Calls.mono hcall ?_; clear hcall) | refine Calls.mono (r3one_is (Is.keep Hda.out (Keep.call HG.out))) ?_)
  rintro e w17 ⟨v17, rfl, hq, hb⟩
  obtain ⟨q_a, q_n, q_c, rfl⟩ := hq.lit
  refine ⟨_, rfl, ?_, hb⟩
  have HG := Lib.hid (below_call HG.out hb)
  have Hq := Lib.hid hq
  clear hb hq
  simp only [Act.put, List.setIfInBounds_toArray, List.set_cons_zero, List.set_cons_succ]
  refine good_callX 9 98 (some 38) #[Go.Operand.tmp 37] #[35] (none) #[tb] (by kernel_rfl) Hok.out (by kernel_rfl) (by kernel_rfl) (by kernel_rfl) (by kernel_rfl) rfl rfl rfl (by kernel_rfl) (fun w18 hb => ?_)
  have Hq := Lib.hid (Is.keep Hq.out (Keep.call hb))
  have HG := Lib.hid (below_call HG.out hb)
  clear hb
  (first | (have hcall := r3one_is (Is.keep Hdb.out (Keep.call HG.out)); refine Calls.mono hcall ?_; clear hcall) | refine Calls.mono (r3one_is (Is.keep Hdb.out (Keep.call HG.out))) ?_)
  rintro e w19 ⟨v19, rfl, hr, hb⟩
  obtain ⟨r_a, r_n, r_c, rfl⟩ := hr.lit
  refine ⟨_, rfl, ?_, hb⟩
  have Hq := Lib.hid (Is.keep Hq.out (Keep.call hb))
  have HG := Lib.hid (below_call HG.out hb)
  have Hr := Lib.hid hr
  clear hb hr
  simp only [Act.put, List.setIfInBounds_toArray, List.set_cons_zero, List.set_cons_succ]
  refine good_callX 10 97 (some 39) #[Go.Operand.tmp 35, Go.Operand.tmp 38] #[35, 35] (none) #[.slice q_a q_n q_c, .slice r_a r_n r_c] (by kernel_rfl) Hok.out (by kernel_rfl) (by kernel_rfl) (by kernel_rfl) (by kernel_rfl) rfl rfl rfl (by kernel_rfl) (fun w20 hb => ?_)
  have Hq := Lib.hid (Is.keep Hq.out (Keep.call hb))
  have Hr := Lib.hid (Is.keep Hr.out (Keep.call hb))
  have HG := Lib.hid (below_call HG.out hb)
  clear hb
  (first | (have hcall := rmul_is Hq.out Hr.out (by omega) (by omega); refine Calls.mono hcall ?_; clear hcall) | refine Calls.mono (rmul_is Hq.out Hr.out (by omega) (by omega)) ?_)
  rintro e w21 ⟨v21, rfl, hm, hb⟩
  obtain ⟨m_a, m_n, m_c, rfl⟩ := hm.is.lit
  refine ⟨_, rfl, ?_, hb⟩
  have HG := Lib.hid (below_call HG.out hb)
  have Hm := Lib.hid hm
  clear hb hm
  simp only [Act.put, List.setIfInBounds_toArray, List.set_cons_zero, List.set_cons_succ]
  refine good_callX 11 100 (some 40) #[Go.Operand.tmp 30, Go.Operand.tmp 32, Go.Operand.tmp 39] #[4, 35, 35] (none) #[.bool s_b, .slice s_a s_n s_c, .slice m_a m_n m_c] (by kernel_rfl) Hok.out (by kernel_rfl) (by kernel_rfl) (by kernel_rfl) (by kernel_rfl) rfl rfl rfl (by kernel_rfl) (fun w22 hb => ?_)
  have Hm := Lib.hid (Can.keep Hm.out (Keep.call hb))
  have HG := Lib.hid (below_call HG.out hb)
  clear hb
  refine Calls.mono (r3quot_is (neg := s_b) (Nat.mul_pos (un_pos _) (un_pos _)) (CL.keep Hs.out (Keep.call HG.out)).mag.is Hm.out.is (by omega) (by omega)) ?_
  rintro e w23 ⟨v23, rfl, hz, hb⟩
  obtain ⟨z_b, z_a, z_n, z_c, z_d, z_m, z_e, rfl⟩ := hz.litb
  refine ⟨_, rfl, ?_, hb⟩
  have HG := Lib.hid (below_call HG.out hb)
  have Hz := Lib.hid hz
  clear hb hz
  simp only [Act.put, List.setIfInBounds_toArray, List.set_cons_zero, List.set_cons_succ]
  refine good_end0 1 (by kernel_rfl) (fun _ w24 hb => ?_)
  have Hz := Lib.hid (CR.keep Hz.out (Keep.call hb))
  have HG := Lib.hid (below_call HG.out hb)
  clear hb
  have Hs := Lib.hid (CL.keep Hs.out (Keep.call HG.out))
  have Xa0 := Lib.hid (Box.pcall HG.out Xa0.out)
  have Xb0 := Lib.hid (Box.pcall HG.out Xb0.out)
  have Xc0 := Lib.hid (Box.pcall HG.out Xc0.out)
  have Xd0 := Lib.hid (Box.pcall HG.out Xd0.out)
  have Xe0 := Lib.hid (Box.pcall HG.out Xe0.out)
  have Xf0 := Lib.hid (Box.pcall HG.out Xf0.out)
  have HB := Lib.hid (below_call HB.out HG.out)
  have HS := Lib.hid (SE.of (E := [w.heap.size + 1 + 1]) HG.out)
  refine held_oneX 12 (Go.Op.store 37 (Go.Operand.tmp 4) (Go.Operand.tmp 40)) (none) (World.setCell (World.setCell (World.setCell w24 ⟨w.heap.size + 1 + 1, 0, none⟩ (.bool z_b)) ⟨w.heap.size + 1 + 1, 1, none⟩ (.slice z_a z_n z_c)) ⟨w.heap.size + 1 + 1, 2, none⟩ (.slice z_d z_m z_e)) (by kernel_rfl) (by kernel_rfl) (by kernel_rfl) (by kernel_rfl) ?_ (HS.out.store3 in1) ?_
  · obtain ⟨cc00, cc01, cc02, fc00, fc01, fc02⟩ := Xc0.out.c3
    first | (go_simp; done) | (go_simp; simp_all; done) | (go_simp; rfl)
  obtain ⟨W25, hW⟩ : ∃ W25, W25 = (World.setCell (World.setCell (World.setCell w24 ⟨w.heap.size + 1 + 1, 0, none⟩ (.bool z_b)) ⟨w.heap.size + 1 + 1, 1, none⟩ (.slice z_a z_n z_c)) ⟨w.heap.size + 1 + 1, 2, none⟩ (.slice z_d z_m z_e)) := ⟨_, rfl⟩
  rw [← hW]
  obtain ⟨xc0, hk, hf, hbb, hz⟩ := stored3s hW Xc0.out (by first | exact NoInt.bool _ | exact NoInt.slice _ _ _) (by first | exact NoInt.bool _ | exact NoInt.slice _ _ _) (by first | exact NoInt.bool _ | exact NoInt.slice _ _ _)
  have Hs := Lib.hid (CL.keep Hs.out hk)
  have Hz := Lib.hid (CR.keep Hz.out hk)
  have Xa0 := Lib.hid (hf _ _ _ Xa0.out (by omega))
  have Xb0 := Lib.hid (hf _ _ _ Xb0.out (by omega))
  have Xc0 := Lib.hid xc0
  have Xd0 := Lib.hid (hf _ _ _ Xd0.out Nc0d0.out.symm)
  have Xe0 := Lib.hid (hf _ _ _ Xe0.out Nc0e0.out.symm)
  have Xf0 := Lib.hid (hf _ _ _ Xf0.out Nc0f0.out.symm)
  have HB := Lib.hid (hbb _ HB.out Gc0.out)
  have HS := Lib.hid (show SE (W15.drew) [w.heap.size + 1 + 1] W25 from by rw [hW]; exact HS.out.store3 in1)
  clear hW hk hf hbb xc0
  clear hz
  refine wpAnyH_done (by kernel_rfl) ?_ _
  clear HG HS Hok 
  obtain ⟨ca00, ca01, ca02, fa00, fa01, fa02⟩ := Xa0.out.c3
  have la0 := Xa0.out.lt
  obtain ⟨cb00, cb01, cb02, fb00, fb01, fb02⟩ := Xb0.out.c3
  have lb0 := Xb0.out.lt
  obtain ⟨cc00, cc01, cc02, fc00, fc01, fc02⟩ := Xc0.out.c3
  have lc0 := Xc0.out.lt
  obtain ⟨cd00, cd01, fd00, fd01⟩ := Xd0.out.c2
  have ld0 := Xd0.out.lt
  obtain ⟨ce00, ce01, fe00, fe01⟩ := Xe0.out.c2
  have le0 := Xe0.out.lt
  obtain ⟨cf00, cf01, ff00, ff01⟩ := Xf0.out.c2
  have lf0 := Xf0.out.lt
  go_wp2
  clear ca00 ca01 ca02 fa00 fa01 fa02 la0 cb00 cb01 cb02 fb00 fb01 fb02 lb0 cc00 cc01 cc02 fc00 fc01 fc02 lc0 cd00 cd01 fd00 fd01 ld0 ce00 ce01 fe00 fe01 le0 cf00 cf01 ff00 ff01 lf0
  exact ret_rat1 rfl rfl rfl Xc0.out (CR.mono (CR.cast (zadd_parts (CL.iv Hs.out)) Hz.out) (by omega)) HB.out
theorem zadd_ar {a b : Rat} {L M : Nat} {u v : Value} {w : World} (h : AR a L w u) (h' : AR b M w v) (hL : L ≤ 100000000) (hM : M ≤ 100000000) : Calls Tryz.prog 48 #[u, v] w (Ret w (CR (a + b) (L + M + 3))) := by
  obtain ⟨ba, sa, ta, na, da, rfl, h1, h2, rfl⟩ := h
  obtain ⟨bb, sb, tb, nb, db, rfl, h3, h4, rfl⟩ := h'
  exact zadd_p h1 h2 h3 h4 hL hM
set_option maxRecDepth 100000 in
set_option maxHeartbeats 4000000 in
theorem zmul_p {L M : Nat} {ba : Bool} {na da : Nat} {sa ta : Value} {bb : Bool} {nb db : Nat} {sb tb : Value} {w : World} (hna : Is na L w sa) (hda : Is da L w ta) (hnb : Is nb M w sb) (hdb : Is db M w tb) (hL : L ≤ 100000000) (hM : M ≤ 100000000) :
    Calls Tryz.prog 49 #[.agg #[.bool ba, sa, ta], .agg #[.bool bb, sb, tb]] w (Ret w (CR (rv ba na da * rv bb nb db) (L + M + 2))) := by
  have Hna := Lib.hid hna
  have Hda := Lib.hid hda
  have Hnb := Lib.hid hnb
  have Hdb := Lib.hid hdb
  clear hna hda hnb hdb
  go_enter Tryz.func49, Tryz.ntmps49
  have HB := Lib.hid (Below.refl w.heap.size w)
  go_wp2_with fail
  obtain ⟨W1, hW⟩ : ∃ W1, W1 = (World.alloc (World.alloc (World.alloc w (.cells #[.bool ba, sa, ta] 37)) (.cells #[.bool bb, sb, tb] 37)) (.cells #[.bool false, .slice none 0 0, .slice none 0 0] 37)) := ⟨_, rfl⟩
  rw [← hW]
  obtain ⟨xa0, xb0, xc0, hk, hb⟩ := boxes_3 _ _ _ _ _ _ _ hW
  clear hW
  have Hna := Lib.hid (Is.keep Hna.out hk)
  have Hda := Lib.hid (Is.keep Hda.out hk)
  have Hnb := Lib.hid (Is.keep Hnb.out hk)
  have Hdb := Lib.hid (Is.keep Hdb.out hk)
  have Ga0 := Lib.hid (show w.heap.size ≤ w.heap.size from Nat.le_trans HB.out.size (by omega))
  have Gb0 := Lib.hid (show w.heap.size ≤ w.heap.size + 1 from Nat.le_trans HB.out.size (by omega))
  have Gc0 := Lib.hid (show w.heap.size ≤ w.heap.size + 1 + 1 from Nat.le_trans HB.out.size (by omega))
  have Xa0 := Lib.hid xa0
  have Xb0 := Lib.hid xb0
  have Xc0 := Lib.hid xc0
  have HB := Lib.hid (below_call HB.out hb)
  clear hk hb xa0 xb0 xc0
  have Hna := Lib.hid (Is.keep Hna.out (Keep.drew W1))
  have Hda := Lib.hid (Is.keep Hda.out (Keep.drew W1))
  have Hnb := Lib.hid (Is.keep Hnb.out (Keep.drew W1))
  have Hdb := Lib.hid (Is.keep Hdb.out (Keep.drew W1))
  have Xa0 := Lib.hid (Box.drew Xa0.out)
  have Xb0 := Lib.hid (Box.drew Xb0.out)
  have Xc0 := Lib.hid (Box.drew Xc0.out)
  have HB := Lib.hid (Below.drew HB.out)
  refine wp_region_float [w.heap.size + 1 + 1] [] (by kernel_rfl) (by kernel_rfl) 23 (by kernel_rfl) Flok.nil ?_
  intro ok
  have Hok := Lib.hid ok
  clear ok
  have HG := Lib.hid (Below.refl (W1.drew).heap.size (W1.drew))
  refine good_pureX 0 (some 5) (Go.Op.fieldAddr 37 (Go.Operand.tmp 2) 0) (none) (.pointer (some ⟨w.heap.size, 0, none⟩)) (by kernel_rfl) (by kernel_rfl) (by kernel_rfl) (fun _ _ _ h => h) (fun w' hw' => ?_) ?_
  · first | (go_simp; done) | (go_simp; simp_all; done) | (go_simp; rfl)
  simp only [Act.put, List.setIfInBounds_toArray, List.set_cons_zero, List.set_cons_succ]
  refine good_pureX 1 (some 6) (Go.Op.load 4 (Go.Operand.tmp 5)) (none) (.bool ba) (by kernel_rfl) (by kernel_rfl) (by kernel_rfl) (fun _ _ _ h => h) (fun w' hw' => ?_) ?_
  · obtain ⟨ca00, ca01, ca02, fa00, fa01, fa02⟩ := (Box.se hw' Xa0.out (notin1 (by omega))).c3
    first | (go_simp; done) | (go_simp; simp_all; done) | (go_simp; rfl)
  simp only [Act.put, List.setIfInBounds_toArray, List.set_cons_zero, List.set_cons_succ]
  refine good_pureX 2 (some 7) (Go.Op.fieldAddr 37 (Go.Operand.tmp 3) 0) (none) (.pointer (some ⟨w.heap.size + 1, 0, none⟩)) (by kernel_rfl) (by kernel_rfl) (by kernel_rfl) (fun _ _ _ h => h) (fun w' hw' => ?_) ?_
  · first | (go_simp; done) | (go_simp; simp_all; done) | (go_simp; rfl)
  simp only [Act.put, List.setIfInBounds_toArray, List.set_cons_zero, List.set_cons_succ]
  refine good_pureX 3 (some 8) (Go.Op.load 4 (Go.Operand.tmp 7)) (none) (.bool bb) (by kernel_rfl) (by kernel_rfl) (by kernel_rfl) (fun _ _ _ h => h) (fun w' hw' => ?_) ?_
  · obtain ⟨cb00, cb01, cb02, fb00, fb01, fb02⟩ := (Box.se hw' Xb0.out (notin1 (by omega))).c3
    first | (go_simp; done) | (go_simp; simp_all; done) | (go_simp; rfl)
  simp only [Act.put, List.setIfInBounds_toArray, List.set_cons_zero, List.set_cons_succ]
  refine good_pureX 4 (some 9) (Go.Op.binOp Go.BinOp.neq 4 (Go.Operand.tmp 6) (Go.Operand.tmp 8) 4) (none) (.bool (!ba == bb)) (by kernel_rfl) (by kernel_rfl) (by kernel_rfl) (fun _ _ _ h => h) (fun w' hw' => ?_) ?_
  · first | (go_simp; done) | (go_simp; simp_all; done) | (go_simp; rfl)
  simp only [Act.put, List.setIfInBounds_toArray, List.set_cons_zero, List.set_cons_succ]
  refine good_pureX 5 (some 10) (Go.Op.fieldAddr 37 (Go.Operand.tmp 2) 1) (none) (.pointer (some ⟨w.heap.size, 1, none⟩)) (by kernel_rfl) (by kernel_rfl) (by kernel_rfl) (fun _ _ _ h => h) (fun w' hw' => ?_) ?_
  · first | (go_simp; done) | (go_simp; simp_all; done) | (go_simp; rfl)
  simp only [Act.put, List.setIfInBounds_toArray, List.set_cons_zero, List.set_cons_succ]
  refine good_pureX 6 (some 11) (Go.Op.load 35 (Go.Operand.tmp 10)) (none) (sa) (by kernel_rfl) (by kernel_rfl) (by kernel_rfl) (fun _ _ _ h => h) (fun w' hw' => ?_) ?_
  · obtain ⟨ca00, ca01, ca02, fa00, fa01, fa02⟩ := (Box.se hw' Xa0.out (notin1 (by omega))).c3
    first | (go_simp; done) | (go_simp; simp_all; done) | (go_simp; rfl)
  simp only [Act.put, List.setIfInBounds_toArray, List.set_cons_zero, List.set_cons_succ]
  refine good_pureX 7 (some 12) (Go.Op.fieldAddr 37 (Go.Operand.tmp 3) 1) (none) (.pointer (some ⟨w.heap.size + 1, 1, none⟩)) (by kernel_rfl) (by kernel_rfl) (by kernel_rfl) (fun _ _ _ h => h) (fun w' hw' => ?_) ?_
  · first | (go_simp; done) | (go_simp; simp_all; done) | (go_simp; rfl)
  simp only [Act.put, List.setIfInBounds_toArray, List.set_cons_zero, List.set_cons_succ]
  refine good_pureX 8 (some 13) (Go.Op.load 35 (Go.Operand.tmp 12)) (none) (sb) (by kernel_rfl) (by kernel_rfl) (by kernel_rfl) (fun _ _ _ h => h) (fun w' hw' => ?_) ?_
  · obtain ⟨cb00, cb01, cb02, fb00, fb01, fb02⟩ := (Box.se hw' Xb0.out (notin1 (by omega))).c3
    first | (go_simp; done) | (go_simp; simp_all; done) | (go_simp; rfl)
  simp only [Act.put, List.setIfInBounds_toArray, List.set_cons_zero, List.set_cons_succ]
  refine good_pureX 10 (some 15) (Go.Op.fieldAddr 37 (Go.Operand.tmp 2) 2) (none) (.pointer (some ⟨w.heap.size, 2, none⟩)) (by kernel_rfl) (by kernel_rfl) (by kernel_rfl) (fun _ _ _ h => h) (fun w' hw' => ?_) ?_
  · first | (go_simp; done) | (go_simp; simp_all; done) | (go_simp; rfl)
  simp only [Act.put, List.setIfInBounds_toArray, List.set_cons_zero, List.set_cons_succ]
  refine good_pureX 11 (some 16) (Go.Op.load 35 (Go.Operand.tmp 15)) (none) (ta) (by kernel_rfl) (by kernel_rfl) (by kernel_rfl) (fun _ _ _ h => h) (fun w' hw' => ?_) ?_
  · obtain ⟨ca00, ca01, ca02, fa00, fa01, fa02⟩ := (Box.se hw' Xa0.out (notin1 (by omega))).c3
    first | (go_simp; done) | (go_simp; simp_all; done) | (go_simp; rfl)
  simp only [Act.put, List.setIfInBounds_toArray, List.set_cons_zero, List.set_cons_succ]
  refine good_pureX 13 (some 18) (Go.Op.fieldAddr 37 (Go.Operand.tmp 3) 2) (none) (.pointer (some ⟨w.heap.size + 1, 2, none⟩)) (by kernel_rfl) (by kernel_rfl) (by kernel_rfl) (fun _ _ _ h => h) (fun w' hw' => ?_) ?_
  · first | (go_simp; done) | (go_simp; simp_all; done) | (go_simp; rfl)
  simp only [Act.put, List.setIfInBounds_toArray, List.set_cons_zero, List.set_cons_succ]
  refine good_pureX 14 (some 19) (Go.Op.load 35 (Go.Operand.tmp 18)) (none) (tb) (by kernel_rfl) (by kernel_rfl) (by kernel_rfl) (fun _ _ _ h => h) (fun w' hw' => ?_) ?_
  · obtain ⟨cb00, cb01, cb02, fb00, fb01, fb02⟩ := (Box.se hw' Xb0.out (notin1 (by omega))).c3
    first | (go_simp; done) | (go_simp; simp_all; done) | (go_simp; rfl)
  simp only [Act.put, List.setIfInBounds_toArray, List.set_cons_zero, List.set_cons_succ]
  refine good_callX 9 97 (some 14) #[Go.Operand.tmp 11, Go.Operand.tmp 13] #[35, 35] (none) #[sa, sb] (by kernel_rfl) Hok.out (by kernel_rfl) (by kernel_rfl) (by kernel_rfl) (by kernel_rfl) rfl rfl rfl (by kernel_rfl) (fun w2 hb => ?_)
  have HG := Lib.hid (below_call HG.out hb)
  clear hb
  (first | (have hcall := rmul_is (Is.keep Hna.out (Keep.call HG.out)) (Is.keep Hnb.out (Keep.call HG.out)) (by omega) (by omega); refine Calls.mono hcall ?_; clear hcall) | refine Calls.mono (rmul_is (Is.keep Hna.out (Keep.call HG.out)) (Is.keep Hnb.out (Keep.call HG.out)) (by omega) (by omega)) ?_)
  rintro e w3 ⟨v3, rfl, hx, hb⟩
  obtain ⟨x_a, x_n, x_c, rfl⟩ := hx.is.lit
  refine ⟨_, rfl, ?_, hb⟩
  have HG := Lib.hid (below_call HG.out hb)
  have Hx := Lib.hid hx
  clear hb hx
  simp only [Act.put, List.setIfInBounds_toArray, List.set_cons_zero, List.set_cons_succ]
  refine good_callX 12 98 (some 17) #[Go.Operand.tmp 16] #[35] (none) #[ta] (by kernel_rfl) Hok.out (by kernel_rfl) (by kernel_rfl) (by kernel_rfl) (by kernel_rfl) rfl rfl rfl (by kernel_rfl) (fun w4 hb => ?_)
  have Hx := Lib.hid (Can.keep Hx.out (Keep.call hb))
  have HG := Lib.hid (below_call HG.out hb)
  clear hb
  (first | (have hcall := r3one_is (Is.keep Hda.out (Keep.call HG.out)); refine Calls.mono hcall ?_; clear hcall) | refine Calls.mono (r3one_is (Is.keep Hda.out (Keep.call HG.out))) ?_)
  rintro e w5 ⟨v5, rfl, hp, hb⟩
  obtain ⟨p_a, p_n, p_c, rfl⟩ := hp.lit
  refine ⟨_, rfl, ?_, hb⟩
  have Hx := Lib.hid (Can.keep Hx.out (Keep.call hb))
  have HG := Lib.hid (below_call HG.out hb)
  have Hp := Lib.hid hp
  clear hb hp
  simp only [Act.put, List.setIfInBounds_toArray, List.set_cons_zero, List.set_cons_succ]
  refine good_callX 15 98 (some 20) #[Go.Operand.tmp 19] #[35] (none) #[tb] (by kernel_rfl) Hok.out (by kernel_rfl) (by kernel_rfl) (by kernel_rfl) (by kernel_rfl) rfl rfl rfl (by kernel_rfl) (fun w6 hb => ?_)
  have Hx := Lib.hid (Can.keep Hx.out (Keep.call hb))
  have Hp := Lib.hid (Is.keep Hp.out (Keep.call hb))
  have HG := Lib.hid (below_call HG.out hb)
  clear hb
  (first | (have hcall := r3one_is (Is.keep Hdb.out (Keep.call HG.out)); refine Calls.mono hcall ?_; clear hcall) | refine Calls.mono (r3one_is (Is.keep Hdb.out (Keep.call HG.out))) ?_)
  rintro e w7 ⟨v7, rfl, hq, hb⟩
  obtain ⟨q_a, q_n, q_c, rfl⟩ := hq.lit
  refine ⟨_, rfl, ?_, hb⟩
  have Hx := Lib.hid (Can.keep Hx.out (Keep.call hb))
  have Hp := Lib.hid (Is.keep Hp.out (Keep.call hb))
  have HG := Lib.hid (below_call HG.out hb)
  have Hq := Lib.hid hq
  clear hb hq
  simp only [Act.put, List.setIfInBounds_toArray, List.set_cons_zero, List.set_cons_succ]
  refine good_callX 16 97 (some 21) #[Go.Operand.tmp 17, Go.Operand.tmp 20] #[35, 35] (none) #[.slice p_a p_n p_c, .slice q_a q_n q_c] (by kernel_rfl) Hok.out (by kernel_rfl) (by kernel_rfl) (by kernel_rfl) (by kernel_rfl) rfl rfl rfl (by kernel_rfl) (fun w8 hb => ?_)
  have Hx := Lib.hid (Can.keep Hx.out (Keep.call hb))
  have Hp := Lib.hid (Is.keep Hp.out (Keep.call hb))
  have Hq := Lib.hid (Is.keep Hq.out (Keep.call hb))
  have HG := Lib.hid (below_call HG.out hb)
  clear hb
  (first | (have hcall := rmul_is Hp.out Hq.out (by omega) (by omega); refine Calls.mono hcall ?_; clear hcall) | refine Calls.mono (rmul_is Hp.out Hq.out (by omega) (by omega)) ?_)
  rintro e w9 ⟨v9, rfl, hv, hb⟩
  obtain ⟨v_a, v_n, v_c, rfl⟩ := hv.is.lit
  refine ⟨_, rfl, ?_, hb⟩
  have Hx := Lib.hid (Can.keep Hx.out (Keep.call hb))
  have HG := Lib.hid (below_call HG.out hb)
  have Hv := Lib.hid hv
  clear hb hv
  simp only [Act.put, List.setIfInBounds_toArray, List.set_cons_zero, List.set_cons_succ]
  refine good_callX 17 100 (some 22) #[Go.Operand.tmp 9, Go.Operand.tmp 14, Go.Operand.tmp 21] #[4, 35, 35] (none) #[.bool (!ba == bb), .slice x_a x_n x_c, .slice v_a v_n v_c] (by kernel_rfl) Hok.out (by kernel_rfl) (by kernel_rfl) (by kernel_rfl) (by kernel_rfl) rfl rfl rfl (by kernel_rfl) (fun w10 hb => ?_)
  have Hx := Lib.hid (Can.keep Hx.out (Keep.call hb))
  have Hv := Lib.hid (Can.keep Hv.out (Keep.call hb))
  have HG := Lib.hid (below_call HG.out hb)
  clear hb
  refine Calls.mono (r3quot_is (neg := (!ba == bb)) (Nat.mul_pos (un_pos _) (un_pos _)) Hx.out.is Hv.out.is (by omega) (by omega)) ?_
  rintro e w11 ⟨v11, rfl, hz, hb⟩
  obtain ⟨z_b, z_a, z_n, z_c, z_d, z_m, z_e, rfl⟩ := hz.litb
  refine ⟨_, rfl, ?_, hb⟩
  have HG := Lib.hid (below_call HG.out hb)
  have Hz := Lib.hid hz
  clear hb hz
  simp only [Act.put, List.setIfInBounds_toArray, List.set_cons_zero, List.set_cons_succ]
  refine good_end0 1 (by kernel_rfl) (fun _ w12 hb => ?_)
  have Hz := Lib.hid (CR.keep Hz.out (Keep.call hb))
  have HG := Lib.hid (below_call HG.out hb)
  clear hb
  have Xa0 := Lib.hid (Box.pcall HG.out Xa0.out)
  have Xb0 := Lib.hid (Box.pcall HG.out Xb0.out)
  have Xc0 := Lib.hid (Box.pcall HG.out Xc0.out)
  have HB := Lib.hid (below_call HB.out HG.out)
  have HS := Lib.hid (SE.of (E := [w.heap.size + 1 + 1]) HG.out)
  refine held_oneX 18 (Go.Op.store 37 (Go.Operand.tmp 4) (Go.Operand.tmp 22)) (none) (World.setCell (World.setCell (World.setCell w12 ⟨w.heap.size + 1 + 1, 0, none⟩ (.bool z_b)) ⟨w.heap.size + 1 + 1, 1, none⟩ (.slice z_a z_n z_c)) ⟨w.heap.size + 1 + 1, 2, none⟩ (.slice z_d z_m z_e)) (by kernel_rfl) (by kernel_rfl) (by kernel_rfl) (by kernel_rfl) ?_ (HS.out.store3 in1) ?_
  · obtain ⟨cc00, cc01, cc02, fc00, fc01, fc02⟩ := Xc0.out.c3
    first | (go_simp; done) | (go_simp; simp_all; done) | (go_simp; rfl)
  obtain ⟨W13, hW⟩ : ∃ W13, W13 = (World.setCell (World.setCell (World.setCell w12 ⟨w.heap.size + 1 + 1, 0, none⟩ (.bool z_b)) ⟨w.heap.size + 1 + 1, 1, none⟩ (.slice z_a z_n z_c)) ⟨w.heap.size + 1 + 1, 2, none⟩ (.slice z_d z_m z_e)) := ⟨_, rfl⟩
  rw [← hW]
  obtain ⟨xc0, hk, hf, hbb, hz⟩ := stored3s hW Xc0.out (by first | exact NoInt.bool _ | exact NoInt.slice _ _ _) (by first | exact NoInt.bool _ | exact NoInt.slice _ _ _) (by first | exact NoInt.bool _ | exact NoInt.slice _ _ _)
  have Hz := Lib.hid (CR.keep Hz.out hk)
  have Xa0 := Lib.hid (hf _ _ _ Xa0.out (by omega))
  have Xb0 := Lib.hid (hf _ _ _ Xb0.out (by omega))
  have Xc0 := Lib.hid xc0
  have HB := Lib.hid (hbb _ HB.out Gc0.out)
  have HS := Lib.hid (show SE (W1.drew) [w.heap.size + 1 + 1] W13 from by rw [hW]; exact HS.out.store3 in1)
  clear hW hk hf hbb xc0
  clear hz
  refine wpAnyH_done (by kernel_rfl) ?_ _
  clear HG HS Hok 
  obtain ⟨ca00, ca01, ca02, fa00, fa01, fa02⟩ := Xa0.out.c3
  have la0 := Xa0.out.lt
  obtain ⟨cb00, cb01, cb02, fb00, fb01, fb02⟩ := Xb0.out.c3
  have lb0 := Xb0.out.lt
  obtain ⟨cc00, cc01, cc02, fc00, fc01, fc02⟩ := Xc0.out.c3
  have lc0 := Xc0.out.lt
  go_wp2
  clear ca00 ca01 ca02 fa00 fa01 fa02 la0 cb00 cb01 cb02 fb00 fb01 fb02 lb0 cc00 cc01 cc02 fc00 fc01 fc02 lc0
  exact ret_rat1 rfl rfl rfl Xc0.out (CR.mono (CR.cast (mul_parts _ _ _ _ _ _) Hz.out) (by omega)) HB.out
theorem zmul_ar {a b : Rat} {L M : Nat} {u v : Value} {w : World} (h : AR a L w u) (h' : AR b M w v) (hL : L ≤ 100000000) (hM : M ≤ 100000000) : Calls Tryz.prog 49 #[u, v] w (Ret w (CR (a * b) (L + M + 2))) := by
  obtain ⟨ba, sa, ta, na, da, rfl, h1, h2, rfl⟩ := h
  obtain ⟨bb, sb, tb, nb, db, rfl, h3, h4, rfl⟩ := h'
  exact zmul_p h1 h2 h3 h4 hL hM
end Go.Proofs.YtikglhmabidjoaaGreatDoor
