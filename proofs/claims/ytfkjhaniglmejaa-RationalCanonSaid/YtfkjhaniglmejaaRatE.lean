/- Layer 3: the reference: forms, sums and products. Printed by ratd.py. -/
import Derived.Test.YtfkjhaniglmejaaRatD
namespace Go.Proofs.Ytfkjhaniglmejaa
open Go.RowKit Nt
set_option linter.unusedVariables false
theorem AR.mkz {neg : Bool} {n L : Nat} {s : Value} {w : World} (h : Is n L w s) : AR (rv neg n 0) L w (.agg #[.bool neg, s, .slice none 0 0]) :=
  ⟨_, _, _, _, _, rfl, h, ⟨[], Sl.nil w, rfl, Nat.zero_le _⟩, rfl⟩
theorem rv_int (b : Bool) (n : Nat) : rv b n 0 = ((iv b n : Int) : Rat) := mkRat_one _
theorem CR.of_int {z : Int} {L : Nat} {w : World} {b : Bool} {s : Value} (h : CL z L w (.agg #[.bool b, s])) : CR (z : Rat) (max L 1) w (.agg #[.bool b, s, .slice none 0 0]) := by
  obtain ⟨⟨s', he, h2⟩, h3⟩ := h
  injection he with he; injection he with he; injection he with e1 he; injection he with e2 _; injection e1 with e1
  subst e1 e2
  refine ⟨⟨s, .slice none 0 0, ?_, h2, ?_⟩, Nat.le_trans h3 (Nat.le_max_left _ _), Nat.le_trans (sz_le (by decide) : sz 1 ≤ 1) (Nat.le_max_right _ _)⟩
  · congr 4
    rw [Bool.eq_iff_iff]
    simp only [decide_eq_true_eq]
    exact Rat.intCast_neg_iff.symm
  · show Sl w _ (limbs 0); rw [limbs_zero]; exact Sl.nil w
theorem same_num {a b : Nat} {u v : Value} {w : World} (h : Num a w u) (h' : Num b w v) (he : a = b) : Calls Try.prog 47 #[u, v] w (Ret w (Val (.bool true))) := same_can ⟨h, Nat.le_refl _⟩ ⟨h', Nat.le_refl _⟩ he
theorem zadd_parts {ba bb bs : Bool} {na da nb db : Nat} (h : iv bs (iv ba (na * un db) + iv bb (nb * un da)).natAbs = iv ba (na * un db) + iv bb (nb * un da)) :
    mkRat (iv bs (iv ba (na * un db) + iv bb (nb * un da)).natAbs) (un da * un db) = rv ba na da + rv bb nb db := by
  rw [h]; unfold rv
  rw [Rat.mkRat_add_mkRat _ _ (un_ne _) (un_ne _)]
  congr 1
  cases ba <;> cases bb <;> simp [iv, Int.natCast_mul, Int.neg_mul]
theorem AR.ni1 {q : Rat} {L : Nat} {w : World} {b : Bool} {s t : Value} (h : AR q L w (.agg #[.bool b, s, t])) : NoInt s := let ⟨_, _, h1, _⟩ := h.parts; h1.noInt
theorem AR.ni2 {q : Rat} {L : Nat} {w : World} {b : Bool} {s t : Value} (h : AR q L w (.agg #[.bool b, s, t])) : NoInt t := let ⟨_, _, _, h1, _⟩ := h.parts; h1.noInt

set_option maxRecDepth 100000 in
set_option maxHeartbeats 4000000 in
theorem zcanon_p {L : Nat} {ba : Bool} {na da : Nat} {sa ta : Value} {w : World} (hna : Is na L w sa) (hda : Is da L w ta) (hL : L ≤ 100000) :
    Calls Try.prog 19 #[.agg #[.bool ba, sa, ta]] w (Ret w (CR (rv ba na da) (max L 1))) := by
  have Hna := Lib.hid hna
  have Hda := Lib.hid hda
  clear hna hda
  go_enter Try.func19, Try.ntmps19
  have HB := Lib.hid (Below.refl w.heap.size w)
  go_wp2_with fail
  obtain ⟨W1, hW⟩ : ∃ W1, W1 = (World.alloc (World.alloc w (.cells #[.bool ba, sa, ta] 25)) (.cells #[.bool false, .slice none 0 0, .slice none 0 0] 25)) := ⟨_, rfl⟩
  rw [← hW]
  obtain ⟨xa0, xb0, hk, hb⟩ := boxes_2 _ _ _ _ _ hW
  clear hW
  have Hna := Lib.hid (Is.keep Hna.out hk)
  have Hda := Lib.hid (Is.keep Hda.out hk)
  have Ga0 := Lib.hid (show w.heap.size ≤ w.heap.size from Nat.le_trans HB.out.size (by omega))
  have Gb0 := Lib.hid (show w.heap.size ≤ w.heap.size + 1 from Nat.le_trans HB.out.size (by omega))
  have Xa0 := Lib.hid xa0
  have Xb0 := Lib.hid xb0
  have HB := Lib.hid (below_call HB.out hb)
  clear hk hb xa0 xb0
  have Hna := Lib.hid (Is.keep Hna.out (Keep.drew W1))
  have Hda := Lib.hid (Is.keep Hda.out (Keep.drew W1))
  have Xa0 := Lib.hid (Box.drew Xa0.out)
  have Xb0 := Lib.hid (Box.drew Xb0.out)
  have HB := Lib.hid (Below.drew HB.out)
  refine wp_region_float [w.heap.size + 1] [] (by kernel_rfl) (by kernel_rfl) 11 (by kernel_rfl) Flok.nil ?_
  intro ok
  have Hok := Lib.hid ok
  clear ok
  have HG := Lib.hid (Below.refl (W1.drew).heap.size (W1.drew))
  refine good_pureX 0 (some 3) (Go.Op.fieldAddr 25 (Go.Operand.tmp 1) 0) (none) (.pointer (some ⟨w.heap.size, 0, none⟩)) (by kernel_rfl) (by kernel_rfl) (by kernel_rfl) (fun _ _ _ h => h) (fun w' hw' => ?_) ?_
  · first | (go_simp; done) | (go_simp; simp_all; done) | (go_simp; rfl)
  simp only [Act.put, List.setIfInBounds_toArray, List.set_cons_zero, List.set_cons_succ]
  refine good_pureX 1 (some 4) (Go.Op.load 4 (Go.Operand.tmp 3)) (none) (.bool ba) (by kernel_rfl) (by kernel_rfl) (by kernel_rfl) (fun _ _ _ h => h) (fun w' hw' => ?_) ?_
  · obtain ⟨ca00, ca01, ca02, fa00, fa01, fa02⟩ := (Box.se hw' Xa0.out (notin1 (by omega))).c3
    first | (go_simp; done) | (go_simp; simp_all; done) | (go_simp; rfl)
  simp only [Act.put, List.setIfInBounds_toArray, List.set_cons_zero, List.set_cons_succ]
  refine good_pureX 2 (some 5) (Go.Op.fieldAddr 25 (Go.Operand.tmp 1) 1) (none) (.pointer (some ⟨w.heap.size, 1, none⟩)) (by kernel_rfl) (by kernel_rfl) (by kernel_rfl) (fun _ _ _ h => h) (fun w' hw' => ?_) ?_
  · first | (go_simp; done) | (go_simp; simp_all; done) | (go_simp; rfl)
  simp only [Act.put, List.setIfInBounds_toArray, List.set_cons_zero, List.set_cons_succ]
  refine good_pureX 3 (some 6) (Go.Op.load 23 (Go.Operand.tmp 5)) (none) (sa) (by kernel_rfl) (by kernel_rfl) (by kernel_rfl) (fun _ _ _ h => h) (fun w' hw' => ?_) ?_
  · obtain ⟨ca00, ca01, ca02, fa00, fa01, fa02⟩ := (Box.se hw' Xa0.out (notin1 (by omega))).c3
    first | (go_simp; done) | (go_simp; simp_all; done) | (go_simp; rfl)
  simp only [Act.put, List.setIfInBounds_toArray, List.set_cons_zero, List.set_cons_succ]
  refine good_pureX 4 (some 7) (Go.Op.fieldAddr 25 (Go.Operand.tmp 1) 2) (none) (.pointer (some ⟨w.heap.size, 2, none⟩)) (by kernel_rfl) (by kernel_rfl) (by kernel_rfl) (fun _ _ _ h => h) (fun w' hw' => ?_) ?_
  · first | (go_simp; done) | (go_simp; simp_all; done) | (go_simp; rfl)
  simp only [Act.put, List.setIfInBounds_toArray, List.set_cons_zero, List.set_cons_succ]
  refine good_pureX 5 (some 8) (Go.Op.load 23 (Go.Operand.tmp 7)) (none) (ta) (by kernel_rfl) (by kernel_rfl) (by kernel_rfl) (fun _ _ _ h => h) (fun w' hw' => ?_) ?_
  · obtain ⟨ca00, ca01, ca02, fa00, fa01, fa02⟩ := (Box.se hw' Xa0.out (notin1 (by omega))).c3
    first | (go_simp; done) | (go_simp; simp_all; done) | (go_simp; rfl)
  simp only [Act.put, List.setIfInBounds_toArray, List.set_cons_zero, List.set_cons_succ]
  refine good_callX 6 61 (some 9) #[Go.Operand.tmp 8] #[23] (none) #[ta] (by kernel_rfl) Hok.out (by kernel_rfl) (by kernel_rfl) (by kernel_rfl) (by kernel_rfl) rfl rfl rfl (by kernel_rfl) (fun w2 hb => ?_)
  have HG := Lib.hid (below_call HG.out hb)
  clear hb
  (first | (have hcall := r3one_is (Is.keep Hda.out (Keep.call HG.out)); refine Calls.mono hcall ?_; clear hcall) | refine Calls.mono (r3one_is (Is.keep Hda.out (Keep.call HG.out))) ?_)
  rintro e w3 ⟨v3, rfl, hu, hb⟩
  obtain ⟨u_a, u_n, u_c, rfl⟩ := hu.lit
  refine ⟨_, rfl, ?_, hb⟩
  have HG := Lib.hid (below_call HG.out hb)
  have Hu := Lib.hid hu
  clear hb hu
  simp only [Act.put, List.setIfInBounds_toArray, List.set_cons_zero, List.set_cons_succ]
  refine good_callX 7 63 (some 10) #[Go.Operand.tmp 4, Go.Operand.tmp 6, Go.Operand.tmp 9] #[4, 23, 23] (none) #[.bool ba, sa, .slice u_a u_n u_c] (by kernel_rfl) Hok.out (by kernel_rfl) (by kernel_rfl) (by kernel_rfl) (by kernel_rfl) rfl rfl rfl (by kernel_rfl) (fun w4 hb => ?_)
  have Hu := Lib.hid (Is.keep Hu.out (Keep.call hb))
  have HG := Lib.hid (below_call HG.out hb)
  clear hb
  refine Calls.mono (r3quot_is (neg := ba) (un_pos _) (Is.keep Hna.out (Keep.call HG.out)) Hu.out (by omega) (by omega)) ?_
  rintro e w5 ⟨v5, rfl, hz, hb⟩
  obtain ⟨z_b, z_a, z_n, z_c, z_d, z_m, z_e, rfl⟩ := hz.litb
  refine ⟨_, rfl, ?_, hb⟩
  have HG := Lib.hid (below_call HG.out hb)
  have Hz := Lib.hid hz
  clear hb hz
  simp only [Act.put, List.setIfInBounds_toArray, List.set_cons_zero, List.set_cons_succ]
  refine good_end0 1 (by kernel_rfl) (fun _ w6 hb => ?_)
  have Hz := Lib.hid (CR.keep Hz.out (Keep.call hb))
  have HG := Lib.hid (below_call HG.out hb)
  clear hb
  have Xa0 := Lib.hid (Box.pcall HG.out Xa0.out)
  have Xb0 := Lib.hid (Box.pcall HG.out Xb0.out)
  have HB := Lib.hid (below_call HB.out HG.out)
  have HS := Lib.hid (SE.of (E := [w.heap.size + 1]) HG.out)
  refine held_oneX 8 (Go.Op.store 25 (Go.Operand.tmp 2) (Go.Operand.tmp 10)) (none) (World.setCell (World.setCell (World.setCell w6 ⟨w.heap.size + 1, 0, none⟩ (.bool z_b)) ⟨w.heap.size + 1, 1, none⟩ (.slice z_a z_n z_c)) ⟨w.heap.size + 1, 2, none⟩ (.slice z_d z_m z_e)) (by kernel_rfl) (by kernel_rfl) (by kernel_rfl) (by kernel_rfl) ?_ (HS.out.store3 in1) ?_
  · obtain ⟨cb00, cb01, cb02, fb00, fb01, fb02⟩ := Xb0.out.c3
    first | (go_simp; done) | (go_simp; simp_all; done) | (go_simp; rfl)
  obtain ⟨W7, hW⟩ : ∃ W7, W7 = (World.setCell (World.setCell (World.setCell w6 ⟨w.heap.size + 1, 0, none⟩ (.bool z_b)) ⟨w.heap.size + 1, 1, none⟩ (.slice z_a z_n z_c)) ⟨w.heap.size + 1, 2, none⟩ (.slice z_d z_m z_e)) := ⟨_, rfl⟩
  rw [← hW]
  obtain ⟨xb0, hk, hf, hbb, hz⟩ := stored3s hW Xb0.out (by first | exact NoInt.bool _ | exact NoInt.slice _ _ _) (by first | exact NoInt.bool _ | exact NoInt.slice _ _ _) (by first | exact NoInt.bool _ | exact NoInt.slice _ _ _)
  have Hz := Lib.hid (CR.keep Hz.out hk)
  have Xa0 := Lib.hid (hf _ _ _ Xa0.out (by omega))
  have Xb0 := Lib.hid xb0
  have HB := Lib.hid (hbb _ HB.out Gb0.out)
  have HS := Lib.hid (show SE (W1.drew) [w.heap.size + 1] W7 from by rw [hW]; exact HS.out.store3 in1)
  clear hW hk hf hbb xb0
  clear hz
  refine wpAnyH_done (by kernel_rfl) ?_ _
  clear HG HS Hok 
  obtain ⟨ca00, ca01, ca02, fa00, fa01, fa02⟩ := Xa0.out.c3
  have la0 := Xa0.out.lt
  obtain ⟨cb00, cb01, cb02, fb00, fb01, fb02⟩ := Xb0.out.c3
  have lb0 := Xb0.out.lt
  go_wp2
  clear ca00 ca01 ca02 fa00 fa01 fa02 la0 cb00 cb01 cb02 fb00 fb01 fb02 lb0
  exact ret_rat1 rfl rfl rfl Xb0.out (CR.mono Hz.out (by omega)) HB.out


theorem zcanon_ar {q : Rat} {L : Nat} {v : Value} {w : World} (h : AR q L w v) (hL : L ≤ 100000) : Calls Try.prog 19 #[v] w (Ret w (CR q (max L 1))) := by
  obtain ⟨b, s, t, n, d, rfl, h1, h2, rfl⟩ := h
  exact zcanon_p h1 h2 hL

set_option maxRecDepth 100000 in
set_option maxHeartbeats 4000000 in
theorem zwhole_p {L : Nat} {ba : Bool} {na : Nat} {a1 : Option Addr} {a2 a3 : Nat}  {w : World} (hna : Is na L w (.slice a1 a2 a3)) (hL : L ≤ 100000) :
    Calls Try.prog 21 #[.agg #[.bool ba, .slice a1 a2 a3]] w (Ret w (CR ((iv ba na : Int) : Rat) (max L 1))) := by
  have Hna := Lib.hid hna
  clear hna
  go_enter Try.func21, Try.ntmps21
  have HB := Lib.hid (Below.refl w.heap.size w)
  go_wp2_with fail
  obtain ⟨W1, hW⟩ : ∃ W1, W1 = (World.alloc (World.alloc w (.cells #[.bool ba, .slice a1 a2 a3] 33)) (.cells #[.bool false, .slice none 0 0, .slice none 0 0] 25)) := ⟨_, rfl⟩
  rw [← hW]
  obtain ⟨xa0, xb0, hk, hb⟩ := boxes_2 _ _ _ _ _ hW
  clear hW
  have Hna := Lib.hid (Is.keep Hna.out hk)
  have Ga0 := Lib.hid (show w.heap.size ≤ w.heap.size from Nat.le_trans HB.out.size (by omega))
  have Gb0 := Lib.hid (show w.heap.size ≤ w.heap.size + 1 from Nat.le_trans HB.out.size (by omega))
  have Xa0 := Lib.hid xa0
  have Xb0 := Lib.hid xb0
  have HB := Lib.hid (below_call HB.out hb)
  clear hk hb xa0 xb0
  (first | (have hcall := zcanon_ar (AR.mkz (neg := ba) Hna.out) (by omega); refine Calls.mono hcall ?_; clear hcall) | refine Calls.mono (zcanon_ar (AR.mkz (neg := ba) Hna.out) (by omega)) ?_)
  rintro e w2 ⟨v2, rfl, hz, hb⟩
  obtain ⟨z_b, z_a, z_n, z_c, z_d, z_m, z_e, rfl⟩ := hz.litb
  have Xa0 := Lib.hid (Box.pcall hb Xa0.out)
  have Xb0 := Lib.hid (Box.pcall hb Xb0.out)
  have HB := Lib.hid (below_call HB.out hb)
  have Hz := Lib.hid hz
  clear hb hz
  obtain ⟨ca00, ca01, fa00, fa01⟩ := Xa0.out.c2
  have la0 := Xa0.out.lt
  obtain ⟨cb00, cb01, cb02, fb00, fb01, fb02⟩ := Xb0.out.c3
  have lb0 := Xb0.out.lt
  go_wp2
  clear ca00 ca01 fa00 fa01 la0 cb00 cb01 cb02 fb00 fb01 fb02 lb0
  obtain ⟨W3, hW⟩ : ∃ W3, W3 = (World.setCell (World.setCell (World.setCell w2 ⟨w.heap.size + 1, 0, none⟩ (.bool z_b)) ⟨w.heap.size + 1, 1, none⟩ (.slice z_a z_n z_c)) ⟨w.heap.size + 1, 2, none⟩ (.slice z_d z_m z_e)) := ⟨_, rfl⟩
  rw [← hW]
  obtain ⟨xb0, hk, hf, hbb, hz⟩ := stored3s hW Xb0.out (by first | exact NoInt.bool _ | exact NoInt.slice _ _ _) (by first | exact NoInt.bool _ | exact NoInt.slice _ _ _) (by first | exact NoInt.bool _ | exact NoInt.slice _ _ _)
  have Hz := Lib.hid (CR.keep Hz.out hk)
  have Xa0 := Lib.hid (hf _ _ _ Xa0.out (by omega))
  have Xb0 := Lib.hid xb0
  have HB := Lib.hid (hbb _ HB.out Gb0.out)
  clear hW hk hf hbb xb0
  clear hz
  exact ret_rat1 rfl rfl rfl Xb0.out (CR.cast (rv_int _ _) Hz.out) HB.out


theorem zwhole_ai {z : Int} {L : Nat} {v : Value} {w : World} (h : AI z L w v) (hL : L ≤ 100000) : Calls Try.prog 21 #[v] w (Ret w (CR (z : Rat) (max L 1))) := by
  obtain ⟨b, s, n, rfl, h1, rfl⟩ := h
  obtain ⟨a1, a2, a3, rfl⟩ := h1.lit
  exact zwhole_p h1 hL

set_option maxRecDepth 100000 in
set_option maxHeartbeats 4000000 in
theorem zof {x : Int}  {w : World} (h1 : -9223372036854775808 ≤ x) (h2 : x < 9223372036854775808) :
    Calls Try.prog 24 #[.int .i64 x] w (Ret w (CR (x : Rat) 2)) := by
  go_enter Try.func24, Try.ntmps24
  have HB := Lib.hid (Below.refl w.heap.size w)
  go_wp2_with fail
  obtain ⟨W1, hW⟩ : ∃ W1, W1 = (World.alloc w (.cells #[.bool false, .slice none 0 0, .slice none 0 0] 25)) := ⟨_, rfl⟩
  rw [← hW]
  obtain ⟨xa0, hk, hb⟩ := boxes_1 _ _ _ hW
  clear hW
  have Ga0 := Lib.hid (show w.heap.size ≤ w.heap.size from Nat.le_trans HB.out.size (by omega))
  have Xa0 := Lib.hid xa0
  have HB := Lib.hid (below_call HB.out hb)
  clear hk hb xa0
  refine Calls.mono (riof_any h1 h2) ?_
  rintro e w2 ⟨v2, rfl, ho, hb⟩
  obtain ⟨o_b, o_a, o_n, o_c, rfl⟩ := ho.litb
  have Xa0 := Lib.hid (Box.pcall hb Xa0.out)
  have HB := Lib.hid (below_call HB.out hb)
  have Ho := Lib.hid ho
  clear hb ho
  obtain ⟨ca00, ca01, ca02, fa00, fa01, fa02⟩ := Xa0.out.c3
  have la0 := Xa0.out.lt
  go_wp2
  clear ca00 ca01 ca02 fa00 fa01 fa02 la0
  obtain ⟨W3, hW⟩ : ∃ W3, W3 = (World.setCell (World.setCell (World.setCell w2 ⟨w.heap.size, 0, none⟩ (.bool o_b)) ⟨w.heap.size, 1, none⟩ (.slice o_a o_n o_c)) ⟨w.heap.size, 2, none⟩ (.slice none 0 0)) := ⟨_, rfl⟩
  rw [← hW]
  obtain ⟨xa0, hk, hf, hbb, hz⟩ := stored3s hW Xa0.out (by first | exact NoInt.bool _ | exact NoInt.slice _ _ _) (by first | exact NoInt.bool _ | exact NoInt.slice _ _ _) (by first | exact NoInt.bool _ | exact NoInt.slice _ _ _)
  have Ho := Lib.hid (CL.keep Ho.out hk)
  have Xa0 := Lib.hid xa0
  have HB := Lib.hid (hbb _ HB.out Ga0.out)
  clear hW hk hf hbb xa0
  have hz3 := hz
  clear hz
  obtain ⟨W4, hW⟩ : ∃ W4, W4 = (World.alloc W3 (.cells #[.bool o_b, .slice o_a o_n o_c] 33)) := ⟨_, rfl⟩
  rw [← hW]
  obtain ⟨xb0, hk, hb⟩ := boxes_1 _ _ _ hW
  clear hW
  rw [hz3] at xb0
  have Ho := Lib.hid (CL.keep Ho.out hk)
  have Na0b0 := Lib.hid (show w.heap.size ≠ w2.heap.size from Nat.ne_of_lt (Nat.lt_of_lt_of_le Xa0.out.lt (by omega)))
  have Gb0 := Lib.hid (show w.heap.size ≤ w2.heap.size from Nat.le_trans HB.out.size (by omega))
  clear hz3
  have Xa0 := Lib.hid (Box.pcall hb Xa0.out)
  have Xb0 := Lib.hid xb0
  have HB := Lib.hid (below_call HB.out hb)
  clear hk hb xb0
  exact ret_rat1 rfl rfl rfl Xa0.out (CR.mono (CR.of_int Ho.out) (by omega)) HB.out


set_option maxRecDepth 100000 in
set_option maxHeartbeats 4000000 in
theorem zmk_0 {L M : Nat} {ba : Bool} {na : Nat} {sa : Value} {bb : Bool} {nb : Nat} {sb : Value} {w : World} (hk : (iv bb nb).sign = 0) (hna : Is na L w sa) (hnb : Is nb M w sb) (hL : L ≤ 100000) (hM : M ≤ 100000) :
    Calls Try.prog 38 #[.agg #[.bool ba, sa], .agg #[.bool bb, sb]] w (Ret w (Val (.tuple #[.agg #[.bool false, .slice none 0 0, .slice none 0 0], .int .i64 3]))) := by
  have Hna := Lib.hid hna
  have Hnb := Lib.hid hnb
  have Hk := Lib.hid hk
  clear hna hnb hk
  go_enter Try.func38, Try.ntmps38
  have HB := Lib.hid (Below.refl w.heap.size w)
  go_wp2_with fail
  obtain ⟨W1, hW⟩ : ∃ W1, W1 = (World.alloc (World.alloc (World.alloc w (.cells #[.bool ba, sa] 33)) (.cells #[.bool bb, sb] 33)) (.cells #[.bool false, .slice none 0 0, .slice none 0 0] 25)) := ⟨_, rfl⟩
  rw [← hW]
  obtain ⟨xa0, xb0, xc0, hk, hb⟩ := boxes_3 _ _ _ _ _ _ _ hW
  clear hW
  have Hnb := Lib.hid (Is.keep Hnb.out hk)
  have Ga0 := Lib.hid (show w.heap.size ≤ w.heap.size from Nat.le_trans HB.out.size (by omega))
  have Gb0 := Lib.hid (show w.heap.size ≤ w.heap.size + 1 from Nat.le_trans HB.out.size (by omega))
  have Gc0 := Lib.hid (show w.heap.size ≤ w.heap.size + 1 + 1 from Nat.le_trans HB.out.size (by omega))
  have Xa0 := Lib.hid xa0
  have Xb0 := Lib.hid xb0
  have Xc0 := Lib.hid xc0
  have HB := Lib.hid (below_call HB.out hb)
  clear hk hb xa0 xb0 xc0
  (first | (have hcall := risign_ai 0 (AI.mk (n := bb) Hnb.out) Hk.out; refine Calls.mono hcall ?_; clear hcall) | refine Calls.mono (risign_ai 0 (AI.mk (n := bb) Hnb.out) Hk.out) ?_)
  rintro e w2 ⟨v2, rfl, rfl, hb⟩
  have Xa0 := Lib.hid (Box.pcall hb Xa0.out)
  have Xb0 := Lib.hid (Box.pcall hb Xb0.out)
  have Xc0 := Lib.hid (Box.pcall hb Xc0.out)
  have HB := Lib.hid (below_call HB.out hb)
  clear hb
  obtain ⟨ca00, ca01, fa00, fa01⟩ := Xa0.out.c2
  have la0 := Xa0.out.lt
  obtain ⟨cb00, cb01, fb00, fb01⟩ := Xb0.out.c2
  have lb0 := Xb0.out.lt
  obtain ⟨cc00, cc01, cc02, fc00, fc01, fc02⟩ := Xc0.out.c3
  have lc0 := Xc0.out.lt
  go_wp2
  clear ca00 ca01 fa00 fa01 la0 cb00 cb01 fb00 fb01 lb0 cc00 cc01 cc02 fc00 fc01 fc02 lc0
  obtain ⟨W3, hW⟩ : ∃ W3, W3 = (World.setCell (World.setCell (World.setCell w2 ⟨w.heap.size + 1 + 1, 0, none⟩ (.bool false)) ⟨w.heap.size + 1 + 1, 1, none⟩ (.slice none 0 0)) ⟨w.heap.size + 1 + 1, 2, none⟩ (.slice none 0 0)) := ⟨_, rfl⟩
  rw [← hW]
  obtain ⟨xc0, hk, hf, hbb, hz⟩ := stored3s hW Xc0.out (by first | exact NoInt.bool _ | exact NoInt.slice _ _ _) (by first | exact NoInt.bool _ | exact NoInt.slice _ _ _) (by first | exact NoInt.bool _ | exact NoInt.slice _ _ _)
  have Xa0 := Lib.hid (hf _ _ _ Xa0.out (by omega))
  have Xb0 := Lib.hid (hf _ _ _ Xb0.out (by omega))
  have Xc0 := Lib.hid xc0
  have HB := Lib.hid (hbb _ HB.out Gc0.out)
  clear hW hk hf hbb xc0
  clear hz
  exact ret_re rfl rfl rfl rfl Xc0.out rfl HB.out


set_option maxRecDepth 100000 in
set_option maxHeartbeats 4000000 in
theorem zmk_1 {L M : Nat} {ba : Bool} {na : Nat} {sa : Value} {bb : Bool} {nb : Nat} {sb : Value} {w : World} (k : Int) (hk : (iv bb nb).sign = k) (hk0 : (k == 0) = false) (hp : 0 < nb) (hna : Is na L w sa) (hnb : Is nb M w sb) (hL : L ≤ 100000) (hM : M ≤ 100000) :
    Calls Try.prog 38 #[.agg #[.bool ba, sa], .agg #[.bool bb, sb]] w (Ret w (CRE ((iv ba na : Int) / (iv bb nb : Int)) (max L M) 0)) := by
  have Hna := Lib.hid hna
  have Hnb := Lib.hid hnb
  have Hk := Lib.hid hk
  have Hk0 := Lib.hid hk0
  have Hp := Lib.hid hp
  clear hna hnb hk hk0 hp
  go_enter Try.func38, Try.ntmps38
  have HB := Lib.hid (Below.refl w.heap.size w)
  go_wp2_with fail
  obtain ⟨W1, hW⟩ : ∃ W1, W1 = (World.alloc (World.alloc (World.alloc w (.cells #[.bool ba, sa] 33)) (.cells #[.bool bb, sb] 33)) (.cells #[.bool false, .slice none 0 0, .slice none 0 0] 25)) := ⟨_, rfl⟩
  rw [← hW]
  obtain ⟨xa0, xb0, xc0, hk, hb⟩ := boxes_3 _ _ _ _ _ _ _ hW
  clear hW
  have Hna := Lib.hid (Is.keep Hna.out hk)
  have Hnb := Lib.hid (Is.keep Hnb.out hk)
  have Ga0 := Lib.hid (show w.heap.size ≤ w.heap.size from Nat.le_trans HB.out.size (by omega))
  have Gb0 := Lib.hid (show w.heap.size ≤ w.heap.size + 1 from Nat.le_trans HB.out.size (by omega))
  have Gc0 := Lib.hid (show w.heap.size ≤ w.heap.size + 1 + 1 from Nat.le_trans HB.out.size (by omega))
  have Xa0 := Lib.hid xa0
  have Xb0 := Lib.hid xb0
  have Xc0 := Lib.hid xc0
  have HB := Lib.hid (below_call HB.out hb)
  clear hk hb xa0 xb0 xc0
  (first | (have hcall := risign_ai k (AI.mk (n := bb) Hnb.out) Hk.out; refine Calls.mono hcall ?_; clear hcall) | refine Calls.mono (risign_ai k (AI.mk (n := bb) Hnb.out) Hk.out) ?_)
  rintro e w2 ⟨v2, rfl, rfl, hb⟩
  have Hna := Lib.hid (Is.keep Hna.out (Keep.call hb))
  have Hnb := Lib.hid (Is.keep Hnb.out (Keep.call hb))
  have Xa0 := Lib.hid (Box.pcall hb Xa0.out)
  have Xb0 := Lib.hid (Box.pcall hb Xb0.out)
  have Xc0 := Lib.hid (Box.pcall hb Xc0.out)
  have HB := Lib.hid (below_call HB.out hb)
  clear hb
  have hk0 : (k == 0) = false := Hk0.out
  obtain ⟨ca00, ca01, fa00, fa01⟩ := Xa0.out.c2
  have la0 := Xa0.out.lt
  obtain ⟨cb00, cb01, fb00, fb01⟩ := Xb0.out.c2
  have lb0 := Xb0.out.lt
  obtain ⟨cc00, cc01, cc02, fc00, fc01, fc02⟩ := Xc0.out.c3
  have lc0 := Xc0.out.lt
  go_wp2_with fail
  clear ca00 ca01 fa00 fa01 la0 cb00 cb01 fb00 fb01 lb0 cc00 cc01 cc02 fc00 fc01 fc02 lc0
  (first | (have hcall := r3quot_is (neg := (!ba == bb)) (Hp.out) Hna.out Hnb.out (by omega) (by omega); refine Calls.mono hcall ?_; clear hcall) | refine Calls.mono (r3quot_is (neg := (!ba == bb)) (Hp.out) Hna.out Hnb.out (by omega) (by omega)) ?_)
  rintro e w3 ⟨v3, rfl, hz, hb⟩
  obtain ⟨z_b, z_a, z_n, z_c, z_d, z_m, z_e, rfl⟩ := hz.litb
  have Xa0 := Lib.hid (Box.pcall hb Xa0.out)
  have Xb0 := Lib.hid (Box.pcall hb Xb0.out)
  have Xc0 := Lib.hid (Box.pcall hb Xc0.out)
  have HB := Lib.hid (below_call HB.out hb)
  have Hz := Lib.hid hz
  clear hb hz
  obtain ⟨ca00, ca01, fa00, fa01⟩ := Xa0.out.c2
  have la0 := Xa0.out.lt
  obtain ⟨cb00, cb01, fb00, fb01⟩ := Xb0.out.c2
  have lb0 := Xb0.out.lt
  obtain ⟨cc00, cc01, cc02, fc00, fc01, fc02⟩ := Xc0.out.c3
  have lc0 := Xc0.out.lt
  go_wp2
  clear ca00 ca01 fa00 fa01 la0 cb00 cb01 fb00 fb01 lb0 cc00 cc01 cc02 fc00 fc01 fc02 lc0
  obtain ⟨W4, hW⟩ : ∃ W4, W4 = (World.setCell (World.setCell (World.setCell w3 ⟨w.heap.size + 1 + 1, 0, none⟩ (.bool z_b)) ⟨w.heap.size + 1 + 1, 1, none⟩ (.slice z_a z_n z_c)) ⟨w.heap.size + 1 + 1, 2, none⟩ (.slice z_d z_m z_e)) := ⟨_, rfl⟩
  rw [← hW]
  obtain ⟨xc0, hk, hf, hbb, hz⟩ := stored3s hW Xc0.out (by first | exact NoInt.bool _ | exact NoInt.slice _ _ _) (by first | exact NoInt.bool _ | exact NoInt.slice _ _ _) (by first | exact NoInt.bool _ | exact NoInt.slice _ _ _)
  have Hz := Lib.hid (CR.keep Hz.out hk)
  have Xa0 := Lib.hid (hf _ _ _ Xa0.out (by omega))
  have Xb0 := Lib.hid (hf _ _ _ Xb0.out (by omega))
  have Xc0 := Lib.hid xc0
  have HB := Lib.hid (hbb _ HB.out Gc0.out)
  clear hW hk hf hbb xc0
  clear hz
  exact ret_re rfl rfl rfl rfl Xc0.out ⟨_, rfl, CR.cast (div_sign _ _ _ _ Hp.out) Hz.out⟩ HB.out


theorem zmk_ai {y z : Int} {L M : Nat} {u v : Value} {w : World} (hz : z ≠ 0) (h : AI y L w u) (h' : AI z M w v) (hL : L ≤ 100000) (hM : M ≤ 100000) :
    Calls Try.prog 38 #[u, v] w (Ret w (CRE ((y : Rat) / (z : Rat)) (max L M) 0)) := by
  obtain ⟨ba, sa, na, rfl, h1, rfl⟩ := h
  obtain ⟨bb, sb, nb, rfl, h2, rfl⟩ := h'
  have hp : 0 < nb := by
    rcases Nat.eq_zero_or_pos nb with rfl | h0
    · exact absurd (by cases bb <;> rfl) hz
    · exact h0
  exact zmk_1 _ rfl (by simpa [Int.sign_eq_zero_iff_zero] using hz) hp h1 h2 hL hM
theorem zmk_zero {y z : Int} {L M : Nat} {u v : Value} {w : World} (hz : z = 0) (h : AI y L w u) (h' : AI z M w v) (hL : L ≤ 100000) (hM : M ≤ 100000) :
    Calls Try.prog 38 #[u, v] w (Ret w (Val (.tuple #[.agg #[.bool false, .slice none 0 0, .slice none 0 0], .int .i64 3]))) := by
  obtain ⟨ba, sa, na, rfl, h1, rfl⟩ := h
  obtain ⟨bb, sb, nb, rfl, h2, rfl⟩ := h'
  exact zmk_0 (by rw [hz]; rfl) h1 h2 hL hM

set_option maxRecDepth 100000 in
set_option maxHeartbeats 4000000 in
theorem zfrac_1 {x y : Int}  {w : World} (h1 : -9223372036854775808 ≤ x) (h2 : x < 9223372036854775808) (h3 : -9223372036854775808 ≤ y) (h4 : y < 9223372036854775808) (hz : y ≠ 0) :
    Calls Try.prog 69 #[.int .i64 x, .int .i64 y] w (Ret w (CRE ((x : Rat) / (y : Rat)) 2 0)) := by
  have Hz := Lib.hid hz
  clear hz
  go_enter Try.func69, Try.ntmps69
  have HB := Lib.hid (Below.refl w.heap.size w)
  go_wp2_with fail
  obtain ⟨W1, hW⟩ : ∃ W1, W1 = (World.alloc w (.cells #[.bool false, .slice none 0 0, .slice none 0 0] 25)) := ⟨_, rfl⟩
  rw [← hW]
  obtain ⟨xa0, hk, hb⟩ := boxes_1 _ _ _ hW
  clear hW
  have Ga0 := Lib.hid (show w.heap.size ≤ w.heap.size from Nat.le_trans HB.out.size (by omega))
  have Xa0 := Lib.hid xa0
  have HB := Lib.hid (below_call HB.out hb)
  clear hk hb xa0
  refine Calls.mono (riof_any h1 h2) ?_
  rintro e w2 ⟨v2, rfl, ho, hb⟩
  obtain ⟨o_b, o_a, o_n, o_c, rfl⟩ := ho.litb
  have Xa0 := Lib.hid (Box.pcall hb Xa0.out)
  have HB := Lib.hid (below_call HB.out hb)
  have Ho := Lib.hid ho
  clear hb ho
  obtain ⟨ca00, ca01, ca02, fa00, fa01, fa02⟩ := Xa0.out.c3
  have la0 := Xa0.out.lt
  go_wp2_with fail
  clear ca00 ca01 ca02 fa00 fa01 fa02 la0
  refine Calls.mono (riof_any h3 h4) ?_
  rintro e w3 ⟨v3, rfl, hp, hb⟩
  obtain ⟨p_b, p_a, p_n, p_c, rfl⟩ := hp.litb
  have Ho := Lib.hid (CL.keep Ho.out (Keep.call hb))
  have Xa0 := Lib.hid (Box.pcall hb Xa0.out)
  have HB := Lib.hid (below_call HB.out hb)
  have Hp := Lib.hid hp
  clear hb hp
  obtain ⟨ca00, ca01, ca02, fa00, fa01, fa02⟩ := Xa0.out.c3
  have la0 := Xa0.out.lt
  go_wp2_with fail
  clear ca00 ca01 ca02 fa00 fa01 fa02 la0
  (first | (have hcall := zmk_ai Hz.out Ho.out.ai Hp.out.ai (by decide) (by decide); refine Calls.mono hcall ?_; clear hcall) | refine Calls.mono (zmk_ai Hz.out Ho.out.ai Hp.out.ai (by decide) (by decide)) ?_)
  rintro e w4 ⟨t4, rfl, ⟨v4, rfl, hz⟩, hb⟩
  obtain ⟨z_b, z_a, z_n, z_c, z_d, z_m, z_e, rfl⟩ := hz.litb
  have Xa0 := Lib.hid (Box.pcall hb Xa0.out)
  have HB := Lib.hid (below_call HB.out hb)
  have Hz := Lib.hid hz
  clear hb hz
  obtain ⟨ca00, ca01, ca02, fa00, fa01, fa02⟩ := Xa0.out.c3
  have la0 := Xa0.out.lt
  go_wp2
  clear ca00 ca01 ca02 fa00 fa01 fa02 la0
  obtain ⟨W5, hW⟩ : ∃ W5, W5 = (World.setCell (World.setCell (World.setCell w4 ⟨w.heap.size, 0, none⟩ (.bool z_b)) ⟨w.heap.size, 1, none⟩ (.slice z_a z_n z_c)) ⟨w.heap.size, 2, none⟩ (.slice z_d z_m z_e)) := ⟨_, rfl⟩
  rw [← hW]
  obtain ⟨xa0, hk, hf, hbb, hz⟩ := stored3s hW Xa0.out (by first | exact NoInt.bool _ | exact NoInt.slice _ _ _) (by first | exact NoInt.bool _ | exact NoInt.slice _ _ _) (by first | exact NoInt.bool _ | exact NoInt.slice _ _ _)
  have Hz := Lib.hid (CR.keep Hz.out hk)
  have Xa0 := Lib.hid xa0
  have HB := Lib.hid (hbb _ HB.out Ga0.out)
  clear hW hk hf hbb xa0
  clear hz
  exact ret_re rfl rfl rfl rfl Xa0.out ⟨_, rfl, Hz.out⟩ HB.out


set_option maxRecDepth 100000 in
set_option maxHeartbeats 4000000 in
theorem znum_p {L : Nat} {qa : Rat} {ba : Bool} {sa ta : Value} {w : World} (ha : AR qa L w (.agg #[.bool ba, sa, ta])) (hL : L ≤ 100000) :
    Calls Try.prog 46 #[.agg #[.bool ba, sa, ta]] w (Ret w (CL qa.num (max L 1))) := by
  have Ha := Lib.hid ha
  clear ha
  go_enter Try.func46, Try.ntmps46
  have HB := Lib.hid (Below.refl w.heap.size w)
  go_wp2_with fail
  obtain ⟨W1, hW⟩ : ∃ W1, W1 = (World.alloc (World.alloc w (.cells #[.bool ba, sa, ta] 25)) (.cells #[.bool false, .slice none 0 0] 33)) := ⟨_, rfl⟩
  rw [← hW]
  obtain ⟨xa0, xb0, hk, hb⟩ := boxes_2 _ _ _ _ _ hW
  clear hW
  have Ha := Lib.hid (AR.keep Ha.out hk)
  have Ga0 := Lib.hid (show w.heap.size ≤ w.heap.size from Nat.le_trans HB.out.size (by omega))
  have Gb0 := Lib.hid (show w.heap.size ≤ w.heap.size + 1 from Nat.le_trans HB.out.size (by omega))
  have Xa0 := Lib.hid xa0
  have Xb0 := Lib.hid xb0
  have HB := Lib.hid (below_call HB.out hb)
  clear hk hb xa0 xb0
  (first | (have hcall := zcanon_ar Ha.out (by omega); refine Calls.mono hcall ?_; clear hcall) | refine Calls.mono (zcanon_ar Ha.out (by omega)) ?_)
  rintro e w2 ⟨v2, rfl, hc, hb⟩
  obtain ⟨c_b, c_a, c_n, c_c, c_d, c_m, c_e, rfl⟩ := hc.litb
  have Ha := Lib.hid (AR.keep Ha.out (Keep.call hb))
  have Xa0 := Lib.hid (Box.pcall hb Xa0.out)
  have Xb0 := Lib.hid (Box.pcall hb Xb0.out)
  have HB := Lib.hid (below_call HB.out hb)
  have Hc := Lib.hid hc
  clear hb hc
  obtain ⟨ca00, ca01, ca02, fa00, fa01, fa02⟩ := Xa0.out.c3
  have la0 := Xa0.out.lt
  obtain ⟨cb00, cb01, fb00, fb01⟩ := Xb0.out.c2
  have lb0 := Xb0.out.lt
  go_wp2
  clear ca00 ca01 ca02 fa00 fa01 fa02 la0 cb00 cb01 fb00 fb01 lb0
  obtain ⟨W3, hW⟩ : ∃ W3, W3 = (World.setCell (World.setCell (World.setCell w2 ⟨w.heap.size, 0, none⟩ (.bool c_b)) ⟨w.heap.size, 1, none⟩ (.slice c_a c_n c_c)) ⟨w.heap.size, 2, none⟩ (.slice c_d c_m c_e)) := ⟨_, rfl⟩
  rw [← hW]
  obtain ⟨xa0, hk, hf, hbb, hz⟩ := stored3s hW Xa0.out (by first | exact NoInt.bool _ | exact NoInt.slice _ _ _ | exact Ha.out.ni1 | exact Ha.out.ni2) (by first | exact NoInt.bool _ | exact NoInt.slice _ _ _ | exact Ha.out.ni1 | exact Ha.out.ni2) (by first | exact NoInt.bool _ | exact NoInt.slice _ _ _ | exact Ha.out.ni1 | exact Ha.out.ni2)
  have Ha := Lib.hid (AR.keep Ha.out hk)
  have Hc := Lib.hid (CR.keep Hc.out hk)
  have Xa0 := Lib.hid xa0
  have Xb0 := Lib.hid (hf _ _ _ Xb0.out (by omega))
  have HB := Lib.hid (hbb _ HB.out Ga0.out)
  clear hW hk hf hbb xa0
  clear hz
  obtain ⟨W4, hW⟩ : ∃ W4, W4 = (World.setCell (World.setCell W3 ⟨w.heap.size + 1, 0, none⟩ (.bool c_b)) ⟨w.heap.size + 1, 1, none⟩ (.slice c_a c_n c_c)) := ⟨_, rfl⟩
  rw [← hW]
  obtain ⟨xb0, hk, hf, hbb, hz⟩ := stored2s hW Xb0.out (by first | exact NoInt.bool _ | exact NoInt.slice _ _ _ | exact Ha.out.ni1 | exact Ha.out.ni2) (by first | exact NoInt.bool _ | exact NoInt.slice _ _ _ | exact Ha.out.ni1 | exact Ha.out.ni2)
  have Hc := Lib.hid (CR.keep Hc.out hk)
  have Xa0 := Lib.hid (hf _ _ _ Xa0.out (by omega))
  have Xb0 := Lib.hid xb0
  have HB := Lib.hid (hbb _ HB.out Gb0.out)
  clear hW hk hf hbb xb0
  clear hz
  exact ret_int1 rfl rfl rfl Xb0.out (CR.numI Hc.out) HB.out


set_option maxRecDepth 100000 in
set_option maxHeartbeats 4000000 in
theorem zden_p {L : Nat} {qa : Rat} {ba : Bool} {sa ta : Value} {w : World} (ha : AR qa L w (.agg #[.bool ba, sa, ta])) (hL : L ≤ 100000) :
    Calls Try.prog 29 #[.agg #[.bool ba, sa, ta]] w (Ret w (Is qa.den (max L 1))) := by
  have Ha := Lib.hid ha
  clear ha
  have hfld := fun (w : World) (x y : Value) (a : Option Addr) (n c : Nat) => (show (Instr.field 25 (.agg #[x, y, .slice a n c]) 2).run Try.prog w = .ok (.slice a n c) w from by kernel_rfl)
  go_enter Try.func29, Try.ntmps29
  have HB := Lib.hid (Below.refl w.heap.size w)
  go_wp2_with fail
  obtain ⟨W1, hW⟩ : ∃ W1, W1 = (World.alloc w (.cells #[.bool ba, sa, ta] 25)) := ⟨_, rfl⟩
  rw [← hW]
  obtain ⟨xa0, hk, hb⟩ := boxes_1 _ _ _ hW
  clear hW
  have Ha := Lib.hid (AR.keep Ha.out hk)
  have Ga0 := Lib.hid (show w.heap.size ≤ w.heap.size from Nat.le_trans HB.out.size (by omega))
  have Xa0 := Lib.hid xa0
  have HB := Lib.hid (below_call HB.out hb)
  clear hk hb xa0
  (first | (have hcall := zcanon_ar Ha.out (by omega); refine Calls.mono hcall ?_; clear hcall) | refine Calls.mono (zcanon_ar Ha.out (by omega)) ?_)
  rintro e w2 ⟨v2, rfl, hc, hb⟩
  obtain ⟨c_b, c_a, c_n, c_c, c_d, c_m, c_e, rfl⟩ := hc.litb
  have Xa0 := Lib.hid (Box.pcall hb Xa0.out)
  have HB := Lib.hid (below_call HB.out hb)
  have Hc := Lib.hid hc
  clear hb hc
  obtain ⟨ca00, ca01, ca02, fa00, fa01, fa02⟩ := Xa0.out.c3
  have la0 := Xa0.out.lt
  go_wp2_with fail
  clear ca00 ca01 ca02 fa00 fa01 fa02 la0
  (first | (have hcall := r3one_is Hc.out.denC.is; refine Calls.mono hcall ?_; clear hcall) | refine Calls.mono (r3one_is Hc.out.denC.is) ?_)
  rintro e w3 ⟨v3, rfl, hu, hb⟩
  obtain ⟨u_a, u_n, u_c, rfl⟩ := hu.lit
  have Xa0 := Lib.hid (Box.pcall hb Xa0.out)
  have HB := Lib.hid (below_call HB.out hb)
  have Hu := Lib.hid hu
  clear hb hu
  obtain ⟨ca00, ca01, ca02, fa00, fa01, fa02⟩ := Xa0.out.c3
  have la0 := Xa0.out.lt
  go_wp2
  clear ca00 ca01 ca02 fa00 fa01 fa02 la0
  go_ret
  exact ⟨_, rfl, Is.mono (Is.cast (un_dn _) Hu.out) (by omega), HB.out⟩


set_option maxRecDepth 100000 in
set_option maxHeartbeats 4000000 in
theorem zneg_p {L : Nat} {qa : Rat} {ba : Bool} {sa ta : Value} {w : World} (ha : AR qa L w (.agg #[.bool ba, sa, ta])) (hL : L ≤ 100000) :
    Calls Try.prog 31 #[.agg #[.bool ba, sa, ta]] w (Ret w (CR (-qa) (max L 1))) := by
  have Ha := Lib.hid ha
  clear ha
  go_enter Try.func31, Try.ntmps31
  have HB := Lib.hid (Below.refl w.heap.size w)
  go_wp2_with fail
  obtain ⟨W1, hW⟩ : ∃ W1, W1 = (World.alloc (World.alloc w (.cells #[.bool (!ba), sa, ta] 25)) (.cells #[.bool false, .slice none 0 0, .slice none 0 0] 25)) := ⟨_, rfl⟩
  rw [← hW]
  obtain ⟨xa0, xb0, hk, hb⟩ := boxes_2 _ _ _ _ _ hW
  clear hW
  have Ha := Lib.hid (AR.keep Ha.out hk)
  have Ga0 := Lib.hid (show w.heap.size ≤ w.heap.size from Nat.le_trans HB.out.size (by omega))
  have Gb0 := Lib.hid (show w.heap.size ≤ w.heap.size + 1 from Nat.le_trans HB.out.size (by omega))
  have Xa0 := Lib.hid xa0
  have Xb0 := Lib.hid xb0
  have HB := Lib.hid (below_call HB.out hb)
  clear hk hb xa0 xb0
  (first | (have hcall := zcanon_ar (AR.neg Ha.out) (by omega); refine Calls.mono hcall ?_; clear hcall) | refine Calls.mono (zcanon_ar (AR.neg Ha.out) (by omega)) ?_)
  rintro e w2 ⟨v2, rfl, hz, hb⟩
  obtain ⟨z_b, z_a, z_n, z_c, z_d, z_m, z_e, rfl⟩ := hz.litb
  have Xa0 := Lib.hid (Box.pcall hb Xa0.out)
  have Xb0 := Lib.hid (Box.pcall hb Xb0.out)
  have HB := Lib.hid (below_call HB.out hb)
  have Hz := Lib.hid hz
  clear hb hz
  obtain ⟨ca00, ca01, ca02, fa00, fa01, fa02⟩ := Xa0.out.c3
  have la0 := Xa0.out.lt
  obtain ⟨cb00, cb01, cb02, fb00, fb01, fb02⟩ := Xb0.out.c3
  have lb0 := Xb0.out.lt
  go_wp2
  clear ca00 ca01 ca02 fa00 fa01 fa02 la0 cb00 cb01 cb02 fb00 fb01 fb02 lb0
  obtain ⟨W3, hW⟩ : ∃ W3, W3 = (World.setCell (World.setCell (World.setCell w2 ⟨w.heap.size + 1, 0, none⟩ (.bool z_b)) ⟨w.heap.size + 1, 1, none⟩ (.slice z_a z_n z_c)) ⟨w.heap.size + 1, 2, none⟩ (.slice z_d z_m z_e)) := ⟨_, rfl⟩
  rw [← hW]
  obtain ⟨xb0, hk, hf, hbb, hz⟩ := stored3s hW Xb0.out (by first | exact NoInt.bool _ | exact NoInt.slice _ _ _) (by first | exact NoInt.bool _ | exact NoInt.slice _ _ _) (by first | exact NoInt.bool _ | exact NoInt.slice _ _ _)
  have Hz := Lib.hid (CR.keep Hz.out hk)
  have Xa0 := Lib.hid (hf _ _ _ Xa0.out (by omega))
  have Xb0 := Lib.hid xb0
  have HB := Lib.hid (hbb _ HB.out Gb0.out)
  clear hW hk hf hbb xb0
  clear hz
  exact ret_rat1 rfl rfl rfl Xb0.out Hz.out HB.out


theorem znum_ar {q : Rat} {L : Nat} {v : Value} {w : World} (h : AR q L w v) (hL : L ≤ 100000) : Calls Try.prog 46 #[v] w (Ret w (CL q.num (max L 1))) := by
  obtain ⟨b, s, t, rfl⟩ := h.agg
  exact znum_p h hL

theorem zden_ar {q : Rat} {L : Nat} {v : Value} {w : World} (h : AR q L w v) (hL : L ≤ 100000) : Calls Try.prog 29 #[v] w (Ret w (Is q.den (max L 1))) := by
  obtain ⟨b, s, t, rfl⟩ := h.agg
  exact zden_p h hL

theorem zneg_ar {q : Rat} {L : Nat} {v : Value} {w : World} (h : AR q L w v) (hL : L ≤ 100000) : Calls Try.prog 31 #[v] w (Ret w (CR (-q) (max L 1))) := by
  obtain ⟨b, s, t, rfl⟩ := h.agg
  exact zneg_p h hL

set_option maxRecDepth 100000 in
set_option maxHeartbeats 4000000 in
theorem zsign_p {L : Nat} {ba : Bool} {na da : Nat} {a1 : Option Addr} {a2 a3 : Nat} {ta : Value}  {w : World} (k : Int) (hk : (iv ba na).sign = k) (hna : Is na L w (.slice a1 a2 a3)) (hda : Is da L w ta) :
    Calls Try.prog 36 #[.agg #[.bool ba, .slice a1 a2 a3, ta]] w (Ret w (Val (.int .i64 k))) := by
  have Hna := Lib.hid hna
  have Hda := Lib.hid hda
  have Hk := Lib.hid hk
  clear hna hda hk
  go_enter Try.func36, Try.ntmps36
  have HB := Lib.hid (Below.refl w.heap.size w)
  go_wp2_with fail
  obtain ⟨W1, hW⟩ : ∃ W1, W1 = (World.alloc w (.cells #[.bool ba, .slice a1 a2 a3, ta] 25)) := ⟨_, rfl⟩
  rw [← hW]
  obtain ⟨xa0, hk, hb⟩ := boxes_1 _ _ _ hW
  clear hW
  have Hna := Lib.hid (Is.keep Hna.out hk)
  have Ga0 := Lib.hid (show w.heap.size ≤ w.heap.size from Nat.le_trans HB.out.size (by omega))
  have Xa0 := Lib.hid xa0
  have HB := Lib.hid (below_call HB.out hb)
  clear hk hb xa0
  (first | (have hcall := risign_ai k (AI.mk (n := ba) Hna.out) Hk.out; refine Calls.mono hcall ?_; clear hcall) | refine Calls.mono (risign_ai k (AI.mk (n := ba) Hna.out) Hk.out) ?_)
  rintro e w2 ⟨v2, rfl, rfl, hb⟩
  have Xa0 := Lib.hid (Box.pcall hb Xa0.out)
  have HB := Lib.hid (below_call HB.out hb)
  clear hb
  obtain ⟨ca00, ca01, ca02, fa00, fa01, fa02⟩ := Xa0.out.c3
  have la0 := Xa0.out.lt
  go_wp2
  clear ca00 ca01 ca02 fa00 fa01 fa02 la0
  go_ret
  exact ⟨_, rfl, rfl, HB.out⟩


theorem zsign_ar {q : Rat} {L : Nat} {v : Value} {w : World} (k : Int) (h : AR q L w v) (hk : q.num.sign = k) : Calls Try.prog 36 #[v] w (Ret w (Val (.int .i64 k))) := by
  obtain ⟨b, s, t, n, d, rfl, h1, h2, rfl⟩ := h
  obtain ⟨a1, a2, a3, rfl⟩ := h1.lit
  exact zsign_p k (by rw [← hk, rv_sign]) h1 h2

theorem zsign_rv {ba : Bool} {n d L : Nat} {s t : Value} {w : World} (k : Int) (hk : (iv ba n).sign = k) (h1 : Is n L w s) (h2 : Is d L w t) : Calls Try.prog 36 #[.agg #[.bool ba, s, t]] w (Ret w (Val (.int .i64 k))) := zsign_ar k (AR.mk h1 h2) (by rw [← rv_sign]; exact hk)

end Go.Proofs.Ytfkjhaniglmejaa
