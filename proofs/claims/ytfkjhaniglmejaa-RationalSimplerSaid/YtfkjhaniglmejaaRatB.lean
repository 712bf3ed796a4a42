/- Layer 3: parts and forms. Printed by ratd.py. -/
import Derived.Test.YtfkjhaniglmejaaRatA
namespace Go.Proofs.Ytfkjhaniglmejaa
open Go.RowKit Nt
set_option linter.unusedVariables false

theorem un_zero {d : Nat} (h : d = 0) : 1 = un d := by subst h; rfl
theorem un_of {d : Nat} (h : 0 < d) : d = un d := by unfold un; rw [if_neg (by omega)]
theorem mkRat_one (z : Int) : mkRat z 1 = (z : Rat) := Rat.ext (by rw [Rat.num_mkRat]; simp) (by rw [Rat.den_mkRat]; simp)
theorem div_sign (ba bb : Bool) (na nb : Nat) (h : 0 < nb) : mkRat (iv (!ba == bb) na) nb = ((iv ba na : Int) : Rat) / ((iv bb nb : Int) : Rat) := by
  rw [← Rat.divInt_eq_div]
  cases bb
  · rw [show (!ba == false) = ba by cases ba <;> rfl]
    show _ = Rat.divInt (iv ba na) (nb : Int)
    rw [Rat.divInt_ofNat]
  · rw [show (!ba == true) = (!ba) by cases ba <;> rfl, iv_not]
    show _ = Rat.divInt (iv ba na) (-(nb : Int))
    rw [Rat.divInt_neg', Rat.divInt_ofNat]
theorem CR.numI {q : Rat} {L : Nat} {w : World} {b : Bool} {s t : Value} (h : CR q L w (.agg #[.bool b, s, t])) : CL q.num L w (.agg #[.bool b, s]) := by
  have h1 := h.numC
  refine ⟨⟨s, ?_, h1.1⟩, h1.2⟩
  rw [h.negC]
  congr 4
  rw [Bool.eq_iff_iff]
  simp only [decide_eq_true_eq]
  rw [← Rat.not_le, ← Rat.num_nonneg]
  omega
theorem rv_sign (b : Bool) (n d : Nat) : (iv b n).sign = (rv b n d).num.sign := by
  have h := mkRat_lt (z := iv b n) (un_pos d)
  have h2 := Rat.mkRat_eq_zero (n := iv b n) (un_ne d)
  rcases Int.lt_trichotomy (iv b n) 0 with h3 | h3 | h3
  · rw [Int.sign_eq_neg_one_of_neg h3, Int.sign_eq_neg_one_of_neg]
    have := h.2 h3
    rw [← Rat.not_le, ← Rat.num_nonneg] at this
    unfold rv; omega
  · unfold rv; rw [h3]; simp
  · rw [Int.sign_eq_one_of_pos h3, Int.sign_eq_one_of_pos]
    have h4 : ¬ mkRat (iv b n) (un d) < 0 := by rw [h]; omega
    have h5 : ¬ mkRat (iv b n) (un d) = 0 := by rw [h2]; omega
    rw [← Rat.num_eq_zero] at h5
    rw [Rat.not_lt, ← Rat.num_nonneg] at h4
    unfold rv; omega

set_option maxRecDepth 100000 in
set_option maxHeartbeats 4000000 in
theorem under_0 {ba : Bool} {da L : Nat} {sa ta : Value}  {w : World} (hz : da = 0) (hda : Is da L w ta) (hL : L ≤ 1000000) :
    Calls Try.prog 59 #[.agg #[.bool ba, sa, ta]] w (Ret w (Is (un da) (max L 1))) := by
  have Hda := Lib.hid hda
  have Hz := Lib.hid hz
  clear hda hz
  go_enter Try.func59, Try.ntmps59
  have HB := Lib.hid (Below.refl w.heap.size w)
  go_wp2_with fail
  obtain ⟨W1, hW⟩ : ∃ W1, W1 = (World.alloc w (.cells #[.bool ba, sa, ta] 25)) := ⟨_, rfl⟩
  rw [← hW]
  obtain ⟨xa0, hk, hb⟩ := boxes_1 _ _ _ hW
  clear hW
  have Hda := Lib.hid (Is.keep Hda.out hk)
  have Ga0 := Lib.hid (show w.heap.size ≤ w.heap.size from Nat.le_trans HB.out.size (by omega))
  have Xa0 := Lib.hid xa0
  have HB := Lib.hid (below_call HB.out hb)
  clear hk hb xa0
  (first | (have hcall := bits_zero Hz.out Hda.out (by omega); refine Calls.mono hcall ?_; clear hcall) | refine Calls.mono (bits_zero Hz.out Hda.out (by omega)) ?_)
  rintro e w2 ⟨v2, rfl, rfl, hb⟩
  have Xa0 := Lib.hid (Box.pcall hb Xa0.out)
  have HB := Lib.hid (below_call HB.out hb)
  clear hb
  obtain ⟨ca00, ca01, ca02, fa00, fa01, fa02⟩ := Xa0.out.c3
  have la0 := Xa0.out.lt
  go_wp2_with fail
  clear ca00 ca01 ca02 fa00 fa01 fa02 la0
  refine Calls.mono (one_is _) ?_
  rintro e w3 ⟨v3, rfl, hu, hb⟩
  obtain ⟨u_a, u_n, u_c, rfl⟩ := hu.lit
  have Xa0 := Lib.hid (Box.pcall hb Xa0.out)
  have HB := Lib.hid (below_call HB.out hb)
  have Hu := Lib.hid hu
  clear hb hu
  obtain ⟨ca00, ca01, ca02, fa00, fa01, fa02⟩ := Xa0.out.c3
  have la0 := Xa0.out.lt
  go_wp2
  clear ca00 ca01 ca02 fa00 fa01 fa02 la0
  go_ret
  exact ⟨_, rfl, Is.cast (un_zero Hz.out) (Is.mono Hu.out (Nat.le_max_right _ _)), HB.out⟩


set_option maxRecDepth 100000 in
set_option maxHeartbeats 4000000 in
theorem under_1 {ba : Bool} {da L : Nat} {sa ta : Value}  {w : World} (hz : 0 < da) (hda : Is da L w ta) (hL : L ≤ 1000000) :
    Calls Try.prog 59 #[.agg #[.bool ba, sa, ta]] w (Ret w (Is (un da) (max L 1))) := by
  have Hda := Lib.hid hda
  have Hz := Lib.hid hz
  clear hda hz
  go_enter Try.func59, Try.ntmps59
  have HB := Lib.hid (Below.refl w.heap.size w)
  go_wp2_with fail
  obtain ⟨W1, hW⟩ : ∃ W1, W1 = (World.alloc w (.cells #[.bool ba, sa, ta] 25)) := ⟨_, rfl⟩
  rw [← hW]
  obtain ⟨xa0, hk, hb⟩ := boxes_1 _ _ _ hW
  clear hW
  have Hda := Lib.hid (Is.keep Hda.out hk)
  have Ga0 := Lib.hid (show w.heap.size ≤ w.heap.size from Nat.le_trans HB.out.size (by omega))
  have Xa0 := Lib.hid xa0
  have HB := Lib.hid (below_call HB.out hb)
  clear hk hb xa0
  (first | (have hcall := bits_pos Hz.out Hda.out (by omega); refine Calls.mono hcall ?_; clear hcall) | refine Calls.mono (bits_pos Hz.out Hda.out (by omega)) ?_)
  rintro e w2 ⟨v2, rfl, ⟨U, rfl, hU⟩, hb⟩
  have Hda := Lib.hid (Is.keep Hda.out (Keep.call hb))
  have Xa0 := Lib.hid (Box.pcall hb Xa0.out)
  have HB := Lib.hid (below_call HB.out hb)
  clear hb
  obtain ⟨ca00, ca01, ca02, fa00, fa01, fa02⟩ := Xa0.out.c3
  have la0 := Xa0.out.lt
  go_wp2
  clear ca00 ca01 ca02 fa00 fa01 fa02 la0
  go_ret
  exact ⟨_, rfl, Is.cast (un_of Hz.out) (Is.mono Hda.out (Nat.le_max_left _ _)), HB.out⟩


theorem under_is {b : Bool} {d L : Nat} {s t : Value} {w : World} (h : Is d L w t) (hL : L ≤ 1000000) : Calls Try.prog 59 #[.agg #[.bool b, s, t]] w (Ret w (Is (un d) (max L 1))) := by
  rcases Nat.eq_zero_or_pos d with h0 | h0
  · exact under_0 h0 h hL
  · exact under_1 h0 h hL

set_option maxRecDepth 100000 in
set_option maxHeartbeats 4000000 in
theorem signed_is {neg : Bool} {na L : Nat} {sa ta : Value}  {w : World} (hna : Is na L w sa) :
    Calls Try.prog 65 #[.agg #[.bool neg, sa, ta]] w (Ret w (CL (iv neg na) L)) := by
  have Hna := Lib.hid hna
  clear hna
  go_enter Try.func65, Try.ntmps65
  have HB := Lib.hid (Below.refl w.heap.size w)
  go_wp2_with fail
  obtain ⟨W1, hW⟩ : ∃ W1, W1 = (World.alloc (World.alloc w (.cells #[.bool neg, sa, ta] 25)) (.cells #[.bool false, .slice none 0 0] 33)) := ⟨_, rfl⟩
  rw [← hW]
  obtain ⟨xa0, xb0, hk, hb⟩ := boxes_2 _ _ _ _ _ hW
  clear hW
  have Hna := Lib.hid (Is.keep Hna.out hk)
  have Ga0 := Lib.hid (show w.heap.size ≤ w.heap.size from Nat.le_trans HB.out.size (by omega))
  have Gb0 := Lib.hid (show w.heap.size ≤ w.heap.size + 1 from Nat.le_trans HB.out.size (by omega))
  have Xa0 := Lib.hid xa0
  have Xb0 := Lib.hid xb0
  have HB := Lib.hid (below_call HB.out hb)
  clear hk hb xa0 xb0
  (first | (have hcall := imake_ai (neg := neg) Hna.out; refine Calls.mono hcall ?_; clear hcall) | refine Calls.mono (imake_ai (neg := neg) Hna.out) ?_)
  rintro e w2 ⟨v2, rfl, hz, hb⟩
  obtain ⟨z_b, z_a, z_n, z_c, rfl⟩ := hz.litb
  have Xa0 := Lib.hid (Box.pcall hb Xa0.out)
  have Xb0 := Lib.hid (Box.pcall hb Xb0.out)
  have HB := Lib.hid (below_call HB.out hb)
  have Hz := Lib.hid hz
  clear hb hz
  obtain ⟨ca00, ca01, ca02, fa00, fa01, fa02⟩ := Xa0.out.c3
  have la0 := Xa0.out.lt
  obtain ⟨cb00, cb01, fb00, fb01⟩ := Xb0.out.c2
  have lb0 := Xb0.out.lt
  go_wp2
  clear ca00 ca01 ca02 fa00 fa01 fa02 la0 cb00 cb01 fb00 fb01 lb0
  obtain ⟨W3, hW⟩ : ∃ W3, W3 = (World.setCell (World.setCell w2 ⟨w.heap.size + 1, 0, none⟩ (.bool z_b)) ⟨w.heap.size + 1, 1, none⟩ (.slice z_a z_n z_c)) := ⟨_, rfl⟩
  rw [← hW]
  obtain ⟨xb0, hk, hf, hbb, hz⟩ := stored2s hW Xb0.out (by first | exact NoInt.bool _ | exact NoInt.slice _ _ _) (by first | exact NoInt.bool _ | exact NoInt.slice _ _ _)
  have Hz := Lib.hid (CL.keep Hz.out hk)
  have Xa0 := Lib.hid (hf _ _ _ Xa0.out (by omega))
  have Xb0 := Lib.hid xb0
  have HB := Lib.hid (hbb _ HB.out Gb0.out)
  clear hW hk hf hbb xb0
  clear hz
  exact ret_int1 rfl rfl rfl Xb0.out Hz.out HB.out


set_option maxRecDepth 100000 in
set_option maxHeartbeats 4000000 in
theorem canon_p {L : Nat} {ba : Bool} {na da : Nat} {sa ta : Value} {w : World} (hna : Is na L w sa) (hda : Is da L w ta) (hL : L ≤ 100000) :
    Calls Try.prog 41 #[.agg #[.bool ba, sa, ta]] w (Ret w (CR (rv ba na da) (max L 1))) := by
  have Hna := Lib.hid hna
  have Hda := Lib.hid hda
  clear hna hda
  go_enter Try.func41, Try.ntmps41
  have HB := Lib.hid (Below.refl w.heap.size w)
  go_wp2_with fail
  obtain ⟨W1, hW⟩ : ∃ W1, W1 = (World.alloc (World.alloc w (.cells #[.bool ba, sa, ta] 25)) (.cells #[.bool false, .slice none 0 0, .slice none 0 0] 25)) := ⟨_, rfl⟩
  rw [← hW]
  obtain ⟨xa0, xb0, hk, hb⟩ := boxes_2 _ _ _ _ _ hW
  clear hW
  have Hna := Lib.hid (Is.keep Hna.out hk)
  have Hda := Lib.hid (Is.keep Hda.out hk)
  have Ga0 := Lib.hid (show w.heap.size ≤ w.heap.size from Nat.le_trans HB.out.size (by omega))
  have Gb0 := Lib.hid (show w.heap.size ≤ w.heap.size + 1 from Nat.le_trans HB.out.size (by omega))
  have Xa0 := Lib.hid xa0
  have Xb0 := Lib.hid xb0
  have HB := Lib.hid (below_call HB.out hb)
  clear hk hb xa0 xb0
  have Hna := Lib.hid (Is.keep Hna.out (Keep.drew W1))
  have Hda := Lib.hid (Is.keep Hda.out (Keep.drew W1))
  have Xa0 := Lib.hid (Box.drew Xa0.out)
  have Xb0 := Lib.hid (Box.drew Xb0.out)
  have HB := Lib.hid (Below.drew HB.out)
  refine wp_region_float [w.heap.size + 1] [] (by kernel_rfl) (by kernel_rfl) 10 (by kernel_rfl) Flok.nil ?_
  intro ok
  have Hok := Lib.hid ok
  clear ok
  have HG := Lib.hid (Below.refl (W1.drew).heap.size (W1.drew))
  refine good_pureX 0 (some 3) (Go.Op.fieldAddr 25 (Go.Operand.tmp 1) 0) (none) (.pointer (some ⟨w.heap.size, 0, none⟩)) (by kernel_rfl) (by kernel_rfl) (by kernel_rfl) (fun _ _ _ h => h) (fun w' hw' => ?_) ?_
  · first | (go_simp; done) | (go_simp; simp_all; done) | (go_simp; rfl)
  simp only [Act.put, List.setIfInBounds_toArray, List.set_cons_zero, List.set_cons_succ]
  refine good_pureX 1 (some 4) (Go.Op.load 4 (Go.Operand.tmp 3)) (none) (.bool ba) (by kernel_rfl) (by kernel_rfl) (by kernel_rfl) (fun _ _ _ h => h) (fun w' hw' => ?_) ?_
  · obtain ⟨ca00, ca01, ca02, fa00, fa01, fa02⟩ := (Box.se hw' Xa0.out (notin1 (by omega))).c3
    first | (go_simp; done) | (go_simp; simp_all; done) | (go_simp; rfl)
  simp only [Act.put, List.setIfInBounds_toArray, List.set_cons_zero, List.set_cons_succ]
  refine good_pureX 2 (some 5) (Go.Op.fieldAddr 25 (Go.Operand.tmp 1) 1) (none) (.pointer (some ⟨w.heap.size, 1, none⟩)) (by kernel_rfl) (by kernel_rfl) (by kernel_rfl) (fun _ _ _ h => h) (fun w' hw' => ?_) ?_
  · first | (go_simp; done) | (go_simp; simp_all; done) | (go_simp; rfl)
  simp only [Act.put, List.setIfInBounds_toArray, List.set_cons_zero, List.set_cons_succ]
  refine good_pureX 3 (some 6) (Go.Op.load 23 (Go.Operand.tmp 5)) (none) (sa) (by kernel_rfl) (by kernel_rfl) (by kernel_rfl) (fun _ _ _ h => h) (fun w' hw' => ?_) ?_
  · obtain ⟨ca00, ca01, ca02, fa00, fa01, fa02⟩ := (Box.se hw' Xa0.out (notin1 (by omega))).c3
    first | (go_simp; done) | (go_simp; simp_all; done) | (go_simp; rfl)
  simp only [Act.put, List.setIfInBounds_toArray, List.set_cons_zero, List.set_cons_succ]
  refine good_pureX 4 (some 7) (Go.Op.load 25 (Go.Operand.tmp 1)) (none) (.agg #[.bool ba, sa, ta]) (by kernel_rfl) (by kernel_rfl) (by kernel_rfl) (fun _ _ _ h => h) (fun w' hw' => ?_) ?_
  · obtain ⟨ca00, ca01, ca02, fa00, fa01, fa02⟩ := (Box.se hw' Xa0.out (notin1 (by omega))).c3
    first | (go_simp; done) | (go_simp; simp_all; done) | (go_simp; rfl)
  simp only [Act.put, List.setIfInBounds_toArray, List.set_cons_zero, List.set_cons_succ]
  refine good_callX 5 59 (some 8) #[Go.Operand.tmp 7] #[25] (none) #[.agg #[.bool ba, sa, ta]] (by kernel_rfl) Hok.out (by kernel_rfl) (by kernel_rfl) (by kernel_rfl) (by kernel_rfl) rfl rfl rfl (by kernel_rfl) (fun w2 hb => ?_)
  have HG := Lib.hid (below_call HG.out hb)
  clear hb
  (first | (have hcall := under_is (b := ba) (Is.keep Hda.out (Keep.call HG.out)) (by omega); refine Calls.mono hcall ?_; clear hcall) | refine Calls.mono (under_is (b := ba) (Is.keep Hda.out (Keep.call HG.out)) (by omega)) ?_)
  rintro e w3 ⟨v3, rfl, hu, hb⟩
  obtain ⟨u_a, u_n, u_c, rfl⟩ := hu.lit
  refine ⟨_, rfl, ?_, hb⟩
  have HG := Lib.hid (below_call HG.out hb)
  have Hu := Lib.hid hu
  clear hb hu
  simp only [Act.put, List.setIfInBounds_toArray, List.set_cons_zero, List.set_cons_succ]
  refine good_callX 6 57 (some 9) #[Go.Operand.tmp 4, Go.Operand.tmp 6, Go.Operand.tmp 8] #[4, 23, 23] (none) #[.bool ba, sa, .slice u_a u_n u_c] (by kernel_rfl) Hok.out (by kernel_rfl) (by kernel_rfl) (by kernel_rfl) (by kernel_rfl) rfl rfl rfl (by kernel_rfl) (fun w4 hb => ?_)
  have Hu := Lib.hid (Is.keep Hu.out (Keep.call hb))
  have HG := Lib.hid (below_call HG.out hb)
  clear hb
  refine Calls.mono (quot_is (neg := ba) (un_pos _) (Is.keep Hna.out (Keep.call HG.out)) Hu.out (by omega) (by omega)) ?_
  rintro e w5 ⟨v5, rfl, hz, hb⟩
  obtain ⟨z_b, z_a, z_n, z_c, z_d, z_m, z_e, rfl⟩ := hz.litb
  refine ⟨_, rfl, ?_, hb⟩
  have HG := Lib.hid (below_call HG.out hb)
  have Hz := Lib.hid hz
  clear hb hz
  simp only [Act.put, List.setIfInBounds_toArray, List.set_cons_zero, List.set_cons_succ]
  refine good_end0 1 (by kernel_rfl) (fun _ w6 hb => ?_)
  have Hz := Lib.hid (CR.keep Hz.out (Keep.call hb))
  have HG := Lib.hid (below_call HG.out hb)
  clear hb
  have Xa0 := Lib.hid (Box.pcall HG.out Xa0.out)
  have Xb0 := Lib.hid (Box.pcall HG.out Xb0.out)
  have HB := Lib.hid (below_call HB.out HG.out)
  have HS := Lib.hid (SE.of (E := [w.heap.size + 1]) HG.out)
  refine held_oneX 7 (Go.Op.store 25 (Go.Operand.tmp 2) (Go.Operand.tmp 9)) (none) (World.setCell (World.setCell (World.setCell w6 ⟨w.heap.size + 1, 0, none⟩ (.bool z_b)) ⟨w.heap.size + 1, 1, none⟩ (.slice z_a z_n z_c)) ⟨w.heap.size + 1, 2, none⟩ (.slice z_d z_m z_e)) (by kernel_rfl) (by kernel_rfl) (by kernel_rfl) (by kernel_rfl) ?_ (HS.out.store3 in1) ?_
  · obtain ⟨cb00, cb01, cb02, fb00, fb01, fb02⟩ := Xb0.out.c3
    first | (go_simp; done) | (go_simp; simp_all; done) | (go_simp; rfl)
  obtain ⟨W7, hW⟩ : ∃ W7, W7 = (World.setCell (World.setCell (World.setCell w6 ⟨w.heap.size + 1, 0, none⟩ (.bool z_b)) ⟨w.heap.size + 1, 1, none⟩ (.slice z_a z_n z_c)) ⟨w.heap.size + 1, 2, none⟩ (.slice z_d z_m z_e)) := ⟨_, rfl⟩
  rw [← hW]
  obtain ⟨xb0, hk, hf, hbb, hz⟩ := stored3s hW Xb0.out (by first | exact NoInt.bool _ | exact NoInt.slice _ _ _) (by first | exact NoInt.bool _ | exact NoInt.slice _ _ _) (by first | exact NoInt.bool _ | exact NoInt.slice _ _ _)
  have Hz := Lib.hid (CR.keep Hz.out hk)
  have Xa0 := Lib.hid (hf _ _ _ Xa0.out (by omega))
  have Xb0 := Lib.hid xb0
  have HB := Lib.hid (hbb _ HB.out Gb0.out)
  have HS := Lib.hid (show SE (W1.drew) [w.heap.size + 1] W7 from by rw [hW]; exact HS.out.store3 in1)
  clear hW hk hf hbb xb0
  clear hz
  refine wpAnyH_done (by kernel_rfl) ?_ _
  clear HG HS Hok 
  obtain ⟨ca00, ca01, ca02, fa00, fa01, fa02⟩ := Xa0.out.c3
  have la0 := Xa0.out.lt
  obtain ⟨cb00, cb01, cb02, fb00, fb01, fb02⟩ := Xb0.out.c3
  have lb0 := Xb0.out.lt
  go_wp2
  clear ca00 ca01 ca02 fa00 fa01 fa02 la0 cb00 cb01 cb02 fb00 fb01 fb02 lb0
  exact ret_rat1 rfl rfl rfl Xb0.out (CR.mono Hz.out (by omega)) HB.out


theorem canon_ar {q : Rat} {L : Nat} {v : Value} {w : World} (h : AR q L w v) (hL : L ≤ 100000) : Calls Try.prog 41 #[v] w (Ret w (CR q (max L 1))) := by
  obtain ⟨b, s, t, n, d, rfl, h1, h2, rfl⟩ := h
  exact canon_p h1 h2 hL

set_option maxRecDepth 100000 in
set_option maxHeartbeats 4000000 in
theorem whole_p {L : Nat} {ba : Bool} {na : Nat} {sa : Value} {w : World} (hna : Is na L w sa) (hL : L ≤ 100000) :
    Calls Try.prog 74 #[.agg #[.bool ba, sa]] w (Ret w (CR ((iv ba na : Int) : Rat) (max L 1))) := by
  have Hna := Lib.hid hna
  clear hna
  go_enter Try.func74, Try.ntmps74
  have HB := Lib.hid (Below.refl w.heap.size w)
  go_wp2_with fail
  obtain ⟨W1, hW⟩ : ∃ W1, W1 = (World.alloc (World.alloc w (.cells #[.bool ba, sa] 33)) (.cells #[.bool false, .slice none 0 0, .slice none 0 0] 25)) := ⟨_, rfl⟩
  rw [← hW]
  obtain ⟨xa0, xb0, hk, hb⟩ := boxes_2 _ _ _ _ _ hW
  clear hW
  have Hna := Lib.hid (Is.keep Hna.out hk)
  have Ga0 := Lib.hid (show w.heap.size ≤ w.heap.size from Nat.le_trans HB.out.size (by omega))
  have Gb0 := Lib.hid (show w.heap.size ≤ w.heap.size + 1 from Nat.le_trans HB.out.size (by omega))
  have Xa0 := Lib.hid xa0
  have Xb0 := Lib.hid xb0
  have HB := Lib.hid (below_call HB.out hb)
  clear hk hb xa0 xb0
  have Hna := Lib.hid (Is.keep Hna.out (Keep.drew W1))
  have Xa0 := Lib.hid (Box.drew Xa0.out)
  have Xb0 := Lib.hid (Box.drew Xb0.out)
  have HB := Lib.hid (Below.drew HB.out)
  refine wp_region_float [w.heap.size + 1] [] (by kernel_rfl) (by kernel_rfl) 9 (by kernel_rfl) Flok.nil ?_
  intro ok
  have Hok := Lib.hid ok
  clear ok
  have HG := Lib.hid (Below.refl (W1.drew).heap.size (W1.drew))
  refine good_pureX 0 (some 3) (Go.Op.fieldAddr 33 (Go.Operand.tmp 1) 0) (none) (.pointer (some ⟨w.heap.size, 0, none⟩)) (by kernel_rfl) (by kernel_rfl) (by kernel_rfl) (fun _ _ _ h => h) (fun w' hw' => ?_) ?_
  · first | (go_simp; done) | (go_simp; simp_all; done) | (go_simp; rfl)
  simp only [Act.put, List.setIfInBounds_toArray, List.set_cons_zero, List.set_cons_succ]
  refine good_pureX 1 (some 4) (Go.Op.load 4 (Go.Operand.tmp 3)) (none) (.bool ba) (by kernel_rfl) (by kernel_rfl) (by kernel_rfl) (fun _ _ _ h => h) (fun w' hw' => ?_) ?_
  · obtain ⟨ca00, ca01, fa00, fa01⟩ := (Box.se hw' Xa0.out (notin1 (by omega))).c2
    first | (go_simp; done) | (go_simp; simp_all; done) | (go_simp; rfl)
  simp only [Act.put, List.setIfInBounds_toArray, List.set_cons_zero, List.set_cons_succ]
  refine good_pureX 2 (some 5) (Go.Op.fieldAddr 33 (Go.Operand.tmp 1) 1) (none) (.pointer (some ⟨w.heap.size, 1, none⟩)) (by kernel_rfl) (by kernel_rfl) (by kernel_rfl) (fun _ _ _ h => h) (fun w' hw' => ?_) ?_
  · first | (go_simp; done) | (go_simp; simp_all; done) | (go_simp; rfl)
  simp only [Act.put, List.setIfInBounds_toArray, List.set_cons_zero, List.set_cons_succ]
  refine good_pureX 3 (some 6) (Go.Op.load 23 (Go.Operand.tmp 5)) (none) (sa) (by kernel_rfl) (by kernel_rfl) (by kernel_rfl) (fun _ _ _ h => h) (fun w' hw' => ?_) ?_
  · obtain ⟨ca00, ca01, fa00, fa01⟩ := (Box.se hw' Xa0.out (notin1 (by omega))).c2
    first | (go_simp; done) | (go_simp; simp_all; done) | (go_simp; rfl)
  simp only [Act.put, List.setIfInBounds_toArray, List.set_cons_zero, List.set_cons_succ]
  refine good_callX 4 90 (some 7) #[] #[] (none) #[] (by kernel_rfl) Hok.out (by kernel_rfl) (by kernel_rfl) (by kernel_rfl) (by kernel_rfl) rfl rfl rfl (by kernel_rfl) (fun w2 hb => ?_)
  have HG := Lib.hid (below_call HG.out hb)
  clear hb
  refine Calls.mono (one_is _) ?_
  rintro e w3 ⟨v3, rfl, hu, hb⟩
  obtain ⟨u_a, u_n, u_c, rfl⟩ := hu.lit
  refine ⟨_, rfl, ?_, hb⟩
  have HG := Lib.hid (below_call HG.out hb)
  have Hu := Lib.hid hu
  clear hb hu
  simp only [Act.put, List.setIfInBounds_toArray, List.set_cons_zero, List.set_cons_succ]
  refine good_callX 5 57 (some 8) #[Go.Operand.tmp 4, Go.Operand.tmp 6, Go.Operand.tmp 7] #[4, 23, 23] (none) #[.bool ba, sa, .slice u_a u_n u_c] (by kernel_rfl) Hok.out (by kernel_rfl) (by kernel_rfl) (by kernel_rfl) (by kernel_rfl) rfl rfl rfl (by kernel_rfl) (fun w4 hb => ?_)
  have Hu := Lib.hid (Is.keep Hu.out (Keep.call hb))
  have HG := Lib.hid (below_call HG.out hb)
  clear hb
  (first | (have hcall := quot_is (neg := ba) (by decide) (Is.keep Hna.out (Keep.call HG.out)) Hu.out (by omega) (by omega); refine Calls.mono hcall ?_; clear hcall) | refine Calls.mono (quot_is (neg := ba) (by decide) (Is.keep Hna.out (Keep.call HG.out)) Hu.out (by omega) (by omega)) ?_)
  rintro e w5 ⟨v5, rfl, hz, hb⟩
  obtain ⟨z_b, z_a, z_n, z_c, z_d, z_m, z_e, rfl⟩ := hz.litb
  refine ⟨_, rfl, ?_, hb⟩
  have HG := Lib.hid (below_call HG.out hb)
  have Hz := Lib.hid hz
  clear hb hz
  simp only [Act.put, List.setIfInBounds_toArray, List.set_cons_zero, List.set_cons_succ]
  refine good_end0 1 (by kernel_rfl) (fun _ w6 hb => ?_)
  have Hz := Lib.hid (CR.keep Hz.out (Keep.call hb))
  have HG := Lib.hid (below_call HG.out hb)
  clear hb
  have Xa0 := Lib.hid (Box.pcall HG.out Xa0.out)
  have Xb0 := Lib.hid (Box.pcall HG.out Xb0.out)
  have HB := Lib.hid (below_call HB.out HG.out)
  have HS := Lib.hid (SE.of (E := [w.heap.size + 1]) HG.out)
  refine held_oneX 6 (Go.Op.store 25 (Go.Operand.tmp 2) (Go.Operand.tmp 8)) (none) (World.setCell (World.setCell (World.setCell w6 ⟨w.heap.size + 1, 0, none⟩ (.bool z_b)) ⟨w.heap.size + 1, 1, none⟩ (.slice z_a z_n z_c)) ⟨w.heap.size + 1, 2, none⟩ (.slice z_d z_m z_e)) (by kernel_rfl) (by kernel_rfl) (by kernel_rfl) (by kernel_rfl) ?_ (HS.out.store3 in1) ?_
  · obtain ⟨cb00, cb01, cb02, fb00, fb01, fb02⟩ := Xb0.out.c3
    first | (go_simp; done) | (go_simp; simp_all; done) | (go_simp; rfl)
  obtain ⟨W7, hW⟩ : ∃ W7, W7 = (World.setCell (World.setCell (World.setCell w6 ⟨w.heap.size + 1, 0, none⟩ (.bool z_b)) ⟨w.heap.size + 1, 1, none⟩ (.slice z_a z_n z_c)) ⟨w.heap.size + 1, 2, none⟩ (.slice z_d z_m z_e)) := ⟨_, rfl⟩
  rw [← hW]
  obtain ⟨xb0, hk, hf, hbb, hz⟩ := stored3s hW Xb0.out (by first | exact NoInt.bool _ | exact NoInt.slice _ _ _) (by first | exact NoInt.bool _ | exact NoInt.slice _ _ _) (by first | exact NoInt.bool _ | exact NoInt.slice _ _ _)
  have Hz := Lib.hid (CR.keep Hz.out hk)
  have Xa0 := Lib.hid (hf _ _ _ Xa0.out (by omega))
  have Xb0 := Lib.hid xb0
  have HB := Lib.hid (hbb _ HB.out Gb0.out)
  have HS := Lib.hid (show SE (W1.drew) [w.heap.size + 1] W7 from by rw [hW]; exact HS.out.store3 in1)
  clear hW hk hf hbb xb0
  clear hz
  refine wpAnyH_done (by kernel_rfl) ?_ _
  clear HG HS Hok 
  obtain ⟨ca00, ca01, fa00, fa01⟩ := Xa0.out.c2
  have la0 := Xa0.out.lt
  obtain ⟨cb00, cb01, cb02, fb00, fb01, fb02⟩ := Xb0.out.c3
  have lb0 := Xb0.out.lt
  go_wp2
  clear ca00 ca01 fa00 fa01 la0 cb00 cb01 cb02 fb00 fb01 fb02 lb0
  exact ret_rat1 rfl rfl rfl Xb0.out (CR.cast (mkRat_one _) Hz.out) HB.out


theorem whole_ai {z : Int} {L : Nat} {v : Value} {w : World} (h : AI z L w v) (hL : L ≤ 100000) : Calls Try.prog 74 #[v] w (Ret w (CR (z : Rat) (max L 1))) := by
  obtain ⟨b, s, n, rfl, h1, rfl⟩ := h
  exact whole_p h1 hL

set_option maxRecDepth 100000 in
set_option maxHeartbeats 4000000 in
theorem of_rat {x : Int}  {w : World} (h1 : -9223372036854775808 ≤ x) (h2 : x < 9223372036854775808) :
    Calls Try.prog 40 #[.int .i64 x] w (Ret w (CR (x : Rat) 2)) := by
  go_enter Try.func40, Try.ntmps40
  have HB := Lib.hid (Below.refl w.heap.size w)
  go_wp2_with fail
  obtain ⟨W1, hW⟩ : ∃ W1, W1 = (World.alloc w (.cells #[.bool false, .slice none 0 0, .slice none 0 0] 25)) := ⟨_, rfl⟩
  rw [← hW]
  obtain ⟨xa0, hk, hb⟩ := boxes_1 _ _ _ hW
  clear hW
  have Ga0 := Lib.hid (show w.heap.size ≤ w.heap.size from Nat.le_trans HB.out.size (by omega))
  have Xa0 := Lib.hid xa0
  have HB := Lib.hid (below_call HB.out hb)
  clear hk hb xa0
  refine Calls.mono (iof_any h1 h2) ?_
  rintro e w2 ⟨v2, rfl, ho, hb⟩
  obtain ⟨o_b, o_a, o_n, o_c, rfl⟩ := ho.litb
  have Xa0 := Lib.hid (Box.pcall hb Xa0.out)
  have HB := Lib.hid (below_call HB.out hb)
  have Ho := Lib.hid ho
  clear hb ho
  obtain ⟨ca00, ca01, ca02, fa00, fa01, fa02⟩ := Xa0.out.c3
  have la0 := Xa0.out.lt
  go_wp2_with fail
  clear ca00 ca01 ca02 fa00 fa01 fa02 la0
  (first | (have hcall := whole_ai Ho.out.ai (by omega); refine Calls.mono hcall ?_; clear hcall) | refine Calls.mono (whole_ai Ho.out.ai (by omega)) ?_)
  rintro e w3 ⟨v3, rfl, hz, hb⟩
  obtain ⟨z_b, z_a, z_n, z_c, z_d, z_m, z_e, rfl⟩ := hz.litb
  have Xa0 := Lib.hid (Box.pcall hb Xa0.out)
  have HB := Lib.hid (below_call HB.out hb)
  have Hz := Lib.hid hz
  clear hb hz
  obtain ⟨ca00, ca01, ca02, fa00, fa01, fa02⟩ := Xa0.out.c3
  have la0 := Xa0.out.lt
  go_wp2
  clear ca00 ca01 ca02 fa00 fa01 fa02 la0
  obtain ⟨W4, hW⟩ : ∃ W4, W4 = (World.setCell (World.setCell (World.setCell w3 ⟨w.heap.size, 0, none⟩ (.bool z_b)) ⟨w.heap.size, 1, none⟩ (.slice z_a z_n z_c)) ⟨w.heap.size, 2, none⟩ (.slice z_d z_m z_e)) := ⟨_, rfl⟩
  rw [← hW]
  obtain ⟨xa0, hk, hf, hbb, hz⟩ := stored3s hW Xa0.out (by first | exact NoInt.bool _ | exact NoInt.slice _ _ _) (by first | exact NoInt.bool _ | exact NoInt.slice _ _ _) (by first | exact NoInt.bool _ | exact NoInt.slice _ _ _)
  have Hz := Lib.hid (CR.keep Hz.out hk)
  have Xa0 := Lib.hid xa0
  have HB := Lib.hid (hbb _ HB.out Ga0.out)
  clear hW hk hf hbb xa0
  clear hz
  exact ret_rat1 rfl rfl rfl Xa0.out Hz.out HB.out


set_option maxRecDepth 100000 in
set_option maxHeartbeats 4000000 in
theorem rmk_0 {L M : Nat} {ba : Bool} {na : Nat} {sa : Value} {bb : Bool} {nb : Nat} {sb : Value} {w : World} (hk : (iv bb nb).sign = 0) (hna : Is na L w sa) (hnb : Is nb M w sb) (hL : L ≤ 100000) (hM : M ≤ 100000) :
    Calls Try.prog 37 #[.agg #[.bool ba, sa], .agg #[.bool bb, sb]] w (Ret w (Val (.tuple #[.agg #[.bool false, .slice none 0 0, .slice none 0 0], .int .i64 3]))) := by
  have Hna := Lib.hid hna
  have Hnb := Lib.hid hnb
  have Hk := Lib.hid hk
  clear hna hnb hk
  go_enter Try.func37, Try.ntmps37
  have HB := Lib.hid (Below.refl w.heap.size w)
  go_wp2_with fail
  obtain ⟨W1, hW⟩ : ∃ W1, W1 = (World.alloc (World.alloc (World.alloc w (.cells #[.bool ba, sa] 33)) (.cells #[.bool bb, sb] 33)) (.cells #[.bool false, .slice none 0 0, .slice none 0 0] 25)) := ⟨_, rfl⟩
  rw [← hW]
  obtain ⟨xa0, xb0, xc0, hk, hb⟩ := boxes_3 _ _ _ _ _ _ _ hW
  clear hW
  have Hnb := Lib.hid (Is.keep Hnb.out hk)
  have Ga0 := Lib.hid (show w.heap.size ≤ w.heap.size from Nat.le_trans HB.out.size (by omega))
  have Gb0 := Lib.hid (show w.heap.size ≤ w.heap.size + 1 from Nat.le_trans HB.out.size (by omega))
  have Gc0 := Lib.hid (show w.heap.size ≤ w.heap.size + 1 + 1 from Nat.le_trans HB.out.size (by omega))
  have Xa0 := Lib.hid xa0
  have Xb0 := Lib.hid xb0
  have Xc0 := Lib.hid xc0
  have HB := Lib.hid (below_call HB.out hb)
  clear hk hb xa0 xb0 xc0
  (first | (have hcall := isign_ai 0 (AI.mk (n := bb) Hnb.out) Hk.out (by omega); refine Calls.mono hcall ?_; clear hcall) | refine Calls.mono (isign_ai 0 (AI.mk (n := bb) Hnb.out) Hk.out (by omega)) ?_)
  rintro e w2 ⟨v2, rfl, rfl, hb⟩
  have Xa0 := Lib.hid (Box.pcall hb Xa0.out)
  have Xb0 := Lib.hid (Box.pcall hb Xb0.out)
  have Xc0 := Lib.hid (Box.pcall hb Xc0.out)
  have HB := Lib.hid (below_call HB.out hb)
  clear hb
  obtain ⟨ca00, ca01, fa00, fa01⟩ := Xa0.out.c2
  have la0 := Xa0.out.lt
  obtain ⟨cb00, cb01, fb00, fb01⟩ := Xb0.out.c2
  have lb0 := Xb0.out.lt
  obtain ⟨cc00, cc01, cc02, fc00, fc01, fc02⟩ := Xc0.out.c3
  have lc0 := Xc0.out.lt
  go_wp2
  clear ca00 ca01 fa00 fa01 la0 cb00 cb01 fb00 fb01 lb0 cc00 cc01 cc02 fc00 fc01 fc02 lc0
  obtain ⟨W3, hW⟩ : ∃ W3, W3 = (World.setCell (World.setCell (World.setCell w2 ⟨w.heap.size + 1 + 1, 0, none⟩ (.bool false)) ⟨w.heap.size + 1 + 1, 1, none⟩ (.slice none 0 0)) ⟨w.heap.size + 1 + 1, 2, none⟩ (.slice none 0 0)) := ⟨_, rfl⟩
  rw [← hW]
  obtain ⟨xc0, hk, hf, hbb, hz⟩ := stored3s hW Xc0.out (by first | exact NoInt.bool _ | exact NoInt.slice _ _ _) (by first | exact NoInt.bool _ | exact NoInt.slice _ _ _) (by first | exact NoInt.bool _ | exact NoInt.slice _ _ _)
  have Xa0 := Lib.hid (hf _ _ _ Xa0.out (by omega))
  have Xb0 := Lib.hid (hf _ _ _ Xb0.out (by omega))
  have Xc0 := Lib.hid xc0
  have HB := Lib.hid (hbb _ HB.out Gc0.out)
  clear hW hk hf hbb xc0
  clear hz
  exact ret_re rfl rfl rfl rfl Xc0.out rfl HB.out


set_option maxRecDepth 100000 in
set_option maxHeartbeats 4000000 in
theorem rmk_1 {L M : Nat} {ba : Bool} {na : Nat} {sa : Value} {bb : Bool} {nb : Nat} {sb : Value} {w : World} (k : Int) (hk : (iv bb nb).sign = k) (hk0 : (k == 0) = false) (hp : 0 < nb) (hna : Is na L w sa) (hnb : Is nb M w sb) (hL : L ≤ 100000) (hM : M ≤ 100000) :
    Calls Try.prog 37 #[.agg #[.bool ba, sa], .agg #[.bool bb, sb]] w (Ret w (CRE ((iv ba na : Int) / (iv bb nb : Int)) (max L M) 0)) := by
  have Hna := Lib.hid hna
  have Hnb := Lib.hid hnb
  have Hk := Lib.hid hk
  have Hk0 := Lib.hid hk0
  have Hp := Lib.hid hp
  clear hna hnb hk hk0 hp
  go_enter Try.func37, Try.ntmps37
  have HB := Lib.hid (Below.refl w.heap.size w)
  go_wp2_with fail
  obtain ⟨W1, hW⟩ : ∃ W1, W1 = (World.alloc (World.alloc (World.alloc w (.cells #[.bool ba, sa] 33)) (.cells #[.bool bb, sb] 33)) (.cells #[.bool false, .slice none 0 0, .slice none 0 0] 25)) := ⟨_, rfl⟩
  rw [← hW]
  obtain ⟨xa0, xb0, xc0, hk, hb⟩ := boxes_3 _ _ _ _ _ _ _ hW
  clear hW
  have Hna := Lib.hid (Is.keep Hna.out hk)
  have Hnb := Lib.hid (Is.keep Hnb.out hk)
  have Ga0 := Lib.hid (show w.heap.size ≤ w.heap.size from Nat.le_trans HB.out.size (by omega))
  have Gb0 := Lib.hid (show w.heap.size ≤ w.heap.size + 1 from Nat.le_trans HB.out.size (by omega))
  have Gc0 := Lib.hid (show w.heap.size ≤ w.heap.size + 1 + 1 from Nat.le_trans HB.out.size (by omega))
  have Xa0 := Lib.hid xa0
  have Xb0 := Lib.hid xb0
  have Xc0 := Lib.hid xc0
  have HB := Lib.hid (below_call HB.out hb)
  clear hk hb xa0 xb0 xc0
  (first | (have hcall := isign_ai k (AI.mk (n := bb) Hnb.out) Hk.out (by omega); refine Calls.mono hcall ?_; clear hcall) | refine Calls.mono (isign_ai k (AI.mk (n := bb) Hnb.out) Hk.out (by omega)) ?_)
  rintro e w2 ⟨v2, rfl, rfl, hb⟩
  have Hna := Lib.hid (Is.keep Hna.out (Keep.call hb))
  have Hnb := Lib.hid (Is.keep Hnb.out (Keep.call hb))
  have Xa0 := Lib.hid (Box.pcall hb Xa0.out)
  have Xb0 := Lib.hid (Box.pcall hb Xb0.out)
  have Xc0 := Lib.hid (Box.pcall hb Xc0.out)
  have HB := Lib.hid (below_call HB.out hb)
  clear hb
  have hk0 : (k == 0) = false := Hk0.out
  obtain ⟨ca00, ca01, fa00, fa01⟩ := Xa0.out.c2
  have la0 := Xa0.out.lt
  obtain ⟨cb00, cb01, fb00, fb01⟩ := Xb0.out.c2
  have lb0 := Xb0.out.lt
  obtain ⟨cc00, cc01, cc02, fc00, fc01, fc02⟩ := Xc0.out.c3
  have lc0 := Xc0.out.lt
  go_wp2_with fail
  clear ca00 ca01 fa00 fa01 la0 cb00 cb01 fb00 fb01 lb0 cc00 cc01 cc02 fc00 fc01 fc02 lc0
  (first | (have hcall := quot_is (neg := (!ba == bb)) (Hp.out) Hna.out Hnb.out (by omega) (by omega); refine Calls.mono hcall ?_; clear hcall) | refine Calls.mono (quot_is (neg := (!ba == bb)) (Hp.out) Hna.out Hnb.out (by omega) (by omega)) ?_)
  rintro e w3 ⟨v3, rfl, hz, hb⟩
  obtain ⟨z_b, z_a, z_n, z_c, z_d, z_m, z_e, rfl⟩ := hz.litb
  have Xa0 := Lib.hid (Box.pcall hb Xa0.out)
  have Xb0 := Lib.hid (Box.pcall hb Xb0.out)
  have Xc0 := Lib.hid (Box.pcall hb Xc0.out)
  have HB := Lib.hid (below_call HB.out hb)
  have Hz := Lib.hid hz
  clear hb hz
  obtain ⟨ca00, ca01, fa00, fa01⟩ := Xa0.out.c2
  have la0 := Xa0.out.lt
  obtain ⟨cb00, cb01, fb00, fb01⟩ := Xb0.out.c2
  have lb0 := Xb0.out.lt
  obtain ⟨cc00, cc01, cc02, fc00, fc01, fc02⟩ := Xc0.out.c3
  have lc0 := Xc0.out.lt
  go_wp2
  clear ca00 ca01 fa00 fa01 la0 cb00 cb01 fb00 fb01 lb0 cc00 cc01 cc02 fc00 fc01 fc02 lc0
  obtain ⟨W4, hW⟩ : ∃ W4, W4 = (World.setCell (World.setCell (World.setCell w3 ⟨w.heap.size + 1 + 1, 0, none⟩ (.bool z_b)) ⟨w.heap.size + 1 + 1, 1, none⟩ (.slice z_a z_n z_c)) ⟨w.heap.size + 1 + 1, 2, none⟩ (.slice z_d z_m z_e)) := ⟨_, rfl⟩
  rw [← hW]
  obtain ⟨xc0, hk, hf, hbb, hz⟩ := stored3s hW Xc0.out (by first | exact NoInt.bool _ | exact NoInt.slice _ _ _) (by first | exact NoInt.bool _ | exact NoInt.slice _ _ _) (by first | exact NoInt.bool _ | exact NoInt.slice _ _ _)
  have Hz := Lib.hid (CR.keep Hz.out hk)
  have Xa0 := Lib.hid (hf _ _ _ Xa0.out (by omega))
  have Xb0 := Lib.hid (hf _ _ _ Xb0.out (by omega))
  have Xc0 := Lib.hid xc0
  have HB := Lib.hid (hbb _ HB.out Gc0.out)
  clear hW hk hf hbb xc0
  clear hz
  exact ret_re rfl rfl rfl rfl Xc0.out ⟨_, rfl, CR.cast (div_sign _ _ _ _ Hp.out) Hz.out⟩ HB.out


theorem rmk_ai {y z : Int} {L M : Nat} {u v : Value} {w : World} (hz : z ≠ 0) (h : AI y L w u) (h' : AI z M w v) (hL : L ≤ 100000) (hM : M ≤ 100000) :
    Calls Try.prog 37 #[u, v] w (Ret w (CRE ((y : Rat) / (z : Rat)) (max L M) 0)) := by
  obtain ⟨ba, sa, na, rfl, h1, rfl⟩ := h
  obtain ⟨bb, sb, nb, rfl, h2, rfl⟩ := h'
  have hp : 0 < nb := by
    rcases Nat.eq_zero_or_pos nb with rfl | h0
    · exact absurd (by cases bb <;> rfl) hz
    · exact h0
  exact rmk_1 _ rfl (by simpa [Int.sign_eq_zero_iff_zero] using hz) hp h1 h2 hL hM
theorem rmk_zero {y z : Int} {L M : Nat} {u v : Value} {w : World} (hz : z = 0) (h : AI y L w u) (h' : AI z M w v) (hL : L ≤ 100000) (hM : M ≤ 100000) :
    Calls Try.prog 37 #[u, v] w (Ret w (Val (.tuple #[.agg #[.bool false, .slice none 0 0, .slice none 0 0], .int .i64 3]))) := by
  obtain ⟨ba, sa, na, rfl, h1, rfl⟩ := h
  obtain ⟨bb, sb, nb, rfl, h2, rfl⟩ := h'
  exact rmk_0 (by rw [hz]; rfl) h1 h2 hL hM

set_option maxRecDepth 100000 in
set_option maxHeartbeats 4000000 in
theorem rfrac_0 {x y : Int}  {w : World} (h1 : -9223372036854775808 ≤ x) (h2 : x < 9223372036854775808) (h3 : -9223372036854775808 ≤ y) (h4 : y < 9223372036854775808) (hz : y = 0) :
    Calls Try.prog 39 #[.int .i64 x, .int .i64 y] w (Ret w (Val (.tuple #[.agg #[.bool false, .slice none 0 0, .slice none 0 0], .int .i64 3]))) := by
  have Hz := Lib.hid hz
  clear hz
  go_enter Try.func39, Try.ntmps39
  have HB := Lib.hid (Below.refl w.heap.size w)
  go_wp2_with fail
  obtain ⟨W1, hW⟩ : ∃ W1, W1 = (World.alloc w (.cells #[.bool false, .slice none 0 0, .slice none 0 0] 25)) := ⟨_, rfl⟩
  rw [← hW]
  obtain ⟨xa0, hk, hb⟩ := boxes_1 _ _ _ hW
  clear hW
  have Ga0 := Lib.hid (show w.heap.size ≤ w.heap.size from Nat.le_trans HB.out.size (by omega))
  have Xa0 := Lib.hid xa0
  have HB := Lib.hid (below_call HB.out hb)
  clear hk hb xa0
  refine Calls.mono (iof_any h1 h2) ?_
  rintro e w2 ⟨v2, rfl, ho, hb⟩
  obtain ⟨o_b, o_a, o_n, o_c, rfl⟩ := ho.litb
  have Xa0 := Lib.hid (Box.pcall hb Xa0.out)
  have HB := Lib.hid (below_call HB.out hb)
  have Ho := Lib.hid ho
  clear hb ho
  obtain ⟨ca00, ca01, ca02, fa00, fa01, fa02⟩ := Xa0.out.c3
  have la0 := Xa0.out.lt
  go_wp2_with fail
  clear ca00 ca01 ca02 fa00 fa01 fa02 la0
  refine Calls.mono (iof_any h3 h4) ?_
  rintro e w3 ⟨v3, rfl, hp, hb⟩
  obtain ⟨p_b, p_a, p_n, p_c, rfl⟩ := hp.litb
  have Ho := Lib.hid (CL.keep Ho.out (Keep.call hb))
  have Xa0 := Lib.hid (Box.pcall hb Xa0.out)
  have HB := Lib.hid (below_call HB.out hb)
  have Hp := Lib.hid hp
  clear hb hp
  obtain ⟨ca00, ca01, ca02, fa00, fa01, fa02⟩ := Xa0.out.c3
  have la0 := Xa0.out.lt
  go_wp2_with fail
  clear ca00 ca01 ca02 fa00 fa01 fa02 la0
  (first | (have hcall := rmk_zero Hz.out Ho.out.ai Hp.out.ai (by decide) (by decide); refine Calls.mono hcall ?_; clear hcall) | refine Calls.mono (rmk_zero Hz.out Ho.out.ai Hp.out.ai (by decide) (by decide)) ?_)
  rintro e w4 ⟨v4, rfl, rfl, hb⟩
  have Xa0 := Lib.hid (Box.pcall hb Xa0.out)
  have HB := Lib.hid (below_call HB.out hb)
  clear hb
  obtain ⟨ca00, ca01, ca02, fa00, fa01, fa02⟩ := Xa0.out.c3
  have la0 := Xa0.out.lt
  go_wp2
  clear ca00 ca01 ca02 fa00 fa01 fa02 la0
  obtain ⟨W5, hW⟩ : ∃ W5, W5 = (World.setCell (World.setCell (World.setCell w4 ⟨w.heap.size, 0, none⟩ (.bool false)) ⟨w.heap.size, 1, none⟩ (.slice none 0 0)) ⟨w.heap.size, 2, none⟩ (.slice none 0 0)) := ⟨_, rfl⟩
  rw [← hW]
  obtain ⟨xa0, hk, hf, hbb, hz⟩ := stored3s hW Xa0.out (by first | exact NoInt.bool _ | exact NoInt.slice _ _ _) (by first | exact NoInt.bool _ | exact NoInt.slice _ _ _) (by first | exact NoInt.bool _ | exact NoInt.slice _ _ _)
  have Xa0 := Lib.hid xa0
  have HB := Lib.hid (hbb _ HB.out Ga0.out)
  clear hW hk hf hbb xa0
  clear hz
  exact ret_re rfl rfl rfl rfl Xa0.out rfl HB.out


set_option maxRecDepth 100000 in
set_option maxHeartbeats 4000000 in
theorem rfrac_1 {x y : Int}  {w : World} (h1 : -9223372036854775808 ≤ x) (h2 : x < 9223372036854775808) (h3 : -9223372036854775808 ≤ y) (h4 : y < 9223372036854775808) (hz : y ≠ 0) :
    Calls Try.prog 39 #[.int .i64 x, .int .i64 y] w (Ret w (CRE ((x : Rat) / (y : Rat)) 2 0)) := by
  have Hz := Lib.hid hz
  clear hz
  go_enter Try.func39, Try.ntmps39
  have HB := Lib.hid (Below.refl w.heap.size w)
  go_wp2_with fail
  obtain ⟨W1, hW⟩ : ∃ W1, W1 = (World.alloc w (.cells #[.bool false, .slice none 0 0, .slice none 0 0] 25)) := ⟨_, rfl⟩
  rw [← hW]
  obtain ⟨xa0, hk, hb⟩ := boxes_1 _ _ _ hW
  clear hW
  have Ga0 := Lib.hid (show w.heap.size ≤ w.heap.size from Nat.le_trans HB.out.size (by omega))
  have Xa0 := Lib.hid xa0
  have HB := Lib.hid (below_call HB.out hb)
  clear hk hb xa0
  refine Calls.mono (iof_any h1 h2) ?_
  rintro e w2 ⟨v2, rfl, ho, hb⟩
  obtain ⟨o_b, o_a, o_n, o_c, rfl⟩ := ho.litb
  have Xa0 := Lib.hid (Box.pcall hb Xa0.out)
  have HB := Lib.hid (below_call HB.out hb)
  have Ho := Lib.hid ho
  clear hb ho
  obtain ⟨ca00, ca01, ca02, fa00, fa01, fa02⟩ := Xa0.out.c3
  have la0 := Xa0.out.lt
  go_wp2_with fail
  clear ca00 ca01 ca02 fa00 fa01 fa02 la0
  refine Calls.mono (iof_any h3 h4) ?_
  rintro e w3 ⟨v3, rfl, hp, hb⟩
  obtain ⟨p_b, p_a, p_n, p_c, rfl⟩ := hp.litb
  have Ho := Lib.hid (CL.keep Ho.out (Keep.call hb))
  have Xa0 := Lib.hid (Box.pcall hb Xa0.out)
  have HB := Lib.hid (below_call HB.out hb)
  have Hp := Lib.hid hp
  clear hb hp
  obtain ⟨ca00, ca01, ca02, fa00, fa01, fa02⟩ := Xa0.out.c3
  have la0 := Xa0.out.lt
  go_wp2_with fail
  clear ca00 ca01 ca02 fa00 fa01 fa02 la0
  (first | (have hcall := rmk_ai Hz.out Ho.out.ai Hp.out.ai (by decide) (by decide); refine Calls.mono hcall ?_; clear hcall) | refine Calls.mono (rmk_ai Hz.out Ho.out.ai Hp.out.ai (by decide) (by decide)) ?_)
  rintro e w4 ⟨t4, rfl, ⟨v4, rfl, hz⟩, hb⟩
  obtain ⟨z_b, z_a, z_n, z_c, z_d, z_m, z_e, rfl⟩ := hz.litb
  have Xa0 := Lib.hid (Box.pcall hb Xa0.out)
  have HB := Lib.hid (below_call HB.out hb)
  have Hz := Lib.hid hz
  clear hb hz
  obtain ⟨ca00, ca01, ca02, fa00, fa01, fa02⟩ := Xa0.out.c3
  have la0 := Xa0.out.lt
  go_wp2
  clear ca00 ca01 ca02 fa00 fa01 fa02 la0
  obtain ⟨W5, hW⟩ : ∃ W5, W5 = (World.setCell (World.setCell (World.setCell w4 ⟨w.heap.size, 0, none⟩ (.bool z_b)) ⟨w.heap.size, 1, none⟩ (.slice z_a z_n z_c)) ⟨w.heap.size, 2, none⟩ (.slice z_d z_m z_e)) := ⟨_, rfl⟩
  rw [← hW]
  obtain ⟨xa0, hk, hf, hbb, hz⟩ := stored3s hW Xa0.out (by first | exact NoInt.bool _ | exact NoInt.slice _ _ _) (by first | exact NoInt.bool _ | exact NoInt.slice _ _ _) (by first | exact NoInt.bool _ | exact NoInt.slice _ _ _)
  have Hz := Lib.hid (CR.keep Hz.out hk)
  have Xa0 := Lib.hid xa0
  have HB := Lib.hid (hbb _ HB.out Ga0.out)
  clear hW hk hf hbb xa0
  clear hz
  exact ret_re rfl rfl rfl rfl Xa0.out ⟨_, rfl, Hz.out⟩ HB.out


set_option maxRecDepth 100000 in
set_option maxHeartbeats 4000000 in
theorem rnum_p {L : Nat} {ba : Bool} {na da : Nat} {sa ta : Value} {w : World} (hna : Is na L w sa) (hda : Is da L w ta) (hL : L ≤ 100000) :
    Calls Try.prog 45 #[.agg #[.bool ba, sa, ta]] w (Ret w (CL (rv ba na da).num (max L 1))) := by
  have Hna := Lib.hid hna
  have Hda := Lib.hid hda
  clear hna hda
  go_enter Try.func45, Try.ntmps45
  have HB := Lib.hid (Below.refl w.heap.size w)
  go_wp2_with fail
  obtain ⟨W1, hW⟩ : ∃ W1, W1 = (World.alloc (World.alloc w (.cells #[.bool ba, sa, ta] 25)) (.cells #[.bool false, .slice none 0 0] 33)) := ⟨_, rfl⟩
  rw [← hW]
  obtain ⟨xa0, xb0, hk, hb⟩ := boxes_2 _ _ _ _ _ hW
  clear hW
  have Hna := Lib.hid (Is.keep Hna.out hk)
  have Hda := Lib.hid (Is.keep Hda.out hk)
  have Ga0 := Lib.hid (show w.heap.size ≤ w.heap.size from Nat.le_trans HB.out.size (by omega))
  have Gb0 := Lib.hid (show w.heap.size ≤ w.heap.size + 1 from Nat.le_trans HB.out.size (by omega))
  have Xa0 := Lib.hid xa0
  have Xb0 := Lib.hid xb0
  have HB := Lib.hid (below_call HB.out hb)
  clear hk hb xa0 xb0
  (first | (have hcall := canon_ar (AR.mk (neg := ba) Hna.out Hda.out) (by omega); refine Calls.mono hcall ?_; clear hcall) | refine Calls.mono (canon_ar (AR.mk (neg := ba) Hna.out Hda.out) (by omega)) ?_)
  rintro e w2 ⟨v2, rfl, hc, hb⟩
  obtain ⟨c_b, c_a, c_n, c_c, c_d, c_m, c_e, rfl⟩ := hc.litb
  have Xa0 := Lib.hid (Box.pcall hb Xa0.out)
  have Xb0 := Lib.hid (Box.pcall hb Xb0.out)
  have HB := Lib.hid (below_call HB.out hb)
  have Hc := Lib.hid hc
  clear hb hc
  obtain ⟨ca00, ca01, ca02, fa00, fa01, fa02⟩ := Xa0.out.c3
  have la0 := Xa0.out.lt
  obtain ⟨cb00, cb01, fb00, fb01⟩ := Xb0.out.c2
  have lb0 := Xb0.out.lt
  go_wp2
  clear ca00 ca01 ca02 fa00 fa01 fa02 la0 cb00 cb01 fb00 fb01 lb0
  obtain ⟨W3, hW⟩ : ∃ W3, W3 = (World.setCell (World.setCell w2 ⟨w.heap.size + 1, 0, none⟩ (.bool c_b)) ⟨w.heap.size + 1, 1, none⟩ (.slice c_a c_n c_c)) := ⟨_, rfl⟩
  rw [← hW]
  obtain ⟨xb0, hk, hf, hbb, hz⟩ := stored2s hW Xb0.out (by first | exact NoInt.bool _ | exact NoInt.slice _ _ _) (by first | exact NoInt.bool _ | exact NoInt.slice _ _ _)
  have Hc := Lib.hid (CR.keep Hc.out hk)
  have Xa0 := Lib.hid (hf _ _ _ Xa0.out (by omega))
  have Xb0 := Lib.hid xb0
  have HB := Lib.hid (hbb _ HB.out Gb0.out)
  clear hW hk hf hbb xb0
  have hz3 := hz
  clear hz
  obtain ⟨W4, hW⟩ : ∃ W4, W4 = (World.alloc W3 (.cells #[.bool c_b, .slice c_a c_n c_c, .slice c_d c_m c_e] 25)) := ⟨_, rfl⟩
  rw [← hW]
  obtain ⟨xc0, hk, hb⟩ := boxes_1 _ _ _ hW
  clear hW
  rw [hz3] at xc0
  have Hc := Lib.hid (CR.keep Hc.out hk)
  have Na0c0 := Lib.hid (show w.heap.size ≠ w2.heap.size from Nat.ne_of_lt (Nat.lt_of_lt_of_le Xa0.out.lt (by omega)))
  have Nb0c0 := Lib.hid (show w.heap.size + 1 ≠ w2.heap.size from Nat.ne_of_lt (Nat.lt_of_lt_of_le Xb0.out.lt (by omega)))
  have Gc0 := Lib.hid (show w.heap.size ≤ w2.heap.size from Nat.le_trans HB.out.size (by omega))
  clear hz3
  have Xa0 := Lib.hid (Box.pcall hb Xa0.out)
  have Xb0 := Lib.hid (Box.pcall hb Xb0.out)
  have Xc0 := Lib.hid xc0
  have HB := Lib.hid (below_call HB.out hb)
  clear hk hb xc0
  exact ret_int1 rfl rfl rfl Xb0.out (CR.numI Hc.out) HB.out


set_option maxRecDepth 100000 in
set_option maxHeartbeats 4000000 in
theorem rden_p {L : Nat} {ba : Bool} {na da : Nat} {sa ta : Value} {w : World} (hna : Is na L w sa) (hda : Is da L w ta) (hL : L ≤ 100000) :
    Calls Try.prog 48 #[.agg #[.bool ba, sa, ta]] w (Ret w (Can (rv ba na da).den (max L 1))) := by
  have Hna := Lib.hid hna
  have Hda := Lib.hid hda
  clear hna hda
  go_enter Try.func48, Try.ntmps48
  have HB := Lib.hid (Below.refl w.heap.size w)
  go_wp2_with fail
  obtain ⟨W1, hW⟩ : ∃ W1, W1 = (World.alloc w (.cells #[.bool ba, sa, ta] 25)) := ⟨_, rfl⟩
  rw [← hW]
  obtain ⟨xa0, hk, hb⟩ := boxes_1 _ _ _ hW
  clear hW
  have Hna := Lib.hid (Is.keep Hna.out hk)
  have Hda := Lib.hid (Is.keep Hda.out hk)
  have Ga0 := Lib.hid (show w.heap.size ≤ w.heap.size from Nat.le_trans HB.out.size (by omega))
  have Xa0 := Lib.hid xa0
  have HB := Lib.hid (below_call HB.out hb)
  clear hk hb xa0
  (first | (have hcall := canon_ar (AR.mk (neg := ba) Hna.out Hda.out) (by omega); refine Calls.mono hcall ?_; clear hcall) | refine Calls.mono (canon_ar (AR.mk (neg := ba) Hna.out Hda.out) (by omega)) ?_)
  rintro e w2 ⟨v2, rfl, hc, hb⟩
  obtain ⟨c_b, c_a, c_n, c_c, c_d, c_m, c_e, rfl⟩ := hc.litb
  have Xa0 := Lib.hid (Box.pcall hb Xa0.out)
  have HB := Lib.hid (below_call HB.out hb)
  have Hc := Lib.hid hc
  clear hb hc
  obtain ⟨ca00, ca01, ca02, fa00, fa01, fa02⟩ := Xa0.out.c3
  have la0 := Xa0.out.lt
  go_wp2_with fail
  clear ca00 ca01 ca02 fa00 fa01 fa02 la0
  (first | (have hcall := under_is (b := c_b) Hc.out.denC.is (by omega); refine Calls.mono hcall ?_; clear hcall) | refine Calls.mono (under_is (b := c_b) Hc.out.denC.is (by omega)) ?_)
  rintro e w3 ⟨v3, rfl, hu, hb⟩
  obtain ⟨u_a, u_n, u_c, rfl⟩ := hu.lit
  have Xa0 := Lib.hid (Box.pcall hb Xa0.out)
  have HB := Lib.hid (below_call HB.out hb)
  have Hu := Lib.hid hu
  clear hb hu
  obtain ⟨ca00, ca01, ca02, fa00, fa01, fa02⟩ := Xa0.out.c3
  have la0 := Xa0.out.lt
  go_wp2_with fail
  clear ca00 ca01 ca02 fa00 fa01 fa02 la0
  (first | (have hcall := make_is Hu.out; refine Calls.mono hcall ?_; clear hcall) | refine Calls.mono (make_is Hu.out) ?_)
  rintro e w4 ⟨v4, rfl, hm, hb⟩
  obtain ⟨m_a, m_n, m_c, rfl⟩ := hm.is.lit
  have Xa0 := Lib.hid (Box.pcall hb Xa0.out)
  have HB := Lib.hid (below_call HB.out hb)
  have Hm := Lib.hid hm
  clear hb hm
  obtain ⟨ca00, ca01, ca02, fa00, fa01, fa02⟩ := Xa0.out.c3
  have la0 := Xa0.out.lt
  go_wp2
  clear ca00 ca01 ca02 fa00 fa01 fa02 la0
  go_ret
  exact ⟨_, rfl, Can.mono (Can.cast (un_dn _) Hm.out) (by omega), HB.out⟩


set_option maxRecDepth 100000 in
set_option maxHeartbeats 4000000 in
theorem rsign_p {L : Nat} {ba : Bool} {na da : Nat} {sa ta : Value} {w : World} (k : Int) (hk : (iv ba na).sign = k) (hna : Is na L w sa) (hda : Is da L w ta) (hL : L ≤ 100000) :
    Calls Try.prog 32 #[.agg #[.bool ba, sa, ta]] w (Ret w (Val (.int .i64 k))) := by
  have Hna := Lib.hid hna
  have Hda := Lib.hid hda
  have Hk := Lib.hid hk
  clear hna hda hk
  go_enter Try.func32, Try.ntmps32
  have HB := Lib.hid (Below.refl w.heap.size w)
  go_wp2_with fail
  obtain ⟨W1, hW⟩ : ∃ W1, W1 = (World.alloc w (.cells #[.bool ba, sa, ta] 25)) := ⟨_, rfl⟩
  rw [← hW]
  obtain ⟨xa0, hk, hb⟩ := boxes_1 _ _ _ hW
  clear hW
  have Hna := Lib.hid (Is.keep Hna.out hk)
  have Ga0 := Lib.hid (show w.heap.size ≤ w.heap.size from Nat.le_trans HB.out.size (by omega))
  have Xa0 := Lib.hid xa0
  have HB := Lib.hid (below_call HB.out hb)
  clear hk hb xa0
  (first | (have hcall := signed_is (neg := ba) Hna.out; refine Calls.mono hcall ?_; clear hcall) | refine Calls.mono (signed_is (neg := ba) Hna.out) ?_)
  rintro e w2 ⟨v2, rfl, hz, hb⟩
  obtain ⟨z_b, z_a, z_n, z_c, rfl⟩ := hz.litb
  have Xa0 := Lib.hid (Box.pcall hb Xa0.out)
  have HB := Lib.hid (below_call HB.out hb)
  have Hz := Lib.hid hz
  clear hb hz
  obtain ⟨ca00, ca01, ca02, fa00, fa01, fa02⟩ := Xa0.out.c3
  have la0 := Xa0.out.lt
  go_wp2_with fail
  clear ca00 ca01 ca02 fa00 fa01 fa02 la0
  (first | (have hcall := isign_ai k Hz.out.ai Hk.out (by omega); refine Calls.mono hcall ?_; clear hcall) | refine Calls.mono (isign_ai k Hz.out.ai Hk.out (by omega)) ?_)
  rintro e w3 ⟨v3, rfl, rfl, hb⟩
  have Xa0 := Lib.hid (Box.pcall hb Xa0.out)
  have HB := Lib.hid (below_call HB.out hb)
  clear hb
  obtain ⟨ca00, ca01, ca02, fa00, fa01, fa02⟩ := Xa0.out.c3
  have la0 := Xa0.out.lt
  go_wp2
  clear ca00 ca01 ca02 fa00 fa01 fa02 la0
  go_ret
  exact ⟨_, rfl, rfl, HB.out⟩


theorem rnum_ar {q : Rat} {L : Nat} {v : Value} {w : World} (h : AR q L w v) (hL : L ≤ 100000) : Calls Try.prog 45 #[v] w (Ret w (CL q.num (max L 1))) := by
  obtain ⟨b, s, t, n, d, rfl, h1, h2, rfl⟩ := h
  exact rnum_p h1 h2 hL

theorem rden_ar {q : Rat} {L : Nat} {v : Value} {w : World} (h : AR q L w v) (hL : L ≤ 100000) : Calls Try.prog 48 #[v] w (Ret w (Can q.den (max L 1))) := by
  obtain ⟨b, s, t, n, d, rfl, h1, h2, rfl⟩ := h
  exact rden_p h1 h2 hL

theorem rsign_ar {q : Rat} {L : Nat} {v : Value} {w : World} (k : Int) (h : AR q L w v) (hk : q.num.sign = k) (hL : L ≤ 100000) : Calls Try.prog 32 #[v] w (Ret w (Val (.int .i64 k))) := by
  obtain ⟨b, s, t, n, d, rfl, h1, h2, rfl⟩ := h
  exact rsign_p k (by rw [← hk, rv_sign]) h1 h2 hL

end Go.Proofs.Ytfkjhaniglmejaa
