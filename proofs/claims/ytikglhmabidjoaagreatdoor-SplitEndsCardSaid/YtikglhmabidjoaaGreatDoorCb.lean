/- Texts RatC, in this order. -/
import Derived.Test.YtikglhmabidjoaaGreatDoorCa
namespace Go.Proofs.YtikglhmabidjoaaGreatDoor
open Go.RowKit Nt
set_option linter.unusedVariables false
theorem CL.mag {z : Int} {L : Nat} {n : Bool} {s : Value} {w : World} (h : CL z L w (.agg #[.bool n, s])) : Can z.natAbs L w s := by
  obtain ⟨⟨s', he, h2⟩, h3⟩ := h
  injection he with he; injection he with he; injection he with e1 he; injection he with e2 _
  subst e2
  exact ⟨h2, h3⟩
theorem AI.mag {z : Int} {L : Nat} {n : Bool} {s : Value} {w : World} (h : AI z L w (.agg #[.bool n, s])) : Is z.natAbs L w s := by
  obtain ⟨n', s', m, he, h, rfl⟩ := h
  injection he with he; injection he with he; injection he with e1 he; injection he with e2 _; injection e1 with e1
  subst e1 e2
  rw [iv_abs]; exact h
def cmpQ (a b : Rat) : Int := (a - b).num.sign
theorem sign_mkRat {z : Int} {d : Nat} (hd : 0 < d) : (mkRat z d).num.sign = z.sign := by
  have h := mkRat_lt (z := z) hd
  have h2 := Rat.mkRat_eq_zero (n := z) (Nat.ne_of_gt hd)
  rcases Int.lt_trichotomy z 0 with h3 | h3 | h3
  · rw [Int.sign_eq_neg_one_of_neg h3, Int.sign_eq_neg_one_of_neg]
    have := h.2 h3
    rw [← Rat.not_le, ← Rat.num_nonneg] at this
    omega
  · rw [h3]; simp
  · rw [Int.sign_eq_one_of_pos h3, Int.sign_eq_one_of_pos]
    have h4 : ¬ mkRat z d < 0 := by rw [h]; omega
    have h5 : ¬ mkRat z d = 0 := by rw [h2]; omega
    rw [← Rat.num_eq_zero] at h5
    rw [Rat.not_lt, ← Rat.num_nonneg] at h4
    omega
theorem cmpQ_rv (ba bb : Bool) (na da nb db : Nat) : cmpQ (rv ba na da) (rv bb nb db) = (iv ba na * (un db : Nat) - iv bb nb * (un da : Nat)).sign := by
  unfold cmpQ rv
  rw [Rat.sub_eq_add_neg, Rat.neg_mkRat, Rat.mkRat_add_mkRat _ _ (un_ne _) (un_ne _), sign_mkRat (Nat.mul_pos (un_pos _) (un_pos _)), Int.neg_mul, ← Int.sub_eq_add_neg]
theorem sgn_mul_un (z : Int) (d : Nat) : (z * (un d : Nat)).sign = z.sign := by
  have := un_pos d
  rw [Int.sign_mul, Int.sign_eq_one_of_pos (a := ((un d : Nat) : Int)) (by omega), Int.mul_one]
theorem cross_lt {x y : Int} {c d : Nat} (h : x.sign < y.sign) : (x * (un c : Nat) - y * (un d : Nat)).sign = -1 := sub_sign_lt (by rw [sgn_mul_un, sgn_mul_un]; exact h)
theorem cross_gt {x y : Int} {c d : Nat} (h : y.sign < x.sign) : (x * (un c : Nat) - y * (un d : Nat)).sign = 1 := sub_sign_gt (by rw [sgn_mul_un, sgn_mul_un]; exact h)
theorem CL.iv {z : Int} {L : Nat} {w : World} {b : Bool} {s : Value} (h : CL z L w (.agg #[.bool b, s])) : Go.Proofs.YtikglhmabidjoaaGreatDoor.iv b z.natAbs = z := by
  obtain ⟨⟨s', he, h2⟩, h3⟩ := h
  injection he with he; injection he with he; injection he with e1 he; injection e1 with e1
  subst e1
  unfold Go.Proofs.YtikglhmabidjoaaGreatDoor.iv
  by_cases hz : z < 0 <;> simp [hz] <;> omega
theorem add_parts {ba bb bs : Bool} {na da nb db : Nat} (h : iv bs (iv ba na * (un db : Nat) + iv bb nb * (un da : Nat)).natAbs = iv ba na * (un db : Nat) + iv bb nb * (un da : Nat)) :
    mkRat (iv bs (iv ba na * (un db : Nat) + iv bb nb * (un da : Nat)).natAbs) (un da * un db) = rv ba na da + rv bb nb db := by
  rw [h]; unfold rv
  rw [Rat.mkRat_add_mkRat _ _ (un_ne _) (un_ne _)]
theorem mul_parts (ba bb : Bool) (na da nb db : Nat) : mkRat (iv (!ba == bb) (na * nb)) (un da * un db) = rv ba na da * rv bb nb db := by
  rw [iv_mul]; unfold rv
  rw [Rat.mkRat_mul_mkRat]
theorem div_parts (ba bb : Bool) (na da nb db : Nat) (h : 0 < nb) : mkRat (iv (!ba == bb) (na * un db)) (un da * nb) = rv ba na da / rv bb nb db := by
  have e : rv bb nb db * mkRat (iv (!ba == bb) (na * un db)) (un da * nb) = rv ba na da := by
    unfold rv
    rw [Rat.mkRat_mul_mkRat]
    have e1 : iv bb nb * iv (!ba == bb) (na * un db) = iv ba na * ((un db * nb : Nat) : Int) := by
      cases ba <;> cases bb <;> simp [iv, Int.natCast_mul, Int.neg_mul, Int.mul_neg] <;> ac_rfl
    rw [e1, show un db * (un da * nb) = un da * (un db * nb) by ac_rfl]
    exact Rat.mkRat_mul_right (Nat.ne_of_gt (Nat.mul_pos (un_pos _) h))
  have h0 : rv bb nb db ≠ 0 := by
    unfold rv
    rw [Ne, Rat.mkRat_eq_zero (un_ne _)]
    cases bb <;> simp [iv] <;> omega
  rw [← e, Rat.mul_comm, Rat.mul_div_cancel h0]
theorem cmpQ_le {a b : Rat} : cmpQ a b ≤ 0 ↔ a ≤ b := by
  unfold cmpQ
  have e : b - a = -(a - b) := (Rat.neg_sub a b).symm
  rw [Rat.le_iff_sub_nonneg, e, ← Rat.num_nonneg, Rat.neg_num]
  rcases Int.lt_trichotomy (a - b).num 0 with h | h | h
  · rw [Int.sign_eq_neg_one_of_neg h]; omega
  · rw [h]; simp
  · rw [Int.sign_eq_one_of_pos h]; omega
theorem cmpQ_ge {a b : Rat} : 0 ≤ cmpQ a b ↔ b ≤ a := by
  unfold cmpQ
  rw [Rat.le_iff_sub_nonneg, ← Rat.num_nonneg]
  rcases Int.lt_trichotomy (a - b).num 0 with h | h | h
  · rw [Int.sign_eq_neg_one_of_neg h]; omega
  · rw [h]; simp
  · rw [Int.sign_eq_one_of_pos h]; omega
set_option maxRecDepth 100000 in
set_option maxHeartbeats 4000000 in
theorem cross_p {L M : Nat} {ba : Bool} {na da : Nat} {sa ta : Value} {bb : Bool} {nb db : Nat} {sb tb : Value} {w : World} (hna : Is na L w sa) (hda : Is da L w ta) (hnb : Is nb M w sb) (hdb : Is db M w tb) (hL : L ≤ 100000000) (hM : M ≤ 100000000) :
    Calls Tryz.prog 128 #[.agg #[.bool ba, sa, ta], .agg #[.bool bb, sb, tb]] w (Ret w (CL2 (iv ba na * (un db : Nat)) (iv bb nb * (un da : Nat)) (L + max M 1) (M + max L 1))) := by
  have Hna := Lib.hid hna
  have Hda := Lib.hid hda
  have Hnb := Lib.hid hnb
  have Hdb := Lib.hid hdb
  clear hna hda hnb hdb
  go_enter Tryz.func128, Tryz.ntmps128
  have HB := Lib.hid (Below.refl w.heap.size w)
  go_wp2_with fail
  obtain ⟨W1, hW⟩ : ∃ W1, W1 = (World.alloc (World.alloc (World.alloc (World.alloc w (.cells #[.bool ba, sa, ta] 37)) (.cells #[.bool bb, sb, tb] 37)) (.cells #[.bool false, .slice none 0 0] 105)) (.cells #[.bool false, .slice none 0 0] 105)) := ⟨_, rfl⟩
  rw [← hW]
  obtain ⟨xa0, xb0, xc0, xd0, hk, hb⟩ := boxes_4 _ _ _ _ _ _ _ _ _ hW
  clear hW
  have Hna := Lib.hid (Is.keep Hna.out hk)
  have Hda := Lib.hid (Is.keep Hda.out hk)
  have Hnb := Lib.hid (Is.keep Hnb.out hk)
  have Hdb := Lib.hid (Is.keep Hdb.out hk)
  have Ga0 := Lib.hid (show w.heap.size ≤ w.heap.size from Nat.le_trans HB.out.size (by omega))
  have Gb0 := Lib.hid (show w.heap.size ≤ w.heap.size + 1 from Nat.le_trans HB.out.size (by omega))
  have Gc0 := Lib.hid (show w.heap.size ≤ w.heap.size + 1 + 1 from Nat.le_trans HB.out.size (by omega))
  have Gd0 := Lib.hid (show w.heap.size ≤ w.heap.size + 1 + 1 + 1 from Nat.le_trans HB.out.size (by omega))
  have Xa0 := Lib.hid xa0
  have Xb0 := Lib.hid xb0
  have Xc0 := Lib.hid xc0
  have Xd0 := Lib.hid xd0
  have HB := Lib.hid (below_call HB.out hb)
  clear hk hb xa0 xb0 xc0 xd0
  have Hna := Lib.hid (Is.keep Hna.out (Keep.drew W1))
  have Hda := Lib.hid (Is.keep Hda.out (Keep.drew W1))
  have Hnb := Lib.hid (Is.keep Hnb.out (Keep.drew W1))
  have Hdb := Lib.hid (Is.keep Hdb.out (Keep.drew W1))
  have Xa0 := Lib.hid (Box.drew Xa0.out)
  have Xb0 := Lib.hid (Box.drew Xb0.out)
  have Xc0 := Lib.hid (Box.drew Xc0.out)
  have Xd0 := Lib.hid (Box.drew Xd0.out)
  have HB := Lib.hid (Below.drew HB.out)
  refine wp_region_float [] [] (by kernel_rfl) (by kernel_rfl) 22 (by kernel_rfl) Flok.nil ?_
  intro ok
  have Hok := Lib.hid ok
  clear ok
  have HG := Lib.hid (Below.refl (W1.drew).heap.size (W1.drew))
  refine good_pureX 0 (some 8) (Go.Op.load 37 (Go.Operand.tmp 2)) (none) (.agg #[.bool ba, sa, ta]) (by kernel_rfl) (by kernel_rfl) (by kernel_rfl) (fun _ _ _ h => h) (fun w' hw' => ?_) ?_
  · obtain ⟨ca00, ca01, ca02, fa00, fa01, fa02⟩ := (Box.se hw' Xa0.out notin0).c3
    first | (go_simp; done) | (go_simp; simp_all; done) | (go_simp; rfl)
  simp only [Act.put, List.setIfInBounds_toArray, List.set_cons_zero, List.set_cons_succ]
  refine good_pureX 2 (some 10) (Go.Op.load 37 (Go.Operand.tmp 3)) (none) (.agg #[.bool bb, sb, tb]) (by kernel_rfl) (by kernel_rfl) (by kernel_rfl) (fun _ _ _ h => h) (fun w' hw' => ?_) ?_
  · obtain ⟨cb00, cb01, cb02, fb00, fb01, fb02⟩ := (Box.se hw' Xb0.out notin0).c3
    first | (go_simp; done) | (go_simp; simp_all; done) | (go_simp; rfl)
  simp only [Act.put, List.setIfInBounds_toArray, List.set_cons_zero, List.set_cons_succ]
  refine good_callX 1 134 (some 9) #[Go.Operand.tmp 8] #[37] (none) #[.agg #[.bool ba, sa, ta]] (by kernel_rfl) Hok.out (by kernel_rfl) (by kernel_rfl) (by kernel_rfl) (by kernel_rfl) rfl rfl rfl (by kernel_rfl) (fun w2 hb => ?_)
  have HG := Lib.hid (below_call HG.out hb)
  clear hb
  (first | (have hcall := under_is (b := ba) (Is.keep Hda.out (Keep.call HG.out)) (by omega); refine Calls.mono hcall ?_; clear hcall) | refine Calls.mono (under_is (b := ba) (Is.keep Hda.out (Keep.call HG.out)) (by omega)) ?_)
  rintro e w3 ⟨v3, rfl, hp, hb⟩
  obtain ⟨p_a, p_n, p_c, rfl⟩ := hp.lit
  refine ⟨_, rfl, ?_, hb⟩
  have HG := Lib.hid (below_call HG.out hb)
  have Hp := Lib.hid hp
  clear hb hp
  simp only [Act.put, List.setIfInBounds_toArray, List.set_cons_zero, List.set_cons_succ]
  refine good_callX 3 134 (some 11) #[Go.Operand.tmp 10] #[37] (none) #[.agg #[.bool bb, sb, tb]] (by kernel_rfl) Hok.out (by kernel_rfl) (by kernel_rfl) (by kernel_rfl) (by kernel_rfl) rfl rfl rfl (by kernel_rfl) (fun w4 hb => ?_)
  have Hp := Lib.hid (Is.keep Hp.out (Keep.call hb))
  have HG := Lib.hid (below_call HG.out hb)
  clear hb
  (first | (have hcall := under_is (b := bb) (Is.keep Hdb.out (Keep.call HG.out)) (by omega); refine Calls.mono hcall ?_; clear hcall) | refine Calls.mono (under_is (b := bb) (Is.keep Hdb.out (Keep.call HG.out)) (by omega)) ?_)
  rintro e w5 ⟨v5, rfl, hq, hb⟩
  obtain ⟨q_a, q_n, q_c, rfl⟩ := hq.lit
  refine ⟨_, rfl, ?_, hb⟩
  have Hp := Lib.hid (Is.keep Hp.out (Keep.call hb))
  have HG := Lib.hid (below_call HG.out hb)
  have Hq := Lib.hid hq
  clear hb hq
  simp only [Act.put, List.setIfInBounds_toArray, List.set_cons_zero, List.set_cons_succ]
  refine good_pureX 4 (some 6) (Go.Op.assign (Go.Operand.tmp 9)) (none) (.slice p_a p_n p_c) (by kernel_rfl) (by kernel_rfl) (by kernel_rfl) (fun _ _ _ h => h) (fun w' hw' => ?_) ?_
  · first | (go_simp; done) | (go_simp; simp_all; done) | (go_simp; rfl)
  simp only [Act.put, List.setIfInBounds_toArray, List.set_cons_zero, List.set_cons_succ]
  refine good_pureX 5 (some 7) (Go.Op.assign (Go.Operand.tmp 11)) (none) (.slice q_a q_n q_c) (by kernel_rfl) (by kernel_rfl) (by kernel_rfl) (fun _ _ _ h => h) (fun w' hw' => ?_) ?_
  · first | (go_simp; done) | (go_simp; simp_all; done) | (go_simp; rfl)
  simp only [Act.put, List.setIfInBounds_toArray, List.set_cons_zero, List.set_cons_succ]
  refine good_end0 0 (by kernel_rfl) (fun _ w6 hb => ?_)
  have Hp := Lib.hid (Is.keep Hp.out (Keep.call hb))
  have Hq := Lib.hid (Is.keep Hq.out (Keep.call hb))
  have HG := Lib.hid (below_call HG.out hb)
  clear hb
  have Hna := Lib.hid (Is.keep Hna.out (Keep.call HG.out))
  have Hnb := Lib.hid (Is.keep Hnb.out (Keep.call HG.out))
  have Xa0 := Lib.hid (Box.pcall HG.out Xa0.out)
  have Xb0 := Lib.hid (Box.pcall HG.out Xb0.out)
  have Xc0 := Lib.hid (Box.pcall HG.out Xc0.out)
  have Xd0 := Lib.hid (Box.pcall HG.out Xd0.out)
  have HB := Lib.hid (below_call HB.out HG.out)
  have HS := Lib.hid (SE.of (E := []) HG.out)
  refine wpAnyH_done (by kernel_rfl) ?_ _
  clear HG HS Hok 
  obtain ⟨ca00, ca01, ca02, fa00, fa01, fa02⟩ := Xa0.out.c3
  have la0 := Xa0.out.lt
  obtain ⟨cb00, cb01, cb02, fb00, fb01, fb02⟩ := Xb0.out.c3
  have lb0 := Xb0.out.lt
  obtain ⟨cc00, cc01, fc00, fc01⟩ := Xc0.out.c2
  have lc0 := Xc0.out.lt
  obtain ⟨cd00, cd01, fd00, fd01⟩ := Xd0.out.c2
  have ld0 := Xd0.out.lt
  go_wp2_with fail
  clear ca00 ca01 ca02 fa00 fa01 fa02 la0 cb00 cb01 cb02 fb00 fb01 fb02 lb0 cc00 cc01 fc00 fc01 lc0 cd00 cd01 fd00 fd01 ld0
  have Hna := Lib.hid (Is.keep Hna.out (Keep.drew w6))
  have Hnb := Lib.hid (Is.keep Hnb.out (Keep.drew w6))
  have Hp := Lib.hid (Is.keep Hp.out (Keep.drew w6))
  have Hq := Lib.hid (Is.keep Hq.out (Keep.drew w6))
  have Xa0 := Lib.hid (Box.drew Xa0.out)
  have Xb0 := Lib.hid (Box.drew Xb0.out)
  have Xc0 := Lib.hid (Box.drew Xc0.out)
  have Xd0 := Lib.hid (Box.drew Xd0.out)
  have HB := Lib.hid (Below.drew HB.out)
  refine wp_region_float [w.heap.size + 1 + 1, w.heap.size + 1 + 1 + 1] [] (by kernel_rfl) (by kernel_rfl) 22 (by kernel_rfl) Flok.nil ?_
  intro ok
  have Hok := Lib.hid ok
  clear ok
  have HG := Lib.hid (Below.refl (w6.drew).heap.size (w6.drew))
  refine good_pureX 0 (some 12) (Go.Op.load 37 (Go.Operand.tmp 2)) (none) (.agg #[.bool ba, sa, ta]) (by kernel_rfl) (by kernel_rfl) (by kernel_rfl) (fun _ _ _ h => h) (fun w' hw' => ?_) ?_
  · obtain ⟨ca00, ca01, ca02, fa00, fa01, fa02⟩ := (Box.se hw' Xa0.out (notin2 (by omega) (by omega))).c3
    first | (go_simp; done) | (go_simp; simp_all; done) | (go_simp; rfl)
  simp only [Act.put, List.setIfInBounds_toArray, List.set_cons_zero, List.set_cons_succ]
  refine good_pureX 2 (some 14) (Go.Op.move (Go.Operand.tmp 7)) (none) (.slice q_a q_n q_c) (by kernel_rfl) (by kernel_rfl) (by kernel_rfl) (fun _ _ _ h => h) (fun w' hw' => ?_) ?_
  · first | (go_simp; done) | (go_simp; simp_all; done) | (go_simp; rfl)
  simp only [Act.put, List.setIfInBounds_toArray, List.set_cons_zero, List.set_cons_succ]
  refine good_pureX 3 (some 15) (Go.Op.build 105 #[(1, Go.Operand.tmp 14)]) (none) (.agg #[.bool false, .slice q_a q_n q_c]) (by kernel_rfl) (by kernel_rfl) (by kernel_rfl) (fun _ _ _ h => h) (fun w' hw' => ?_) ?_
  · first | (go_simp; done) | (go_simp; simp_all; done) | (go_simp; rfl)
  simp only [Act.put, List.setIfInBounds_toArray, List.set_cons_zero, List.set_cons_succ]
  refine good_pureX 5 (some 17) (Go.Op.load 37 (Go.Operand.tmp 3)) (none) (.agg #[.bool bb, sb, tb]) (by kernel_rfl) (by kernel_rfl) (by kernel_rfl) (fun _ _ _ h => h) (fun w' hw' => ?_) ?_
  · obtain ⟨cb00, cb01, cb02, fb00, fb01, fb02⟩ := (Box.se hw' Xb0.out (notin2 (by omega) (by omega))).c3
    first | (go_simp; done) | (go_simp; simp_all; done) | (go_simp; rfl)
  simp only [Act.put, List.setIfInBounds_toArray, List.set_cons_zero, List.set_cons_succ]
  refine good_pureX 7 (some 19) (Go.Op.move (Go.Operand.tmp 6)) (none) (.slice p_a p_n p_c) (by kernel_rfl) (by kernel_rfl) (by kernel_rfl) (fun _ _ _ h => h) (fun w' hw' => ?_) ?_
  · first | (go_simp; done) | (go_simp; simp_all; done) | (go_simp; rfl)
  simp only [Act.put, List.setIfInBounds_toArray, List.set_cons_zero, List.set_cons_succ]
  refine good_pureX 8 (some 20) (Go.Op.build 105 #[(1, Go.Operand.tmp 19)]) (none) (.agg #[.bool false, .slice p_a p_n p_c]) (by kernel_rfl) (by kernel_rfl) (by kernel_rfl) (fun _ _ _ h => h) (fun w' hw' => ?_) ?_
  · first | (go_simp; done) | (go_simp; simp_all; done) | (go_simp; rfl)
  simp only [Act.put, List.setIfInBounds_toArray, List.set_cons_zero, List.set_cons_succ]
  refine good_callX 1 131 (some 13) #[Go.Operand.tmp 12] #[37] (none) #[.agg #[.bool ba, sa, ta]] (by kernel_rfl) Hok.out (by kernel_rfl) (by kernel_rfl) (by kernel_rfl) (by kernel_rfl) rfl rfl rfl (by kernel_rfl) (fun w7 hb => ?_)
  have HG := Lib.hid (below_call HG.out hb)
  clear hb
  (first | (have hcall := signed_is (neg := ba) (Is.keep Hna.out (Keep.call HG.out)); refine Calls.mono hcall ?_; clear hcall) | refine Calls.mono (signed_is (neg := ba) (Is.keep Hna.out (Keep.call HG.out))) ?_)
  rintro e w8 ⟨v8, rfl, hx, hb⟩
  obtain ⟨x_b, x_a, x_n, x_c, rfl⟩ := hx.litb
  refine ⟨_, rfl, ?_, hb⟩
  have HG := Lib.hid (below_call HG.out hb)
  have Hx := Lib.hid hx
  clear hb hx
  simp only [Act.put, List.setIfInBounds_toArray, List.set_cons_zero, List.set_cons_succ]
  refine good_callX 4 171 (some 16) #[Go.Operand.tmp 13, Go.Operand.tmp 15] #[105, 105] (none) #[.agg #[.bool x_b, .slice x_a x_n x_c], .agg #[.bool false, .slice q_a q_n q_c]] (by kernel_rfl) Hok.out (by kernel_rfl) (by kernel_rfl) (by kernel_rfl) (by kernel_rfl) rfl rfl rfl (by kernel_rfl) (fun w9 hb => ?_)
  have Hx := Lib.hid (CL.keep Hx.out (Keep.call hb))
  have HG := Lib.hid (below_call HG.out hb)
  clear hb
  (first | (have hcall := imul_ai Hx.out.ai (AI.mk (n := false) (Is.keep Hq.out (Keep.call HG.out))) (by omega) (by omega); refine Calls.mono hcall ?_; clear hcall) | refine Calls.mono (imul_ai Hx.out.ai (AI.mk (n := false) (Is.keep Hq.out (Keep.call HG.out))) (by omega) (by omega)) ?_)
  rintro e w10 ⟨v10, rfl, hm, hb⟩
  obtain ⟨m_b, m_a, m_n, m_c, rfl⟩ := hm.litb
  refine ⟨_, rfl, ?_, hb⟩
  have HG := Lib.hid (below_call HG.out hb)
  have Hm := Lib.hid hm
  clear hb hm
  simp only [Act.put, List.setIfInBounds_toArray, List.set_cons_zero, List.set_cons_succ]
  refine good_callX 6 131 (some 18) #[Go.Operand.tmp 17] #[37] (none) #[.agg #[.bool bb, sb, tb]] (by kernel_rfl) Hok.out (by kernel_rfl) (by kernel_rfl) (by kernel_rfl) (by kernel_rfl) rfl rfl rfl (by kernel_rfl) (fun w11 hb => ?_)
  have Hm := Lib.hid (CL.keep Hm.out (Keep.call hb))
  have HG := Lib.hid (below_call HG.out hb)
  clear hb
  (first | (have hcall := signed_is (neg := bb) (Is.keep Hnb.out (Keep.call HG.out)); refine Calls.mono hcall ?_; clear hcall) | refine Calls.mono (signed_is (neg := bb) (Is.keep Hnb.out (Keep.call HG.out))) ?_)
  rintro e w12 ⟨v12, rfl, hv, hb⟩
  obtain ⟨v_b, v_a, v_n, v_c, rfl⟩ := hv.litb
  refine ⟨_, rfl, ?_, hb⟩
  have Hm := Lib.hid (CL.keep Hm.out (Keep.call hb))
  have HG := Lib.hid (below_call HG.out hb)
  have Hv := Lib.hid hv
  clear hb hv
  simp only [Act.put, List.setIfInBounds_toArray, List.set_cons_zero, List.set_cons_succ]
  refine good_callX 9 171 (some 21) #[Go.Operand.tmp 18, Go.Operand.tmp 20] #[105, 105] (none) #[.agg #[.bool v_b, .slice v_a v_n v_c], .agg #[.bool false, .slice p_a p_n p_c]] (by kernel_rfl) Hok.out (by kernel_rfl) (by kernel_rfl) (by kernel_rfl) (by kernel_rfl) rfl rfl rfl (by kernel_rfl) (fun w13 hb => ?_)
  have Hm := Lib.hid (CL.keep Hm.out (Keep.call hb))
  have Hv := Lib.hid (CL.keep Hv.out (Keep.call hb))
  have HG := Lib.hid (below_call HG.out hb)
  clear hb
  (first | (have hcall := imul_ai Hv.out.ai (AI.mk (n := false) (Is.keep Hp.out (Keep.call HG.out))) (by omega) (by omega); refine Calls.mono hcall ?_; clear hcall) | refine Calls.mono (imul_ai Hv.out.ai (AI.mk (n := false) (Is.keep Hp.out (Keep.call HG.out))) (by omega) (by omega)) ?_)
  rintro e w14 ⟨v14, rfl, hn, hb⟩
  obtain ⟨n_b, n_a, n_n, n_c, rfl⟩ := hn.litb
  refine ⟨_, rfl, ?_, hb⟩
  have Hm := Lib.hid (CL.keep Hm.out (Keep.call hb))
  have HG := Lib.hid (below_call HG.out hb)
  have Hn := Lib.hid hn
  clear hb hn
  simp only [Act.put, List.setIfInBounds_toArray, List.set_cons_zero, List.set_cons_succ]
  refine good_end0 2 (by kernel_rfl) (fun _ w15 hb => ?_)
  have Hm := Lib.hid (CL.keep Hm.out (Keep.call hb))
  have Hn := Lib.hid (CL.keep Hn.out (Keep.call hb))
  have HG := Lib.hid (below_call HG.out hb)
  clear hb
  have Xa0 := Lib.hid (Box.pcall HG.out Xa0.out)
  have Xb0 := Lib.hid (Box.pcall HG.out Xb0.out)
  have Xc0 := Lib.hid (Box.pcall HG.out Xc0.out)
  have Xd0 := Lib.hid (Box.pcall HG.out Xd0.out)
  have HB := Lib.hid (below_call HB.out HG.out)
  have HS := Lib.hid (SE.of (E := [w.heap.size + 1 + 1, w.heap.size + 1 + 1 + 1]) HG.out)
  refine held_oneX 10 (Go.Op.store 105 (Go.Operand.tmp 4) (Go.Operand.tmp 16)) (none) (World.setCell (World.setCell w15 ⟨w.heap.size + 1 + 1, 0, none⟩ (.bool m_b)) ⟨w.heap.size + 1 + 1, 1, none⟩ (.slice m_a m_n m_c)) (by kernel_rfl) (by kernel_rfl) (by kernel_rfl) (by kernel_rfl) ?_ (HS.out.store2 in21) ?_
  · obtain ⟨cc00, cc01, fc00, fc01⟩ := Xc0.out.c2
    first | (go_simp; done) | (go_simp; simp_all; done) | (go_simp; rfl)
  obtain ⟨W16, hW⟩ : ∃ W16, W16 = (World.setCell (World.setCell w15 ⟨w.heap.size + 1 + 1, 0, none⟩ (.bool m_b)) ⟨w.heap.size + 1 + 1, 1, none⟩ (.slice m_a m_n m_c)) := ⟨_, rfl⟩
  rw [← hW]
  obtain ⟨xc0, hk, hf, hbb, hz⟩ := stored2s hW Xc0.out (by first | exact NoInt.bool _ | exact NoInt.slice _ _ _) (by first | exact NoInt.bool _ | exact NoInt.slice _ _ _)
  have Hm := Lib.hid (CL.keep Hm.out hk)
  have Hn := Lib.hid (CL.keep Hn.out hk)
  have Xa0 := Lib.hid (hf _ _ _ Xa0.out (by omega))
  have Xb0 := Lib.hid (hf _ _ _ Xb0.out (by omega))
  have Xc0 := Lib.hid xc0
  have Xd0 := Lib.hid (hf _ _ _ Xd0.out (by omega))
  have HB := Lib.hid (hbb _ HB.out Gc0.out)
  have HS := Lib.hid (show SE (w6.drew) [w.heap.size + 1 + 1, w.heap.size + 1 + 1 + 1] W16 from by rw [hW]; exact HS.out.store2 in21)
  clear hW hk hf hbb xc0
  clear hz
  refine held_oneX 11 (Go.Op.store 105 (Go.Operand.tmp 5) (Go.Operand.tmp 21)) (none) (World.setCell (World.setCell W16 ⟨w.heap.size + 1 + 1 + 1, 0, none⟩ (.bool n_b)) ⟨w.heap.size + 1 + 1 + 1, 1, none⟩ (.slice n_a n_n n_c)) (by kernel_rfl) (by kernel_rfl) (by kernel_rfl) (by kernel_rfl) ?_ (HS.out.store2 in22) ?_
  · obtain ⟨cd00, cd01, fd00, fd01⟩ := Xd0.out.c2
    first | (go_simp; done) | (go_simp; simp_all; done) | (go_simp; rfl)
  obtain ⟨W17, hW⟩ : ∃ W17, W17 = (World.setCell (World.setCell W16 ⟨w.heap.size + 1 + 1 + 1, 0, none⟩ (.bool n_b)) ⟨w.heap.size + 1 + 1 + 1, 1, none⟩ (.slice n_a n_n n_c)) := ⟨_, rfl⟩
  rw [← hW]
  obtain ⟨xd0, hk, hf, hbb, hz⟩ := stored2s hW Xd0.out (by first | exact NoInt.bool _ | exact NoInt.slice _ _ _) (by first | exact NoInt.bool _ | exact NoInt.slice _ _ _)
  have Hm := Lib.hid (CL.keep Hm.out hk)
  have Hn := Lib.hid (CL.keep Hn.out hk)
  have Xa0 := Lib.hid (hf _ _ _ Xa0.out (by omega))
  have Xb0 := Lib.hid (hf _ _ _ Xb0.out (by omega))
  have Xc0 := Lib.hid (hf _ _ _ Xc0.out (by omega))
  have Xd0 := Lib.hid xd0
  have HB := Lib.hid (hbb _ HB.out Gd0.out)
  have HS := Lib.hid (show SE (w6.drew) [w.heap.size + 1 + 1, w.heap.size + 1 + 1 + 1] W17 from by rw [hW]; exact HS.out.store2 in22)
  clear hW hk hf hbb xd0
  clear hz
  refine wpAnyH_done (by kernel_rfl) ?_ _
  clear HG HS Hok 
  obtain ⟨ca00, ca01, ca02, fa00, fa01, fa02⟩ := Xa0.out.c3
  have la0 := Xa0.out.lt
  obtain ⟨cb00, cb01, cb02, fb00, fb01, fb02⟩ := Xb0.out.c3
  have lb0 := Xb0.out.lt
  obtain ⟨cc00, cc01, fc00, fc01⟩ := Xc0.out.c2
  have lc0 := Xc0.out.lt
  obtain ⟨cd00, cd01, fd00, fd01⟩ := Xd0.out.c2
  have ld0 := Xd0.out.lt
  go_wp2
  clear ca00 ca01 ca02 fa00 fa01 fa02 la0 cb00 cb01 cb02 fb00 fb01 fb02 lb0 cc00 cc01 fc00 fc01 lc0 cd00 cd01 fd00 fd01 ld0
  exact ret_ii rfl rfl rfl rfl Xc0.out Xd0.out ⟨_, _, rfl, Hm.out, Hn.out⟩ HB.out
set_option maxRecDepth 100000 in
set_option maxHeartbeats 4000000 in
theorem rcmp_lt {L M : Nat} {ba : Bool} {na da : Nat} {sa ta : Value} {bb : Bool} {nb db : Nat} {sb tb : Value} {w : World} (s t : Int) (hs : (iv ba na).sign = s) (ht : (iv bb nb).sign = t) (d1 : (s != t) = true) (d2 : decide (s < t) = true) (hna : Is na L w sa) (hda : Is da L w ta) (hnb : Is nb M w sb) (hdb : Is db M w tb) (hL : L ≤ 100000000) (hM : M ≤ 100000000) :
    Calls Tryz.prog 74 #[.agg #[.bool ba, sa, ta], .agg #[.bool bb, sb, tb]] w (Ret w (Val (.int .i64 (-1)))) := by
  have Hna := Lib.hid hna
  have Hda := Lib.hid hda
  have Hnb := Lib.hid hnb
  have Hdb := Lib.hid hdb
  have Hs := Lib.hid hs
  have Ht := Lib.hid ht
  clear hna hda hnb hdb hs ht
  go_enter Tryz.func74, Tryz.ntmps74
  have HB := Lib.hid (Below.refl w.heap.size w)
  go_wp2_with fail
  obtain ⟨W1, hW⟩ : ∃ W1, W1 = (World.alloc (World.alloc w (.cells #[.bool ba, sa, ta] 37)) (.cells #[.bool bb, sb, tb] 37)) := ⟨_, rfl⟩
  rw [← hW]
  obtain ⟨xa0, xb0, hk, hb⟩ := boxes_2 _ _ _ _ _ hW
  clear hW
  have Hna := Lib.hid (Is.keep Hna.out hk)
  have Hda := Lib.hid (Is.keep Hda.out hk)
  have Hnb := Lib.hid (Is.keep Hnb.out hk)
  have Hdb := Lib.hid (Is.keep Hdb.out hk)
  have Ga0 := Lib.hid (show w.heap.size ≤ w.heap.size from Nat.le_trans HB.out.size (by omega))
  have Gb0 := Lib.hid (show w.heap.size ≤ w.heap.size + 1 from Nat.le_trans HB.out.size (by omega))
  have Xa0 := Lib.hid xa0
  have Xb0 := Lib.hid xb0
  have HB := Lib.hid (below_call HB.out hb)
  clear hk hb xa0 xb0
  have Hna := Lib.hid (Is.keep Hna.out (Keep.drew W1))
  have Hda := Lib.hid (Is.keep Hda.out (Keep.drew W1))
  have Hnb := Lib.hid (Is.keep Hnb.out (Keep.drew W1))
  have Hdb := Lib.hid (Is.keep Hdb.out (Keep.drew W1))
  have Xa0 := Lib.hid (Box.drew Xa0.out)
  have Xb0 := Lib.hid (Box.drew Xb0.out)
  have HB := Lib.hid (Below.drew HB.out)
  refine wp_region_float [] [] (by kernel_rfl) (by kernel_rfl) 28 (by kernel_rfl) Flok.nil ?_
  intro ok
  have Hok := Lib.hid ok
  clear ok
  have HG := Lib.hid (Below.refl (W1.drew).heap.size (W1.drew))
  refine good_pureX 0 (some 9) (Go.Op.load 37 (Go.Operand.tmp 2)) (none) (.agg #[.bool ba, sa, ta]) (by kernel_rfl) (by kernel_rfl) (by kernel_rfl) (fun _ _ _ h => h) (fun w' hw' => ?_) ?_
  · obtain ⟨ca00, ca01, ca02, fa00, fa01, fa02⟩ := (Box.se hw' Xa0.out notin0).c3
    first | (go_simp; done) | (go_simp; simp_all; done) | (go_simp; rfl)
  simp only [Act.put, List.setIfInBounds_toArray, List.set_cons_zero, List.set_cons_succ]
  refine good_pureX 2 (some 11) (Go.Op.load 37 (Go.Operand.tmp 3)) (none) (.agg #[.bool bb, sb, tb]) (by kernel_rfl) (by kernel_rfl) (by kernel_rfl) (fun _ _ _ h => h) (fun w' hw' => ?_) ?_
  · obtain ⟨cb00, cb01, cb02, fb00, fb01, fb02⟩ := (Box.se hw' Xb0.out notin0).c3
    first | (go_simp; done) | (go_simp; simp_all; done) | (go_simp; rfl)
  simp only [Act.put, List.setIfInBounds_toArray, List.set_cons_zero, List.set_cons_succ]
  refine good_callX 1 75 (some 10) #[Go.Operand.tmp 9] #[37] (none) #[.agg #[.bool ba, sa, ta]] (by kernel_rfl) Hok.out (by kernel_rfl) (by kernel_rfl) (by kernel_rfl) (by kernel_rfl) rfl rfl rfl (by kernel_rfl) (fun w2 hb => ?_)
  have HG := Lib.hid (below_call HG.out hb)
  clear hb
  (first | (have hcall := rsign_p (ba := ba) s Hs.out (Is.keep Hna.out (Keep.call HG.out)) (Is.keep Hda.out (Keep.call HG.out)) (by omega); refine Calls.mono hcall ?_; clear hcall) | refine Calls.mono (rsign_p (ba := ba) s Hs.out (Is.keep Hna.out (Keep.call HG.out)) (Is.keep Hda.out (Keep.call HG.out)) (by omega)) ?_)
  rintro e w3 ⟨v3, rfl, rfl, hb⟩
  refine ⟨_, rfl, ?_, hb⟩
  have HG := Lib.hid (below_call HG.out hb)
  clear hb
  simp only [Act.put, List.setIfInBounds_toArray, List.set_cons_zero, List.set_cons_succ]
  refine good_callX 3 75 (some 12) #[Go.Operand.tmp 11] #[37] (none) #[.agg #[.bool bb, sb, tb]] (by kernel_rfl) Hok.out (by kernel_rfl) (by kernel_rfl) (by kernel_rfl) (by kernel_rfl) rfl rfl rfl (by kernel_rfl) (fun w4 hb => ?_)
  have HG := Lib.hid (below_call HG.out hb)
  clear hb
  (first | (have hcall := rsign_p (ba := bb) t Ht.out (Is.keep Hnb.out (Keep.call HG.out)) (Is.keep Hdb.out (Keep.call HG.out)) (by omega); refine Calls.mono hcall ?_; clear hcall) | refine Calls.mono (rsign_p (ba := bb) t Ht.out (Is.keep Hnb.out (Keep.call HG.out)) (Is.keep Hdb.out (Keep.call HG.out)) (by omega)) ?_)
  rintro e w5 ⟨v5, rfl, rfl, hb⟩
  refine ⟨_, rfl, ?_, hb⟩
  have HG := Lib.hid (below_call HG.out hb)
  clear hb
  simp only [Act.put, List.setIfInBounds_toArray, List.set_cons_zero, List.set_cons_succ]
  refine good_pureX 4 (some 5) (Go.Op.assign (Go.Operand.tmp 10)) (none) (.int .i64 s) (by kernel_rfl) (by kernel_rfl) (by kernel_rfl) (fun _ _ _ h => h) (fun w' hw' => ?_) ?_
  · first | (go_simp; done) | (go_simp; simp_all; done) | (go_simp; rfl)
  simp only [Act.put, List.setIfInBounds_toArray, List.set_cons_zero, List.set_cons_succ]
  refine good_pureX 5 (some 6) (Go.Op.assign (Go.Operand.tmp 12)) (none) (.int .i64 t) (by kernel_rfl) (by kernel_rfl) (by kernel_rfl) (fun _ _ _ h => h) (fun w' hw' => ?_) ?_
  · first | (go_simp; done) | (go_simp; simp_all; done) | (go_simp; rfl)
  simp only [Act.put, List.setIfInBounds_toArray, List.set_cons_zero, List.set_cons_succ]
  refine good_end0 0 (by kernel_rfl) (fun _ w6 hb => ?_)
  have HG := Lib.hid (below_call HG.out hb)
  clear hb
  have Xa0 := Lib.hid (Box.pcall HG.out Xa0.out)
  have Xb0 := Lib.hid (Box.pcall HG.out Xb0.out)
  have HB := Lib.hid (below_call HB.out HG.out)
  have HS := Lib.hid (SE.of (E := []) HG.out)
  refine wpAnyH_done (by kernel_rfl) ?_ _
  clear HG HS Hok 
  obtain ⟨ca00, ca01, ca02, fa00, fa01, fa02⟩ := Xa0.out.c3
  have la0 := Xa0.out.lt
  obtain ⟨cb00, cb01, cb02, fb00, fb01, fb02⟩ := Xb0.out.c3
  have lb0 := Xb0.out.lt
  go_wp2
  clear ca00 ca01 ca02 fa00 fa01 fa02 la0 cb00 cb01 cb02 fb00 fb01 fb02 lb0
  go_ret
  exact ⟨_, rfl, rfl, HB.out⟩
set_option maxRecDepth 100000 in
set_option maxHeartbeats 4000000 in
theorem rcmp_gt {L M : Nat} {ba : Bool} {na da : Nat} {sa ta : Value} {bb : Bool} {nb db : Nat} {sb tb : Value} {w : World} (s t : Int) (hs : (iv ba na).sign = s) (ht : (iv bb nb).sign = t) (d1 : (s != t) = true) (d2 : decide (s < t) = false) (hna : Is na L w sa) (hda : Is da L w ta) (hnb : Is nb M w sb) (hdb : Is db M w tb) (hL : L ≤ 100000000) (hM : M ≤ 100000000) :
    Calls Tryz.prog 74 #[.agg #[.bool ba, sa, ta], .agg #[.bool bb, sb, tb]] w (Ret w (Val (.int .i64 1))) := by
  have Hna := Lib.hid hna
  have Hda := Lib.hid hda
  have Hnb := Lib.hid hnb
  have Hdb := Lib.hid hdb
  have Hs := Lib.hid hs
  have Ht := Lib.hid ht
  clear hna hda hnb hdb hs ht
  go_enter Tryz.func74, Tryz.ntmps74
  have HB := Lib.hid (Below.refl w.heap.size w)
  go_wp2_with fail
  obtain ⟨W1, hW⟩ : ∃ W1, W1 = (World.alloc (World.alloc w (.cells #[.bool ba, sa, ta] 37)) (.cells #[.bool bb, sb, tb] 37)) := ⟨_, rfl⟩
  rw [← hW]
  obtain ⟨xa0, xb0, hk, hb⟩ := boxes_2 _ _ _ _ _ hW
  clear hW
  have Hna := Lib.hid (Is.keep Hna.out hk)
  have Hda := Lib.hid (Is.keep Hda.out hk)
  have Hnb := Lib.hid (Is.keep Hnb.out hk)
  have Hdb := Lib.hid (Is.keep Hdb.out hk)
  have Ga0 := Lib.hid (show w.heap.size ≤ w.heap.size from Nat.le_trans HB.out.size (by omega))
  have Gb0 := Lib.hid (show w.heap.size ≤ w.heap.size + 1 from Nat.le_trans HB.out.size (by omega))
  have Xa0 := Lib.hid xa0
  have Xb0 := Lib.hid xb0
  have HB := Lib.hid (below_call HB.out hb)
  clear hk hb xa0 xb0
  have Hna := Lib.hid (Is.keep Hna.out (Keep.drew W1))
  have Hda := Lib.hid (Is.keep Hda.out (Keep.drew W1))
  have Hnb := Lib.hid (Is.keep Hnb.out (Keep.drew W1))
  have Hdb := Lib.hid (Is.keep Hdb.out (Keep.drew W1))
  have Xa0 := Lib.hid (Box.drew Xa0.out)
  have Xb0 := Lib.hid (Box.drew Xb0.out)
  have HB := Lib.hid (Below.drew HB.out)
  refine wp_region_float [] [] (by kernel_rfl) (by kernel_rfl) 28 (by kernel_rfl) Flok.nil ?_
  intro ok
  have Hok := Lib.hid ok
  clear ok
  have HG := Lib.hid (Below.refl (W1.drew).heap.size (W1.drew))
  refine good_pureX 0 (some 9) (Go.Op.load 37 (Go.Operand.tmp 2)) (none) (.agg #[.bool ba, sa, ta]) (by kernel_rfl) (by kernel_rfl) (by kernel_rfl) (fun _ _ _ h => h) (fun w' hw' => ?_) ?_
  · obtain ⟨ca00, ca01, ca02, fa00, fa01, fa02⟩ := (Box.se hw' Xa0.out notin0).c3
    first | (go_simp; done) | (go_simp; simp_all; done) | (go_simp; rfl)
  simp only [Act.put, List.setIfInBounds_toArray, List.set_cons_zero, List.set_cons_succ]
  refine good_pureX 2 (some 11) (Go.Op.load 37 (Go.Operand.tmp 3)) (none) (.agg #[.bool bb, sb, tb]) (by kernel_rfl) (by kernel_rfl) (by kernel_rfl) (fun _ _ _ h => h) (fun w' hw' => ?_) ?_
  · obtain ⟨cb00, cb01, cb02, fb00, fb01, fb02⟩ := (Box.se hw' Xb0.out notin0).c3
    first | (go_simp; done) | (go_simp; simp_all; done) | (go_simp; rfl)
  simp only [Act.put, List.setIfInBounds_toArray, List.set_cons_zero, List.set_cons_succ]
  refine good_callX 1 75 (some 10) #[Go.Operand.tmp 9] #[37] (none) #[.agg #[.bool ba, sa, ta]] (by kernel_rfl) Hok.out (by kernel_rfl) (by kernel_rfl) (by kernel_rfl) (by kernel_rfl) rfl rfl rfl (by kernel_rfl) (fun w2 hb => ?_)
  have HG := Lib.hid (below_call HG.out hb)
  clear hb
  (first | (have hcall := rsign_p (ba := ba) s Hs.out (Is.keep Hna.out (Keep.call HG.out)) (Is.keep Hda.out (Keep.call HG.out)) (by omega); refine Calls.mono hcall ?_; clear hcall) | refine Calls.mono (rsign_p (ba := ba) s Hs.out (Is.keep Hna.out (Keep.call HG.out)) (Is.keep Hda.out (Keep.call HG.out)) (by omega)) ?_)
  rintro e w3 ⟨v3, rfl, rfl, hb⟩
  refine ⟨_, rfl, ?_, hb⟩
  have HG := Lib.hid (below_call HG.out hb)
  clear hb
  simp only [Act.put, List.setIfInBounds_toArray, List.set_cons_zero, List.set_cons_succ]
  refine good_callX 3 75 (some 12) #[Go.Operand.tmp 11] #[37] (none) #[.agg #[.bool bb, sb, tb]] (by kernel_rfl) Hok.out (by kernel_rfl) (by kernel_rfl) (by kernel_rfl) (by kernel_rfl) rfl rfl rfl (by kernel_rfl) (fun w4 hb => ?_)
  have HG := Lib.hid (below_call HG.out hb)
  clear hb
  (first | (have hcall := rsign_p (ba := bb) t Ht.out (Is.keep Hnb.out (Keep.call HG.out)) (Is.keep Hdb.out (Keep.call HG.out)) (by omega); refine Calls.mono hcall ?_; clear hcall) | refine Calls.mono (rsign_p (ba := bb) t Ht.out (Is.keep Hnb.out (Keep.call HG.out)) (Is.keep Hdb.out (Keep.call HG.out)) (by omega)) ?_)
  rintro e w5 ⟨v5, rfl, rfl, hb⟩
  refine ⟨_, rfl, ?_, hb⟩
  have HG := Lib.hid (below_call HG.out hb)
  clear hb
  simp only [Act.put, List.setIfInBounds_toArray, List.set_cons_zero, List.set_cons_succ]
  refine good_pureX 4 (some 5) (Go.Op.assign (Go.Operand.tmp 10)) (none) (.int .i64 s) (by kernel_rfl) (by kernel_rfl) (by kernel_rfl) (fun _ _ _ h => h) (fun w' hw' => ?_) ?_
  · first | (go_simp; done) | (go_simp; simp_all; done) | (go_simp; rfl)
  simp only [Act.put, List.setIfInBounds_toArray, List.set_cons_zero, List.set_cons_succ]
  refine good_pureX 5 (some 6) (Go.Op.assign (Go.Operand.tmp 12)) (none) (.int .i64 t) (by kernel_rfl) (by kernel_rfl) (by kernel_rfl) (fun _ _ _ h => h) (fun w' hw' => ?_) ?_
  · first | (go_simp; done) | (go_simp; simp_all; done) | (go_simp; rfl)
  simp only [Act.put, List.setIfInBounds_toArray, List.set_cons_zero, List.set_cons_succ]
  refine good_end0 0 (by kernel_rfl) (fun _ w6 hb => ?_)
  have HG := Lib.hid (below_call HG.out hb)
  clear hb
  have Xa0 := Lib.hid (Box.pcall HG.out Xa0.out)
  have Xb0 := Lib.hid (Box.pcall HG.out Xb0.out)
  have HB := Lib.hid (below_call HB.out HG.out)
  have HS := Lib.hid (SE.of (E := []) HG.out)
  refine wpAnyH_done (by kernel_rfl) ?_ _
  clear HG HS Hok 
  obtain ⟨ca00, ca01, ca02, fa00, fa01, fa02⟩ := Xa0.out.c3
  have la0 := Xa0.out.lt
  obtain ⟨cb00, cb01, cb02, fb00, fb01, fb02⟩ := Xb0.out.c3
  have lb0 := Xb0.out.lt
  go_wp2
  clear ca00 ca01 ca02 fa00 fa01 fa02 la0 cb00 cb01 cb02 fb00 fb01 fb02 lb0
  go_ret
  exact ⟨_, rfl, rfl, HB.out⟩
set_option maxRecDepth 100000 in
set_option maxHeartbeats 4000000 in
theorem rcmp_eq {L M : Nat} {ba : Bool} {na da : Nat} {sa ta : Value} {bb : Bool} {nb db : Nat} {sb tb : Value} {w : World} (s k : Int) (hs : (iv ba na).sign = s) (ht : (iv bb nb).sign = s) (hk : (iv ba na * (un db : Nat) - iv bb nb * (un da : Nat)).sign = k) (hna : Is na L w sa) (hda : Is da L w ta) (hnb : Is nb M w sb) (hdb : Is db M w tb) (hL : L ≤ 100000000) (hM : M ≤ 100000000) :
    Calls Tryz.prog 74 #[.agg #[.bool ba, sa, ta], .agg #[.bool bb, sb, tb]] w (Ret w (Val (.int .i64 k))) := by
  have Hna := Lib.hid hna
  have Hda := Lib.hid hda
  have Hnb := Lib.hid hnb
  have Hdb := Lib.hid hdb
  have Hs := Lib.hid hs
  have Ht := Lib.hid ht
  have Hk := Lib.hid hk
  clear hna hda hnb hdb hs ht hk
  go_enter Tryz.func74, Tryz.ntmps74
  have HB := Lib.hid (Below.refl w.heap.size w)
  go_wp2_with fail
  obtain ⟨W1, hW⟩ : ∃ W1, W1 = (World.alloc (World.alloc w (.cells #[.bool ba, sa, ta] 37)) (.cells #[.bool bb, sb, tb] 37)) := ⟨_, rfl⟩
  rw [← hW]
  obtain ⟨xa0, xb0, hk, hb⟩ := boxes_2 _ _ _ _ _ hW
  clear hW
  have Hna := Lib.hid (Is.keep Hna.out hk)
  have Hda := Lib.hid (Is.keep Hda.out hk)
  have Hnb := Lib.hid (Is.keep Hnb.out hk)
  have Hdb := Lib.hid (Is.keep Hdb.out hk)
  have Ga0 := Lib.hid (show w.heap.size ≤ w.heap.size from Nat.le_trans HB.out.size (by omega))
  have Gb0 := Lib.hid (show w.heap.size ≤ w.heap.size + 1 from Nat.le_trans HB.out.size (by omega))
  have Xa0 := Lib.hid xa0
  have Xb0 := Lib.hid xb0
  have HB := Lib.hid (below_call HB.out hb)
  clear hk hb xa0 xb0
  have Hna := Lib.hid (Is.keep Hna.out (Keep.drew W1))
  have Hda := Lib.hid (Is.keep Hda.out (Keep.drew W1))
  have Hnb := Lib.hid (Is.keep Hnb.out (Keep.drew W1))
  have Hdb := Lib.hid (Is.keep Hdb.out (Keep.drew W1))
  have Xa0 := Lib.hid (Box.drew Xa0.out)
  have Xb0 := Lib.hid (Box.drew Xb0.out)
  have HB := Lib.hid (Below.drew HB.out)
  refine wp_region_float [] [] (by kernel_rfl) (by kernel_rfl) 28 (by kernel_rfl) Flok.nil ?_
  intro ok
  have Hok := Lib.hid ok
  clear ok
  have HG := Lib.hid (Below.refl (W1.drew).heap.size (W1.drew))
  refine good_pureX 0 (some 9) (Go.Op.load 37 (Go.Operand.tmp 2)) (none) (.agg #[.bool ba, sa, ta]) (by kernel_rfl) (by kernel_rfl) (by kernel_rfl) (fun _ _ _ h => h) (fun w' hw' => ?_) ?_
  · obtain ⟨ca00, ca01, ca02, fa00, fa01, fa02⟩ := (Box.se hw' Xa0.out notin0).c3
    first | (go_simp; done) | (go_simp; simp_all; done) | (go_simp; rfl)
  simp only [Act.put, List.setIfInBounds_toArray, List.set_cons_zero, List.set_cons_succ]
  refine good_pureX 2 (some 11) (Go.Op.load 37 (Go.Operand.tmp 3)) (none) (.agg #[.bool bb, sb, tb]) (by kernel_rfl) (by kernel_rfl) (by kernel_rfl) (fun _ _ _ h => h) (fun w' hw' => ?_) ?_
  · obtain ⟨cb00, cb01, cb02, fb00, fb01, fb02⟩ := (Box.se hw' Xb0.out notin0).c3
    first | (go_simp; done) | (go_simp; simp_all; done) | (go_simp; rfl)
  simp only [Act.put, List.setIfInBounds_toArray, List.set_cons_zero, List.set_cons_succ]
  refine good_callX 1 75 (some 10) #[Go.Operand.tmp 9] #[37] (none) #[.agg #[.bool ba, sa, ta]] (by kernel_rfl) Hok.out (by kernel_rfl) (by kernel_rfl) (by kernel_rfl) (by kernel_rfl) rfl rfl rfl (by kernel_rfl) (fun w2 hb => ?_)
  have HG := Lib.hid (below_call HG.out hb)
  clear hb
  (first | (have hcall := rsign_p (ba := ba) s Hs.out (Is.keep Hna.out (Keep.call HG.out)) (Is.keep Hda.out (Keep.call HG.out)) (by omega); refine Calls.mono hcall ?_; clear hcall) | refine Calls.mono (rsign_p (ba := ba) s Hs.out (Is.keep Hna.out (Keep.call HG.out)) (Is.keep Hda.out (Keep.call HG.out)) (by omega)) ?_)
  rintro e w3 ⟨v3, rfl, rfl, hb⟩
  refine ⟨_, rfl, ?_, hb⟩
  have HG := Lib.hid (below_call HG.out hb)
  clear hb
  simp only [Act.put, List.setIfInBounds_toArray, List.set_cons_zero, List.set_cons_succ]
  refine good_callX 3 75 (some 12) #[Go.Operand.tmp 11] #[37] (none) #[.agg #[.bool bb, sb, tb]] (by kernel_rfl) Hok.out (by kernel_rfl) (by kernel_rfl) (by kernel_rfl) (by kernel_rfl) rfl rfl rfl (by kernel_rfl) (fun w4 hb => ?_)
  have HG := Lib.hid (below_call HG.out hb)
  clear hb
  (first | (have hcall := rsign_p (ba := bb) s Ht.out (Is.keep Hnb.out (Keep.call HG.out)) (Is.keep Hdb.out (Keep.call HG.out)) (by omega); refine Calls.mono hcall ?_; clear hcall) | refine Calls.mono (rsign_p (ba := bb) s Ht.out (Is.keep Hnb.out (Keep.call HG.out)) (Is.keep Hdb.out (Keep.call HG.out)) (by omega)) ?_)
  rintro e w5 ⟨v5, rfl, rfl, hb⟩
  refine ⟨_, rfl, ?_, hb⟩
  have HG := Lib.hid (below_call HG.out hb)
  clear hb
  simp only [Act.put, List.setIfInBounds_toArray, List.set_cons_zero, List.set_cons_succ]
  refine good_pureX 4 (some 5) (Go.Op.assign (Go.Operand.tmp 10)) (none) (.int .i64 s) (by kernel_rfl) (by kernel_rfl) (by kernel_rfl) (fun _ _ _ h => h) (fun w' hw' => ?_) ?_
  · first | (go_simp; done) | (go_simp; simp_all; done) | (go_simp; rfl)
  simp only [Act.put, List.setIfInBounds_toArray, List.set_cons_zero, List.set_cons_succ]
  refine good_pureX 5 (some 6) (Go.Op.assign (Go.Operand.tmp 12)) (none) (.int .i64 s) (by kernel_rfl) (by kernel_rfl) (by kernel_rfl) (fun _ _ _ h => h) (fun w' hw' => ?_) ?_
  · first | (go_simp; done) | (go_simp; simp_all; done) | (go_simp; rfl)
  simp only [Act.put, List.setIfInBounds_toArray, List.set_cons_zero, List.set_cons_succ]
  refine good_end0 0 (by kernel_rfl) (fun _ w6 hb => ?_)
  have HG := Lib.hid (below_call HG.out hb)
  clear hb
  have Hna := Lib.hid (Is.keep Hna.out (Keep.call HG.out))
  have Hda := Lib.hid (Is.keep Hda.out (Keep.call HG.out))
  have Hnb := Lib.hid (Is.keep Hnb.out (Keep.call HG.out))
  have Hdb := Lib.hid (Is.keep Hdb.out (Keep.call HG.out))
  have Xa0 := Lib.hid (Box.pcall HG.out Xa0.out)
  have Xb0 := Lib.hid (Box.pcall HG.out Xb0.out)
  have HB := Lib.hid (below_call HB.out HG.out)
  have HS := Lib.hid (SE.of (E := []) HG.out)
  refine wpAnyH_done (by kernel_rfl) ?_ _
  clear HG HS Hok 
  obtain ⟨ca00, ca01, ca02, fa00, fa01, fa02⟩ := Xa0.out.c3
  have la0 := Xa0.out.lt
  obtain ⟨cb00, cb01, cb02, fb00, fb01, fb02⟩ := Xb0.out.c3
  have lb0 := Xb0.out.lt
  go_wp2_with fail
  clear ca00 ca01 ca02 fa00 fa01 fa02 la0 cb00 cb01 cb02 fb00 fb01 fb02 lb0
  (first | (have hcall := cross_p (ba := ba) (bb := bb) Hna.out Hda.out Hnb.out Hdb.out (by omega) (by omega); refine Calls.mono hcall ?_; clear hcall) | refine Calls.mono (cross_p (ba := ba) (bb := bb) Hna.out Hda.out Hnb.out Hdb.out (by omega) (by omega)) ?_)
  rintro e w7 ⟨t7, rfl, ⟨v7, u7, rfl, hx, hv⟩, hb⟩
  obtain ⟨x_b, x_a, x_n, x_c, rfl⟩ := hx.litb
  obtain ⟨v_b, v_a, v_n, v_c, rfl⟩ := hv.litb
  have Xa0 := Lib.hid (Box.pcall hb Xa0.out)
  have Xb0 := Lib.hid (Box.pcall hb Xb0.out)
  have HB := Lib.hid (below_call HB.out hb)
  have Hx := Lib.hid hx
  have Hv := Lib.hid hv
  clear hb hx hv
  obtain ⟨ca00, ca01, ca02, fa00, fa01, fa02⟩ := Xa0.out.c3
  have la0 := Xa0.out.lt
  obtain ⟨cb00, cb01, cb02, fb00, fb01, fb02⟩ := Xb0.out.c3
  have lb0 := Xb0.out.lt
  go_wp2_with fail
  clear ca00 ca01 ca02 fa00 fa01 fa02 la0 cb00 cb01 cb02 fb00 fb01 fb02 lb0
  obtain ⟨W8, hW⟩ : ∃ W8, W8 = (World.alloc (World.alloc w7 (.cells #[.bool x_b, .slice x_a x_n x_c] 105)) (.cells #[.bool v_b, .slice v_a v_n v_c] 105)) := ⟨_, rfl⟩
  rw [← hW]
  obtain ⟨xc0, xd0, hk, hb⟩ := boxes_2 _ _ _ _ _ hW
  clear hW
  have Hx := Lib.hid (CL.keep Hx.out hk)
  have Hv := Lib.hid (CL.keep Hv.out hk)
  have Na0c0 := Lib.hid (show w.heap.size ≠ w7.heap.size from Nat.ne_of_lt (Nat.lt_of_lt_of_le Xa0.out.lt (by omega)))
  have Nb0c0 := Lib.hid (show w.heap.size + 1 ≠ w7.heap.size from Nat.ne_of_lt (Nat.lt_of_lt_of_le Xb0.out.lt (by omega)))
  have Gc0 := Lib.hid (show w.heap.size ≤ w7.heap.size from Nat.le_trans HB.out.size (by omega))
  have Na0d0 := Lib.hid (show w.heap.size ≠ w7.heap.size + 1 from Nat.ne_of_lt (Nat.lt_of_lt_of_le Xa0.out.lt (by omega)))
  have Nb0d0 := Lib.hid (show w.heap.size + 1 ≠ w7.heap.size + 1 from Nat.ne_of_lt (Nat.lt_of_lt_of_le Xb0.out.lt (by omega)))
  have Gd0 := Lib.hid (show w.heap.size ≤ w7.heap.size + 1 from Nat.le_trans HB.out.size (by omega))
  have Xa0 := Lib.hid (Box.pcall hb Xa0.out)
  have Xb0 := Lib.hid (Box.pcall hb Xb0.out)
  have Xc0 := Lib.hid xc0
  have Xd0 := Lib.hid xd0
  have HB := Lib.hid (below_call HB.out hb)
  clear hk hb xc0 xd0
  (first | (have hcall := icmp_ai k Hx.out.ai Hv.out.ai Hk.out (by omega) (by omega); refine Calls.mono hcall ?_; clear hcall) | refine Calls.mono (icmp_ai k Hx.out.ai Hv.out.ai Hk.out (by omega) (by omega)) ?_)
  rintro e w9 ⟨v9, rfl, rfl, hb⟩
  have Xa0 := Lib.hid (Box.pcall hb Xa0.out)
  have Xb0 := Lib.hid (Box.pcall hb Xb0.out)
  have Xc0 := Lib.hid (Box.pcall hb Xc0.out)
  have Xd0 := Lib.hid (Box.pcall hb Xd0.out)
  have HB := Lib.hid (below_call HB.out hb)
  clear hb
  obtain ⟨ca00, ca01, ca02, fa00, fa01, fa02⟩ := Xa0.out.c3
  have la0 := Xa0.out.lt
  obtain ⟨cb00, cb01, cb02, fb00, fb01, fb02⟩ := Xb0.out.c3
  have lb0 := Xb0.out.lt
  obtain ⟨cc00, cc01, fc00, fc01⟩ := Xc0.out.c2
  have lc0 := Xc0.out.lt
  obtain ⟨cd00, cd01, fd00, fd01⟩ := Xd0.out.c2
  have ld0 := Xd0.out.lt
  go_wp2
  clear ca00 ca01 ca02 fa00 fa01 fa02 la0 cb00 cb01 cb02 fb00 fb01 fb02 lb0 cc00 cc01 fc00 fc01 lc0 cd00 cd01 fd00 fd01 ld0
  go_ret
  exact ⟨_, rfl, rfl, HB.out⟩
theorem rcmp_ar {a b : Rat} {L M : Nat} {u v : Value} {w : World} (k : Int) (h : AR a L w u) (h' : AR b M w v) (hk : cmpQ a b = k) (hL : L ≤ 100000000) (hM : M ≤ 100000000) :
    Calls Tryz.prog 74 #[u, v] w (Ret w (Val (.int .i64 k))) := by
  obtain ⟨ba, sa, ta, na, da, rfl, h1, h2, rfl⟩ := h
  obtain ⟨bb, sb, tb, nb, db, rfl, h3, h4, rfl⟩ := h'
  rw [cmpQ_rv] at hk
  rcases Int.lt_trichotomy (iv ba na).sign (iv bb nb).sign with hs | hs | hs
  · rw [cross_lt hs] at hk
    subst hk
    exact rcmp_lt _ _ rfl rfl (by simp; omega) (by simpa using hs) h1 h2 h3 h4 hL hM
  · exact rcmp_eq _ _ rfl hs.symm hk h1 h2 h3 h4 hL hM
  · rw [cross_gt hs] at hk
    subst hk
    exact rcmp_gt _ _ rfl rfl (by simp; omega) (by simp; omega) h1 h2 h3 h4 hL hM
set_option maxRecDepth 100000 in
set_option maxHeartbeats 4000000 in
theorem rneg_p {L : Nat} {qa : Rat} {ba : Bool} {sa ta : Value} {w : World} (ha : AR qa L w (.agg #[.bool ba, sa, ta])) (hL : L ≤ 100000000) :
    Calls Tryz.prog 83 #[.agg #[.bool ba, sa, ta]] w (Ret w (CR (-qa) (max L 1))) := by
  have Ha := Lib.hid ha
  clear ha
  go_enter Tryz.func83, Tryz.ntmps83
  have HB := Lib.hid (Below.refl w.heap.size w)
  go_wp2_with fail
  obtain ⟨W1, hW⟩ : ∃ W1, W1 = (World.alloc (World.alloc w (.cells #[.bool (!ba), sa, ta] 37)) (.cells #[.bool false, .slice none 0 0, .slice none 0 0] 37)) := ⟨_, rfl⟩
  rw [← hW]
  obtain ⟨xa0, xb0, hk, hb⟩ := boxes_2 _ _ _ _ _ hW
  clear hW
  have Ha := Lib.hid (AR.keep Ha.out hk)
  have Ga0 := Lib.hid (show w.heap.size ≤ w.heap.size from Nat.le_trans HB.out.size (by omega))
  have Gb0 := Lib.hid (show w.heap.size ≤ w.heap.size + 1 from Nat.le_trans HB.out.size (by omega))
  have Xa0 := Lib.hid xa0
  have Xb0 := Lib.hid xb0
  have HB := Lib.hid (below_call HB.out hb)
  clear hk hb xa0 xb0
  (first | (have hcall := canon_ar (AR.neg Ha.out) (by omega); refine Calls.mono hcall ?_; clear hcall) | refine Calls.mono (canon_ar (AR.neg Ha.out) (by omega)) ?_)
  rintro e w2 ⟨v2, rfl, hz, hb⟩
  obtain ⟨z_b, z_a, z_n, z_c, z_d, z_m, z_e, rfl⟩ := hz.litb
  have Xa0 := Lib.hid (Box.pcall hb Xa0.out)
  have Xb0 := Lib.hid (Box.pcall hb Xb0.out)
  have HB := Lib.hid (below_call HB.out hb)
  have Hz := Lib.hid hz
  clear hb hz
  obtain ⟨ca00, ca01, ca02, fa00, fa01, fa02⟩ := Xa0.out.c3
  have la0 := Xa0.out.lt
  obtain ⟨cb00, cb01, cb02, fb00, fb01, fb02⟩ := Xb0.out.c3
  have lb0 := Xb0.out.lt
  go_wp2
  clear ca00 ca01 ca02 fa00 fa01 fa02 la0 cb00 cb01 cb02 fb00 fb01 fb02 lb0
  obtain ⟨W3, hW⟩ : ∃ W3, W3 = (World.setCell (World.setCell (World.setCell w2 ⟨w.heap.size + 1, 0, none⟩ (.bool z_b)) ⟨w.heap.size + 1, 1, none⟩ (.slice z_a z_n z_c)) ⟨w.heap.size + 1, 2, none⟩ (.slice z_d z_m z_e)) := ⟨_, rfl⟩
  rw [← hW]
  obtain ⟨xb0, hk, hf, hbb, hz⟩ := stored3s hW Xb0.out (by first | exact NoInt.bool _ | exact NoInt.slice _ _ _) (by first | exact NoInt.bool _ | exact NoInt.slice _ _ _) (by first | exact NoInt.bool _ | exact NoInt.slice _ _ _)
  have Hz := Lib.hid (CR.keep Hz.out hk)
  have Xa0 := Lib.hid (hf _ _ _ Xa0.out (by omega))
  have Xb0 := Lib.hid xb0
  have HB := Lib.hid (hbb _ HB.out Gb0.out)
  clear hW hk hf hbb xb0
  clear hz
  exact ret_rat1 rfl rfl rfl Xb0.out Hz.out HB.out
theorem rneg_ar {q : Rat} {L : Nat} {v : Value} {w : World} (h : AR q L w v) (hL : L ≤ 100000000) : Calls Tryz.prog 83 #[v] w (Ret w (CR (-q) (max L 1))) := by
  obtain ⟨b, s, t, rfl⟩ := h.agg
  exact rneg_p h hL
set_option maxRecDepth 100000 in
set_option maxHeartbeats 4000000 in
theorem radd_p {L M : Nat} {ba : Bool} {na da : Nat} {sa ta : Value} {bb : Bool} {nb db : Nat} {sb tb : Value} {w : World} (hna : Is na L w sa) (hda : Is da L w ta) (hnb : Is nb M w sb) (hdb : Is db M w tb) (hL : L ≤ 100000000) (hM : M ≤ 100000000) :
    Calls Tryz.prog 77 #[.agg #[.bool ba, sa, ta], .agg #[.bool bb, sb, tb]] w (Ret w (CR (rv ba na da + rv bb nb db) (L + M + 3))) := by
  have Hna := Lib.hid hna
  have Hda := Lib.hid hda
  have Hnb := Lib.hid hnb
  have Hdb := Lib.hid hdb
  clear hna hda hnb hdb
  go_enter Tryz.func77, Tryz.ntmps77
  have HB := Lib.hid (Below.refl w.heap.size w)
  go_wp2_with fail
  obtain ⟨W1, hW⟩ : ∃ W1, W1 = (World.alloc (World.alloc (World.alloc w (.cells #[.bool ba, sa, ta] 37)) (.cells #[.bool bb, sb, tb] 37)) (.cells #[.bool false, .slice none 0 0, .slice none 0 0] 37)) := ⟨_, rfl⟩
  rw [← hW]
  obtain ⟨xa0, xb0, xc0, hk, hb⟩ := boxes_3 _ _ _ _ _ _ _ hW
  clear hW
  have Hna := Lib.hid (Is.keep Hna.out hk)
  have Hda := Lib.hid (Is.keep Hda.out hk)
  have Hnb := Lib.hid (Is.keep Hnb.out hk)
  have Hdb := Lib.hid (Is.keep Hdb.out hk)
  have Ga0 := Lib.hid (show w.heap.size ≤ w.heap.size from Nat.le_trans HB.out.size (by omega))
  have Gb0 := Lib.hid (show w.heap.size ≤ w.heap.size + 1 from Nat.le_trans HB.out.size (by omega))
  have Gc0 := Lib.hid (show w.heap.size ≤ w.heap.size + 1 + 1 from Nat.le_trans HB.out.size (by omega))
  have Xa0 := Lib.hid xa0
  have Xb0 := Lib.hid xb0
  have Xc0 := Lib.hid xc0
  have HB := Lib.hid (below_call HB.out hb)
  clear hk hb xa0 xb0 xc0
  (first | (have hcall := cross_p (ba := ba) (bb := bb) Hna.out Hda.out Hnb.out Hdb.out (by omega) (by omega); refine Calls.mono hcall ?_; clear hcall) | refine Calls.mono (cross_p (ba := ba) (bb := bb) Hna.out Hda.out Hnb.out Hdb.out (by omega) (by omega)) ?_)
  rintro e w2 ⟨t2, rfl, ⟨v2, u2, rfl, hx, hv⟩, hb⟩
  obtain ⟨x_b, x_a, x_n, x_c, rfl⟩ := hx.litb
  obtain ⟨v_b, v_a, v_n, v_c, rfl⟩ := hv.litb
  have Hda := Lib.hid (Is.keep Hda.out (Keep.call hb))
  have Hdb := Lib.hid (Is.keep Hdb.out (Keep.call hb))
  have Xa0 := Lib.hid (Box.pcall hb Xa0.out)
  have Xb0 := Lib.hid (Box.pcall hb Xb0.out)
  have Xc0 := Lib.hid (Box.pcall hb Xc0.out)
  have HB := Lib.hid (below_call HB.out hb)
  have Hx := Lib.hid hx
  have Hv := Lib.hid hv
  clear hb hx hv
  obtain ⟨ca00, ca01, ca02, fa00, fa01, fa02⟩ := Xa0.out.c3
  have la0 := Xa0.out.lt
  obtain ⟨cb00, cb01, cb02, fb00, fb01, fb02⟩ := Xb0.out.c3
  have lb0 := Xb0.out.lt
  obtain ⟨cc00, cc01, cc02, fc00, fc01, fc02⟩ := Xc0.out.c3
  have lc0 := Xc0.out.lt
  go_wp2_with fail
  clear ca00 ca01 ca02 fa00 fa01 fa02 la0 cb00 cb01 cb02 fb00 fb01 fb02 lb0 cc00 cc01 cc02 fc00 fc01 fc02 lc0
  obtain ⟨W3, hW⟩ : ∃ W3, W3 = (World.alloc (World.alloc w2 (.cells #[.bool x_b, .slice x_a x_n x_c] 105)) (.cells #[.bool v_b, .slice v_a v_n v_c] 105)) := ⟨_, rfl⟩
  rw [← hW]
  obtain ⟨xd0, xe0, hk, hb⟩ := boxes_2 _ _ _ _ _ hW
  clear hW
  have Hda := Lib.hid (Is.keep Hda.out hk)
  have Hdb := Lib.hid (Is.keep Hdb.out hk)
  have Hx := Lib.hid (CL.keep Hx.out hk)
  have Hv := Lib.hid (CL.keep Hv.out hk)
  have Na0d0 := Lib.hid (show w.heap.size ≠ w2.heap.size from Nat.ne_of_lt (Nat.lt_of_lt_of_le Xa0.out.lt (by omega)))
  have Nb0d0 := Lib.hid (show w.heap.size + 1 ≠ w2.heap.size from Nat.ne_of_lt (Nat.lt_of_lt_of_le Xb0.out.lt (by omega)))
  have Nc0d0 := Lib.hid (show w.heap.size + 1 + 1 ≠ w2.heap.size from Nat.ne_of_lt (Nat.lt_of_lt_of_le Xc0.out.lt (by omega)))
  have Gd0 := Lib.hid (show w.heap.size ≤ w2.heap.size from Nat.le_trans HB.out.size (by omega))
  have Na0e0 := Lib.hid (show w.heap.size ≠ w2.heap.size + 1 from Nat.ne_of_lt (Nat.lt_of_lt_of_le Xa0.out.lt (by omega)))
  have Nb0e0 := Lib.hid (show w.heap.size + 1 ≠ w2.heap.size + 1 from Nat.ne_of_lt (Nat.lt_of_lt_of_le Xb0.out.lt (by omega)))
  have Nc0e0 := Lib.hid (show w.heap.size + 1 + 1 ≠ w2.heap.size + 1 from Nat.ne_of_lt (Nat.lt_of_lt_of_le Xc0.out.lt (by omega)))
  have Ge0 := Lib.hid (show w.heap.size ≤ w2.heap.size + 1 from Nat.le_trans HB.out.size (by omega))
  have Xa0 := Lib.hid (Box.pcall hb Xa0.out)
  have Xb0 := Lib.hid (Box.pcall hb Xb0.out)
  have Xc0 := Lib.hid (Box.pcall hb Xc0.out)
  have Xd0 := Lib.hid xd0
  have Xe0 := Lib.hid xe0
  have HB := Lib.hid (below_call HB.out hb)
  clear hk hb xd0 xe0
  (first | (have hcall := iadd_ai Hx.out.ai Hv.out.ai (by omega) (by omega); refine Calls.mono hcall ?_; clear hcall) | refine Calls.mono (iadd_ai Hx.out.ai Hv.out.ai (by omega) (by omega)) ?_)
  rintro e w4 ⟨v4, rfl, hs, hb⟩
  obtain ⟨s_b, s_a, s_n, s_c, rfl⟩ := hs.litb
  have Hda := Lib.hid (Is.keep Hda.out (Keep.call hb))
  have Hdb := Lib.hid (Is.keep Hdb.out (Keep.call hb))
  have Xa0 := Lib.hid (Box.pcall hb Xa0.out)
  have Xb0 := Lib.hid (Box.pcall hb Xb0.out)
  have Xc0 := Lib.hid (Box.pcall hb Xc0.out)
  have Xd0 := Lib.hid (Box.pcall hb Xd0.out)
  have Xe0 := Lib.hid (Box.pcall hb Xe0.out)
  have HB := Lib.hid (below_call HB.out hb)
  have Hs := Lib.hid hs
  clear hb hs
  obtain ⟨ca00, ca01, ca02, fa00, fa01, fa02⟩ := Xa0.out.c3
  have la0 := Xa0.out.lt
  obtain ⟨cb00, cb01, cb02, fb00, fb01, fb02⟩ := Xb0.out.c3
  have lb0 := Xb0.out.lt
  obtain ⟨cc00, cc01, cc02, fc00, fc01, fc02⟩ := Xc0.out.c3
  have lc0 := Xc0.out.lt
  obtain ⟨cd00, cd01, fd00, fd01⟩ := Xd0.out.c2
  have ld0 := Xd0.out.lt
  obtain ⟨ce00, ce01, fe00, fe01⟩ := Xe0.out.c2
  have le0 := Xe0.out.lt
  go_wp2_with fail
  clear ca00 ca01 ca02 fa00 fa01 fa02 la0 cb00 cb01 cb02 fb00 fb01 fb02 lb0 cc00 cc01 cc02 fc00 fc01 fc02 lc0 cd00 cd01 fd00 fd01 ld0 ce00 ce01 fe00 fe01 le0
  obtain ⟨W5, hW⟩ : ∃ W5, W5 = (World.alloc w4 (.cells #[.bool s_b, .slice s_a s_n s_c] 105)) := ⟨_, rfl⟩
  rw [← hW]
  obtain ⟨xf0, hk, hb⟩ := boxes_1 _ _ _ hW
  clear hW
  have Hda := Lib.hid (Is.keep Hda.out hk)
  have Hdb := Lib.hid (Is.keep Hdb.out hk)
  have Hs := Lib.hid (CL.keep Hs.out hk)
  have Na0f0 := Lib.hid (show w.heap.size ≠ w4.heap.size from Nat.ne_of_lt (Nat.lt_of_lt_of_le Xa0.out.lt (by omega)))
  have Nb0f0 := Lib.hid (show w.heap.size + 1 ≠ w4.heap.size from Nat.ne_of_lt (Nat.lt_of_lt_of_le Xb0.out.lt (by omega)))
  have Nc0f0 := Lib.hid (show w.heap.size + 1 + 1 ≠ w4.heap.size from Nat.ne_of_lt (Nat.lt_of_lt_of_le Xc0.out.lt (by omega)))
  have Nd0f0 := Lib.hid (show w2.heap.size ≠ w4.heap.size from Nat.ne_of_lt (Nat.lt_of_lt_of_le Xd0.out.lt (by omega)))
  have Ne0f0 := Lib.hid (show w2.heap.size + 1 ≠ w4.heap.size from Nat.ne_of_lt (Nat.lt_of_lt_of_le Xe0.out.lt (by omega)))
  have Gf0 := Lib.hid (show w.heap.size ≤ w4.heap.size from Nat.le_trans HB.out.size (by omega))
  have Xa0 := Lib.hid (Box.pcall hb Xa0.out)
  have Xb0 := Lib.hid (Box.pcall hb Xb0.out)
  have Xc0 := Lib.hid (Box.pcall hb Xc0.out)
  have Xd0 := Lib.hid (Box.pcall hb Xd0.out)
  have Xe0 := Lib.hid (Box.pcall hb Xe0.out)
  have Xf0 := Lib.hid xf0
  have HB := Lib.hid (below_call HB.out hb)
  clear hk hb xf0
  have Hda := Lib.hid (Is.keep Hda.out (Keep.drew W5))
  have Hdb := Lib.hid (Is.keep Hdb.out (Keep.drew W5))
  have Hs := Lib.hid (CL.keep Hs.out (Keep.drew W5))
  have Xa0 := Lib.hid (Box.drew Xa0.out)
  have Xb0 := Lib.hid (Box.drew Xb0.out)
  have Xc0 := Lib.hid (Box.drew Xc0.out)
  have Xd0 := Lib.hid (Box.drew Xd0.out)
  have Xe0 := Lib.hid (Box.drew Xe0.out)
  have Xf0 := Lib.hid (Box.drew Xf0.out)
  have HB := Lib.hid (Below.drew HB.out)
  refine wp_region_float [w.heap.size + 1 + 1] [] (by kernel_rfl) (by kernel_rfl) 27 (by kernel_rfl) Flok.nil ?_
  intro ok
  have Hok := Lib.hid ok
  clear ok
  have HG := Lib.hid (Below.refl (W5.drew).heap.size (W5.drew))
  refine good_pureX 0 (some 17) (Go.Op.fieldAddr 105 (Go.Operand.tmp 7) 0) (none) (.pointer (some ⟨w4.heap.size, 0, none⟩)) (by kernel_rfl) (by kernel_rfl) (by kernel_rfl) (fun _ _ _ h => h) (fun w' hw' => ?_) ?_
  · first | (go_simp; done) | (go_simp; simp_all; done) | (go_simp; rfl)
  simp only [Act.put, List.setIfInBounds_toArray, List.set_cons_zero, List.set_cons_succ]
  refine good_pureX 1 (some 18) (Go.Op.load 4 (Go.Operand.tmp 17)) (none) (.bool s_b) (by kernel_rfl) (by kernel_rfl) (by kernel_rfl) (fun _ _ _ h => h) (fun w' hw' => ?_) ?_
  · obtain ⟨cf00, cf01, ff00, ff01⟩ := (Box.se hw' Xf0.out (notin1 Nc0f0.out.symm)).c2
    first | (go_simp; done) | (go_simp; simp_all; done) | (go_simp; rfl)
  simp only [Act.put, List.setIfInBounds_toArray, List.set_cons_zero, List.set_cons_succ]
  refine good_pureX 2 (some 19) (Go.Op.fieldAddr 105 (Go.Operand.tmp 7) 1) (none) (.pointer (some ⟨w4.heap.size, 1, none⟩)) (by kernel_rfl) (by kernel_rfl) (by kernel_rfl) (fun _ _ _ h => h) (fun w' hw' => ?_) ?_
  · first | (go_simp; done) | (go_simp; simp_all; done) | (go_simp; rfl)
  simp only [Act.put, List.setIfInBounds_toArray, List.set_cons_zero, List.set_cons_succ]
  refine good_pureX 3 (some 20) (Go.Op.load 35 (Go.Operand.tmp 19)) (none) (.slice s_a s_n s_c) (by kernel_rfl) (by kernel_rfl) (by kernel_rfl) (fun _ _ _ h => h) (fun w' hw' => ?_) ?_
  · obtain ⟨cf00, cf01, ff00, ff01⟩ := (Box.se hw' Xf0.out (notin1 Nc0f0.out.symm)).c2
    first | (go_simp; done) | (go_simp; simp_all; done) | (go_simp; rfl)
  simp only [Act.put, List.setIfInBounds_toArray, List.set_cons_zero, List.set_cons_succ]
  refine good_pureX 4 (some 21) (Go.Op.load 37 (Go.Operand.tmp 2)) (none) (.agg #[.bool ba, sa, ta]) (by kernel_rfl) (by kernel_rfl) (by kernel_rfl) (fun _ _ _ h => h) (fun w' hw' => ?_) ?_
  · obtain ⟨ca00, ca01, ca02, fa00, fa01, fa02⟩ := (Box.se hw' Xa0.out (notin1 (by omega))).c3
    first | (go_simp; done) | (go_simp; simp_all; done) | (go_simp; rfl)
  simp only [Act.put, List.setIfInBounds_toArray, List.set_cons_zero, List.set_cons_succ]
  refine good_pureX 6 (some 23) (Go.Op.load 37 (Go.Operand.tmp 3)) (none) (.agg #[.bool bb, sb, tb]) (by kernel_rfl) (by kernel_rfl) (by kernel_rfl) (fun _ _ _ h => h) (fun w' hw' => ?_) ?_
  · obtain ⟨cb00, cb01, cb02, fb00, fb01, fb02⟩ := (Box.se hw' Xb0.out (notin1 (by omega))).c3
    first | (go_simp; done) | (go_simp; simp_all; done) | (go_simp; rfl)
  simp only [Act.put, List.setIfInBounds_toArray, List.set_cons_zero, List.set_cons_succ]
  refine good_callX 5 134 (some 22) #[Go.Operand.tmp 21] #[37] (none) #[.agg #[.bool ba, sa, ta]] (by kernel_rfl) Hok.out (by kernel_rfl) (by kernel_rfl) (by kernel_rfl) (by kernel_rfl) rfl rfl rfl (by kernel_rfl) (fun w6 hb => ?_)
  have HG := Lib.hid (below_call HG.out hb)
  clear hb
  (first | (have hcall := under_is (b := ba) (Is.keep Hda.out (Keep.call HG.out)) (by omega); refine Calls.mono hcall ?_; clear hcall) | refine Calls.mono (under_is (b := ba) (Is.keep Hda.out (Keep.call HG.out)) (by omega)) ?_)
  rintro e w7 ⟨v7, rfl, hp, hb⟩
  obtain ⟨p_a, p_n, p_c, rfl⟩ := hp.lit
  refine ⟨_, rfl, ?_, hb⟩
  have HG := Lib.hid (below_call HG.out hb)
  have Hp := Lib.hid hp
  clear hb hp
  simp only [Act.put, List.setIfInBounds_toArray, List.set_cons_zero, List.set_cons_succ]
  refine good_callX 7 134 (some 24) #[Go.Operand.tmp 23] #[37] (none) #[.agg #[.bool bb, sb, tb]] (by kernel_rfl) Hok.out (by kernel_rfl) (by kernel_rfl) (by kernel_rfl) (by kernel_rfl) rfl rfl rfl (by kernel_rfl) (fun w8 hb => ?_)
  have Hp := Lib.hid (Is.keep Hp.out (Keep.call hb))
  have HG := Lib.hid (below_call HG.out hb)
  clear hb
  (first | (have hcall := under_is (b := bb) (Is.keep Hdb.out (Keep.call HG.out)) (by omega); refine Calls.mono hcall ?_; clear hcall) | refine Calls.mono (under_is (b := bb) (Is.keep Hdb.out (Keep.call HG.out)) (by omega)) ?_)
  rintro e w9 ⟨v9, rfl, hq, hb⟩
  obtain ⟨q_a, q_n, q_c, rfl⟩ := hq.lit
  refine ⟨_, rfl, ?_, hb⟩
  have Hp := Lib.hid (Is.keep Hp.out (Keep.call hb))
  have HG := Lib.hid (below_call HG.out hb)
  have Hq := Lib.hid hq
  clear hb hq
  simp only [Act.put, List.setIfInBounds_toArray, List.set_cons_zero, List.set_cons_succ]
  refine good_callX 8 133 (some 25) #[Go.Operand.tmp 22, Go.Operand.tmp 24] #[35, 35] (none) #[.slice p_a p_n p_c, .slice q_a q_n q_c] (by kernel_rfl) Hok.out (by kernel_rfl) (by kernel_rfl) (by kernel_rfl) (by kernel_rfl) rfl rfl rfl (by kernel_rfl) (fun w10 hb => ?_)
  have Hp := Lib.hid (Is.keep Hp.out (Keep.call hb))
  have Hq := Lib.hid (Is.keep Hq.out (Keep.call hb))
  have HG := Lib.hid (below_call HG.out hb)
  clear hb
  (first | (have hcall := mul_is Hp.out Hq.out (by omega) (by omega); refine Calls.mono hcall ?_; clear hcall) | refine Calls.mono (mul_is Hp.out Hq.out (by omega) (by omega)) ?_)
  rintro e w11 ⟨v11, rfl, hm, hb⟩
  obtain ⟨m_a, m_n, m_c, rfl⟩ := hm.is.lit
  refine ⟨_, rfl, ?_, hb⟩
  have HG := Lib.hid (below_call HG.out hb)
  have Hm := Lib.hid hm
  clear hb hm
  simp only [Act.put, List.setIfInBounds_toArray, List.set_cons_zero, List.set_cons_succ]
  refine good_callX 9 132 (some 26) #[Go.Operand.tmp 18, Go.Operand.tmp 20, Go.Operand.tmp 25] #[4, 35, 35] (none) #[.bool s_b, .slice s_a s_n s_c, .slice m_a m_n m_c] (by kernel_rfl) Hok.out (by kernel_rfl) (by kernel_rfl) (by kernel_rfl) (by kernel_rfl) rfl rfl rfl (by kernel_rfl) (fun w12 hb => ?_)
  have Hm := Lib.hid (Can.keep Hm.out (Keep.call hb))
  have HG := Lib.hid (below_call HG.out hb)
  clear hb
  refine Calls.mono (quot_is (neg := s_b) (Nat.mul_pos (un_pos _) (un_pos _)) (CL.keep Hs.out (Keep.call HG.out)).mag.is Hm.out.is (by omega) (by omega)) ?_
  rintro e w13 ⟨v13, rfl, hz, hb⟩
  obtain ⟨z_b, z_a, z_n, z_c, z_d, z_m, z_e, rfl⟩ := hz.litb
  refine ⟨_, rfl, ?_, hb⟩
  have HG := Lib.hid (below_call HG.out hb)
  have Hz := Lib.hid hz
  clear hb hz
  simp only [Act.put, List.setIfInBounds_toArray, List.set_cons_zero, List.set_cons_succ]
  refine good_end0 1 (by kernel_rfl) (fun _ w14 hb => ?_)
  have Hz := Lib.hid (CR.keep Hz.out (Keep.call hb))
  have HG := Lib.hid (below_call HG.out hb)
  clear hb
  have Hs := Lib.hid (CL.keep Hs.out (Keep.call HG.out))
  have Xa0 := Lib.hid (Box.pcall HG.out Xa0.out)
  have Xb0 := Lib.hid (Box.pcall HG.out Xb0.out)
  have Xc0 := Lib.hid (Box.pcall HG.out Xc0.out)
  have Xd0 := Lib.hid (Box.pcall HG.out Xd0.out)
  have Xe0 := Lib.hid (Box.pcall HG.out Xe0.out)
  have Xf0 := Lib.hid (Box.pcall HG.out Xf0.out)
  have HB := Lib.hid (below_call HB.out HG.out)
  have HS := Lib.hid (SE.of (E := [w.heap.size + 1 + 1]) HG.out)
  refine held_oneX 10 (Go.Op.store 37 (Go.Operand.tmp 4) (Go.Operand.tmp 26)) (none) (World.setCell (World.setCell (World.setCell w14 ⟨w.heap.size + 1 + 1, 0, none⟩ (.bool z_b)) ⟨w.heap.size + 1 + 1, 1, none⟩ (.slice z_a z_n z_c)) ⟨w.heap.size + 1 + 1, 2, none⟩ (.slice z_d z_m z_e)) (by kernel_rfl) (by kernel_rfl) (by kernel_rfl) (by kernel_rfl) ?_ (HS.out.store3 in1) ?_
  · obtain ⟨cc00, cc01, cc02, fc00, fc01, fc02⟩ := Xc0.out.c3
    first | (go_simp; done) | (go_simp; simp_all; done) | (go_simp; rfl)
  obtain ⟨W15, hW⟩ : ∃ W15, W15 = (World.setCell (World.setCell (World.setCell w14 ⟨w.heap.size + 1 + 1, 0, none⟩ (.bool z_b)) ⟨w.heap.size + 1 + 1, 1, none⟩ (.slice z_a z_n z_c)) ⟨w.heap.size + 1 + 1, 2, none⟩ (.slice z_d z_m z_e)) := ⟨_, rfl⟩
  rw [← hW]
  obtain ⟨xc0, hk, hf, hbb, hz⟩ := stored3s hW Xc0.out (by first | exact NoInt.bool _ | exact NoInt.slice _ _ _) (by first | exact NoInt.bool _ | exact NoInt.slice _ _ _) (by first | exact NoInt.bool _ | exact NoInt.slice _ _ _)
  have Hs := Lib.hid (CL.keep Hs.out hk)
  have Hz := Lib.hid (CR.keep Hz.out hk)
  have Xa0 := Lib.hid (hf _ _ _ Xa0.out (by omega))
  have Xb0 := Lib.hid (hf _ _ _ Xb0.out (by omega))
  have Xc0 := Lib.hid xc0
  have Xd0 := Lib.hid (hf _ _ _ Xd0.out Nc0d0.out.symm)
  have Xe0 := Lib.hid (hf _ _ _ Xe0.out Nc0e0.out.symm)
  have Xf0 := Lib.hid (hf _ _ _ Xf0.out Nc0f0.out.symm)
  have HB := Lib.hid (hbb _ HB.out Gc0.out)
  have HS := Lib.hid (show SE (W5.drew) [w.heap.size + 1 + 1] W15 from by rw [hW]; exact HS.out.store3 in1)
  clear hW hk hf hbb xc0
  clear hz
  refine wpAnyH_done (by kernel_rfl) ?_ _
  clear HG HS Hok 
  obtain ⟨ca00, ca01, ca02, fa00, fa01, fa02⟩ := Xa0.out.c3
  have la0 := Xa0.out.lt
  obtain ⟨cb00, cb01, cb02, fb00, fb01, fb02⟩ := Xb0.out.c3
  have lb0 := Xb0.out.lt
  obtain ⟨cc00, cc01, cc02, fc00, fc01, fc02⟩ := Xc0.out.c3
  have lc0 := Xc0.out.lt
  obtain ⟨cd00, cd01, fd00, fd01⟩ := Xd0.out.c2
  have ld0 := Xd0.out.lt
  obtain ⟨ce00, ce01, fe00, fe01⟩ := Xe0.out.c2
  have le0 := Xe0.out.lt
  obtain ⟨cf00, cf01, ff00, ff01⟩ := Xf0.out.c2
  have lf0 := Xf0.out.lt
  go_wp2
  clear ca00 ca01 ca02 fa00 fa01 fa02 la0 cb00 cb01 cb02 fb00 fb01 fb02 lb0 cc00 cc01 cc02 fc00 fc01 fc02 lc0 cd00 cd01 fd00 fd01 ld0 ce00 ce01 fe00 fe01 le0 cf00 cf01 ff00 ff01 lf0
  exact ret_rat1 rfl rfl rfl Xc0.out (CR.mono (CR.cast (add_parts (CL.iv Hs.out)) Hz.out) (by omega)) HB.out
theorem radd_ar {a b : Rat} {L M : Nat} {u v : Value} {w : World} (h : AR a L w u) (h' : AR b M w v) (hL : L ≤ 100000000) (hM : M ≤ 100000000) :
    Calls Tryz.prog 77 #[u, v] w (Ret w (CR (a + b) (L + M + 3))) := by
  obtain ⟨ba, sa, ta, na, da, rfl, h1, h2, rfl⟩ := h
  obtain ⟨bb, sb, tb, nb, db, rfl, h3, h4, rfl⟩ := h'
  exact radd_p h1 h2 h3 h4 hL hM
set_option maxRecDepth 100000 in
set_option maxHeartbeats 4000000 in
theorem rsub_p {L M : Nat} {qa : Rat} {ba : Bool} {sa ta : Value} {qb : Rat} {bb : Bool} {sb tb : Value} {w : World} (ha : AR qa L w (.agg #[.bool ba, sa, ta])) (hb : AR qb M w (.agg #[.bool bb, sb, tb])) (hL : L ≤ 100000000) (hM : M ≤ 100000000) :
    Calls Tryz.prog 73 #[.agg #[.bool ba, sa, ta], .agg #[.bool bb, sb, tb]] w (Ret w (CR (qa - qb) (L + M + 3))) := by
  have Ha := Lib.hid ha
  have Hb := Lib.hid hb
  clear ha hb
  go_enter Tryz.func73, Tryz.ntmps73
  have HB := Lib.hid (Below.refl w.heap.size w)
  go_wp2_with fail
  obtain ⟨W1, hW⟩ : ∃ W1, W1 = (World.alloc (World.alloc (World.alloc w (.cells #[.bool ba, sa, ta] 37)) (.cells #[.bool (!bb), sb, tb] 37)) (.cells #[.bool false, .slice none 0 0, .slice none 0 0] 37)) := ⟨_, rfl⟩
  rw [← hW]
  obtain ⟨xa0, xb0, xc0, hk, hb⟩ := boxes_3 _ _ _ _ _ _ _ hW
  clear hW
  have Ha := Lib.hid (AR.keep Ha.out hk)
  have Hb := Lib.hid (AR.keep Hb.out hk)
  have Ga0 := Lib.hid (show w.heap.size ≤ w.heap.size from Nat.le_trans HB.out.size (by omega))
  have Gb0 := Lib.hid (show w.heap.size ≤ w.heap.size + 1 from Nat.le_trans HB.out.size (by omega))
  have Gc0 := Lib.hid (show w.heap.size ≤ w.heap.size + 1 + 1 from Nat.le_trans HB.out.size (by omega))
  have Xa0 := Lib.hid xa0
  have Xb0 := Lib.hid xb0
  have Xc0 := Lib.hid xc0
  have HB := Lib.hid (below_call HB.out hb)
  clear hk hb xa0 xb0 xc0
  (first | (have hcall := radd_ar Ha.out (AR.neg Hb.out) (by omega) (by omega); refine Calls.mono hcall ?_; clear hcall) | refine Calls.mono (radd_ar Ha.out (AR.neg Hb.out) (by omega) (by omega)) ?_)
  rintro e w2 ⟨v2, rfl, hz, hb⟩
  obtain ⟨z_b, z_a, z_n, z_c, z_d, z_m, z_e, rfl⟩ := hz.litb
  have Xa0 := Lib.hid (Box.pcall hb Xa0.out)
  have Xb0 := Lib.hid (Box.pcall hb Xb0.out)
  have Xc0 := Lib.hid (Box.pcall hb Xc0.out)
  have HB := Lib.hid (below_call HB.out hb)
  have Hz := Lib.hid hz
  clear hb hz
  obtain ⟨ca00, ca01, ca02, fa00, fa01, fa02⟩ := Xa0.out.c3
  have la0 := Xa0.out.lt
  obtain ⟨cb00, cb01, cb02, fb00, fb01, fb02⟩ := Xb0.out.c3
  have lb0 := Xb0.out.lt
  obtain ⟨cc00, cc01, cc02, fc00, fc01, fc02⟩ := Xc0.out.c3
  have lc0 := Xc0.out.lt
  go_wp2
  clear ca00 ca01 ca02 fa00 fa01 fa02 la0 cb00 cb01 cb02 fb00 fb01 fb02 lb0 cc00 cc01 cc02 fc00 fc01 fc02 lc0
  obtain ⟨W3, hW⟩ : ∃ W3, W3 = (World.setCell (World.setCell (World.setCell w2 ⟨w.heap.size + 1 + 1, 0, none⟩ (.bool z_b)) ⟨w.heap.size + 1 + 1, 1, none⟩ (.slice z_a z_n z_c)) ⟨w.heap.size + 1 + 1, 2, none⟩ (.slice z_d z_m z_e)) := ⟨_, rfl⟩
  rw [← hW]
  obtain ⟨xc0, hk, hf, hbb, hz⟩ := stored3s hW Xc0.out (by first | exact NoInt.bool _ | exact NoInt.slice _ _ _) (by first | exact NoInt.bool _ | exact NoInt.slice _ _ _) (by first | exact NoInt.bool _ | exact NoInt.slice _ _ _)
  have Hz := Lib.hid (CR.keep Hz.out hk)
  have Xa0 := Lib.hid (hf _ _ _ Xa0.out (by omega))
  have Xb0 := Lib.hid (hf _ _ _ Xb0.out (by omega))
  have Xc0 := Lib.hid xc0
  have HB := Lib.hid (hbb _ HB.out Gc0.out)
  clear hW hk hf hbb xc0
  clear hz
  exact ret_rat1 rfl rfl rfl Xc0.out (CR.cast (Rat.sub_eq_add_neg _ _).symm Hz.out) HB.out
theorem rsub_ar {a b : Rat} {L M : Nat} {u v : Value} {w : World} (h : AR a L w u) (h' : AR b M w v) (hL : L ≤ 100000000) (hM : M ≤ 100000000) : Calls Tryz.prog 73 #[u, v] w (Ret w (CR (a - b) (L + M + 3))) := by
  obtain ⟨ba, sa, ta, rfl⟩ := h.agg
  obtain ⟨bb, sb, tb, rfl⟩ := h'.agg
  exact rsub_p h h' hL hM
set_option maxRecDepth 100000 in
set_option maxHeartbeats 4000000 in
theorem rmul_p {L M : Nat} {ba : Bool} {na da : Nat} {sa ta : Value} {bb : Bool} {nb db : Nat} {sb tb : Value} {w : World} (hna : Is na L w sa) (hda : Is da L w ta) (hnb : Is nb M w sb) (hdb : Is db M w tb) (hL : L ≤ 100000000) (hM : M ≤ 100000000) :
    Calls Tryz.prog 138 #[.agg #[.bool ba, sa, ta], .agg #[.bool bb, sb, tb]] w (Ret w (CR (rv ba na da * rv bb nb db) (L + M + 2))) := by
  have Hna := Lib.hid hna
  have Hda := Lib.hid hda
  have Hnb := Lib.hid hnb
  have Hdb := Lib.hid hdb
  clear hna hda hnb hdb
  go_enter Tryz.func138, Tryz.ntmps138
  have HB := Lib.hid (Below.refl w.heap.size w)
  go_wp2_with fail
  obtain ⟨W1, hW⟩ : ∃ W1, W1 = (World.alloc (World.alloc (World.alloc w (.cells #[.bool ba, sa, ta] 37)) (.cells #[.bool bb, sb, tb] 37)) (.cells #[.bool false, .slice none 0 0, .slice none 0 0] 37)) := ⟨_, rfl⟩
  rw [← hW]
  obtain ⟨xa0, xb0, xc0, hk, hb⟩ := boxes_3 _ _ _ _ _ _ _ hW
  clear hW
  have Hna := Lib.hid (Is.keep Hna.out hk)
  have Hda := Lib.hid (Is.keep Hda.out hk)
  have Hnb := Lib.hid (Is.keep Hnb.out hk)
  have Hdb := Lib.hid (Is.keep Hdb.out hk)
  have Ga0 := Lib.hid (show w.heap.size ≤ w.heap.size from Nat.le_trans HB.out.size (by omega))
  have Gb0 := Lib.hid (show w.heap.size ≤ w.heap.size + 1 from Nat.le_trans HB.out.size (by omega))
  have Gc0 := Lib.hid (show w.heap.size ≤ w.heap.size + 1 + 1 from Nat.le_trans HB.out.size (by omega))
  have Xa0 := Lib.hid xa0
  have Xb0 := Lib.hid xb0
  have Xc0 := Lib.hid xc0
  have HB := Lib.hid (below_call HB.out hb)
  clear hk hb xa0 xb0 xc0
  have Hna := Lib.hid (Is.keep Hna.out (Keep.drew W1))
  have Hda := Lib.hid (Is.keep Hda.out (Keep.drew W1))
  have Hnb := Lib.hid (Is.keep Hnb.out (Keep.drew W1))
  have Hdb := Lib.hid (Is.keep Hdb.out (Keep.drew W1))
  have Xa0 := Lib.hid (Box.drew Xa0.out)
  have Xb0 := Lib.hid (Box.drew Xb0.out)
  have Xc0 := Lib.hid (Box.drew Xc0.out)
  have HB := Lib.hid (Below.drew HB.out)
  refine wp_region_float [w.heap.size + 1 + 1] [] (by kernel_rfl) (by kernel_rfl) 21 (by kernel_rfl) Flok.nil ?_
  intro ok
  have Hok := Lib.hid ok
  clear ok
  have HG := Lib.hid (Below.refl (W1.drew).heap.size (W1.drew))
  refine good_pureX 0 (some 5) (Go.Op.fieldAddr 37 (Go.Operand.tmp 2) 0) (none) (.pointer (some ⟨w.heap.size, 0, none⟩)) (by kernel_rfl) (by kernel_rfl) (by kernel_rfl) (fun _ _ _ h => h) (fun w' hw' => ?_) ?_
  · first | (go_simp; done) | (go_simp; simp_all; done) | (go_simp; rfl)
  simp only [Act.put, List.setIfInBounds_toArray, List.set_cons_zero, List.set_cons_succ]
  refine good_pureX 1 (some 6) (Go.Op.load 4 (Go.Operand.tmp 5)) (none) (.bool ba) (by kernel_rfl) (by kernel_rfl) (by kernel_rfl) (fun _ _ _ h => h) (fun w' hw' => ?_) ?_
  · obtain ⟨ca00, ca01, ca02, fa00, fa01, fa02⟩ := (Box.se hw' Xa0.out (notin1 (by omega))).c3
    first | (go_simp; done) | (go_simp; simp_all; done) | (go_simp; rfl)
  simp only [Act.put, List.setIfInBounds_toArray, List.set_cons_zero, List.set_cons_succ]
  refine good_pureX 2 (some 7) (Go.Op.fieldAddr 37 (Go.Operand.tmp 3) 0) (none) (.pointer (some ⟨w.heap.size + 1, 0, none⟩)) (by kernel_rfl) (by kernel_rfl) (by kernel_rfl) (fun _ _ _ h => h) (fun w' hw' => ?_) ?_
  · first | (go_simp; done) | (go_simp; simp_all; done) | (go_simp; rfl)
  simp only [Act.put, List.setIfInBounds_toArray, List.set_cons_zero, List.set_cons_succ]
  refine good_pureX 3 (some 8) (Go.Op.load 4 (Go.Operand.tmp 7)) (none) (.bool bb) (by kernel_rfl) (by kernel_rfl) (by kernel_rfl) (fun _ _ _ h => h) (fun w' hw' => ?_) ?_
  · obtain ⟨cb00, cb01, cb02, fb00, fb01, fb02⟩ := (Box.se hw' Xb0.out (notin1 (by omega))).c3
    first | (go_simp; done) | (go_simp; simp_all; done) | (go_simp; rfl)
  simp only [Act.put, List.setIfInBounds_toArray, List.set_cons_zero, List.set_cons_succ]
  refine good_pureX 4 (some 9) (Go.Op.binOp Go.BinOp.neq 4 (Go.Operand.tmp 6) (Go.Operand.tmp 8) 4) (none) (.bool (!ba == bb)) (by kernel_rfl) (by kernel_rfl) (by kernel_rfl) (fun _ _ _ h => h) (fun w' hw' => ?_) ?_
  · first | (go_simp; done) | (go_simp; simp_all; done) | (go_simp; rfl)
  simp only [Act.put, List.setIfInBounds_toArray, List.set_cons_zero, List.set_cons_succ]
  refine good_pureX 5 (some 10) (Go.Op.fieldAddr 37 (Go.Operand.tmp 2) 1) (none) (.pointer (some ⟨w.heap.size, 1, none⟩)) (by kernel_rfl) (by kernel_rfl) (by kernel_rfl) (fun _ _ _ h => h) (fun w' hw' => ?_) ?_
  · first | (go_simp; done) | (go_simp; simp_all; done) | (go_simp; rfl)
  simp only [Act.put, List.setIfInBounds_toArray, List.set_cons_zero, List.set_cons_succ]
  refine good_pureX 6 (some 11) (Go.Op.load 35 (Go.Operand.tmp 10)) (none) (sa) (by kernel_rfl) (by kernel_rfl) (by kernel_rfl) (fun _ _ _ h => h) (fun w' hw' => ?_) ?_
  · obtain ⟨ca00, ca01, ca02, fa00, fa01, fa02⟩ := (Box.se hw' Xa0.out (notin1 (by omega))).c3
    first | (go_simp; done) | (go_simp; simp_all; done) | (go_simp; rfl)
  simp only [Act.put, List.setIfInBounds_toArray, List.set_cons_zero, List.set_cons_succ]
  refine good_pureX 7 (some 12) (Go.Op.fieldAddr 37 (Go.Operand.tmp 3) 1) (none) (.pointer (some ⟨w.heap.size + 1, 1, none⟩)) (by kernel_rfl) (by kernel_rfl) (by kernel_rfl) (fun _ _ _ h => h) (fun w' hw' => ?_) ?_
  · first | (go_simp; done) | (go_simp; simp_all; done) | (go_simp; rfl)
  simp only [Act.put, List.setIfInBounds_toArray, List.set_cons_zero, List.set_cons_succ]
  refine good_pureX 8 (some 13) (Go.Op.load 35 (Go.Operand.tmp 12)) (none) (sb) (by kernel_rfl) (by kernel_rfl) (by kernel_rfl) (fun _ _ _ h => h) (fun w' hw' => ?_) ?_
  · obtain ⟨cb00, cb01, cb02, fb00, fb01, fb02⟩ := (Box.se hw' Xb0.out (notin1 (by omega))).c3
    first | (go_simp; done) | (go_simp; simp_all; done) | (go_simp; rfl)
  simp only [Act.put, List.setIfInBounds_toArray, List.set_cons_zero, List.set_cons_succ]
  refine good_pureX 10 (some 15) (Go.Op.load 37 (Go.Operand.tmp 2)) (none) (.agg #[.bool ba, sa, ta]) (by kernel_rfl) (by kernel_rfl) (by kernel_rfl) (fun _ _ _ h => h) (fun w' hw' => ?_) ?_
  · obtain ⟨ca00, ca01, ca02, fa00, fa01, fa02⟩ := (Box.se hw' Xa0.out (notin1 (by omega))).c3
    first | (go_simp; done) | (go_simp; simp_all; done) | (go_simp; rfl)
  simp only [Act.put, List.setIfInBounds_toArray, List.set_cons_zero, List.set_cons_succ]
  refine good_pureX 12 (some 17) (Go.Op.load 37 (Go.Operand.tmp 3)) (none) (.agg #[.bool bb, sb, tb]) (by kernel_rfl) (by kernel_rfl) (by kernel_rfl) (fun _ _ _ h => h) (fun w' hw' => ?_) ?_
  · obtain ⟨cb00, cb01, cb02, fb00, fb01, fb02⟩ := (Box.se hw' Xb0.out (notin1 (by omega))).c3
    first | (go_simp; done) | (go_simp; simp_all; done) | (go_simp; rfl)
  simp only [Act.put, List.setIfInBounds_toArray, List.set_cons_zero, List.set_cons_succ]
  refine good_callX 9 133 (some 14) #[Go.Operand.tmp 11, Go.Operand.tmp 13] #[35, 35] (none) #[sa, sb] (by kernel_rfl) Hok.out (by kernel_rfl) (by kernel_rfl) (by kernel_rfl) (by kernel_rfl) rfl rfl rfl (by kernel_rfl) (fun w2 hb => ?_)
  have HG := Lib.hid (below_call HG.out hb)
  clear hb
  (first | (have hcall := mul_is (Is.keep Hna.out (Keep.call HG.out)) (Is.keep Hnb.out (Keep.call HG.out)) (by omega) (by omega); refine Calls.mono hcall ?_; clear hcall) | refine Calls.mono (mul_is (Is.keep Hna.out (Keep.call HG.out)) (Is.keep Hnb.out (Keep.call HG.out)) (by omega) (by omega)) ?_)
  rintro e w3 ⟨v3, rfl, hx, hb⟩
  obtain ⟨x_a, x_n, x_c, rfl⟩ := hx.is.lit
  refine ⟨_, rfl, ?_, hb⟩
  have HG := Lib.hid (below_call HG.out hb)
  have Hx := Lib.hid hx
  clear hb hx
  simp only [Act.put, List.setIfInBounds_toArray, List.set_cons_zero, List.set_cons_succ]
  refine good_callX 11 134 (some 16) #[Go.Operand.tmp 15] #[37] (none) #[.agg #[.bool ba, sa, ta]] (by kernel_rfl) Hok.out (by kernel_rfl) (by kernel_rfl) (by kernel_rfl) (by kernel_rfl) rfl rfl rfl (by kernel_rfl) (fun w4 hb => ?_)
  have Hx := Lib.hid (Can.keep Hx.out (Keep.call hb))
  have HG := Lib.hid (below_call HG.out hb)
  clear hb
  (first | (have hcall := under_is (b := ba) (Is.keep Hda.out (Keep.call HG.out)) (by omega); refine Calls.mono hcall ?_; clear hcall) | refine Calls.mono (under_is (b := ba) (Is.keep Hda.out (Keep.call HG.out)) (by omega)) ?_)
  rintro e w5 ⟨v5, rfl, hp, hb⟩
  obtain ⟨p_a, p_n, p_c, rfl⟩ := hp.lit
  refine ⟨_, rfl, ?_, hb⟩
  have Hx := Lib.hid (Can.keep Hx.out (Keep.call hb))
  have HG := Lib.hid (below_call HG.out hb)
  have Hp := Lib.hid hp
  clear hb hp
  simp only [Act.put, List.setIfInBounds_toArray, List.set_cons_zero, List.set_cons_succ]
  refine good_callX 13 134 (some 18) #[Go.Operand.tmp 17] #[37] (none) #[.agg #[.bool bb, sb, tb]] (by kernel_rfl) Hok.out (by kernel_rfl) (by kernel_rfl) (by kernel_rfl) (by kernel_rfl) rfl rfl rfl (by kernel_rfl) (fun w6 hb => ?_)
  have Hx := Lib.hid (Can.keep Hx.out (Keep.call hb))
  have Hp := Lib.hid (Is.keep Hp.out (Keep.call hb))
  have HG := Lib.hid (below_call HG.out hb)
  clear hb
  (first | (have hcall := under_is (b := bb) (Is.keep Hdb.out (Keep.call HG.out)) (by omega); refine Calls.mono hcall ?_; clear hcall) | refine Calls.mono (under_is (b := bb) (Is.keep Hdb.out (Keep.call HG.out)) (by omega)) ?_)
  rintro e w7 ⟨v7, rfl, hq, hb⟩
  obtain ⟨q_a, q_n, q_c, rfl⟩ := hq.lit
  refine ⟨_, rfl, ?_, hb⟩
  have Hx := Lib.hid (Can.keep Hx.out (Keep.call hb))
  have Hp := Lib.hid (Is.keep Hp.out (Keep.call hb))
  have HG := Lib.hid (below_call HG.out hb)
  have Hq := Lib.hid hq
  clear hb hq
  simp only [Act.put, List.setIfInBounds_toArray, List.set_cons_zero, List.set_cons_succ]
  refine good_callX 14 133 (some 19) #[Go.Operand.tmp 16, Go.Operand.tmp 18] #[35, 35] (none) #[.slice p_a p_n p_c, .slice q_a q_n q_c] (by kernel_rfl) Hok.out (by kernel_rfl) (by kernel_rfl) (by kernel_rfl) (by kernel_rfl) rfl rfl rfl (by kernel_rfl) (fun w8 hb => ?_)
  have Hx := Lib.hid (Can.keep Hx.out (Keep.call hb))
  have Hp := Lib.hid (Is.keep Hp.out (Keep.call hb))
  have Hq := Lib.hid (Is.keep Hq.out (Keep.call hb))
  have HG := Lib.hid (below_call HG.out hb)
  clear hb
  (first | (have hcall := mul_is Hp.out Hq.out (by omega) (by omega); refine Calls.mono hcall ?_; clear hcall) | refine Calls.mono (mul_is Hp.out Hq.out (by omega) (by omega)) ?_)
  rintro e w9 ⟨v9, rfl, hy, hb⟩
  obtain ⟨y_a, y_n, y_c, rfl⟩ := hy.is.lit
  refine ⟨_, rfl, ?_, hb⟩
  have Hx := Lib.hid (Can.keep Hx.out (Keep.call hb))
  have HG := Lib.hid (below_call HG.out hb)
  have Hy := Lib.hid hy
  clear hb hy
  simp only [Act.put, List.setIfInBounds_toArray, List.set_cons_zero, List.set_cons_succ]
  refine good_callX 15 132 (some 20) #[Go.Operand.tmp 9, Go.Operand.tmp 14, Go.Operand.tmp 19] #[4, 35, 35] (none) #[.bool (!ba == bb), .slice x_a x_n x_c, .slice y_a y_n y_c] (by kernel_rfl) Hok.out (by kernel_rfl) (by kernel_rfl) (by kernel_rfl) (by kernel_rfl) rfl rfl rfl (by kernel_rfl) (fun w10 hb => ?_)
  have Hx := Lib.hid (Can.keep Hx.out (Keep.call hb))
  have Hy := Lib.hid (Can.keep Hy.out (Keep.call hb))
  have HG := Lib.hid (below_call HG.out hb)
  clear hb
  refine Calls.mono (quot_is (neg := (!ba == bb)) (Nat.mul_pos (un_pos _) (un_pos _)) Hx.out.is Hy.out.is (by omega) (by omega)) ?_
  rintro e w11 ⟨v11, rfl, hz, hb⟩
  obtain ⟨z_b, z_a, z_n, z_c, z_d, z_m, z_e, rfl⟩ := hz.litb
  refine ⟨_, rfl, ?_, hb⟩
  have HG := Lib.hid (below_call HG.out hb)
  have Hz := Lib.hid hz
  clear hb hz
  simp only [Act.put, List.setIfInBounds_toArray, List.set_cons_zero, List.set_cons_succ]
  refine good_end0 1 (by kernel_rfl) (fun _ w12 hb => ?_)
  have Hz := Lib.hid (CR.keep Hz.out (Keep.call hb))
  have HG := Lib.hid (below_call HG.out hb)
  clear hb
  have Xa0 := Lib.hid (Box.pcall HG.out Xa0.out)
  have Xb0 := Lib.hid (Box.pcall HG.out Xb0.out)
  have Xc0 := Lib.hid (Box.pcall HG.out Xc0.out)
  have HB := Lib.hid (below_call HB.out HG.out)
  have HS := Lib.hid (SE.of (E := [w.heap.size + 1 + 1]) HG.out)
  refine held_oneX 16 (Go.Op.store 37 (Go.Operand.tmp 4) (Go.Operand.tmp 20)) (none) (World.setCell (World.setCell (World.setCell w12 ⟨w.heap.size + 1 + 1, 0, none⟩ (.bool z_b)) ⟨w.heap.size + 1 + 1, 1, none⟩ (.slice z_a z_n z_c)) ⟨w.heap.size + 1 + 1, 2, none⟩ (.slice z_d z_m z_e)) (by kernel_rfl) (by kernel_rfl) (by kernel_rfl) (by kernel_rfl) ?_ (HS.out.store3 in1) ?_
  · obtain ⟨cc00, cc01, cc02, fc00, fc01, fc02⟩ := Xc0.out.c3
    first | (go_simp; done) | (go_simp; simp_all; done) | (go_simp; rfl)
  obtain ⟨W13, hW⟩ : ∃ W13, W13 = (World.setCell (World.setCell (World.setCell w12 ⟨w.heap.size + 1 + 1, 0, none⟩ (.bool z_b)) ⟨w.heap.size + 1 + 1, 1, none⟩ (.slice z_a z_n z_c)) ⟨w.heap.size + 1 + 1, 2, none⟩ (.slice z_d z_m z_e)) := ⟨_, rfl⟩
  rw [← hW]
  obtain ⟨xc0, hk, hf, hbb, hz⟩ := stored3s hW Xc0.out (by first | exact NoInt.bool _ | exact NoInt.slice _ _ _) (by first | exact NoInt.bool _ | exact NoInt.slice _ _ _) (by first | exact NoInt.bool _ | exact NoInt.slice _ _ _)
  have Hz := Lib.hid (CR.keep Hz.out hk)
  have Xa0 := Lib.hid (hf _ _ _ Xa0.out (by omega))
  have Xb0 := Lib.hid (hf _ _ _ Xb0.out (by omega))
  have Xc0 := Lib.hid xc0
  have HB := Lib.hid (hbb _ HB.out Gc0.out)
  have HS := Lib.hid (show SE (W1.drew) [w.heap.size + 1 + 1] W13 from by rw [hW]; exact HS.out.store3 in1)
  clear hW hk hf hbb xc0
  clear hz
  refine wpAnyH_done (by kernel_rfl) ?_ _
  clear HG HS Hok 
  obtain ⟨ca00, ca01, ca02, fa00, fa01, fa02⟩ := Xa0.out.c3
  have la0 := Xa0.out.lt
  obtain ⟨cb00, cb01, cb02, fb00, fb01, fb02⟩ := Xb0.out.c3
  have lb0 := Xb0.out.lt
  obtain ⟨cc00, cc01, cc02, fc00, fc01, fc02⟩ := Xc0.out.c3
  have lc0 := Xc0.out.lt
  go_wp2
  clear ca00 ca01 ca02 fa00 fa01 fa02 la0 cb00 cb01 cb02 fb00 fb01 fb02 lb0 cc00 cc01 cc02 fc00 fc01 fc02 lc0
  exact ret_rat1 rfl rfl rfl Xc0.out (CR.mono (CR.cast (mul_parts _ _ _ _ _ _) Hz.out) (by omega)) HB.out
theorem rmul_ar {a b : Rat} {L M : Nat} {u v : Value} {w : World} (h : AR a L w u) (h' : AR b M w v) (hL : L ≤ 100000000) (hM : M ≤ 100000000) :
    Calls Tryz.prog 138 #[u, v] w (Ret w (CR (a * b) (L + M + 2))) := by
  obtain ⟨ba, sa, ta, na, da, rfl, h1, h2, rfl⟩ := h
  obtain ⟨bb, sb, tb, nb, db, rfl, h3, h4, rfl⟩ := h'
  exact rmul_p h1 h2 h3 h4 hL hM
set_option maxRecDepth 100000 in
set_option maxHeartbeats 4000000 in
theorem rdiv_1 {L M : Nat} {ba : Bool} {na da : Nat} {sa ta : Value} {bb : Bool} {nb db : Nat} {sb tb : Value} {w : World} (s : Int) (hs : (iv bb nb).sign = s) (hs0 : (s == 0) = false) (hp0 : 0 < nb) (hna : Is na L w sa) (hda : Is da L w ta) (hnb : Is nb M w sb) (hdb : Is db M w tb) (hL : L ≤ 100000000) (hM : M ≤ 100000000) :
    Calls Tryz.prog 76 #[.agg #[.bool ba, sa, ta], .agg #[.bool bb, sb, tb]] w (Ret w (CRE (rv ba na da / rv bb nb db) (L + M + 2) 0)) := by
  have Hna := Lib.hid hna
  have Hda := Lib.hid hda
  have Hnb := Lib.hid hnb
  have Hdb := Lib.hid hdb
  have Hs := Lib.hid hs
  have Hs0 := Lib.hid hs0
  have Hp0 := Lib.hid hp0
  clear hna hda hnb hdb hs hs0 hp0
  go_enter Tryz.func76, Tryz.ntmps76
  have HB := Lib.hid (Below.refl w.heap.size w)
  go_wp2_with fail
  obtain ⟨W1, hW⟩ : ∃ W1, W1 = (World.alloc (World.alloc (World.alloc w (.cells #[.bool ba, sa, ta] 37)) (.cells #[.bool bb, sb, tb] 37)) (.cells #[.bool false, .slice none 0 0, .slice none 0 0] 37)) := ⟨_, rfl⟩
  rw [← hW]
  obtain ⟨xa0, xb0, xc0, hk, hb⟩ := boxes_3 _ _ _ _ _ _ _ hW
  clear hW
  have Hna := Lib.hid (Is.keep Hna.out hk)
  have Hda := Lib.hid (Is.keep Hda.out hk)
  have Hnb := Lib.hid (Is.keep Hnb.out hk)
  have Hdb := Lib.hid (Is.keep Hdb.out hk)
  have Ga0 := Lib.hid (show w.heap.size ≤ w.heap.size from Nat.le_trans HB.out.size (by omega))
  have Gb0 := Lib.hid (show w.heap.size ≤ w.heap.size + 1 from Nat.le_trans HB.out.size (by omega))
  have Gc0 := Lib.hid (show w.heap.size ≤ w.heap.size + 1 + 1 from Nat.le_trans HB.out.size (by omega))
  have Xa0 := Lib.hid xa0
  have Xb0 := Lib.hid xb0
  have Xc0 := Lib.hid xc0
  have HB := Lib.hid (below_call HB.out hb)
  clear hk hb xa0 xb0 xc0
  (first | (have hcall := rsign_p (ba := bb) s Hs.out Hnb.out Hdb.out (by omega); refine Calls.mono hcall ?_; clear hcall) | refine Calls.mono (rsign_p (ba := bb) s Hs.out Hnb.out Hdb.out (by omega)) ?_)
  rintro e w2 ⟨v2, rfl, rfl, hb⟩
  have Hna := Lib.hid (Is.keep Hna.out (Keep.call hb))
  have Hda := Lib.hid (Is.keep Hda.out (Keep.call hb))
  have Hnb := Lib.hid (Is.keep Hnb.out (Keep.call hb))
  have Hdb := Lib.hid (Is.keep Hdb.out (Keep.call hb))
  have Xa0 := Lib.hid (Box.pcall hb Xa0.out)
  have Xb0 := Lib.hid (Box.pcall hb Xb0.out)
  have Xc0 := Lib.hid (Box.pcall hb Xc0.out)
  have HB := Lib.hid (below_call HB.out hb)
  clear hb
  have hs0 : (s == 0) = false := Hs0.out
  obtain ⟨ca00, ca01, ca02, fa00, fa01, fa02⟩ := Xa0.out.c3
  have la0 := Xa0.out.lt
  obtain ⟨cb00, cb01, cb02, fb00, fb01, fb02⟩ := Xb0.out.c3
  have lb0 := Xb0.out.lt
  obtain ⟨cc00, cc01, cc02, fc00, fc01, fc02⟩ := Xc0.out.c3
  have lc0 := Xc0.out.lt
  go_wp2_with fail
  clear ca00 ca01 ca02 fa00 fa01 fa02 la0 cb00 cb01 cb02 fb00 fb01 fb02 lb0 cc00 cc01 cc02 fc00 fc01 fc02 lc0
  have Hna := Lib.hid (Is.keep Hna.out (Keep.drew w2))
  have Hda := Lib.hid (Is.keep Hda.out (Keep.drew w2))
  have Hnb := Lib.hid (Is.keep Hnb.out (Keep.drew w2))
  have Hdb := Lib.hid (Is.keep Hdb.out (Keep.drew w2))
  have Xa0 := Lib.hid (Box.drew Xa0.out)
  have Xb0 := Lib.hid (Box.drew Xb0.out)
  have Xc0 := Lib.hid (Box.drew Xc0.out)
  have HB := Lib.hid (Below.drew HB.out)
  refine wp_region_float [w.heap.size + 1 + 1] [] (by kernel_rfl) (by kernel_rfl) 26 (by kernel_rfl) Flok.nil ?_
  intro ok
  have Hok := Lib.hid ok
  clear ok
  have HG := Lib.hid (Below.refl (w2.drew).heap.size (w2.drew))
  refine good_pureX 0 (some 10) (Go.Op.fieldAddr 37 (Go.Operand.tmp 2) 0) (none) (.pointer (some ⟨w.heap.size, 0, none⟩)) (by kernel_rfl) (by kernel_rfl) (by kernel_rfl) (fun _ _ _ h => h) (fun w' hw' => ?_) ?_
  · first | (go_simp; done) | (go_simp; simp_all; done) | (go_simp; rfl)
  simp only [Act.put, List.setIfInBounds_toArray, List.set_cons_zero, List.set_cons_succ]
  refine good_pureX 1 (some 11) (Go.Op.load 4 (Go.Operand.tmp 10)) (none) (.bool ba) (by kernel_rfl) (by kernel_rfl) (by kernel_rfl) (fun _ _ _ h => h) (fun w' hw' => ?_) ?_
  · obtain ⟨ca00, ca01, ca02, fa00, fa01, fa02⟩ := (Box.se hw' Xa0.out (notin1 (by omega))).c3
    first | (go_simp; done) | (go_simp; simp_all; done) | (go_simp; rfl)
  simp only [Act.put, List.setIfInBounds_toArray, List.set_cons_zero, List.set_cons_succ]
  refine good_pureX 2 (some 12) (Go.Op.fieldAddr 37 (Go.Operand.tmp 3) 0) (none) (.pointer (some ⟨w.heap.size + 1, 0, none⟩)) (by kernel_rfl) (by kernel_rfl) (by kernel_rfl) (fun _ _ _ h => h) (fun w' hw' => ?_) ?_
  · first | (go_simp; done) | (go_simp; simp_all; done) | (go_simp; rfl)
  simp only [Act.put, List.setIfInBounds_toArray, List.set_cons_zero, List.set_cons_succ]
  refine good_pureX 3 (some 13) (Go.Op.load 4 (Go.Operand.tmp 12)) (none) (.bool bb) (by kernel_rfl) (by kernel_rfl) (by kernel_rfl) (fun _ _ _ h => h) (fun w' hw' => ?_) ?_
  · obtain ⟨cb00, cb01, cb02, fb00, fb01, fb02⟩ := (Box.se hw' Xb0.out (notin1 (by omega))).c3
    first | (go_simp; done) | (go_simp; simp_all; done) | (go_simp; rfl)
  simp only [Act.put, List.setIfInBounds_toArray, List.set_cons_zero, List.set_cons_succ]
  refine good_pureX 4 (some 14) (Go.Op.binOp Go.BinOp.neq 4 (Go.Operand.tmp 11) (Go.Operand.tmp 13) 4) (none) (.bool (!ba == bb)) (by kernel_rfl) (by kernel_rfl) (by kernel_rfl) (fun _ _ _ h => h) (fun w' hw' => ?_) ?_
  · first | (go_simp; done) | (go_simp; simp_all; done) | (go_simp; rfl)
  simp only [Act.put, List.setIfInBounds_toArray, List.set_cons_zero, List.set_cons_succ]
  refine good_pureX 5 (some 15) (Go.Op.fieldAddr 37 (Go.Operand.tmp 2) 1) (none) (.pointer (some ⟨w.heap.size, 1, none⟩)) (by kernel_rfl) (by kernel_rfl) (by kernel_rfl) (fun _ _ _ h => h) (fun w' hw' => ?_) ?_
  · first | (go_simp; done) | (go_simp; simp_all; done) | (go_simp; rfl)
  simp only [Act.put, List.setIfInBounds_toArray, List.set_cons_zero, List.set_cons_succ]
  refine good_pureX 6 (some 16) (Go.Op.load 35 (Go.Operand.tmp 15)) (none) (sa) (by kernel_rfl) (by kernel_rfl) (by kernel_rfl) (fun _ _ _ h => h) (fun w' hw' => ?_) ?_
  · obtain ⟨ca00, ca01, ca02, fa00, fa01, fa02⟩ := (Box.se hw' Xa0.out (notin1 (by omega))).c3
    first | (go_simp; done) | (go_simp; simp_all; done) | (go_simp; rfl)
  simp only [Act.put, List.setIfInBounds_toArray, List.set_cons_zero, List.set_cons_succ]
  refine good_pureX 7 (some 17) (Go.Op.load 37 (Go.Operand.tmp 3)) (none) (.agg #[.bool bb, sb, tb]) (by kernel_rfl) (by kernel_rfl) (by kernel_rfl) (fun _ _ _ h => h) (fun w' hw' => ?_) ?_
  · obtain ⟨cb00, cb01, cb02, fb00, fb01, fb02⟩ := (Box.se hw' Xb0.out (notin1 (by omega))).c3
    first | (go_simp; done) | (go_simp; simp_all; done) | (go_simp; rfl)
  simp only [Act.put, List.setIfInBounds_toArray, List.set_cons_zero, List.set_cons_succ]
  refine good_pureX 10 (some 20) (Go.Op.load 37 (Go.Operand.tmp 2)) (none) (.agg #[.bool ba, sa, ta]) (by kernel_rfl) (by kernel_rfl) (by kernel_rfl) (fun _ _ _ h => h) (fun w' hw' => ?_) ?_
  · obtain ⟨ca00, ca01, ca02, fa00, fa01, fa02⟩ := (Box.se hw' Xa0.out (notin1 (by omega))).c3
    first | (go_simp; done) | (go_simp; simp_all; done) | (go_simp; rfl)
  simp only [Act.put, List.setIfInBounds_toArray, List.set_cons_zero, List.set_cons_succ]
  refine good_pureX 12 (some 22) (Go.Op.fieldAddr 37 (Go.Operand.tmp 3) 1) (none) (.pointer (some ⟨w.heap.size + 1, 1, none⟩)) (by kernel_rfl) (by kernel_rfl) (by kernel_rfl) (fun _ _ _ h => h) (fun w' hw' => ?_) ?_
  · first | (go_simp; done) | (go_simp; simp_all; done) | (go_simp; rfl)
  simp only [Act.put, List.setIfInBounds_toArray, List.set_cons_zero, List.set_cons_succ]
  refine good_pureX 13 (some 23) (Go.Op.load 35 (Go.Operand.tmp 22)) (none) (sb) (by kernel_rfl) (by kernel_rfl) (by kernel_rfl) (fun _ _ _ h => h) (fun w' hw' => ?_) ?_
  · obtain ⟨cb00, cb01, cb02, fb00, fb01, fb02⟩ := (Box.se hw' Xb0.out (notin1 (by omega))).c3
    first | (go_simp; done) | (go_simp; simp_all; done) | (go_simp; rfl)
  simp only [Act.put, List.setIfInBounds_toArray, List.set_cons_zero, List.set_cons_succ]
  refine good_callX 8 134 (some 18) #[Go.Operand.tmp 17] #[37] (none) #[.agg #[.bool bb, sb, tb]] (by kernel_rfl) Hok.out (by kernel_rfl) (by kernel_rfl) (by kernel_rfl) (by kernel_rfl) rfl rfl rfl (by kernel_rfl) (fun w3 hb => ?_)
  have HG := Lib.hid (below_call HG.out hb)
  clear hb
  (first | (have hcall := under_is (b := bb) (Is.keep Hdb.out (Keep.call HG.out)) (by omega); refine Calls.mono hcall ?_; clear hcall) | refine Calls.mono (under_is (b := bb) (Is.keep Hdb.out (Keep.call HG.out)) (by omega)) ?_)
  rintro e w4 ⟨v4, rfl, hq, hb⟩
  obtain ⟨q_a, q_n, q_c, rfl⟩ := hq.lit
  refine ⟨_, rfl, ?_, hb⟩
  have HG := Lib.hid (below_call HG.out hb)
  have Hq := Lib.hid hq
  clear hb hq
  simp only [Act.put, List.setIfInBounds_toArray, List.set_cons_zero, List.set_cons_succ]
  refine good_callX 9 133 (some 19) #[Go.Operand.tmp 16, Go.Operand.tmp 18] #[35, 35] (none) #[sa, .slice q_a q_n q_c] (by kernel_rfl) Hok.out (by kernel_rfl) (by kernel_rfl) (by kernel_rfl) (by kernel_rfl) rfl rfl rfl (by kernel_rfl) (fun w5 hb => ?_)
  have Hq := Lib.hid (Is.keep Hq.out (Keep.call hb))
  have HG := Lib.hid (below_call HG.out hb)
  clear hb
  (first | (have hcall := mul_is (Is.keep Hna.out (Keep.call HG.out)) Hq.out (by omega) (by omega); refine Calls.mono hcall ?_; clear hcall) | refine Calls.mono (mul_is (Is.keep Hna.out (Keep.call HG.out)) Hq.out (by omega) (by omega)) ?_)
  rintro e w6 ⟨v6, rfl, hx, hb⟩
  obtain ⟨x_a, x_n, x_c, rfl⟩ := hx.is.lit
  refine ⟨_, rfl, ?_, hb⟩
  have HG := Lib.hid (below_call HG.out hb)
  have Hx := Lib.hid hx
  clear hb hx
  simp only [Act.put, List.setIfInBounds_toArray, List.set_cons_zero, List.set_cons_succ]
  refine good_callX 11 134 (some 21) #[Go.Operand.tmp 20] #[37] (none) #[.agg #[.bool ba, sa, ta]] (by kernel_rfl) Hok.out (by kernel_rfl) (by kernel_rfl) (by kernel_rfl) (by kernel_rfl) rfl rfl rfl (by kernel_rfl) (fun w7 hb => ?_)
  have Hx := Lib.hid (Can.keep Hx.out (Keep.call hb))
  have HG := Lib.hid (below_call HG.out hb)
  clear hb
  (first | (have hcall := under_is (b := ba) (Is.keep Hda.out (Keep.call HG.out)) (by omega); refine Calls.mono hcall ?_; clear hcall) | refine Calls.mono (under_is (b := ba) (Is.keep Hda.out (Keep.call HG.out)) (by omega)) ?_)
  rintro e w8 ⟨v8, rfl, hp, hb⟩
  obtain ⟨p_a, p_n, p_c, rfl⟩ := hp.lit
  refine ⟨_, rfl, ?_, hb⟩
  have Hx := Lib.hid (Can.keep Hx.out (Keep.call hb))
  have HG := Lib.hid (below_call HG.out hb)
  have Hp := Lib.hid hp
  clear hb hp
  simp only [Act.put, List.setIfInBounds_toArray, List.set_cons_zero, List.set_cons_succ]
  refine good_callX 14 133 (some 24) #[Go.Operand.tmp 21, Go.Operand.tmp 23] #[35, 35] (none) #[.slice p_a p_n p_c, sb] (by kernel_rfl) Hok.out (by kernel_rfl) (by kernel_rfl) (by kernel_rfl) (by kernel_rfl) rfl rfl rfl (by kernel_rfl) (fun w9 hb => ?_)
  have Hx := Lib.hid (Can.keep Hx.out (Keep.call hb))
  have Hp := Lib.hid (Is.keep Hp.out (Keep.call hb))
  have HG := Lib.hid (below_call HG.out hb)
  clear hb
  (first | (have hcall := mul_is Hp.out (Is.keep Hnb.out (Keep.call HG.out)) (by omega) (by omega); refine Calls.mono hcall ?_; clear hcall) | refine Calls.mono (mul_is Hp.out (Is.keep Hnb.out (Keep.call HG.out)) (by omega) (by omega)) ?_)
  rintro e w10 ⟨v10, rfl, hy, hb⟩
  obtain ⟨y_a, y_n, y_c, rfl⟩ := hy.is.lit
  refine ⟨_, rfl, ?_, hb⟩
  have Hx := Lib.hid (Can.keep Hx.out (Keep.call hb))
  have HG := Lib.hid (below_call HG.out hb)
  have Hy := Lib.hid hy
  clear hb hy
  simp only [Act.put, List.setIfInBounds_toArray, List.set_cons_zero, List.set_cons_succ]
  refine good_callX 15 132 (some 25) #[Go.Operand.tmp 14, Go.Operand.tmp 19, Go.Operand.tmp 24] #[4, 35, 35] (none) #[.bool (!ba == bb), .slice x_a x_n x_c, .slice y_a y_n y_c] (by kernel_rfl) Hok.out (by kernel_rfl) (by kernel_rfl) (by kernel_rfl) (by kernel_rfl) rfl rfl rfl (by kernel_rfl) (fun w11 hb => ?_)
  have Hx := Lib.hid (Can.keep Hx.out (Keep.call hb))
  have Hy := Lib.hid (Can.keep Hy.out (Keep.call hb))
  have HG := Lib.hid (below_call HG.out hb)
  clear hb
  refine Calls.mono (quot_is (neg := (!ba == bb)) (Nat.mul_pos (un_pos _) Hp0.out) Hx.out.is Hy.out.is (by omega) (by omega)) ?_
  rintro e w12 ⟨v12, rfl, hz, hb⟩
  obtain ⟨z_b, z_a, z_n, z_c, z_d, z_m, z_e, rfl⟩ := hz.litb
  refine ⟨_, rfl, ?_, hb⟩
  have HG := Lib.hid (below_call HG.out hb)
  have Hz := Lib.hid hz
  clear hb hz
  simp only [Act.put, List.setIfInBounds_toArray, List.set_cons_zero, List.set_cons_succ]
  refine good_end0 2 (by kernel_rfl) (fun _ w13 hb => ?_)
  have Hz := Lib.hid (CR.keep Hz.out (Keep.call hb))
  have HG := Lib.hid (below_call HG.out hb)
  clear hb
  have Xa0 := Lib.hid (Box.pcall HG.out Xa0.out)
  have Xb0 := Lib.hid (Box.pcall HG.out Xb0.out)
  have Xc0 := Lib.hid (Box.pcall HG.out Xc0.out)
  have HB := Lib.hid (below_call HB.out HG.out)
  have HS := Lib.hid (SE.of (E := [w.heap.size + 1 + 1]) HG.out)
  refine held_oneX 16 (Go.Op.store 37 (Go.Operand.tmp 4) (Go.Operand.tmp 25)) (none) (World.setCell (World.setCell (World.setCell w13 ⟨w.heap.size + 1 + 1, 0, none⟩ (.bool z_b)) ⟨w.heap.size + 1 + 1, 1, none⟩ (.slice z_a z_n z_c)) ⟨w.heap.size + 1 + 1, 2, none⟩ (.slice z_d z_m z_e)) (by kernel_rfl) (by kernel_rfl) (by kernel_rfl) (by kernel_rfl) ?_ (HS.out.store3 in1) ?_
  · obtain ⟨cc00, cc01, cc02, fc00, fc01, fc02⟩ := Xc0.out.c3
    first | (go_simp; done) | (go_simp; simp_all; done) | (go_simp; rfl)
  obtain ⟨W14, hW⟩ : ∃ W14, W14 = (World.setCell (World.setCell (World.setCell w13 ⟨w.heap.size + 1 + 1, 0, none⟩ (.bool z_b)) ⟨w.heap.size + 1 + 1, 1, none⟩ (.slice z_a z_n z_c)) ⟨w.heap.size + 1 + 1, 2, none⟩ (.slice z_d z_m z_e)) := ⟨_, rfl⟩
  rw [← hW]
  obtain ⟨xc0, hk, hf, hbb, hz⟩ := stored3s hW Xc0.out (by first | exact NoInt.bool _ | exact NoInt.slice _ _ _) (by first | exact NoInt.bool _ | exact NoInt.slice _ _ _) (by first | exact NoInt.bool _ | exact NoInt.slice _ _ _)
  have Hz := Lib.hid (CR.keep Hz.out hk)
  have Xa0 := Lib.hid (hf _ _ _ Xa0.out (by omega))
  have Xb0 := Lib.hid (hf _ _ _ Xb0.out (by omega))
  have Xc0 := Lib.hid xc0
  have HB := Lib.hid (hbb _ HB.out Gc0.out)
  have HS := Lib.hid (show SE (w2.drew) [w.heap.size + 1 + 1] W14 from by rw [hW]; exact HS.out.store3 in1)
  clear hW hk hf hbb xc0
  clear hz
  refine held_pureX 17 (some 5) (Go.Op.assign (Go.Operand.const (Go.Value.int Go.IntKind.i64 0))) (none) (.int .i64 0) (by kernel_rfl) (by kernel_rfl) (by kernel_rfl) (fun _ _ _ h => h) (fun w' => by first | (go_simp; done) | (go_simp; simp_all; done) | (go_simp; rfl)) HS.out ?_
  simp only [Act.put, List.setIfInBounds_toArray, List.set_cons_zero, List.set_cons_succ]
  refine wpAnyH_done (by kernel_rfl) ?_ _
  clear HG HS Hok 
  obtain ⟨ca00, ca01, ca02, fa00, fa01, fa02⟩ := Xa0.out.c3
  have la0 := Xa0.out.lt
  obtain ⟨cb00, cb01, cb02, fb00, fb01, fb02⟩ := Xb0.out.c3
  have lb0 := Xb0.out.lt
  obtain ⟨cc00, cc01, cc02, fc00, fc01, fc02⟩ := Xc0.out.c3
  have lc0 := Xc0.out.lt
  go_wp2
  clear ca00 ca01 ca02 fa00 fa01 fa02 la0 cb00 cb01 cb02 fb00 fb01 fb02 lb0 cc00 cc01 cc02 fc00 fc01 fc02 lc0
  exact ret_re rfl rfl rfl rfl Xc0.out ⟨_, rfl, CR.mono (CR.cast (div_parts _ _ _ _ _ _ Hp0.out) Hz.out) (by omega)⟩ HB.out
theorem rdiv_ar {a b : Rat} {L M : Nat} {u v : Value} {w : World} (h0 : b ≠ 0) (h : AR a L w u) (h' : AR b M w v) (hL : L ≤ 100000000) (hM : M ≤ 100000000) :
    Calls Tryz.prog 76 #[u, v] w (Ret w (CRE (a / b) (L + M + 2) 0)) := by
  obtain ⟨ba, sa, ta, na, da, rfl, h1, h2, rfl⟩ := h
  obtain ⟨bb, sb, tb, nb, db, rfl, h3, h4, rfl⟩ := h'
  have hp : 0 < nb := by
    rcases Nat.eq_zero_or_pos nb with rfl | h0'
    · exact absurd (by unfold rv; rw [show iv bb 0 = 0 by cases bb <;> rfl]; exact Rat.zero_mkRat _) h0
    · exact h0'
  exact rdiv_1 _ rfl (by cases bb <;> simp [iv, Int.sign_eq_zero_iff_zero] <;> omega) hp h1 h2 h3 h4 hL hM
set_option maxRecDepth 100000 in
set_option maxHeartbeats 4000000 in
theorem rmin_t {L M : Nat} {qa : Rat} {ba : Bool} {sa ta : Value} {qb : Rat} {bb : Bool} {sb tb : Value} {w : World} (k : Int) (hk : cmpQ qa qb = k) (hk0 : decide (k ≤ 0) = true) (ha : AR qa L w (.agg #[.bool ba, sa, ta])) (hb : AR qb M w (.agg #[.bool bb, sb, tb])) (hL : L ≤ 100000000) (hM : M ≤ 100000000) :
    Calls Tryz.prog 125 #[.agg #[.bool ba, sa, ta], .agg #[.bool bb, sb, tb]] w (Ret w (CR qa (max L 1))) := by
  have Ha := Lib.hid ha
  have Hb := Lib.hid hb
  have Hk := Lib.hid hk
  have Hk0 := Lib.hid hk0
  clear ha hb hk hk0
  go_enter Tryz.func125, Tryz.ntmps125
  have HB := Lib.hid (Below.refl w.heap.size w)
  go_wp2_with fail
  obtain ⟨W1, hW⟩ : ∃ W1, W1 = (World.alloc (World.alloc (World.alloc w (.cells #[.bool ba, sa, ta] 37)) (.cells #[.bool bb, sb, tb] 37)) (.cells #[.bool false, .slice none 0 0, .slice none 0 0] 37)) := ⟨_, rfl⟩
  rw [← hW]
  obtain ⟨xa0, xb0, xc0, hk, hb⟩ := boxes_3 _ _ _ _ _ _ _ hW
  clear hW
  have Ha := Lib.hid (AR.keep Ha.out hk)
  have Hb := Lib.hid (AR.keep Hb.out hk)
  have Ga0 := Lib.hid (show w.heap.size ≤ w.heap.size from Nat.le_trans HB.out.size (by omega))
  have Gb0 := Lib.hid (show w.heap.size ≤ w.heap.size + 1 from Nat.le_trans HB.out.size (by omega))
  have Gc0 := Lib.hid (show w.heap.size ≤ w.heap.size + 1 + 1 from Nat.le_trans HB.out.size (by omega))
  have Xa0 := Lib.hid xa0
  have Xb0 := Lib.hid xb0
  have Xc0 := Lib.hid xc0
  have HB := Lib.hid (below_call HB.out hb)
  clear hk hb xa0 xb0 xc0
  (first | (have hcall := rcmp_ar k Ha.out Hb.out Hk.out (by omega) (by omega); refine Calls.mono hcall ?_; clear hcall) | refine Calls.mono (rcmp_ar k Ha.out Hb.out Hk.out (by omega) (by omega)) ?_)
  rintro e w2 ⟨v2, rfl, rfl, hb⟩
  have Ha := Lib.hid (AR.keep Ha.out (Keep.call hb))
  have Xa0 := Lib.hid (Box.pcall hb Xa0.out)
  have Xb0 := Lib.hid (Box.pcall hb Xb0.out)
  have Xc0 := Lib.hid (Box.pcall hb Xc0.out)
  have HB := Lib.hid (below_call HB.out hb)
  clear hb
  have hk0 : decide (k ≤ 0) = true := Hk0.out
  obtain ⟨ca00, ca01, ca02, fa00, fa01, fa02⟩ := Xa0.out.c3
  have la0 := Xa0.out.lt
  obtain ⟨cb00, cb01, cb02, fb00, fb01, fb02⟩ := Xb0.out.c3
  have lb0 := Xb0.out.lt
  obtain ⟨cc00, cc01, cc02, fc00, fc01, fc02⟩ := Xc0.out.c3
  have lc0 := Xc0.out.lt
  go_wp2_with fail
  clear ca00 ca01 ca02 fa00 fa01 fa02 la0 cb00 cb01 cb02 fb00 fb01 fb02 lb0 cc00 cc01 cc02 fc00 fc01 fc02 lc0
  (first | (have hcall := canon_ar Ha.out (by omega); refine Calls.mono hcall ?_; clear hcall) | refine Calls.mono (canon_ar Ha.out (by omega)) ?_)
  rintro e w3 ⟨v3, rfl, hz, hb⟩
  obtain ⟨z_b, z_a, z_n, z_c, z_d, z_m, z_e, rfl⟩ := hz.litb
  have Xa0 := Lib.hid (Box.pcall hb Xa0.out)
  have Xb0 := Lib.hid (Box.pcall hb Xb0.out)
  have Xc0 := Lib.hid (Box.pcall hb Xc0.out)
  have HB := Lib.hid (below_call HB.out hb)
  have Hz := Lib.hid hz
  clear hb hz
  obtain ⟨ca00, ca01, ca02, fa00, fa01, fa02⟩ := Xa0.out.c3
  have la0 := Xa0.out.lt
  obtain ⟨cb00, cb01, cb02, fb00, fb01, fb02⟩ := Xb0.out.c3
  have lb0 := Xb0.out.lt
  obtain ⟨cc00, cc01, cc02, fc00, fc01, fc02⟩ := Xc0.out.c3
  have lc0 := Xc0.out.lt
  go_wp2
  clear ca00 ca01 ca02 fa00 fa01 fa02 la0 cb00 cb01 cb02 fb00 fb01 fb02 lb0 cc00 cc01 cc02 fc00 fc01 fc02 lc0
  obtain ⟨W4, hW⟩ : ∃ W4, W4 = (World.setCell (World.setCell (World.setCell w3 ⟨w.heap.size + 1 + 1, 0, none⟩ (.bool z_b)) ⟨w.heap.size + 1 + 1, 1, none⟩ (.slice z_a z_n z_c)) ⟨w.heap.size + 1 + 1, 2, none⟩ (.slice z_d z_m z_e)) := ⟨_, rfl⟩
  rw [← hW]
  obtain ⟨xc0, hk, hf, hbb, hz⟩ := stored3s hW Xc0.out (by first | exact NoInt.bool _ | exact NoInt.slice _ _ _) (by first | exact NoInt.bool _ | exact NoInt.slice _ _ _) (by first | exact NoInt.bool _ | exact NoInt.slice _ _ _)
  have Hz := Lib.hid (CR.keep Hz.out hk)
  have Xa0 := Lib.hid (hf _ _ _ Xa0.out (by omega))
  have Xb0 := Lib.hid (hf _ _ _ Xb0.out (by omega))
  have Xc0 := Lib.hid xc0
  have HB := Lib.hid (hbb _ HB.out Gc0.out)
  clear hW hk hf hbb xc0
  clear hz
  exact ret_rat1 rfl rfl rfl Xc0.out Hz.out HB.out
set_option maxRecDepth 100000 in
set_option maxHeartbeats 4000000 in
theorem rmin_f {L M : Nat} {qa : Rat} {ba : Bool} {sa ta : Value} {qb : Rat} {bb : Bool} {sb tb : Value} {w : World} (k : Int) (hk : cmpQ qa qb = k) (hk0 : decide (k ≤ 0) = false) (ha : AR qa L w (.agg #[.bool ba, sa, ta])) (hb : AR qb M w (.agg #[.bool bb, sb, tb])) (hL : L ≤ 100000000) (hM : M ≤ 100000000) :
    Calls Tryz.prog 125 #[.agg #[.bool ba, sa, ta], .agg #[.bool bb, sb, tb]] w (Ret w (CR qb (max M 1))) := by
  have Ha := Lib.hid ha
  have Hb := Lib.hid hb
  have Hk := Lib.hid hk
  have Hk0 := Lib.hid hk0
  clear ha hb hk hk0
  go_enter Tryz.func125, Tryz.ntmps125
  have HB := Lib.hid (Below.refl w.heap.size w)
  go_wp2_with fail
  obtain ⟨W1, hW⟩ : ∃ W1, W1 = (World.alloc (World.alloc (World.alloc w (.cells #[.bool ba, sa, ta] 37)) (.cells #[.bool bb, sb, tb] 37)) (.cells #[.bool false, .slice none 0 0, .slice none 0 0] 37)) := ⟨_, rfl⟩
  rw [← hW]
  obtain ⟨xa0, xb0, xc0, hk, hb⟩ := boxes_3 _ _ _ _ _ _ _ hW
  clear hW
  have Ha := Lib.hid (AR.keep Ha.out hk)
  have Hb := Lib.hid (AR.keep Hb.out hk)
  have Ga0 := Lib.hid (show w.heap.size ≤ w.heap.size from Nat.le_trans HB.out.size (by omega))
  have Gb0 := Lib.hid (show w.heap.size ≤ w.heap.size + 1 from Nat.le_trans HB.out.size (by omega))
  have Gc0 := Lib.hid (show w.heap.size ≤ w.heap.size + 1 + 1 from Nat.le_trans HB.out.size (by omega))
  have Xa0 := Lib.hid xa0
  have Xb0 := Lib.hid xb0
  have Xc0 := Lib.hid xc0
  have HB := Lib.hid (below_call HB.out hb)
  clear hk hb xa0 xb0 xc0
  (first | (have hcall := rcmp_ar k Ha.out Hb.out Hk.out (by omega) (by omega); refine Calls.mono hcall ?_; clear hcall) | refine Calls.mono (rcmp_ar k Ha.out Hb.out Hk.out (by omega) (by omega)) ?_)
  rintro e w2 ⟨v2, rfl, rfl, hb⟩
  have Hb := Lib.hid (AR.keep Hb.out (Keep.call hb))
  have Xa0 := Lib.hid (Box.pcall hb Xa0.out)
  have Xb0 := Lib.hid (Box.pcall hb Xb0.out)
  have Xc0 := Lib.hid (Box.pcall hb Xc0.out)
  have HB := Lib.hid (below_call HB.out hb)
  clear hb
  have hk0 : decide (k ≤ 0) = false := Hk0.out
  obtain ⟨ca00, ca01, ca02, fa00, fa01, fa02⟩ := Xa0.out.c3
  have la0 := Xa0.out.lt
  obtain ⟨cb00, cb01, cb02, fb00, fb01, fb02⟩ := Xb0.out.c3
  have lb0 := Xb0.out.lt
  obtain ⟨cc00, cc01, cc02, fc00, fc01, fc02⟩ := Xc0.out.c3
  have lc0 := Xc0.out.lt
  go_wp2_with fail
  clear ca00 ca01 ca02 fa00 fa01 fa02 la0 cb00 cb01 cb02 fb00 fb01 fb02 lb0 cc00 cc01 cc02 fc00 fc01 fc02 lc0
  (first | (have hcall := canon_ar Hb.out (by omega); refine Calls.mono hcall ?_; clear hcall) | refine Calls.mono (canon_ar Hb.out (by omega)) ?_)
  rintro e w3 ⟨v3, rfl, hz, hb⟩
  obtain ⟨z_b, z_a, z_n, z_c, z_d, z_m, z_e, rfl⟩ := hz.litb
  have Xa0 := Lib.hid (Box.pcall hb Xa0.out)
  have Xb0 := Lib.hid (Box.pcall hb Xb0.out)
  have Xc0 := Lib.hid (Box.pcall hb Xc0.out)
  have HB := Lib.hid (below_call HB.out hb)
  have Hz := Lib.hid hz
  clear hb hz
  obtain ⟨ca00, ca01, ca02, fa00, fa01, fa02⟩ := Xa0.out.c3
  have la0 := Xa0.out.lt
  obtain ⟨cb00, cb01, cb02, fb00, fb01, fb02⟩ := Xb0.out.c3
  have lb0 := Xb0.out.lt
  obtain ⟨cc00, cc01, cc02, fc00, fc01, fc02⟩ := Xc0.out.c3
  have lc0 := Xc0.out.lt
  go_wp2
  clear ca00 ca01 ca02 fa00 fa01 fa02 la0 cb00 cb01 cb02 fb00 fb01 fb02 lb0 cc00 cc01 cc02 fc00 fc01 fc02 lc0
  obtain ⟨W4, hW⟩ : ∃ W4, W4 = (World.setCell (World.setCell (World.setCell w3 ⟨w.heap.size + 1 + 1, 0, none⟩ (.bool z_b)) ⟨w.heap.size + 1 + 1, 1, none⟩ (.slice z_a z_n z_c)) ⟨w.heap.size + 1 + 1, 2, none⟩ (.slice z_d z_m z_e)) := ⟨_, rfl⟩
  rw [← hW]
  obtain ⟨xc0, hk, hf, hbb, hz⟩ := stored3s hW Xc0.out (by first | exact NoInt.bool _ | exact NoInt.slice _ _ _) (by first | exact NoInt.bool _ | exact NoInt.slice _ _ _) (by first | exact NoInt.bool _ | exact NoInt.slice _ _ _)
  have Hz := Lib.hid (CR.keep Hz.out hk)
  have Xa0 := Lib.hid (hf _ _ _ Xa0.out (by omega))
  have Xb0 := Lib.hid (hf _ _ _ Xb0.out (by omega))
  have Xc0 := Lib.hid xc0
  have HB := Lib.hid (hbb _ HB.out Gc0.out)
  clear hW hk hf hbb xc0
  clear hz
  exact ret_rat1 rfl rfl rfl Xc0.out Hz.out HB.out
theorem rmin_ar {a b : Rat} {L M : Nat} {u v : Value} {w : World} (h : AR a L w u) (h' : AR b M w v) (hL : L ≤ 100000000) (hM : M ≤ 100000000) : Calls Tryz.prog 125 #[u, v] w (Ret w (CR (if a ≤ b then a else b) (max (max L M) 1))) := by
  obtain ⟨ba, sa, ta, rfl⟩ := h.agg
  obtain ⟨bb, sb, tb, rfl⟩ := h'.agg
  by_cases hc : a ≤ b
  · rw [if_pos hc]
    exact (rmin_t _ rfl (by simpa using cmpQ_le.2 hc) h h' hL hM).mono fun e w' k => k.imp fun _ _ x => x.mono (by omega)
  · rw [if_neg hc]
    exact (rmin_f _ rfl (by simpa using mt cmpQ_le.1 hc) h h' hL hM).mono fun e w' k => k.imp fun _ _ x => x.mono (by omega)
set_option maxRecDepth 100000 in
set_option maxHeartbeats 4000000 in
theorem rmax_t {L M : Nat} {qa : Rat} {ba : Bool} {sa ta : Value} {qb : Rat} {bb : Bool} {sb tb : Value} {w : World} (k : Int) (hk : cmpQ qa qb = k) (hk0 : decide (0 ≤ k) = true) (ha : AR qa L w (.agg #[.bool ba, sa, ta])) (hb : AR qb M w (.agg #[.bool bb, sb, tb])) (hL : L ≤ 100000000) (hM : M ≤ 100000000) :
    Calls Tryz.prog 82 #[.agg #[.bool ba, sa, ta], .agg #[.bool bb, sb, tb]] w (Ret w (CR qa (max L 1))) := by
  have Ha := Lib.hid ha
  have Hb := Lib.hid hb
  have Hk := Lib.hid hk
  have Hk0 := Lib.hid hk0
  clear ha hb hk hk0
  go_enter Tryz.func82, Tryz.ntmps82
  have HB := Lib.hid (Below.refl w.heap.size w)
  go_wp2_with fail
  obtain ⟨W1, hW⟩ : ∃ W1, W1 = (World.alloc (World.alloc (World.alloc w (.cells #[.bool ba, sa, ta] 37)) (.cells #[.bool bb, sb, tb] 37)) (.cells #[.bool false, .slice none 0 0, .slice none 0 0] 37)) := ⟨_, rfl⟩
  rw [← hW]
  obtain ⟨xa0, xb0, xc0, hk, hb⟩ := boxes_3 _ _ _ _ _ _ _ hW
  clear hW
  have Ha := Lib.hid (AR.keep Ha.out hk)
  have Hb := Lib.hid (AR.keep Hb.out hk)
  have Ga0 := Lib.hid (show w.heap.size ≤ w.heap.size from Nat.le_trans HB.out.size (by omega))
  have Gb0 := Lib.hid (show w.heap.size ≤ w.heap.size + 1 from Nat.le_trans HB.out.size (by omega))
  have Gc0 := Lib.hid (show w.heap.size ≤ w.heap.size + 1 + 1 from Nat.le_trans HB.out.size (by omega))
  have Xa0 := Lib.hid xa0
  have Xb0 := Lib.hid xb0
  have Xc0 := Lib.hid xc0
  have HB := Lib.hid (below_call HB.out hb)
  clear hk hb xa0 xb0 xc0
  (first | (have hcall := rcmp_ar k Ha.out Hb.out Hk.out (by omega) (by omega); refine Calls.mono hcall ?_; clear hcall) | refine Calls.mono (rcmp_ar k Ha.out Hb.out Hk.out (by omega) (by omega)) ?_)
  rintro e w2 ⟨v2, rfl, rfl, hb⟩
  have Ha := Lib.hid (AR.keep Ha.out (Keep.call hb))
  have Xa0 := Lib.hid (Box.pcall hb Xa0.out)
  have Xb0 := Lib.hid (Box.pcall hb Xb0.out)
  have Xc0 := Lib.hid (Box.pcall hb Xc0.out)
  have HB := Lib.hid (below_call HB.out hb)
  clear hb
  have hk0 : decide (0 ≤ k) = true := Hk0.out
  obtain ⟨ca00, ca01, ca02, fa00, fa01, fa02⟩ := Xa0.out.c3
  have la0 := Xa0.out.lt
  obtain ⟨cb00, cb01, cb02, fb00, fb01, fb02⟩ := Xb0.out.c3
  have lb0 := Xb0.out.lt
  obtain ⟨cc00, cc01, cc02, fc00, fc01, fc02⟩ := Xc0.out.c3
  have lc0 := Xc0.out.lt
  go_wp2_with fail
  clear ca00 ca01 ca02 fa00 fa01 fa02 la0 cb00 cb01 cb02 fb00 fb01 fb02 lb0 cc00 cc01 cc02 fc00 fc01 fc02 lc0
  (first | (have hcall := canon_ar Ha.out (by omega); refine Calls.mono hcall ?_; clear hcall) | refine Calls.mono (canon_ar Ha.out (by omega)) ?_)
  rintro e w3 ⟨v3, rfl, hz, hb⟩
  obtain ⟨z_b, z_a, z_n, z_c, z_d, z_m, z_e, rfl⟩ := hz.litb
  have Xa0 := Lib.hid (Box.pcall hb Xa0.out)
  have Xb0 := Lib.hid (Box.pcall hb Xb0.out)
  have Xc0 := Lib.hid (Box.pcall hb Xc0.out)
  have HB := Lib.hid (below_call HB.out hb)
  have Hz := Lib.hid hz
  clear hb hz
  obtain ⟨ca00, ca01, ca02, fa00, fa01, fa02⟩ := Xa0.out.c3
  have la0 := Xa0.out.lt
  obtain ⟨cb00, cb01, cb02, fb00, fb01, fb02⟩ := Xb0.out.c3
  have lb0 := Xb0.out.lt
  obtain ⟨cc00, cc01, cc02, fc00, fc01, fc02⟩ := Xc0.out.c3
  have lc0 := Xc0.out.lt
  go_wp2
  clear ca00 ca01 ca02 fa00 fa01 fa02 la0 cb00 cb01 cb02 fb00 fb01 fb02 lb0 cc00 cc01 cc02 fc00 fc01 fc02 lc0
  obtain ⟨W4, hW⟩ : ∃ W4, W4 = (World.setCell (World.setCell (World.setCell w3 ⟨w.heap.size + 1 + 1, 0, none⟩ (.bool z_b)) ⟨w.heap.size + 1 + 1, 1, none⟩ (.slice z_a z_n z_c)) ⟨w.heap.size + 1 + 1, 2, none⟩ (.slice z_d z_m z_e)) := ⟨_, rfl⟩
  rw [← hW]
  obtain ⟨xc0, hk, hf, hbb, hz⟩ := stored3s hW Xc0.out (by first | exact NoInt.bool _ | exact NoInt.slice _ _ _) (by first | exact NoInt.bool _ | exact NoInt.slice _ _ _) (by first | exact NoInt.bool _ | exact NoInt.slice _ _ _)
  have Hz := Lib.hid (CR.keep Hz.out hk)
  have Xa0 := Lib.hid (hf _ _ _ Xa0.out (by omega))
  have Xb0 := Lib.hid (hf _ _ _ Xb0.out (by omega))
  have Xc0 := Lib.hid xc0
  have HB := Lib.hid (hbb _ HB.out Gc0.out)
  clear hW hk hf hbb xc0
  clear hz
  exact ret_rat1 rfl rfl rfl Xc0.out Hz.out HB.out
set_option maxRecDepth 100000 in
set_option maxHeartbeats 4000000 in
theorem rmax_f {L M : Nat} {qa : Rat} {ba : Bool} {sa ta : Value} {qb : Rat} {bb : Bool} {sb tb : Value} {w : World} (k : Int) (hk : cmpQ qa qb = k) (hk0 : decide (0 ≤ k) = false) (ha : AR qa L w (.agg #[.bool ba, sa, ta])) (hb : AR qb M w (.agg #[.bool bb, sb, tb])) (hL : L ≤ 100000000) (hM : M ≤ 100000000) :
    Calls Tryz.prog 82 #[.agg #[.bool ba, sa, ta], .agg #[.bool bb, sb, tb]] w (Ret w (CR qb (max M 1))) := by
  have Ha := Lib.hid ha
  have Hb := Lib.hid hb
  have Hk := Lib.hid hk
  have Hk0 := Lib.hid hk0
  clear ha hb hk hk0
  go_enter Tryz.func82, Tryz.ntmps82
  have HB := Lib.hid (Below.refl w.heap.size w)
  go_wp2_with fail
  obtain ⟨W1, hW⟩ : ∃ W1, W1 = (World.alloc (World.alloc (World.alloc w (.cells #[.bool ba, sa, ta] 37)) (.cells #[.bool bb, sb, tb] 37)) (.cells #[.bool false, .slice none 0 0, .slice none 0 0] 37)) := ⟨_, rfl⟩
  rw [← hW]
  obtain ⟨xa0, xb0, xc0, hk, hb⟩ := boxes_3 _ _ _ _ _ _ _ hW
  clear hW
  have Ha := Lib.hid (AR.keep Ha.out hk)
  have Hb := Lib.hid (AR.keep Hb.out hk)
  have Ga0 := Lib.hid (show w.heap.size ≤ w.heap.size from Nat.le_trans HB.out.size (by omega))
  have Gb0 := Lib.hid (show w.heap.size ≤ w.heap.size + 1 from Nat.le_trans HB.out.size (by omega))
  have Gc0 := Lib.hid (show w.heap.size ≤ w.heap.size + 1 + 1 from Nat.le_trans HB.out.size (by omega))
  have Xa0 := Lib.hid xa0
  have Xb0 := Lib.hid xb0
  have Xc0 := Lib.hid xc0
  have HB := Lib.hid (below_call HB.out hb)
  clear hk hb xa0 xb0 xc0
  (first | (have hcall := rcmp_ar k Ha.out Hb.out Hk.out (by omega) (by omega); refine Calls.mono hcall ?_; clear hcall) | refine Calls.mono (rcmp_ar k Ha.out Hb.out Hk.out (by omega) (by omega)) ?_)
  rintro e w2 ⟨v2, rfl, rfl, hb⟩
  have Hb := Lib.hid (AR.keep Hb.out (Keep.call hb))
  have Xa0 := Lib.hid (Box.pcall hb Xa0.out)
  have Xb0 := Lib.hid (Box.pcall hb Xb0.out)
  have Xc0 := Lib.hid (Box.pcall hb Xc0.out)
  have HB := Lib.hid (below_call HB.out hb)
  clear hb
  have hk0 : decide (0 ≤ k) = false := Hk0.out
  obtain ⟨ca00, ca01, ca02, fa00, fa01, fa02⟩ := Xa0.out.c3
  have la0 := Xa0.out.lt
  obtain ⟨cb00, cb01, cb02, fb00, fb01, fb02⟩ := Xb0.out.c3
  have lb0 := Xb0.out.lt
  obtain ⟨cc00, cc01, cc02, fc00, fc01, fc02⟩ := Xc0.out.c3
  have lc0 := Xc0.out.lt
  go_wp2_with fail
  clear ca00 ca01 ca02 fa00 fa01 fa02 la0 cb00 cb01 cb02 fb00 fb01 fb02 lb0 cc00 cc01 cc02 fc00 fc01 fc02 lc0
  (first | (have hcall := canon_ar Hb.out (by omega); refine Calls.mono hcall ?_; clear hcall) | refine Calls.mono (canon_ar Hb.out (by omega)) ?_)
  rintro e w3 ⟨v3, rfl, hz, hb⟩
  obtain ⟨z_b, z_a, z_n, z_c, z_d, z_m, z_e, rfl⟩ := hz.litb
  have Xa0 := Lib.hid (Box.pcall hb Xa0.out)
  have Xb0 := Lib.hid (Box.pcall hb Xb0.out)
  have Xc0 := Lib.hid (Box.pcall hb Xc0.out)
  have HB := Lib.hid (below_call HB.out hb)
  have Hz := Lib.hid hz
  clear hb hz
  obtain ⟨ca00, ca01, ca02, fa00, fa01, fa02⟩ := Xa0.out.c3
  have la0 := Xa0.out.lt
  obtain ⟨cb00, cb01, cb02, fb00, fb01, fb02⟩ := Xb0.out.c3
  have lb0 := Xb0.out.lt
  obtain ⟨cc00, cc01, cc02, fc00, fc01, fc02⟩ := Xc0.out.c3
  have lc0 := Xc0.out.lt
  go_wp2
  clear ca00 ca01 ca02 fa00 fa01 fa02 la0 cb00 cb01 cb02 fb00 fb01 fb02 lb0 cc00 cc01 cc02 fc00 fc01 fc02 lc0
  obtain ⟨W4, hW⟩ : ∃ W4, W4 = (World.setCell (World.setCell (World.setCell w3 ⟨w.heap.size + 1 + 1, 0, none⟩ (.bool z_b)) ⟨w.heap.size + 1 + 1, 1, none⟩ (.slice z_a z_n z_c)) ⟨w.heap.size + 1 + 1, 2, none⟩ (.slice z_d z_m z_e)) := ⟨_, rfl⟩
  rw [← hW]
  obtain ⟨xc0, hk, hf, hbb, hz⟩ := stored3s hW Xc0.out (by first | exact NoInt.bool _ | exact NoInt.slice _ _ _) (by first | exact NoInt.bool _ | exact NoInt.slice _ _ _) (by first | exact NoInt.bool _ | exact NoInt.slice _ _ _)
  have Hz := Lib.hid (CR.keep Hz.out hk)
  have Xa0 := Lib.hid (hf _ _ _ Xa0.out (by omega))
  have Xb0 := Lib.hid (hf _ _ _ Xb0.out (by omega))
  have Xc0 := Lib.hid xc0
  have HB := Lib.hid (hbb _ HB.out Gc0.out)
  clear hW hk hf hbb xc0
  clear hz
  exact ret_rat1 rfl rfl rfl Xc0.out Hz.out HB.out
theorem rmax_ar {a b : Rat} {L M : Nat} {u v : Value} {w : World} (h : AR a L w u) (h' : AR b M w v) (hL : L ≤ 100000000) (hM : M ≤ 100000000) : Calls Tryz.prog 82 #[u, v] w (Ret w (CR (if b ≤ a then a else b) (max (max L M) 1))) := by
  obtain ⟨ba, sa, ta, rfl⟩ := h.agg
  obtain ⟨bb, sb, tb, rfl⟩ := h'.agg
  by_cases hc : b ≤ a
  · rw [if_pos hc]
    exact (rmax_t _ rfl (by simpa using cmpQ_ge.2 hc) h h' hL hM).mono fun e w' k => k.imp fun _ _ x => x.mono (by omega)
  · rw [if_neg hc]
    exact (rmax_f _ rfl (by simpa using mt cmpQ_ge.1 hc) h h' hL hM).mono fun e w' k => k.imp fun _ _ x => x.mono (by omega)
end Go.Proofs.YtikglhmabidjoaaGreatDoor
