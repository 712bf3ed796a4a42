/- Texts RatC, in this order. -/
import Derived.Test.YtfffehmkohcgcaaCa
namespace Go.Proofs.Ytfffehmkohcgcaa
open Go.RowKit Nt
set_option linter.unusedVariables false

theorem CL.mag {z : Int} {L : Nat} {n : Bool} {s : Value} {w : World} (h : CL z L w (.agg #[.bool n, s])) : Can z.natAbs L w s := by
  obtain ⟨⟨s', he, h2⟩, h3⟩ := h
  injection he with he; injection he with he; injection he with e1 he; injection he with e2 _
  subst e2
  exact ⟨h2, h3⟩
theorem AI.mag {z : Int} {L : Nat} {n : Bool} {s : Value} {w : World} (h : AI z L w (.agg #[.bool n, s])) : Is z.natAbs L w s := by
  obtain ⟨n', s', m, he, h, rfl⟩ := h
  injection he with he; injection he with he; injection he with e1 he; injection he with e2 _; injection e1 with e1
  subst e1 e2
  rw [iv_abs]; exact h

/-- How two numbers compare. -/
def cmpQ (a b : Rat) : Int := (a - b).num.sign
theorem sign_mkRat {z : Int} {d : Nat} (hd : 0 < d) : (mkRat z d).num.sign = z.sign := by
  have h := mkRat_lt (z := z) hd
  have h2 := Rat.mkRat_eq_zero (n := z) (Nat.ne_of_gt hd)
  rcases Int.lt_trichotomy z 0 with h3 | h3 | h3
  · rw [Int.sign_eq_neg_one_of_neg h3, Int.sign_eq_neg_one_of_neg]
    have := h.2 h3
    rw [← Rat.not_le, ← Rat.num_nonneg] at this
    omega
  · rw [h3]; simp
  · rw [Int.sign_eq_one_of_pos h3, Int.sign_eq_one_of_pos]
    have h4 : ¬ mkRat z d < 0 := by rw [h]; omega
    have h5 : ¬ mkRat z d = 0 := by rw [h2]; omega
    rw [← Rat.num_eq_zero] at h5
    rw [Rat.not_lt, ← Rat.num_nonneg] at h4
    omega
theorem cmpQ_rv (ba bb : Bool) (na da nb db : Nat) : cmpQ (rv ba na da) (rv bb nb db) = (iv ba na * (un db : Nat) - iv bb nb * (un da : Nat)).sign := by
  unfold cmpQ rv
  rw [Rat.sub_eq_add_neg, Rat.neg_mkRat, Rat.mkRat_add_mkRat _ _ (un_ne _) (un_ne _), sign_mkRat (Nat.mul_pos (un_pos _) (un_pos _)), Int.neg_mul, ← Int.sub_eq_add_neg]
theorem sgn_mul_un (z : Int) (d : Nat) : (z * (un d : Nat)).sign = z.sign := by
  have := un_pos d
  rw [Int.sign_mul, Int.sign_eq_one_of_pos (a := ((un d : Nat) : Int)) (by omega), Int.mul_one]
theorem cross_lt {x y : Int} {c d : Nat} (h : x.sign < y.sign) : (x * (un c : Nat) - y * (un d : Nat)).sign = -1 := sub_sign_lt (by rw [sgn_mul_un, sgn_mul_un]; exact h)
theorem cross_gt {x y : Int} {c d : Nat} (h : y.sign < x.sign) : (x * (un c : Nat) - y * (un d : Nat)).sign = 1 := sub_sign_gt (by rw [sgn_mul_un, sgn_mul_un]; exact h)
theorem CL.iv {z : Int} {L : Nat} {w : World} {b : Bool} {s : Value} (h : CL z L w (.agg #[.bool b, s])) : Go.Proofs.Ytfffehmkohcgcaa.iv b z.natAbs = z := by
  obtain ⟨⟨s', he, h2⟩, h3⟩ := h
  injection he with he; injection he with he; injection he with e1 he; injection e1 with e1
  subst e1
  unfold Go.Proofs.Ytfffehmkohcgcaa.iv
  by_cases hz : z < 0 <;> simp [hz] <;> omega
theorem add_parts {ba bb bs : Bool} {na da nb db : Nat} (h : iv bs (iv ba na * (un db : Nat) + iv bb nb * (un da : Nat)).natAbs = iv ba na * (un db : Nat) + iv bb nb * (un da : Nat)) :
    mkRat (iv bs (iv ba na * (un db : Nat) + iv bb nb * (un da : Nat)).natAbs) (un da * un db) = rv ba na da + rv bb nb db := by
  rw [h]; unfold rv
  rw [Rat.mkRat_add_mkRat _ _ (un_ne _) (un_ne _)]
theorem mul_parts (ba bb : Bool) (na da nb db : Nat) : mkRat (iv (!ba == bb) (na * nb)) (un da * un db) = rv ba na da * rv bb nb db := by
  rw [iv_mul]; unfold rv
  rw [Rat.mkRat_mul_mkRat]
theorem div_parts (ba bb : Bool) (na da nb db : Nat) (h : 0 < nb) : mkRat (iv (!ba == bb) (na * un db)) (un da * nb) = rv ba na da / rv bb nb db := by
  have e : rv bb nb db * mkRat (iv (!ba == bb) (na * un db)) (un da * nb) = rv ba na da := by
    unfold rv
    rw [Rat.mkRat_mul_mkRat]
    have e1 : iv bb nb * iv (!ba == bb) (na * un db) = iv ba na * ((un db * nb : Nat) : Int) := by
      cases ba <;> cases bb <;> simp [iv, Int.natCast_mul, Int.neg_mul, Int.mul_neg] <;> ac_rfl
    rw [e1, show un db * (un da * nb) = un da * (un db * nb) by ac_rfl]
    exact Rat.mkRat_mul_right (Nat.ne_of_gt (Nat.mul_pos (un_pos _) h))
  have h0 : rv bb nb db ≠ 0 := by
    unfold rv
    rw [Ne, Rat.mkRat_eq_zero (un_ne _)]
    cases bb <;> simp [iv] <;> omega
  rw [← e, Rat.mul_comm, Rat.mul_div_cancel h0]
theorem cmpQ_le {a b : Rat} : cmpQ a b ≤ 0 ↔ a ≤ b := by
  unfold cmpQ
  have e : b - a = -(a - b) := (Rat.neg_sub a b).symm
  rw [Rat.le_iff_sub_nonneg, e, ← Rat.num_nonneg, Rat.neg_num]
  rcases Int.lt_trichotomy (a - b).num 0 with h | h | h
  · rw [Int.sign_eq_neg_one_of_neg h]; omega
  · rw [h]; simp
  · rw [Int.sign_eq_one_of_pos h]; omega
theorem cmpQ_ge {a b : Rat} : 0 ≤ cmpQ a b ↔ b ≤ a := by
  unfold cmpQ
  rw [Rat.le_iff_sub_nonneg, ← Rat.num_nonneg]
  rcases Int.lt_trichotomy (a - b).num 0 with h | h | h
  · rw [Int.sign_eq_neg_one_of_neg h]; omega
  · rw [h]; simp
  · rw [Int.sign_eq_one_of_pos h]; omega
theorem un_int_ne (d : Nat) : iv false (un d) ≠ 0 := by
  have := un_pos d
  show ((un d : Nat) : Int) ≠ 0
  omega
theorem floor_parts (b : Bool) (n d : Nat) : iv b n / iv false (un d) = (rv b n d).floor := by
  rw [Rat.floor_def]
  unfold rv
  have hd := un_pos d
  have hg : 0 < Nat.gcd (un d) (iv b n).natAbs := Nat.gcd_pos_of_pos_left _ hd
  rw [Rat.num_mkRat, Rat.den_mkRat, if_neg (by omega), if_neg (by omega)]
  have h1 : ((Nat.gcd (un d) (iv b n).natAbs : Nat) : Int) ∣ iv b n := Int.ofNat_dvd_left.2 (Nat.gcd_dvd_right _ _)
  have h2 := Nat.gcd_dvd_left (un d) (iv b n).natAbs
  obtain ⟨x, hx⟩ := h1
  obtain ⟨y, hy⟩ := h2
  generalize Nat.gcd (un d) (iv b n).natAbs = g at *
  show iv b n / ((un d : Nat) : Int) = _
  rw [hx, hy, Int.mul_ediv_cancel_left _ (by omega), Nat.mul_div_cancel_left _ hg, Int.natCast_mul, Int.mul_ediv_mul_of_pos _ _ (by omega)]

set_option maxRecDepth 100000 in
set_option maxHeartbeats 4000000 in
theorem cross_p {L M : Nat} {ba : Bool} {na da : Nat} {sa ta : Value} {bb : Bool} {nb db : Nat} {sb tb : Value} {w : World} (hna : Is na L w sa) (hda : Is da L w ta) (hnb : Is nb M w sb) (hdb : Is db M w tb) (hL : L ≤ 100000) (hM : M ≤ 100000) :
    Calls Try.prog 60 #[.agg #[.bool ba, sa, ta], .agg #[.bool bb, sb, tb]] w (Ret w (CL2 (iv ba na * (un db : Nat)) (iv bb nb * (un da : Nat)) (L + max M 1) (M + max L 1))) := by
  have Hna := Lib.hid hna
  have Hda := Lib.hid hda
  have Hnb := Lib.hid hnb
  have Hdb := Lib.hid hdb
  clear hna hda hnb hdb
  go_enter Try.func60, Try.ntmps60
  have HB := Lib.hid (Below.refl w.heap.size w)
  go_wp2_with fail
  obtain ⟨W1, hW⟩ : ∃ W1, W1 = (World.alloc (World.alloc (World.alloc (World.alloc w (.cells #[.bool ba, sa, ta] 25)) (.cells #[.bool bb, sb, tb] 25)) (.cells #[.bool false, .slice none 0 0] 49)) (.cells #[.bool false, .slice none 0 0] 49)) := ⟨_, rfl⟩
  rw [← hW]
  obtain ⟨xa0, xb0, xc0, xd0, hk, hb⟩ := boxes_4 _ _ _ _ _ _ _ _ _ hW
  clear hW
  have Hna := Lib.hid (Is.keep Hna.out hk)
  have Hda := Lib.hid (Is.keep Hda.out hk)
  have Hnb := Lib.hid (Is.keep Hnb.out hk)
  have Hdb := Lib.hid (Is.keep Hdb.out hk)
  have Ga0 := Lib.hid (show w.heap.size ≤ w.heap.size from Nat.le_trans HB.out.size (by omega))
  have Gb0 := Lib.hid (show w.heap.size ≤ w.heap.size + 1 from Nat.le_trans HB.out.size (by omega))
  have Gc0 := Lib.hid (show w.heap.size ≤ w.heap.size + 1 + 1 from Nat.le_trans HB.out.size (by omega))
  have Gd0 := Lib.hid (show w.heap.size ≤ w.heap.size + 1 + 1 + 1 from Nat.le_trans HB.out.size (by omega))
  have Xa0 := Lib.hid xa0
  have Xb0 := Lib.hid xb0
  have Xc0 := Lib.hid xc0
  have Xd0 := Lib.hid xd0
  have HB := Lib.hid (below_call HB.out hb)
  clear hk hb xa0 xb0 xc0 xd0
  have Hna := Lib.hid (Is.keep Hna.out (Keep.drew W1))
  have Hda := Lib.hid (Is.keep Hda.out (Keep.drew W1))
  have Hnb := Lib.hid (Is.keep Hnb.out (Keep.drew W1))
  have Hdb := Lib.hid (Is.keep Hdb.out (Keep.drew W1))
  have Xa0 := Lib.hid (Box.drew Xa0.out)
  have Xb0 := Lib.hid (Box.drew Xb0.out)
  have Xc0 := Lib.hid (Box.drew Xc0.out)
  have Xd0 := Lib.hid (Box.drew Xd0.out)
  have HB := Lib.hid (Below.drew HB.out)
  refine wp_region_float [] [] (by kernel_rfl) (by kernel_rfl) 22 (by kernel_rfl) Flok.nil ?_
  intro ok
  have Hok := Lib.hid ok
  clear ok
  have HG := Lib.hid (Below.refl (W1.drew).heap.size (W1.drew))
  refine good_pureX 0 (some 8) (Go.Op.load 25 (Go.Operand.tmp 2)) (none) (.agg #[.bool ba, sa, ta]) (by kernel_rfl) (by kernel_rfl) (by kernel_rfl) (fun _ _ _ h => h) (fun w' hw' => ?_) ?_
  · obtain ⟨ca00, ca01, ca02, fa00, fa01, fa02⟩ := (Box.se hw' Xa0.out notin0).c3
    first | (go_simp; done) | (go_simp; simp_all; done) | (go_simp; rfl)
  simp only [Act.put, List.setIfInBounds_toArray, List.set_cons_zero, List.set_cons_succ]
  refine good_pureX 2 (some 10) (Go.Op.load 25 (Go.Operand.tmp 3)) (none) (.agg #[.bool bb, sb, tb]) (by kernel_rfl) (by kernel_rfl) (by kernel_rfl) (fun _ _ _ h => h) (fun w' hw' => ?_) ?_
  · obtain ⟨cb00, cb01, cb02, fb00, fb01, fb02⟩ := (Box.se hw' Xb0.out notin0).c3
    first | (go_simp; done) | (go_simp; simp_all; done) | (go_simp; rfl)
  simp only [Act.put, List.setIfInBounds_toArray, List.set_cons_zero, List.set_cons_succ]
  refine good_callX 1 59 (some 9) #[Go.Operand.tmp 8] #[25] (none) #[.agg #[.bool ba, sa, ta]] (by kernel_rfl) Hok.out (by kernel_rfl) (by kernel_rfl) (by kernel_rfl) (by kernel_rfl) rfl rfl rfl (by kernel_rfl) (fun w2 hb => ?_)
  have HG := Lib.hid (below_call HG.out hb)
  clear hb
  (first | (have hcall := under_is (b := ba) (Is.keep Hda.out (Keep.call HG.out)) (by omega); refine Calls.mono hcall ?_; clear hcall) | refine Calls.mono (under_is (b := ba) (Is.keep Hda.out (Keep.call HG.out)) (by omega)) ?_)
  rintro e w3 ⟨v3, rfl, hp, hb⟩
  obtain ⟨p_a, p_n, p_c, rfl⟩ := hp.lit
  refine ⟨_, rfl, ?_, hb⟩
  have HG := Lib.hid (below_call HG.out hb)
  have Hp := Lib.hid hp
  clear hb hp
  simp only [Act.put, List.setIfInBounds_toArray, List.set_cons_zero, List.set_cons_succ]
  refine good_callX 3 59 (some 11) #[Go.Operand.tmp 10] #[25] (none) #[.agg #[.bool bb, sb, tb]] (by kernel_rfl) Hok.out (by kernel_rfl) (by kernel_rfl) (by kernel_rfl) (by kernel_rfl) rfl rfl rfl (by kernel_rfl) (fun w4 hb => ?_)
  have Hp := Lib.hid (Is.keep Hp.out (Keep.call hb))
  have HG := Lib.hid (below_call HG.out hb)
  clear hb
  (first | (have hcall := under_is (b := bb) (Is.keep Hdb.out (Keep.call HG.out)) (by omega); refine Calls.mono hcall ?_; clear hcall) | refine Calls.mono (under_is (b := bb) (Is.keep Hdb.out (Keep.call HG.out)) (by omega)) ?_)
  rintro e w5 ⟨v5, rfl, hq, hb⟩
  obtain ⟨q_a, q_n, q_c, rfl⟩ := hq.lit
  refine ⟨_, rfl, ?_, hb⟩
  have Hp := Lib.hid (Is.keep Hp.out (Keep.call hb))
  have HG := Lib.hid (below_call HG.out hb)
  have Hq := Lib.hid hq
  clear hb hq
  simp only [Act.put, List.setIfInBounds_toArray, List.set_cons_zero, List.set_cons_succ]
  refine good_pureX 4 (some 6) (Go.Op.assign (Go.Operand.tmp 9)) (none) (.slice p_a p_n p_c) (by kernel_rfl) (by kernel_rfl) (by kernel_rfl) (fun _ _ _ h => h) (fun w' hw' => ?_) ?_
  · first | (go_simp; done) | (go_simp; simp_all; done) | (go_simp; rfl)
  simp only [Act.put, List.setIfInBounds_toArray, List.set_cons_zero, List.set_cons_succ]
  refine good_pureX 5 (some 7) (Go.Op.assign (Go.Operand.tmp 11)) (none) (.slice q_a q_n q_c) (by kernel_rfl) (by kernel_rfl) (by kernel_rfl) (fun _ _ _ h => h) (fun w' hw' => ?_) ?_
  · first | (go_simp; done) | (go_simp; simp_all; done) | (go_simp; rfl)
  simp only [Act.put, List.setIfInBounds_toArray, List.set_cons_zero, List.set_cons_succ]
  refine good_end0 0 (by kernel_rfl) (fun _ w6 hb => ?_)
  have Hp := Lib.hid (Is.keep Hp.out (Keep.call hb))
  have Hq := Lib.hid (Is.keep Hq.out (Keep.call hb))
  have HG := Lib.hid (below_call HG.out hb)
  clear hb
  have Hna := Lib.hid (Is.keep Hna.out (Keep.call HG.out))
  have Hnb := Lib.hid (Is.keep Hnb.out (Keep.call HG.out))
  have Xa0 := Lib.hid (Box.pcall HG.out Xa0.out)
  have Xb0 := Lib.hid (Box.pcall HG.out Xb0.out)
  have Xc0 := Lib.hid (Box.pcall HG.out Xc0.out)
  have Xd0 := Lib.hid (Box.pcall HG.out Xd0.out)
  have HB := Lib.hid (below_call HB.out HG.out)
  have HS := Lib.hid (SE.of (E := []) HG.out)
  refine wpAnyH_done (by kernel_rfl) ?_ _
  clear HG HS Hok 
  obtain ⟨ca00, ca01, ca02, fa00, fa01, fa02⟩ := Xa0.out.c3
  have la0 := Xa0.out.lt
  obtain ⟨cb00, cb01, cb02, fb00, fb01, fb02⟩ := Xb0.out.c3
  have lb0 := Xb0.out.lt
  obtain ⟨cc00, cc01, fc00, fc01⟩ := Xc0.out.c2
  have lc0 := Xc0.out.lt
  obtain ⟨cd00, cd01, fd00, fd01⟩ := Xd0.out.c2
  have ld0 := Xd0.out.lt
  go_wp2_with fail
  clear ca00 ca01 ca02 fa00 fa01 fa02 la0 cb00 cb01 cb02 fb00 fb01 fb02 lb0 cc00 cc01 fc00 fc01 lc0 cd00 cd01 fd00 fd01 ld0
  have Hna := Lib.hid (Is.keep Hna.out (Keep.drew w6))
  have Hnb := Lib.hid (Is.keep Hnb.out (Keep.drew w6))
  have Hp := Lib.hid (Is.keep Hp.out (Keep.drew w6))
  have Hq := Lib.hid (Is.keep Hq.out (Keep.drew w6))
  have Xa0 := Lib.hid (Box.drew Xa0.out)
  have Xb0 := Lib.hid (Box.drew Xb0.out)
  have Xc0 := Lib.hid (Box.drew Xc0.out)
  have Xd0 := Lib.hid (Box.drew Xd0.out)
  have HB := Lib.hid (Below.drew HB.out)
  refine wp_region_float [w.heap.size + 1 + 1, w.heap.size + 1 + 1 + 1] [] (by kernel_rfl) (by kernel_rfl) 22 (by kernel_rfl) Flok.nil ?_
  intro ok
  have Hok := Lib.hid ok
  clear ok
  have HG := Lib.hid (Below.refl (w6.drew).heap.size (w6.drew))
  refine good_pureX 0 (some 12) (Go.Op.load 25 (Go.Operand.tmp 2)) (none) (.agg #[.bool ba, sa, ta]) (by kernel_rfl) (by kernel_rfl) (by kernel_rfl) (fun _ _ _ h => h) (fun w' hw' => ?_) ?_
  · obtain ⟨ca00, ca01, ca02, fa00, fa01, fa02⟩ := (Box.se hw' Xa0.out (notin2 (by omega) (by omega))).c3
    first | (go_simp; done) | (go_simp; simp_all; done) | (go_simp; rfl)
  simp only [Act.put, List.setIfInBounds_toArray, List.set_cons_zero, List.set_cons_succ]
  refine good_pureX 2 (some 14) (Go.Op.move (Go.Operand.tmp 7)) (none) (.slice q_a q_n q_c) (by kernel_rfl) (by kernel_rfl) (by kernel_rfl) (fun _ _ _ h => h) (fun w' hw' => ?_) ?_
  · first | (go_simp; done) | (go_simp; simp_all; done) | (go_simp; rfl)
  simp only [Act.put, List.setIfInBounds_toArray, List.set_cons_zero, List.set_cons_succ]
  refine good_pureX 3 (some 15) (Go.Op.build 49 #[(1, Go.Operand.tmp 14)]) (none) (.agg #[.bool false, .slice q_a q_n q_c]) (by kernel_rfl) (by kernel_rfl) (by kernel_rfl) (fun _ _ _ h => h) (fun w' hw' => ?_) ?_
  · first | (go_simp; done) | (go_simp; simp_all; done) | (go_simp; rfl)
  simp only [Act.put, List.setIfInBounds_toArray, List.set_cons_zero, List.set_cons_succ]
  refine good_pureX 5 (some 17) (Go.Op.load 25 (Go.Operand.tmp 3)) (none) (.agg #[.bool bb, sb, tb]) (by kernel_rfl) (by kernel_rfl) (by kernel_rfl) (fun _ _ _ h => h) (fun w' hw' => ?_) ?_
  · obtain ⟨cb00, cb01, cb02, fb00, fb01, fb02⟩ := (Box.se hw' Xb0.out (notin2 (by omega) (by omega))).c3
    first | (go_simp; done) | (go_simp; simp_all; done) | (go_simp; rfl)
  simp only [Act.put, List.setIfInBounds_toArray, List.set_cons_zero, List.set_cons_succ]
  refine good_pureX 7 (some 19) (Go.Op.move (Go.Operand.tmp 6)) (none) (.slice p_a p_n p_c) (by kernel_rfl) (by kernel_rfl) (by kernel_rfl) (fun _ _ _ h => h) (fun w' hw' => ?_) ?_
  · first | (go_simp; done) | (go_simp; simp_all; done) | (go_simp; rfl)
  simp only [Act.put, List.setIfInBounds_toArray, List.set_cons_zero, List.set_cons_succ]
  refine good_pureX 8 (some 20) (Go.Op.build 49 #[(1, Go.Operand.tmp 19)]) (none) (.agg #[.bool false, .slice p_a p_n p_c]) (by kernel_rfl) (by kernel_rfl) (by kernel_rfl) (fun _ _ _ h => h) (fun w' hw' => ?_) ?_
  · first | (go_simp; done) | (go_simp; simp_all; done) | (go_simp; rfl)
  simp only [Act.put, List.setIfInBounds_toArray, List.set_cons_zero, List.set_cons_succ]
  refine good_callX 1 58 (some 13) #[Go.Operand.tmp 12] #[25] (none) #[.agg #[.bool ba, sa, ta]] (by kernel_rfl) Hok.out (by kernel_rfl) (by kernel_rfl) (by kernel_rfl) (by kernel_rfl) rfl rfl rfl (by kernel_rfl) (fun w7 hb => ?_)
  have HG := Lib.hid (below_call HG.out hb)
  clear hb
  (first | (have hcall := signed_is (neg := ba) (Is.keep Hna.out (Keep.call HG.out)); refine Calls.mono hcall ?_; clear hcall) | refine Calls.mono (signed_is (neg := ba) (Is.keep Hna.out (Keep.call HG.out))) ?_)
  rintro e w8 ⟨v8, rfl, hx, hb⟩
  obtain ⟨x_b, x_a, x_n, x_c, rfl⟩ := hx.litb
  refine ⟨_, rfl, ?_, hb⟩
  have HG := Lib.hid (below_call HG.out hb)
  have Hx := Lib.hid hx
  clear hb hx
  simp only [Act.put, List.setIfInBounds_toArray, List.set_cons_zero, List.set_cons_succ]
  refine good_callX 4 85 (some 16) #[Go.Operand.tmp 13, Go.Operand.tmp 15] #[49, 49] (none) #[.agg #[.bool x_b, .slice x_a x_n x_c], .agg #[.bool false, .slice q_a q_n q_c]] (by kernel_rfl) Hok.out (by kernel_rfl) (by kernel_rfl) (by kernel_rfl) (by kernel_rfl) rfl rfl rfl (by kernel_rfl) (fun w9 hb => ?_)
  have Hx := Lib.hid (CL.keep Hx.out (Keep.call hb))
  have HG := Lib.hid (below_call HG.out hb)
  clear hb
  (first | (have hcall := imul_ai Hx.out.ai (AI.mk (n := false) (Is.keep Hq.out (Keep.call HG.out))) (by omega) (by omega); refine Calls.mono hcall ?_; clear hcall) | refine Calls.mono (imul_ai Hx.out.ai (AI.mk (n := false) (Is.keep Hq.out (Keep.call HG.out))) (by omega) (by omega)) ?_)
  rintro e w10 ⟨v10, rfl, hm, hb⟩
  obtain ⟨m_b, m_a, m_n, m_c, rfl⟩ := hm.litb
  refine ⟨_, rfl, ?_, hb⟩
  have HG := Lib.hid (below_call HG.out hb)
  have Hm := Lib.hid hm
  clear hb hm
  simp only [Act.put, List.setIfInBounds_toArray, List.set_cons_zero, List.set_cons_succ]
  refine good_callX 6 58 (some 18) #[Go.Operand.tmp 17] #[25] (none) #[.agg #[.bool bb, sb, tb]] (by kernel_rfl) Hok.out (by kernel_rfl) (by kernel_rfl) (by kernel_rfl) (by kernel_rfl) rfl rfl rfl (by kernel_rfl) (fun w11 hb => ?_)
  have Hm := Lib.hid (CL.keep Hm.out (Keep.call hb))
  have HG := Lib.hid (below_call HG.out hb)
  clear hb
  (first | (have hcall := signed_is (neg := bb) (Is.keep Hnb.out (Keep.call HG.out)); refine Calls.mono hcall ?_; clear hcall) | refine Calls.mono (signed_is (neg := bb) (Is.keep Hnb.out (Keep.call HG.out))) ?_)
  rintro e w12 ⟨v12, rfl, hv, hb⟩
  obtain ⟨v_b, v_a, v_n, v_c, rfl⟩ := hv.litb
  refine ⟨_, rfl, ?_, hb⟩
  have Hm := Lib.hid (CL.keep Hm.out (Keep.call hb))
  have HG := Lib.hid (below_call HG.out hb)
  have Hv := Lib.hid hv
  clear hb hv
  simp only [Act.put, List.setIfInBounds_toArray, List.set_cons_zero, List.set_cons_succ]
  refine good_callX 9 85 (some 21) #[Go.Operand.tmp 18, Go.Operand.tmp 20] #[49, 49] (none) #[.agg #[.bool v_b, .slice v_a v_n v_c], .agg #[.bool false, .slice p_a p_n p_c]] (by kernel_rfl) Hok.out (by kernel_rfl) (by kernel_rfl) (by kernel_rfl) (by kernel_rfl) rfl rfl rfl (by kernel_rfl) (fun w13 hb => ?_)
  have Hm := Lib.hid (CL.keep Hm.out (Keep.call hb))
  have Hv := Lib.hid (CL.keep Hv.out (Keep.call hb))
  have HG := Lib.hid (below_call HG.out hb)
  clear hb
  (first | (have hcall := imul_ai Hv.out.ai (AI.mk (n := false) (Is.keep Hp.out (Keep.call HG.out))) (by omega) (by omega); refine Calls.mono hcall ?_; clear hcall) | refine Calls.mono (imul_ai Hv.out.ai (AI.mk (n := false) (Is.keep Hp.out (Keep.call HG.out))) (by omega) (by omega)) ?_)
  rintro e w14 ⟨v14, rfl, hn, hb⟩
  obtain ⟨n_b, n_a, n_n, n_c, rfl⟩ := hn.litb
  refine ⟨_, rfl, ?_, hb⟩
  have Hm := Lib.hid (CL.keep Hm.out (Keep.call hb))
  have HG := Lib.hid (below_call HG.out hb)
  have Hn := Lib.hid hn
  clear hb hn
  simp only [Act.put, List.setIfInBounds_toArray, List.set_cons_zero, List.set_cons_succ]
  refine good_end0 2 (by kernel_rfl) (fun _ w15 hb => ?_)
  have Hm := Lib.hid (CL.keep Hm.out (Keep.call hb))
  have Hn := Lib.hid (CL.keep Hn.out (Keep.call hb))
  have HG := Lib.hid (below_call HG.out hb)
  clear hb
  have Xa0 := Lib.hid (Box.pcall HG.out Xa0.out)
  have Xb0 := Lib.hid (Box.pcall HG.out Xb0.out)
  have Xc0 := Lib.hid (Box.pcall HG.out Xc0.out)
  have Xd0 := Lib.hid (Box.pcall HG.out Xd0.out)
  have HB := Lib.hid (below_call HB.out HG.out)
  have HS := Lib.hid (SE.of (E := [w.heap.size + 1 + 1, w.heap.size + 1 + 1 + 1]) HG.out)
  refine held_oneX 10 (Go.Op.store 49 (Go.Operand.tmp 4) (Go.Operand.tmp 16)) (none) (World.setCell (World.setCell w15 ⟨w.heap.size + 1 + 1, 0, none⟩ (.bool m_b)) ⟨w.heap.size + 1 + 1, 1, none⟩ (.slice m_a m_n m_c)) (by kernel_rfl) (by kernel_rfl) (by kernel_rfl) (by kernel_rfl) ?_ (HS.out.store2 in21) ?_
  · obtain ⟨cc00, cc01, fc00, fc01⟩ := Xc0.out.c2
    first | (go_simp; done) | (go_simp; simp_all; done) | (go_simp; rfl)
  obtain ⟨W16, hW⟩ : ∃ W16, W16 = (World.setCell (World.setCell w15 ⟨w.heap.size + 1 + 1, 0, none⟩ (.bool m_b)) ⟨w.heap.size + 1 + 1, 1, none⟩ (.slice m_a m_n m_c)) := ⟨_, rfl⟩
  rw [← hW]
  obtain ⟨xc0, hk, hf, hbb, hz⟩ := stored2s hW Xc0.out (by first | exact NoInt.bool _ | exact NoInt.slice _ _ _) (by first | exact NoInt.bool _ | exact NoInt.slice _ _ _)
  have Hm := Lib.hid (CL.keep Hm.out hk)
  have Hn := Lib.hid (CL.keep Hn.out hk)
  have Xa0 := Lib.hid (hf _ _ _ Xa0.out (by omega))
  have Xb0 := Lib.hid (hf _ _ _ Xb0.out (by omega))
  have Xc0 := Lib.hid xc0
  have Xd0 := Lib.hid (hf _ _ _ Xd0.out (by omega))
  have HB := Lib.hid (hbb _ HB.out Gc0.out)
  have HS := Lib.hid (show SE (w6.drew) [w.heap.size + 1 + 1, w.heap.size + 1 + 1 + 1] W16 from by rw [hW]; exact HS.out.store2 in21)
  clear hW hk hf hbb xc0
  clear hz
  refine held_oneX 11 (Go.Op.store 49 (Go.Operand.tmp 5) (Go.Operand.tmp 21)) (none) (World.setCell (World.setCell W16 ⟨w.heap.size + 1 + 1 + 1, 0, none⟩ (.bool n_b)) ⟨w.heap.size + 1 + 1 + 1, 1, none⟩ (.slice n_a n_n n_c)) (by kernel_rfl) (by kernel_rfl) (by kernel_rfl) (by kernel_rfl) ?_ (HS.out.store2 in22) ?_
  · obtain ⟨cd00, cd01, fd00, fd01⟩ := Xd0.out.c2
    first | (go_simp; done) | (go_simp; simp_all; done) | (go_simp; rfl)
  obtain ⟨W17, hW⟩ : ∃ W17, W17 = (World.setCell (World.setCell W16 ⟨w.heap.size + 1 + 1 + 1, 0, none⟩ (.bool n_b)) ⟨w.heap.size + 1 + 1 + 1, 1, none⟩ (.slice n_a n_n n_c)) := ⟨_, rfl⟩
  rw [← hW]
  obtain ⟨xd0, hk, hf, hbb, hz⟩ := stored2s hW Xd0.out (by first | exact NoInt.bool _ | exact NoInt.slice _ _ _) (by first | exact NoInt.bool _ | exact NoInt.slice _ _ _)
  have Hm := Lib.hid (CL.keep Hm.out hk)
  have Hn := Lib.hid (CL.keep Hn.out hk)
  have Xa0 := Lib.hid (hf _ _ _ Xa0.out (by omega))
  have Xb0 := Lib.hid (hf _ _ _ Xb0.out (by omega))
  have Xc0 := Lib.hid (hf _ _ _ Xc0.out (by omega))
  have Xd0 := Lib.hid xd0
  have HB := Lib.hid (hbb _ HB.out Gd0.out)
  have HS := Lib.hid (show SE (w6.drew) [w.heap.size + 1 + 1, w.heap.size + 1 + 1 + 1] W17 from by rw [hW]; exact HS.out.store2 in22)
  clear hW hk hf hbb xd0
  clear hz
  refine wpAnyH_done (by kernel_rfl) ?_ _
  clear HG HS Hok 
  obtain ⟨ca00, ca01, ca02, fa00, fa01, fa02⟩ := Xa0.out.c3
  have la0 := Xa0.out.lt
  obtain ⟨cb00, cb01, cb02, fb00, fb01, fb02⟩ := Xb0.out.c3
  have lb0 := Xb0.out.lt
  obtain ⟨cc00, cc01, fc00, fc01⟩ := Xc0.out.c2
  have lc0 := Xc0.out.lt
  obtain ⟨cd00, cd01, fd00, fd01⟩ := Xd0.out.c2
  have ld0 := Xd0.out.lt
  go_wp2
  clear ca00 ca01 ca02 fa00 fa01 fa02 la0 cb00 cb01 cb02 fb00 fb01 fb02 lb0 cc00 cc01 fc00 fc01 lc0 cd00 cd01 fd00 fd01 ld0
  exact ret_ii rfl rfl rfl rfl Xc0.out Xd0.out ⟨_, _, rfl, Hm.out, Hn.out⟩ HB.out


set_option maxRecDepth 100000 in
set_option maxHeartbeats 4000000 in
theorem radd_p {L M : Nat} {ba : Bool} {na da : Nat} {sa ta : Value} {bb : Bool} {nb db : Nat} {sb tb : Value} {w : World} (hna : Is na L w sa) (hda : Is da L w ta) (hnb : Is nb M w sb) (hdb : Is db M w tb) (hL : L ≤ 100000) (hM : M ≤ 100000) :
    Calls Try.prog 32 #[.agg #[.bool ba, sa, ta], .agg #[.bool bb, sb, tb]] w (Ret w (CR (rv ba na da + rv bb nb db) (L + M + 3))) := by
  have Hna := Lib.hid hna
  have Hda := Lib.hid hda
  have Hnb := Lib.hid hnb
  have Hdb := Lib.hid hdb
  clear hna hda hnb hdb
  go_enter Try.func32, Try.ntmps32
  have HB := Lib.hid (Below.refl w.heap.size w)
  go_wp2_with fail
  obtain ⟨W1, hW⟩ : ∃ W1, W1 = (World.alloc (World.alloc (World.alloc w (.cells #[.bool ba, sa, ta] 25)) (.cells #[.bool bb, sb, tb] 25)) (.cells #[.bool false, .slice none 0 0, .slice none 0 0] 25)) := ⟨_, rfl⟩
  rw [← hW]
  obtain ⟨xa0, xb0, xc0, hk, hb⟩ := boxes_3 _ _ _ _ _ _ _ hW
  clear hW
  have Hna := Lib.hid (Is.keep Hna.out hk)
  have Hda := Lib.hid (Is.keep Hda.out hk)
  have Hnb := Lib.hid (Is.keep Hnb.out hk)
  have Hdb := Lib.hid (Is.keep Hdb.out hk)
  have Ga0 := Lib.hid (show w.heap.size ≤ w.heap.size from Nat.le_trans HB.out.size (by omega))
  have Gb0 := Lib.hid (show w.heap.size ≤ w.heap.size + 1 from Nat.le_trans HB.out.size (by omega))
  have Gc0 := Lib.hid (show w.heap.size ≤ w.heap.size + 1 + 1 from Nat.le_trans HB.out.size (by omega))
  have Xa0 := Lib.hid xa0
  have Xb0 := Lib.hid xb0
  have Xc0 := Lib.hid xc0
  have HB := Lib.hid (below_call HB.out hb)
  clear hk hb xa0 xb0 xc0
  (first | (have hcall := cross_p (ba := ba) (bb := bb) Hna.out Hda.out Hnb.out Hdb.out (by omega) (by omega); refine Calls.mono hcall ?_; clear hcall) | refine Calls.mono (cross_p (ba := ba) (bb := bb) Hna.out Hda.out Hnb.out Hdb.out (by omega) (by omega)) ?_)
  rintro e w2 ⟨t2, rfl, ⟨v2, u2, rfl, hx, hv⟩, hb⟩
  obtain ⟨x_b, x_a, x_n, x_c, rfl⟩ := hx.litb
  obtain ⟨v_b, v_a, v_n, v_c, rfl⟩ := hv.litb
  have Hda := Lib.hid (Is.keep Hda.out (Keep.call hb))
  have Hdb := Lib.hid (Is.keep Hdb.out (Keep.call hb))
  have Xa0 := Lib.hid (Box.pcall hb Xa0.out)
  have Xb0 := Lib.hid (Box.pcall hb Xb0.out)
  have Xc0 := Lib.hid (Box.pcall hb Xc0.out)
  have HB := Lib.hid (below_call HB.out hb)
  have Hx := Lib.hid hx
  have Hv := Lib.hid hv
  clear hb hx hv
  obtain ⟨ca00, ca01, ca02, fa00, fa01, fa02⟩ := Xa0.out.c3
  have la0 := Xa0.out.lt
  obtain ⟨cb00, cb01, cb02, fb00, fb01, fb02⟩ := Xb0.out.c3
  have lb0 := Xb0.out.lt
  obtain ⟨cc00, cc01, cc02, fc00, fc01, fc02⟩ := Xc0.out.c3
  have lc0 := Xc0.out.lt
  go_wp2_with fail
  clear ca00 ca01 ca02 fa00 fa01 fa02 la0 cb00 cb01 cb02 fb00 fb01 fb02 lb0 cc00 cc01 cc02 fc00 fc01 fc02 lc0
  obtain ⟨W3, hW⟩ : ∃ W3, W3 = (World.alloc (World.alloc w2 (.cells #[.bool x_b, .slice x_a x_n x_c] 49)) (.cells #[.bool v_b, .slice v_a v_n v_c] 49)) := ⟨_, rfl⟩
  rw [← hW]
  obtain ⟨xd0, xe0, hk, hb⟩ := boxes_2 _ _ _ _ _ hW
  clear hW
  have Hda := Lib.hid (Is.keep Hda.out hk)
  have Hdb := Lib.hid (Is.keep Hdb.out hk)
  have Hx := Lib.hid (CL.keep Hx.out hk)
  have Hv := Lib.hid (CL.keep Hv.out hk)
  have Na0d0 := Lib.hid (show w.heap.size ≠ w2.heap.size from Nat.ne_of_lt (Nat.lt_of_lt_of_le Xa0.out.lt (by omega)))
  have Nb0d0 := Lib.hid (show w.heap.size + 1 ≠ w2.heap.size from Nat.ne_of_lt (Nat.lt_of_lt_of_le Xb0.out.lt (by omega)))
  have Nc0d0 := Lib.hid (show w.heap.size + 1 + 1 ≠ w2.heap.size from Nat.ne_of_lt (Nat.lt_of_lt_of_le Xc0.out.lt (by omega)))
  have Gd0 := Lib.hid (show w.heap.size ≤ w2.heap.size from Nat.le_trans HB.out.size (by omega))
  have Na0e0 := Lib.hid (show w.heap.size ≠ w2.heap.size + 1 from Nat.ne_of_lt (Nat.lt_of_lt_of_le Xa0.out.lt (by omega)))
  have Nb0e0 := Lib.hid (show w.heap.size + 1 ≠ w2.heap.size + 1 from Nat.ne_of_lt (Nat.lt_of_lt_of_le Xb0.out.lt (by omega)))
  have Nc0e0 := Lib.hid (show w.heap.size + 1 + 1 ≠ w2.heap.size + 1 from Nat.ne_of_lt (Nat.lt_of_lt_of_le Xc0.out.lt (by omega)))
  have Ge0 := Lib.hid (show w.heap.size ≤ w2.heap.size + 1 from Nat.le_trans HB.out.size (by omega))
  have Xa0 := Lib.hid (Box.pcall hb Xa0.out)
  have Xb0 := Lib.hid (Box.pcall hb Xb0.out)
  have Xc0 := Lib.hid (Box.pcall hb Xc0.out)
  have Xd0 := Lib.hid xd0
  have Xe0 := Lib.hid xe0
  have HB := Lib.hid (below_call HB.out hb)
  clear hk hb xd0 xe0
  (first | (have hcall := iadd_ai Hx.out.ai Hv.out.ai (by omega) (by omega); refine Calls.mono hcall ?_; clear hcall) | refine Calls.mono (iadd_ai Hx.out.ai Hv.out.ai (by omega) (by omega)) ?_)
  rintro e w4 ⟨v4, rfl, hs, hb⟩
  obtain ⟨s_b, s_a, s_n, s_c, rfl⟩ := hs.litb
  have Hda := Lib.hid (Is.keep Hda.out (Keep.call hb))
  have Hdb := Lib.hid (Is.keep Hdb.out (Keep.call hb))
  have Xa0 := Lib.hid (Box.pcall hb Xa0.out)
  have Xb0 := Lib.hid (Box.pcall hb Xb0.out)
  have Xc0 := Lib.hid (Box.pcall hb Xc0.out)
  have Xd0 := Lib.hid (Box.pcall hb Xd0.out)
  have Xe0 := Lib.hid (Box.pcall hb Xe0.out)
  have HB := Lib.hid (below_call HB.out hb)
  have Hs := Lib.hid hs
  clear hb hs
  obtain ⟨ca00, ca01, ca02, fa00, fa01, fa02⟩ := Xa0.out.c3
  have la0 := Xa0.out.lt
  obtain ⟨cb00, cb01, cb02, fb00, fb01, fb02⟩ := Xb0.out.c3
  have lb0 := Xb0.out.lt
  obtain ⟨cc00, cc01, cc02, fc00, fc01, fc02⟩ := Xc0.out.c3
  have lc0 := Xc0.out.lt
  obtain ⟨cd00, cd01, fd00, fd01⟩ := Xd0.out.c2
  have ld0 := Xd0.out.lt
  obtain ⟨ce00, ce01, fe00, fe01⟩ := Xe0.out.c2
  have le0 := Xe0.out.lt
  go_wp2_with fail
  clear ca00 ca01 ca02 fa00 fa01 fa02 la0 cb00 cb01 cb02 fb00 fb01 fb02 lb0 cc00 cc01 cc02 fc00 fc01 fc02 lc0 cd00 cd01 fd00 fd01 ld0 ce00 ce01 fe00 fe01 le0
  obtain ⟨W5, hW⟩ : ∃ W5, W5 = (World.alloc w4 (.cells #[.bool s_b, .slice s_a s_n s_c] 49)) := ⟨_, rfl⟩
  rw [← hW]
  obtain ⟨xf0, hk, hb⟩ := boxes_1 _ _ _ hW
  clear hW
  have Hda := Lib.hid (Is.keep Hda.out hk)
  have Hdb := Lib.hid (Is.keep Hdb.out hk)
  have Hs := Lib.hid (CL.keep Hs.out hk)
  have Na0f0 := Lib.hid (show w.heap.size ≠ w4.heap.size from Nat.ne_of_lt (Nat.lt_of_lt_of_le Xa0.out.lt (by omega)))
  have Nb0f0 := Lib.hid (show w.heap.size + 1 ≠ w4.heap.size from Nat.ne_of_lt (Nat.lt_of_lt_of_le Xb0.out.lt (by omega)))
  have Nc0f0 := Lib.hid (show w.heap.size + 1 + 1 ≠ w4.heap.size from Nat.ne_of_lt (Nat.lt_of_lt_of_le Xc0.out.lt (by omega)))
  have Nd0f0 := Lib.hid (show w2.heap.size ≠ w4.heap.size from Nat.ne_of_lt (Nat.lt_of_lt_of_le Xd0.out.lt (by omega)))
  have Ne0f0 := Lib.hid (show w2.heap.size + 1 ≠ w4.heap.size from Nat.ne_of_lt (Nat.lt_of_lt_of_le Xe0.out.lt (by omega)))
  have Gf0 := Lib.hid (show w.heap.size ≤ w4.heap.size from Nat.le_trans HB.out.size (by omega))
  have Xa0 := Lib.hid (Box.pcall hb Xa0.out)
  have Xb0 := Lib.hid (Box.pcall hb Xb0.out)
  have Xc0 := Lib.hid (Box.pcall hb Xc0.out)
  have Xd0 := Lib.hid (Box.pcall hb Xd0.out)
  have Xe0 := Lib.hid (Box.pcall hb Xe0.out)
  have Xf0 := Lib.hid xf0
  have HB := Lib.hid (below_call HB.out hb)
  clear hk hb xf0
  have Hda := Lib.hid (Is.keep Hda.out (Keep.drew W5))
  have Hdb := Lib.hid (Is.keep Hdb.out (Keep.drew W5))
  have Hs := Lib.hid (CL.keep Hs.out (Keep.drew W5))
  have Xa0 := Lib.hid (Box.drew Xa0.out)
  have Xb0 := Lib.hid (Box.drew Xb0.out)
  have Xc0 := Lib.hid (Box.drew Xc0.out)
  have Xd0 := Lib.hid (Box.drew Xd0.out)
  have Xe0 := Lib.hid (Box.drew Xe0.out)
  have Xf0 := Lib.hid (Box.drew Xf0.out)
  have HB := Lib.hid (Below.drew HB.out)
  refine wp_region_float [w.heap.size + 1 + 1] [] (by kernel_rfl) (by kernel_rfl) 27 (by kernel_rfl) Flok.nil ?_
  intro ok
  have Hok := Lib.hid ok
  clear ok
  have HG := Lib.hid (Below.refl (W5.drew).heap.size (W5.drew))
  refine good_pureX 0 (some 17) (Go.Op.fieldAddr 49 (Go.Operand.tmp 7) 0) (none) (.pointer (some ⟨w4.heap.size, 0, none⟩)) (by kernel_rfl) (by kernel_rfl) (by kernel_rfl) (fun _ _ _ h => h) (fun w' hw' => ?_) ?_
  · first | (go_simp; done) | (go_simp; simp_all; done) | (go_simp; rfl)
  simp only [Act.put, List.setIfInBounds_toArray, List.set_cons_zero, List.set_cons_succ]
  refine good_pureX 1 (some 18) (Go.Op.load 4 (Go.Operand.tmp 17)) (none) (.bool s_b) (by kernel_rfl) (by kernel_rfl) (by kernel_rfl) (fun _ _ _ h => h) (fun w' hw' => ?_) ?_
  · obtain ⟨cf00, cf01, ff00, ff01⟩ := (Box.se hw' Xf0.out (notin1 Nc0f0.out.symm)).c2
    first | (go_simp; done) | (go_simp; simp_all; done) | (go_simp; rfl)
  simp only [Act.put, List.setIfInBounds_toArray, List.set_cons_zero, List.set_cons_succ]
  refine good_pureX 2 (some 19) (Go.Op.fieldAddr 49 (Go.Operand.tmp 7) 1) (none) (.pointer (some ⟨w4.heap.size, 1, none⟩)) (by kernel_rfl) (by kernel_rfl) (by kernel_rfl) (fun _ _ _ h => h) (fun w' hw' => ?_) ?_
  · first | (go_simp; done) | (go_simp; simp_all; done) | (go_simp; rfl)
  simp only [Act.put, List.setIfInBounds_toArray, List.set_cons_zero, List.set_cons_succ]
  refine good_pureX 3 (some 20) (Go.Op.load 23 (Go.Operand.tmp 19)) (none) (.slice s_a s_n s_c) (by kernel_rfl) (by kernel_rfl) (by kernel_rfl) (fun _ _ _ h => h) (fun w' hw' => ?_) ?_
  · obtain ⟨cf00, cf01, ff00, ff01⟩ := (Box.se hw' Xf0.out (notin1 Nc0f0.out.symm)).c2
    first | (go_simp; done) | (go_simp; simp_all; done) | (go_simp; rfl)
  simp only [Act.put, List.setIfInBounds_toArray, List.set_cons_zero, List.set_cons_succ]
  refine good_pureX 4 (some 21) (Go.Op.load 25 (Go.Operand.tmp 2)) (none) (.agg #[.bool ba, sa, ta]) (by kernel_rfl) (by kernel_rfl) (by kernel_rfl) (fun _ _ _ h => h) (fun w' hw' => ?_) ?_
  · obtain ⟨ca00, ca01, ca02, fa00, fa01, fa02⟩ := (Box.se hw' Xa0.out (notin1 (by omega))).c3
    first | (go_simp; done) | (go_simp; simp_all; done) | (go_simp; rfl)
  simp only [Act.put, List.setIfInBounds_toArray, List.set_cons_zero, List.set_cons_succ]
  refine good_pureX 6 (some 23) (Go.Op.load 25 (Go.Operand.tmp 3)) (none) (.agg #[.bool bb, sb, tb]) (by kernel_rfl) (by kernel_rfl) (by kernel_rfl) (fun _ _ _ h => h) (fun w' hw' => ?_) ?_
  · obtain ⟨cb00, cb01, cb02, fb00, fb01, fb02⟩ := (Box.se hw' Xb0.out (notin1 (by omega))).c3
    first | (go_simp; done) | (go_simp; simp_all; done) | (go_simp; rfl)
  simp only [Act.put, List.setIfInBounds_toArray, List.set_cons_zero, List.set_cons_succ]
  refine good_callX 5 59 (some 22) #[Go.Operand.tmp 21] #[25] (none) #[.agg #[.bool ba, sa, ta]] (by kernel_rfl) Hok.out (by kernel_rfl) (by kernel_rfl) (by kernel_rfl) (by kernel_rfl) rfl rfl rfl (by kernel_rfl) (fun w6 hb => ?_)
  have HG := Lib.hid (below_call HG.out hb)
  clear hb
  (first | (have hcall := under_is (b := ba) (Is.keep Hda.out (Keep.call HG.out)) (by omega); refine Calls.mono hcall ?_; clear hcall) | refine Calls.mono (under_is (b := ba) (Is.keep Hda.out (Keep.call HG.out)) (by omega)) ?_)
  rintro e w7 ⟨v7, rfl, hp, hb⟩
  obtain ⟨p_a, p_n, p_c, rfl⟩ := hp.lit
  refine ⟨_, rfl, ?_, hb⟩
  have HG := Lib.hid (below_call HG.out hb)
  have Hp := Lib.hid hp
  clear hb hp
  simp only [Act.put, List.setIfInBounds_toArray, List.set_cons_zero, List.set_cons_succ]
  refine good_callX 7 59 (some 24) #[Go.Operand.tmp 23] #[25] (none) #[.agg #[.bool bb, sb, tb]] (by kernel_rfl) Hok.out (by kernel_rfl) (by kernel_rfl) (by kernel_rfl) (by kernel_rfl) rfl rfl rfl (by kernel_rfl) (fun w8 hb => ?_)
  have Hp := Lib.hid (Is.keep Hp.out (Keep.call hb))
  have HG := Lib.hid (below_call HG.out hb)
  clear hb
  (first | (have hcall := under_is (b := bb) (Is.keep Hdb.out (Keep.call HG.out)) (by omega); refine Calls.mono hcall ?_; clear hcall) | refine Calls.mono (under_is (b := bb) (Is.keep Hdb.out (Keep.call HG.out)) (by omega)) ?_)
  rintro e w9 ⟨v9, rfl, hq, hb⟩
  obtain ⟨q_a, q_n, q_c, rfl⟩ := hq.lit
  refine ⟨_, rfl, ?_, hb⟩
  have Hp := Lib.hid (Is.keep Hp.out (Keep.call hb))
  have HG := Lib.hid (below_call HG.out hb)
  have Hq := Lib.hid hq
  clear hb hq
  simp only [Act.put, List.setIfInBounds_toArray, List.set_cons_zero, List.set_cons_succ]
  refine good_callX 8 63 (some 25) #[Go.Operand.tmp 22, Go.Operand.tmp 24] #[23, 23] (none) #[.slice p_a p_n p_c, .slice q_a q_n q_c] (by kernel_rfl) Hok.out (by kernel_rfl) (by kernel_rfl) (by kernel_rfl) (by kernel_rfl) rfl rfl rfl (by kernel_rfl) (fun w10 hb => ?_)
  have Hp := Lib.hid (Is.keep Hp.out (Keep.call hb))
  have Hq := Lib.hid (Is.keep Hq.out (Keep.call hb))
  have HG := Lib.hid (below_call HG.out hb)
  clear hb
  (first | (have hcall := mul_is Hp.out Hq.out (by omega) (by omega); refine Calls.mono hcall ?_; clear hcall) | refine Calls.mono (mul_is Hp.out Hq.out (by omega) (by omega)) ?_)
  rintro e w11 ⟨v11, rfl, hm, hb⟩
  obtain ⟨m_a, m_n, m_c, rfl⟩ := hm.is.lit
  refine ⟨_, rfl, ?_, hb⟩
  have HG := Lib.hid (below_call HG.out hb)
  have Hm := Lib.hid hm
  clear hb hm
  simp only [Act.put, List.setIfInBounds_toArray, List.set_cons_zero, List.set_cons_succ]
  refine good_callX 9 62 (some 26) #[Go.Operand.tmp 18, Go.Operand.tmp 20, Go.Operand.tmp 25] #[4, 23, 23] (none) #[.bool s_b, .slice s_a s_n s_c, .slice m_a m_n m_c] (by kernel_rfl) Hok.out (by kernel_rfl) (by kernel_rfl) (by kernel_rfl) (by kernel_rfl) rfl rfl rfl (by kernel_rfl) (fun w12 hb => ?_)
  have Hm := Lib.hid (Can.keep Hm.out (Keep.call hb))
  have HG := Lib.hid (below_call HG.out hb)
  clear hb
  refine Calls.mono (quot_is (neg := s_b) (Nat.mul_pos (un_pos _) (un_pos _)) (CL.keep Hs.out (Keep.call HG.out)).mag.is Hm.out.is (by omega) (by omega)) ?_
  rintro e w13 ⟨v13, rfl, hz, hb⟩
  obtain ⟨z_b, z_a, z_n, z_c, z_d, z_m, z_e, rfl⟩ := hz.litb
  refine ⟨_, rfl, ?_, hb⟩
  have HG := Lib.hid (below_call HG.out hb)
  have Hz := Lib.hid hz
  clear hb hz
  simp only [Act.put, List.setIfInBounds_toArray, List.set_cons_zero, List.set_cons_succ]
  refine good_end0 1 (by kernel_rfl) (fun _ w14 hb => ?_)
  have Hz := Lib.hid (CR.keep Hz.out (Keep.call hb))
  have HG := Lib.hid (below_call HG.out hb)
  clear hb
  have Hs := Lib.hid (CL.keep Hs.out (Keep.call HG.out))
  have Xa0 := Lib.hid (Box.pcall HG.out Xa0.out)
  have Xb0 := Lib.hid (Box.pcall HG.out Xb0.out)
  have Xc0 := Lib.hid (Box.pcall HG.out Xc0.out)
  have Xd0 := Lib.hid (Box.pcall HG.out Xd0.out)
  have Xe0 := Lib.hid (Box.pcall HG.out Xe0.out)
  have Xf0 := Lib.hid (Box.pcall HG.out Xf0.out)
  have HB := Lib.hid (below_call HB.out HG.out)
  have HS := Lib.hid (SE.of (E := [w.heap.size + 1 + 1]) HG.out)
  refine held_oneX 10 (Go.Op.store 25 (Go.Operand.tmp 4) (Go.Operand.tmp 26)) (none) (World.setCell (World.setCell (World.setCell w14 ⟨w.heap.size + 1 + 1, 0, none⟩ (.bool z_b)) ⟨w.heap.size + 1 + 1, 1, none⟩ (.slice z_a z_n z_c)) ⟨w.heap.size + 1 + 1, 2, none⟩ (.slice z_d z_m z_e)) (by kernel_rfl) (by kernel_rfl) (by kernel_rfl) (by kernel_rfl) ?_ (HS.out.store3 in1) ?_
  · obtain ⟨cc00, cc01, cc02, fc00, fc01, fc02⟩ := Xc0.out.c3
    first | (go_simp; done) | (go_simp; simp_all; done) | (go_simp; rfl)
  obtain ⟨W15, hW⟩ : ∃ W15, W15 = (World.setCell (World.setCell (World.setCell w14 ⟨w.heap.size + 1 + 1, 0, none⟩ (.bool z_b)) ⟨w.heap.size + 1 + 1, 1, none⟩ (.slice z_a z_n z_c)) ⟨w.heap.size + 1 + 1, 2, none⟩ (.slice z_d z_m z_e)) := ⟨_, rfl⟩
  rw [← hW]
  obtain ⟨xc0, hk, hf, hbb, hz⟩ := stored3s hW Xc0.out (by first | exact NoInt.bool _ | exact NoInt.slice _ _ _) (by first | exact NoInt.bool _ | exact NoInt.slice _ _ _) (by first | exact NoInt.bool _ | exact NoInt.slice _ _ _)
  have Hs := Lib.hid (CL.keep Hs.out hk)
  have Hz := Lib.hid (CR.keep Hz.out hk)
  have Xa0 := Lib.hid (hf _ _ _ Xa0.out (by omega))
  have Xb0 := Lib.hid (hf _ _ _ Xb0.out (by omega))
  have Xc0 := Lib.hid xc0
  have Xd0 := Lib.hid (hf _ _ _ Xd0.out Nc0d0.out.symm)
  have Xe0 := Lib.hid (hf _ _ _ Xe0.out Nc0e0.out.symm)
  have Xf0 := Lib.hid (hf _ _ _ Xf0.out Nc0f0.out.symm)
  have HB := Lib.hid (hbb _ HB.out Gc0.out)
  have HS := Lib.hid (show SE (W5.drew) [w.heap.size + 1 + 1] W15 from by rw [hW]; exact HS.out.store3 in1)
  clear hW hk hf hbb xc0
  clear hz
  refine wpAnyH_done (by kernel_rfl) ?_ _
  clear HG HS Hok 
  obtain ⟨ca00, ca01, ca02, fa00, fa01, fa02⟩ := Xa0.out.c3
  have la0 := Xa0.out.lt
  obtain ⟨cb00, cb01, cb02, fb00, fb01, fb02⟩ := Xb0.out.c3
  have lb0 := Xb0.out.lt
  obtain ⟨cc00, cc01, cc02, fc00, fc01, fc02⟩ := Xc0.out.c3
  have lc0 := Xc0.out.lt
  obtain ⟨cd00, cd01, fd00, fd01⟩ := Xd0.out.c2
  have ld0 := Xd0.out.lt
  obtain ⟨ce00, ce01, fe00, fe01⟩ := Xe0.out.c2
  have le0 := Xe0.out.lt
  obtain ⟨cf00, cf01, ff00, ff01⟩ := Xf0.out.c2
  have lf0 := Xf0.out.lt
  go_wp2
  clear ca00 ca01 ca02 fa00 fa01 fa02 la0 cb00 cb01 cb02 fb00 fb01 fb02 lb0 cc00 cc01 cc02 fc00 fc01 fc02 lc0 cd00 cd01 fd00 fd01 ld0 ce00 ce01 fe00 fe01 le0 cf00 cf01 ff00 ff01 lf0
  exact ret_rat1 rfl rfl rfl Xc0.out (CR.mono (CR.cast (add_parts (CL.iv Hs.out)) Hz.out) (by omega)) HB.out


theorem radd_ar {a b : Rat} {L M : Nat} {u v : Value} {w : World} (h : AR a L w u) (h' : AR b M w v) (hL : L ≤ 100000) (hM : M ≤ 100000) :
    Calls Try.prog 32 #[u, v] w (Ret w (CR (a + b) (L + M + 3))) := by
  obtain ⟨ba, sa, ta, na, da, rfl, h1, h2, rfl⟩ := h
  obtain ⟨bb, sb, tb, nb, db, rfl, h3, h4, rfl⟩ := h'
  exact radd_p h1 h2 h3 h4 hL hM

set_option maxRecDepth 100000 in
set_option maxHeartbeats 4000000 in
theorem rmul_p {L M : Nat} {ba : Bool} {na da : Nat} {sa ta : Value} {bb : Bool} {nb db : Nat} {sb tb : Value} {w : World} (hna : Is na L w sa) (hda : Is da L w ta) (hnb : Is nb M w sb) (hdb : Is db M w tb) (hL : L ≤ 100000) (hM : M ≤ 100000) :
    Calls Try.prog 33 #[.agg #[.bool ba, sa, ta], .agg #[.bool bb, sb, tb]] w (Ret w (CR (rv ba na da * rv bb nb db) (L + M + 2))) := by
  have Hna := Lib.hid hna
  have Hda := Lib.hid hda
  have Hnb := Lib.hid hnb
  have Hdb := Lib.hid hdb
  clear hna hda hnb hdb
  go_enter Try.func33, Try.ntmps33
  have HB := Lib.hid (Below.refl w.heap.size w)
  go_wp2_with fail
  obtain ⟨W1, hW⟩ : ∃ W1, W1 = (World.alloc (World.alloc (World.alloc w (.cells #[.bool ba, sa, ta] 25)) (.cells #[.bool bb, sb, tb] 25)) (.cells #[.bool false, .slice none 0 0, .slice none 0 0] 25)) := ⟨_, rfl⟩
  rw [← hW]
  obtain ⟨xa0, xb0, xc0, hk, hb⟩ := boxes_3 _ _ _ _ _ _ _ hW
  clear hW
  have Hna := Lib.hid (Is.keep Hna.out hk)
  have Hda := Lib.hid (Is.keep Hda.out hk)
  have Hnb := Lib.hid (Is.keep Hnb.out hk)
  have Hdb := Lib.hid (Is.keep Hdb.out hk)
  have Ga0 := Lib.hid (show w.heap.size ≤ w.heap.size from Nat.le_trans HB.out.size (by omega))
  have Gb0 := Lib.hid (show w.heap.size ≤ w.heap.size + 1 from Nat.le_trans HB.out.size (by omega))
  have Gc0 := Lib.hid (show w.heap.size ≤ w.heap.size + 1 + 1 from Nat.le_trans HB.out.size (by omega))
  have Xa0 := Lib.hid xa0
  have Xb0 := Lib.hid xb0
  have Xc0 := Lib.hid xc0
  have HB := Lib.hid (below_call HB.out hb)
  clear hk hb xa0 xb0 xc0
  have Hna := Lib.hid (Is.keep Hna.out (Keep.drew W1))
  have Hda := Lib.hid (Is.keep Hda.out (Keep.drew W1))
  have Hnb := Lib.hid (Is.keep Hnb.out (Keep.drew W1))
  have Hdb := Lib.hid (Is.keep Hdb.out (Keep.drew W1))
  have Xa0 := Lib.hid (Box.drew Xa0.out)
  have Xb0 := Lib.hid (Box.drew Xb0.out)
  have Xc0 := Lib.hid (Box.drew Xc0.out)
  have HB := Lib.hid (Below.drew HB.out)
  refine wp_region_float [w.heap.size + 1 + 1] [] (by kernel_rfl) (by kernel_rfl) 21 (by kernel_rfl) Flok.nil ?_
  intro ok
  have Hok := Lib.hid ok
  clear ok
  have HG := Lib.hid (Below.refl (W1.drew).heap.size (W1.drew))
  refine good_pureX 0 (some 5) (Go.Op.fieldAddr 25 (Go.Operand.tmp 2) 0) (none) (.pointer (some ⟨w.heap.size, 0, none⟩)) (by kernel_rfl) (by kernel_rfl) (by kernel_rfl) (fun _ _ _ h => h) (fun w' hw' => ?_) ?_
  · first | (go_simp; done) | (go_simp; simp_all; done) | (go_simp; rfl)
  simp only [Act.put, List.setIfInBounds_toArray, List.set_cons_zero, List.set_cons_succ]
  refine good_pureX 1 (some 6) (Go.Op.load 4 (Go.Operand.tmp 5)) (none) (.bool ba) (by kernel_rfl) (by kernel_rfl) (by kernel_rfl) (fun _ _ _ h => h) (fun w' hw' => ?_) ?_
  · obtain ⟨ca00, ca01, ca02, fa00, fa01, fa02⟩ := (Box.se hw' Xa0.out (notin1 (by omega))).c3
    first | (go_simp; done) | (go_simp; simp_all; done) | (go_simp; rfl)
  simp only [Act.put, List.setIfInBounds_toArray, List.set_cons_zero, List.set_cons_succ]
  refine good_pureX 2 (some 7) (Go.Op.fieldAddr 25 (Go.Operand.tmp 3) 0) (none) (.pointer (some ⟨w.heap.size + 1, 0, none⟩)) (by kernel_rfl) (by kernel_rfl) (by kernel_rfl) (fun _ _ _ h => h) (fun w' hw' => ?_) ?_
  · first | (go_simp; done) | (go_simp; simp_all; done) | (go_simp; rfl)
  simp only [Act.put, List.setIfInBounds_toArray, List.set_cons_zero, List.set_cons_succ]
  refine good_pureX 3 (some 8) (Go.Op.load 4 (Go.Operand.tmp 7)) (none) (.bool bb) (by kernel_rfl) (by kernel_rfl) (by kernel_rfl) (fun _ _ _ h => h) (fun w' hw' => ?_) ?_
  · obtain ⟨cb00, cb01, cb02, fb00, fb01, fb02⟩ := (Box.se hw' Xb0.out (notin1 (by omega))).c3
    first | (go_simp; done) | (go_simp; simp_all; done) | (go_simp; rfl)
  simp only [Act.put, List.setIfInBounds_toArray, List.set_cons_zero, List.set_cons_succ]
  refine good_pureX 4 (some 9) (Go.Op.binOp Go.BinOp.neq 4 (Go.Operand.tmp 6) (Go.Operand.tmp 8) 4) (none) (.bool (!ba == bb)) (by kernel_rfl) (by kernel_rfl) (by kernel_rfl) (fun _ _ _ h => h) (fun w' hw' => ?_) ?_
  · first | (go_simp; done) | (go_simp; simp_all; done) | (go_simp; rfl)
  simp only [Act.put, List.setIfInBounds_toArray, List.set_cons_zero, List.set_cons_succ]
  refine good_pureX 5 (some 10) (Go.Op.fieldAddr 25 (Go.Operand.tmp 2) 1) (none) (.pointer (some ⟨w.heap.size, 1, none⟩)) (by kernel_rfl) (by kernel_rfl) (by kernel_rfl) (fun _ _ _ h => h) (fun w' hw' => ?_) ?_
  · first | (go_simp; done) | (go_simp; simp_all; done) | (go_simp; rfl)
  simp only [Act.put, List.setIfInBounds_toArray, List.set_cons_zero, List.set_cons_succ]
  refine good_pureX 6 (some 11) (Go.Op.load 23 (Go.Operand.tmp 10)) (none) (sa) (by kernel_rfl) (by kernel_rfl) (by kernel_rfl) (fun _ _ _ h => h) (fun w' hw' => ?_) ?_
  · obtain ⟨ca00, ca01, ca02, fa00, fa01, fa02⟩ := (Box.se hw' Xa0.out (notin1 (by omega))).c3
    first | (go_simp; done) | (go_simp; simp_all; done) | (go_simp; rfl)
  simp only [Act.put, List.setIfInBounds_toArray, List.set_cons_zero, List.set_cons_succ]
  refine good_pureX 7 (some 12) (Go.Op.fieldAddr 25 (Go.Operand.tmp 3) 1) (none) (.pointer (some ⟨w.heap.size + 1, 1, none⟩)) (by kernel_rfl) (by kernel_rfl) (by kernel_rfl) (fun _ _ _ h => h) (fun w' hw' => ?_) ?_
  · first | (go_simp; done) | (go_simp; simp_all; done) | (go_simp; rfl)
  simp only [Act.put, List.setIfInBounds_toArray, List.set_cons_zero, List.set_cons_succ]
  refine good_pureX 8 (some 13) (Go.Op.load 23 (Go.Operand.tmp 12)) (none) (sb) (by kernel_rfl) (by kernel_rfl) (by kernel_rfl) (fun _ _ _ h => h) (fun w' hw' => ?_) ?_
  · obtain ⟨cb00, cb01, cb02, fb00, fb01, fb02⟩ := (Box.se hw' Xb0.out (notin1 (by omega))).c3
    first | (go_simp; done) | (go_simp; simp_all; done) | (go_simp; rfl)
  simp only [Act.put, List.setIfInBounds_toArray, List.set_cons_zero, List.set_cons_succ]
  refine good_pureX 10 (some 15) (Go.Op.load 25 (Go.Operand.tmp 2)) (none) (.agg #[.bool ba, sa, ta]) (by kernel_rfl) (by kernel_rfl) (by kernel_rfl) (fun _ _ _ h => h) (fun w' hw' => ?_) ?_
  · obtain ⟨ca00, ca01, ca02, fa00, fa01, fa02⟩ := (Box.se hw' Xa0.out (notin1 (by omega))).c3
    first | (go_simp; done) | (go_simp; simp_all; done) | (go_simp; rfl)
  simp only [Act.put, List.setIfInBounds_toArray, List.set_cons_zero, List.set_cons_succ]
  refine good_pureX 12 (some 17) (Go.Op.load 25 (Go.Operand.tmp 3)) (none) (.agg #[.bool bb, sb, tb]) (by kernel_rfl) (by kernel_rfl) (by kernel_rfl) (fun _ _ _ h => h) (fun w' hw' => ?_) ?_
  · obtain ⟨cb00, cb01, cb02, fb00, fb01, fb02⟩ := (Box.se hw' Xb0.out (notin1 (by omega))).c3
    first | (go_simp; done) | (go_simp; simp_all; done) | (go_simp; rfl)
  simp only [Act.put, List.setIfInBounds_toArray, List.set_cons_zero, List.set_cons_succ]
  refine good_callX 9 63 (some 14) #[Go.Operand.tmp 11, Go.Operand.tmp 13] #[23, 23] (none) #[sa, sb] (by kernel_rfl) Hok.out (by kernel_rfl) (by kernel_rfl) (by kernel_rfl) (by kernel_rfl) rfl rfl rfl (by kernel_rfl) (fun w2 hb => ?_)
  have HG := Lib.hid (below_call HG.out hb)
  clear hb
  (first | (have hcall := mul_is (Is.keep Hna.out (Keep.call HG.out)) (Is.keep Hnb.out (Keep.call HG.out)) (by omega) (by omega); refine Calls.mono hcall ?_; clear hcall) | refine Calls.mono (mul_is (Is.keep Hna.out (Keep.call HG.out)) (Is.keep Hnb.out (Keep.call HG.out)) (by omega) (by omega)) ?_)
  rintro e w3 ⟨v3, rfl, hx, hb⟩
  obtain ⟨x_a, x_n, x_c, rfl⟩ := hx.is.lit
  refine ⟨_, rfl, ?_, hb⟩
  have HG := Lib.hid (below_call HG.out hb)
  have Hx := Lib.hid hx
  clear hb hx
  simp only [Act.put, List.setIfInBounds_toArray, List.set_cons_zero, List.set_cons_succ]
  refine good_callX 11 59 (some 16) #[Go.Operand.tmp 15] #[25] (none) #[.agg #[.bool ba, sa, ta]] (by kernel_rfl) Hok.out (by kernel_rfl) (by kernel_rfl) (by kernel_rfl) (by kernel_rfl) rfl rfl rfl (by kernel_rfl) (fun w4 hb => ?_)
  have Hx := Lib.hid (Can.keep Hx.out (Keep.call hb))
  have HG := Lib.hid (below_call HG.out hb)
  clear hb
  (first | (have hcall := under_is (b := ba) (Is.keep Hda.out (Keep.call HG.out)) (by omega); refine Calls.mono hcall ?_; clear hcall) | refine Calls.mono (under_is (b := ba) (Is.keep Hda.out (Keep.call HG.out)) (by omega)) ?_)
  rintro e w5 ⟨v5, rfl, hp, hb⟩
  obtain ⟨p_a, p_n, p_c, rfl⟩ := hp.lit
  refine ⟨_, rfl, ?_, hb⟩
  have Hx := Lib.hid (Can.keep Hx.out (Keep.call hb))
  have HG := Lib.hid (below_call HG.out hb)
  have Hp := Lib.hid hp
  clear hb hp
  simp only [Act.put, List.setIfInBounds_toArray, List.set_cons_zero, List.set_cons_succ]
  refine good_callX 13 59 (some 18) #[Go.Operand.tmp 17] #[25] (none) #[.agg #[.bool bb, sb, tb]] (by kernel_rfl) Hok.out (by kernel_rfl) (by kernel_rfl) (by kernel_rfl) (by kernel_rfl) rfl rfl rfl (by kernel_rfl) (fun w6 hb => ?_)
  have Hx := Lib.hid (Can.keep Hx.out (Keep.call hb))
  have Hp := Lib.hid (Is.keep Hp.out (Keep.call hb))
  have HG := Lib.hid (below_call HG.out hb)
  clear hb
  (first | (have hcall := under_is (b := bb) (Is.keep Hdb.out (Keep.call HG.out)) (by omega); refine Calls.mono hcall ?_; clear hcall) | refine Calls.mono (under_is (b := bb) (Is.keep Hdb.out (Keep.call HG.out)) (by omega)) ?_)
  rintro e w7 ⟨v7, rfl, hq, hb⟩
  obtain ⟨q_a, q_n, q_c, rfl⟩ := hq.lit
  refine ⟨_, rfl, ?_, hb⟩
  have Hx := Lib.hid (Can.keep Hx.out (Keep.call hb))
  have Hp := Lib.hid (Is.keep Hp.out (Keep.call hb))
  have HG := Lib.hid (below_call HG.out hb)
  have Hq := Lib.hid hq
  clear hb hq
  simp only [Act.put, List.setIfInBounds_toArray, List.set_cons_zero, List.set_cons_succ]
  refine good_callX 14 63 (some 19) #[Go.Operand.tmp 16, Go.Operand.tmp 18] #[23, 23] (none) #[.slice p_a p_n p_c, .slice q_a q_n q_c] (by kernel_rfl) Hok.out (by kernel_rfl) (by kernel_rfl) (by kernel_rfl) (by kernel_rfl) rfl rfl rfl (by kernel_rfl) (fun w8 hb => ?_)
  have Hx := Lib.hid (Can.keep Hx.out (Keep.call hb))
  have Hp := Lib.hid (Is.keep Hp.out (Keep.call hb))
  have Hq := Lib.hid (Is.keep Hq.out (Keep.call hb))
  have HG := Lib.hid (below_call HG.out hb)
  clear hb
  (first | (have hcall := mul_is Hp.out Hq.out (by omega) (by omega); refine Calls.mono hcall ?_; clear hcall) | refine Calls.mono (mul_is Hp.out Hq.out (by omega) (by omega)) ?_)
  rintro e w9 ⟨v9, rfl, hy, hb⟩
  obtain ⟨y_a, y_n, y_c, rfl⟩ := hy.is.lit
  refine ⟨_, rfl, ?_, hb⟩
  have Hx := Lib.hid (Can.keep Hx.out (Keep.call hb))
  have HG := Lib.hid (below_call HG.out hb)
  have Hy := Lib.hid hy
  clear hb hy
  simp only [Act.put, List.setIfInBounds_toArray, List.set_cons_zero, List.set_cons_succ]
  refine good_callX 15 62 (some 20) #[Go.Operand.tmp 9, Go.Operand.tmp 14, Go.Operand.tmp 19] #[4, 23, 23] (none) #[.bool (!ba == bb), .slice x_a x_n x_c, .slice y_a y_n y_c] (by kernel_rfl) Hok.out (by kernel_rfl) (by kernel_rfl) (by kernel_rfl) (by kernel_rfl) rfl rfl rfl (by kernel_rfl) (fun w10 hb => ?_)
  have Hx := Lib.hid (Can.keep Hx.out (Keep.call hb))
  have Hy := Lib.hid (Can.keep Hy.out (Keep.call hb))
  have HG := Lib.hid (below_call HG.out hb)
  clear hb
  refine Calls.mono (quot_is (neg := (!ba == bb)) (Nat.mul_pos (un_pos _) (un_pos _)) Hx.out.is Hy.out.is (by omega) (by omega)) ?_
  rintro e w11 ⟨v11, rfl, hz, hb⟩
  obtain ⟨z_b, z_a, z_n, z_c, z_d, z_m, z_e, rfl⟩ := hz.litb
  refine ⟨_, rfl, ?_, hb⟩
  have HG := Lib.hid (below_call HG.out hb)
  have Hz := Lib.hid hz
  clear hb hz
  simp only [Act.put, List.setIfInBounds_toArray, List.set_cons_zero, List.set_cons_succ]
  refine good_end0 1 (by kernel_rfl) (fun _ w12 hb => ?_)
  have Hz := Lib.hid (CR.keep Hz.out (Keep.call hb))
  have HG := Lib.hid (below_call HG.out hb)
  clear hb
  have Xa0 := Lib.hid (Box.pcall HG.out Xa0.out)
  have Xb0 := Lib.hid (Box.pcall HG.out Xb0.out)
  have Xc0 := Lib.hid (Box.pcall HG.out Xc0.out)
  have HB := Lib.hid (below_call HB.out HG.out)
  have HS := Lib.hid (SE.of (E := [w.heap.size + 1 + 1]) HG.out)
  refine held_oneX 16 (Go.Op.store 25 (Go.Operand.tmp 4) (Go.Operand.tmp 20)) (none) (World.setCell (World.setCell (World.setCell w12 ⟨w.heap.size + 1 + 1, 0, none⟩ (.bool z_b)) ⟨w.heap.size + 1 + 1, 1, none⟩ (.slice z_a z_n z_c)) ⟨w.heap.size + 1 + 1, 2, none⟩ (.slice z_d z_m z_e)) (by kernel_rfl) (by kernel_rfl) (by kernel_rfl) (by kernel_rfl) ?_ (HS.out.store3 in1) ?_
  · obtain ⟨cc00, cc01, cc02, fc00, fc01, fc02⟩ := Xc0.out.c3
    first | (go_simp; done) | (go_simp; simp_all; done) | (go_simp; rfl)
  obtain ⟨W13, hW⟩ : ∃ W13, W13 = (World.setCell (World.setCell (World.setCell w12 ⟨w.heap.size + 1 + 1, 0, none⟩ (.bool z_b)) ⟨w.heap.size + 1 + 1, 1, none⟩ (.slice z_a z_n z_c)) ⟨w.heap.size + 1 + 1, 2, none⟩ (.slice z_d z_m z_e)) := ⟨_, rfl⟩
  rw [← hW]
  obtain ⟨xc0, hk, hf, hbb, hz⟩ := stored3s hW Xc0.out (by first | exact NoInt.bool _ | exact NoInt.slice _ _ _) (by first | exact NoInt.bool _ | exact NoInt.slice _ _ _) (by first | exact NoInt.bool _ | exact NoInt.slice _ _ _)
  have Hz := Lib.hid (CR.keep Hz.out hk)
  have Xa0 := Lib.hid (hf _ _ _ Xa0.out (by omega))
  have Xb0 := Lib.hid (hf _ _ _ Xb0.out (by omega))
  have Xc0 := Lib.hid xc0
  have HB := Lib.hid (hbb _ HB.out Gc0.out)
  have HS := Lib.hid (show SE (W1.drew) [w.heap.size + 1 + 1] W13 from by rw [hW]; exact HS.out.store3 in1)
  clear hW hk hf hbb xc0
  clear hz
  refine wpAnyH_done (by kernel_rfl) ?_ _
  clear HG HS Hok 
  obtain ⟨ca00, ca01, ca02, fa00, fa01, fa02⟩ := Xa0.out.c3
  have la0 := Xa0.out.lt
  obtain ⟨cb00, cb01, cb02, fb00, fb01, fb02⟩ := Xb0.out.c3
  have lb0 := Xb0.out.lt
  obtain ⟨cc00, cc01, cc02, fc00, fc01, fc02⟩ := Xc0.out.c3
  have lc0 := Xc0.out.lt
  go_wp2
  clear ca00 ca01 ca02 fa00 fa01 fa02 la0 cb00 cb01 cb02 fb00 fb01 fb02 lb0 cc00 cc01 cc02 fc00 fc01 fc02 lc0
  exact ret_rat1 rfl rfl rfl Xc0.out (CR.mono (CR.cast (mul_parts _ _ _ _ _ _) Hz.out) (by omega)) HB.out


theorem rmul_ar {a b : Rat} {L M : Nat} {u v : Value} {w : World} (h : AR a L w u) (h' : AR b M w v) (hL : L ≤ 100000) (hM : M ≤ 100000) :
    Calls Try.prog 33 #[u, v] w (Ret w (CR (a * b) (L + M + 2))) := by
  obtain ⟨ba, sa, ta, na, da, rfl, h1, h2, rfl⟩ := h
  obtain ⟨bb, sb, tb, nb, db, rfl, h3, h4, rfl⟩ := h'
  exact rmul_p h1 h2 h3 h4 hL hM

set_option maxRecDepth 100000 in
set_option maxHeartbeats 4000000 in
theorem rdiv_0 {L M : Nat} {ba : Bool} {na da : Nat} {sa ta : Value} {bb : Bool} {nb db : Nat} {sb tb : Value} {w : World} (hs : (iv bb nb).sign = 0) (hna : Is na L w sa) (hda : Is da L w ta) (hnb : Is nb M w sb) (hdb : Is db M w tb) (hL : L ≤ 100000) (hM : M ≤ 100000) :
    Calls Try.prog 50 #[.agg #[.bool ba, sa, ta], .agg #[.bool bb, sb, tb]] w (Ret w (Val (.tuple #[.agg #[.bool false, .slice none 0 0, .slice none 0 0], .int .i64 3]))) := by
  have Hna := Lib.hid hna
  have Hda := Lib.hid hda
  have Hnb := Lib.hid hnb
  have Hdb := Lib.hid hdb
  have Hs := Lib.hid hs
  clear hna hda hnb hdb hs
  go_enter Try.func50, Try.ntmps50
  have HB := Lib.hid (Below.refl w.heap.size w)
  go_wp2_with fail
  obtain ⟨W1, hW⟩ : ∃ W1, W1 = (World.alloc (World.alloc (World.alloc w (.cells #[.bool ba, sa, ta] 25)) (.cells #[.bool bb, sb, tb] 25)) (.cells #[.bool false, .slice none 0 0, .slice none 0 0] 25)) := ⟨_, rfl⟩
  rw [← hW]
  obtain ⟨xa0, xb0, xc0, hk, hb⟩ := boxes_3 _ _ _ _ _ _ _ hW
  clear hW
  have Hnb := Lib.hid (Is.keep Hnb.out hk)
  have Hdb := Lib.hid (Is.keep Hdb.out hk)
  have Ga0 := Lib.hid (show w.heap.size ≤ w.heap.size from Nat.le_trans HB.out.size (by omega))
  have Gb0 := Lib.hid (show w.heap.size ≤ w.heap.size + 1 from Nat.le_trans HB.out.size (by omega))
  have Gc0 := Lib.hid (show w.heap.size ≤ w.heap.size + 1 + 1 from Nat.le_trans HB.out.size (by omega))
  have Xa0 := Lib.hid xa0
  have Xb0 := Lib.hid xb0
  have Xc0 := Lib.hid xc0
  have HB := Lib.hid (below_call HB.out hb)
  clear hk hb xa0 xb0 xc0
  (first | (have hcall := rsign_p (ba := bb) 0 Hs.out Hnb.out Hdb.out (by omega); refine Calls.mono hcall ?_; clear hcall) | refine Calls.mono (rsign_p (ba := bb) 0 Hs.out Hnb.out Hdb.out (by omega)) ?_)
  rintro e w2 ⟨v2, rfl, rfl, hb⟩
  have Xa0 := Lib.hid (Box.pcall hb Xa0.out)
  have Xb0 := Lib.hid (Box.pcall hb Xb0.out)
  have Xc0 := Lib.hid (Box.pcall hb Xc0.out)
  have HB := Lib.hid (below_call HB.out hb)
  clear hb
  obtain ⟨ca00, ca01, ca02, fa00, fa01, fa02⟩ := Xa0.out.c3
  have la0 := Xa0.out.lt
  obtain ⟨cb00, cb01, cb02, fb00, fb01, fb02⟩ := Xb0.out.c3
  have lb0 := Xb0.out.lt
  obtain ⟨cc00, cc01, cc02, fc00, fc01, fc02⟩ := Xc0.out.c3
  have lc0 := Xc0.out.lt
  go_wp2
  clear ca00 ca01 ca02 fa00 fa01 fa02 la0 cb00 cb01 cb02 fb00 fb01 fb02 lb0 cc00 cc01 cc02 fc00 fc01 fc02 lc0
  obtain ⟨W3, hW⟩ : ∃ W3, W3 = (World.setCell (World.setCell (World.setCell w2 ⟨w.heap.size + 1 + 1, 0, none⟩ (.bool false)) ⟨w.heap.size + 1 + 1, 1, none⟩ (.slice none 0 0)) ⟨w.heap.size + 1 + 1, 2, none⟩ (.slice none 0 0)) := ⟨_, rfl⟩
  rw [← hW]
  obtain ⟨xc0, hk, hf, hbb, hz⟩ := stored3s hW Xc0.out (by first | exact NoInt.bool _ | exact NoInt.slice _ _ _) (by first | exact NoInt.bool _ | exact NoInt.slice _ _ _) (by first | exact NoInt.bool _ | exact NoInt.slice _ _ _)
  have Xa0 := Lib.hid (hf _ _ _ Xa0.out (by omega))
  have Xb0 := Lib.hid (hf _ _ _ Xb0.out (by omega))
  have Xc0 := Lib.hid xc0
  have HB := Lib.hid (hbb _ HB.out Gc0.out)
  clear hW hk hf hbb xc0
  clear hz
  exact ret_re rfl rfl rfl rfl Xc0.out rfl HB.out


set_option maxRecDepth 100000 in
set_option maxHeartbeats 4000000 in
theorem rdiv_1 {L M : Nat} {ba : Bool} {na da : Nat} {sa ta : Value} {bb : Bool} {nb db : Nat} {sb tb : Value} {w : World} (s : Int) (hs : (iv bb nb).sign = s) (hs0 : (s == 0) = false) (hp0 : 0 < nb) (hna : Is na L w sa) (hda : Is da L w ta) (hnb : Is nb M w sb) (hdb : Is db M w tb) (hL : L ≤ 100000) (hM : M ≤ 100000) :
    Calls Try.prog 50 #[.agg #[.bool ba, sa, ta], .agg #[.bool bb, sb, tb]] w (Ret w (CRE (rv ba na da / rv bb nb db) (L + M + 2) 0)) := by
  have Hna := Lib.hid hna
  have Hda := Lib.hid hda
  have Hnb := Lib.hid hnb
  have Hdb := Lib.hid hdb
  have Hs := Lib.hid hs
  have Hs0 := Lib.hid hs0
  have Hp0 := Lib.hid hp0
  clear hna hda hnb hdb hs hs0 hp0
  go_enter Try.func50, Try.ntmps50
  have HB := Lib.hid (Below.refl w.heap.size w)
  go_wp2_with fail
  obtain ⟨W1, hW⟩ : ∃ W1, W1 = (World.alloc (World.alloc (World.alloc w (.cells #[.bool ba, sa, ta] 25)) (.cells #[.bool bb, sb, tb] 25)) (.cells #[.bool false, .slice none 0 0, .slice none 0 0] 25)) := ⟨_, rfl⟩
  rw [← hW]
  obtain ⟨xa0, xb0, xc0, hk, hb⟩ := boxes_3 _ _ _ _ _ _ _ hW
  clear hW
  have Hna := Lib.hid (Is.keep Hna.out hk)
  have Hda := Lib.hid (Is.keep Hda.out hk)
  have Hnb := Lib.hid (Is.keep Hnb.out hk)
  have Hdb := Lib.hid (Is.keep Hdb.out hk)
  have Ga0 := Lib.hid (show w.heap.size ≤ w.heap.size from Nat.le_trans HB.out.size (by omega))
  have Gb0 := Lib.hid (show w.heap.size ≤ w.heap.size + 1 from Nat.le_trans HB.out.size (by omega))
  have Gc0 := Lib.hid (show w.heap.size ≤ w.heap.size + 1 + 1 from Nat.le_trans HB.out.size (by omega))
  have Xa0 := Lib.hid xa0
  have Xb0 := Lib.hid xb0
  have Xc0 := Lib.hid xc0
  have HB := Lib.hid (below_call HB.out hb)
  clear hk hb xa0 xb0 xc0
  (first | (have hcall := rsign_p (ba := bb) s Hs.out Hnb.out Hdb.out (by omega); refine Calls.mono hcall ?_; clear hcall) | refine Calls.mono (rsign_p (ba := bb) s Hs.out Hnb.out Hdb.out (by omega)) ?_)
  rintro e w2 ⟨v2, rfl, rfl, hb⟩
  have Hna := Lib.hid (Is.keep Hna.out (Keep.call hb))
  have Hda := Lib.hid (Is.keep Hda.out (Keep.call hb))
  have Hnb := Lib.hid (Is.keep Hnb.out (Keep.call hb))
  have Hdb := Lib.hid (Is.keep Hdb.out (Keep.call hb))
  have Xa0 := Lib.hid (Box.pcall hb Xa0.out)
  have Xb0 := Lib.hid (Box.pcall hb Xb0.out)
  have Xc0 := Lib.hid (Box.pcall hb Xc0.out)
  have HB := Lib.hid (below_call HB.out hb)
  clear hb
  have hs0 : (s == 0) = false := Hs0.out
  obtain ⟨ca00, ca01, ca02, fa00, fa01, fa02⟩ := Xa0.out.c3
  have la0 := Xa0.out.lt
  obtain ⟨cb00, cb01, cb02, fb00, fb01, fb02⟩ := Xb0.out.c3
  have lb0 := Xb0.out.lt
  obtain ⟨cc00, cc01, cc02, fc00, fc01, fc02⟩ := Xc0.out.c3
  have lc0 := Xc0.out.lt
  go_wp2_with fail
  clear ca00 ca01 ca02 fa00 fa01 fa02 la0 cb00 cb01 cb02 fb00 fb01 fb02 lb0 cc00 cc01 cc02 fc00 fc01 fc02 lc0
  have Hna := Lib.hid (Is.keep Hna.out (Keep.drew w2))
  have Hda := Lib.hid (Is.keep Hda.out (Keep.drew w2))
  have Hnb := Lib.hid (Is.keep Hnb.out (Keep.drew w2))
  have Hdb := Lib.hid (Is.keep Hdb.out (Keep.drew w2))
  have Xa0 := Lib.hid (Box.drew Xa0.out)
  have Xb0 := Lib.hid (Box.drew Xb0.out)
  have Xc0 := Lib.hid (Box.drew Xc0.out)
  have HB := Lib.hid (Below.drew HB.out)
  refine wp_region_float [w.heap.size + 1 + 1] [] (by kernel_rfl) (by kernel_rfl) 26 (by kernel_rfl) Flok.nil ?_
  intro ok
  have Hok := Lib.hid ok
  clear ok
  have HG := Lib.hid (Below.refl (w2.drew).heap.size (w2.drew))
  refine good_pureX 0 (some 10) (Go.Op.fieldAddr 25 (Go.Operand.tmp 2) 0) (none) (.pointer (some ⟨w.heap.size, 0, none⟩)) (by kernel_rfl) (by kernel_rfl) (by kernel_rfl) (fun _ _ _ h => h) (fun w' hw' => ?_) ?_
  · first | (go_simp; done) | (go_simp; simp_all; done) | (go_simp; rfl)
  simp only [Act.put, List.setIfInBounds_toArray, List.set_cons_zero, List.set_cons_succ]
  refine good_pureX 1 (some 11) (Go.Op.load 4 (Go.Operand.tmp 10)) (none) (.bool ba) (by kernel_rfl) (by kernel_rfl) (by kernel_rfl) (fun _ _ _ h => h) (fun w' hw' => ?_) ?_
  · obtain ⟨ca00, ca01, ca02, fa00, fa01, fa02⟩ := (Box.se hw' Xa0.out (notin1 (by omega))).c3
    first | (go_simp; done) | (go_simp; simp_all; done) | (go_simp; rfl)
  simp only [Act.put, List.setIfInBounds_toArray, List.set_cons_zero, List.set_cons_succ]
  refine good_pureX 2 (some 12) (Go.Op.fieldAddr 25 (Go.Operand.tmp 3) 0) (none) (.pointer (some ⟨w.heap.size + 1, 0, none⟩)) (by kernel_rfl) (by kernel_rfl) (by kernel_rfl) (fun _ _ _ h => h) (fun w' hw' => ?_) ?_
  · first | (go_simp; done) | (go_simp; simp_all; done) | (go_simp; rfl)
  simp only [Act.put, List.setIfInBounds_toArray, List.set_cons_zero, List.set_cons_succ]
  refine good_pureX 3 (some 13) (Go.Op.load 4 (Go.Operand.tmp 12)) (none) (.bool bb) (by kernel_rfl) (by kernel_rfl) (by kernel_rfl) (fun _ _ _ h => h) (fun w' hw' => ?_) ?_
  · obtain ⟨cb00, cb01, cb02, fb00, fb01, fb02⟩ := (Box.se hw' Xb0.out (notin1 (by omega))).c3
    first | (go_simp; done) | (go_simp; simp_all; done) | (go_simp; rfl)
  simp only [Act.put, List.setIfInBounds_toArray, List.set_cons_zero, List.set_cons_succ]
  refine good_pureX 4 (some 14) (Go.Op.binOp Go.BinOp.neq 4 (Go.Operand.tmp 11) (Go.Operand.tmp 13) 4) (none) (.bool (!ba == bb)) (by kernel_rfl) (by kernel_rfl) (by kernel_rfl) (fun _ _ _ h => h) (fun w' hw' => ?_) ?_
  · first | (go_simp; done) | (go_simp; simp_all; done) | (go_simp; rfl)
  simp only [Act.put, List.setIfInBounds_toArray, List.set_cons_zero, List.set_cons_succ]
  refine good_pureX 5 (some 15) (Go.Op.fieldAddr 25 (Go.Operand.tmp 2) 1) (none) (.pointer (some ⟨w.heap.size, 1, none⟩)) (by kernel_rfl) (by kernel_rfl) (by kernel_rfl) (fun _ _ _ h => h) (fun w' hw' => ?_) ?_
  · first | (go_simp; done) | (go_simp; simp_all; done) | (go_simp; rfl)
  simp only [Act.put, List.setIfInBounds_toArray, List.set_cons_zero, List.set_cons_succ]
  refine good_pureX 6 (some 16) (Go.Op.load 23 (Go.Operand.tmp 15)) (none) (sa) (by kernel_rfl) (by kernel_rfl) (by kernel_rfl) (fun _ _ _ h => h) (fun w' hw' => ?_) ?_
  · obtain ⟨ca00, ca01, ca02, fa00, fa01, fa02⟩ := (Box.se hw' Xa0.out (notin1 (by omega))).c3
    first | (go_simp; done) | (go_simp; simp_all; done) | (go_simp; rfl)
  simp only [Act.put, List.setIfInBounds_toArray, List.set_cons_zero, List.set_cons_succ]
  refine good_pureX 7 (some 17) (Go.Op.load 25 (Go.Operand.tmp 3)) (none) (.agg #[.bool bb, sb, tb]) (by kernel_rfl) (by kernel_rfl) (by kernel_rfl) (fun _ _ _ h => h) (fun w' hw' => ?_) ?_
  · obtain ⟨cb00, cb01, cb02, fb00, fb01, fb02⟩ := (Box.se hw' Xb0.out (notin1 (by omega))).c3
    first | (go_simp; done) | (go_simp; simp_all; done) | (go_simp; rfl)
  simp only [Act.put, List.setIfInBounds_toArray, List.set_cons_zero, List.set_cons_succ]
  refine good_pureX 10 (some 20) (Go.Op.load 25 (Go.Operand.tmp 2)) (none) (.agg #[.bool ba, sa, ta]) (by kernel_rfl) (by kernel_rfl) (by kernel_rfl) (fun _ _ _ h => h) (fun w' hw' => ?_) ?_
  · obtain ⟨ca00, ca01, ca02, fa00, fa01, fa02⟩ := (Box.se hw' Xa0.out (notin1 (by omega))).c3
    first | (go_simp; done) | (go_simp; simp_all; done) | (go_simp; rfl)
  simp only [Act.put, List.setIfInBounds_toArray, List.set_cons_zero, List.set_cons_succ]
  refine good_pureX 12 (some 22) (Go.Op.fieldAddr 25 (Go.Operand.tmp 3) 1) (none) (.pointer (some ⟨w.heap.size + 1, 1, none⟩)) (by kernel_rfl) (by kernel_rfl) (by kernel_rfl) (fun _ _ _ h => h) (fun w' hw' => ?_) ?_
  · first | (go_simp; done) | (go_simp; simp_all; done) | (go_simp; rfl)
  simp only [Act.put, List.setIfInBounds_toArray, List.set_cons_zero, List.set_cons_succ]
  refine good_pureX 13 (some 23) (Go.Op.load 23 (Go.Operand.tmp 22)) (none) (sb) (by kernel_rfl) (by kernel_rfl) (by kernel_rfl) (fun _ _ _ h => h) (fun w' hw' => ?_) ?_
  · obtain ⟨cb00, cb01, cb02, fb00, fb01, fb02⟩ := (Box.se hw' Xb0.out (notin1 (by omega))).c3
    first | (go_simp; done) | (go_simp; simp_all; done) | (go_simp; rfl)
  simp only [Act.put, List.setIfInBounds_toArray, List.set_cons_zero, List.set_cons_succ]
  refine good_callX 8 59 (some 18) #[Go.Operand.tmp 17] #[25] (none) #[.agg #[.bool bb, sb, tb]] (by kernel_rfl) Hok.out (by kernel_rfl) (by kernel_rfl) (by kernel_rfl) (by kernel_rfl) rfl rfl rfl (by kernel_rfl) (fun w3 hb => ?_)
  have HG := Lib.hid (below_call HG.out hb)
  clear hb
  (first | (have hcall := under_is (b := bb) (Is.keep Hdb.out (Keep.call HG.out)) (by omega); refine Calls.mono hcall ?_; clear hcall) | refine Calls.mono (under_is (b := bb) (Is.keep Hdb.out (Keep.call HG.out)) (by omega)) ?_)
  rintro e w4 ⟨v4, rfl, hq, hb⟩
  obtain ⟨q_a, q_n, q_c, rfl⟩ := hq.lit
  refine ⟨_, rfl, ?_, hb⟩
  have HG := Lib.hid (below_call HG.out hb)
  have Hq := Lib.hid hq
  clear hb hq
  simp only [Act.put, List.setIfInBounds_toArray, List.set_cons_zero, List.set_cons_succ]
  refine good_callX 9 63 (some 19) #[Go.Operand.tmp 16, Go.Operand.tmp 18] #[23, 23] (none) #[sa, .slice q_a q_n q_c] (by kernel_rfl) Hok.out (by kernel_rfl) (by kernel_rfl) (by kernel_rfl) (by kernel_rfl) rfl rfl rfl (by kernel_rfl) (fun w5 hb => ?_)
  have Hq := Lib.hid (Is.keep Hq.out (Keep.call hb))
  have HG := Lib.hid (below_call HG.out hb)
  clear hb
  (first | (have hcall := mul_is (Is.keep Hna.out (Keep.call HG.out)) Hq.out (by omega) (by omega); refine Calls.mono hcall ?_; clear hcall) | refine Calls.mono (mul_is (Is.keep Hna.out (Keep.call HG.out)) Hq.out (by omega) (by omega)) ?_)
  rintro e w6 ⟨v6, rfl, hx, hb⟩
  obtain ⟨x_a, x_n, x_c, rfl⟩ := hx.is.lit
  refine ⟨_, rfl, ?_, hb⟩
  have HG := Lib.hid (below_call HG.out hb)
  have Hx := Lib.hid hx
  clear hb hx
  simp only [Act.put, List.setIfInBounds_toArray, List.set_cons_zero, List.set_cons_succ]
  refine good_callX 11 59 (some 21) #[Go.Operand.tmp 20] #[25] (none) #[.agg #[.bool ba, sa, ta]] (by kernel_rfl) Hok.out (by kernel_rfl) (by kernel_rfl) (by kernel_rfl) (by kernel_rfl) rfl rfl rfl (by kernel_rfl) (fun w7 hb => ?_)
  have Hx := Lib.hid (Can.keep Hx.out (Keep.call hb))
  have HG := Lib.hid (below_call HG.out hb)
  clear hb
  (first | (have hcall := under_is (b := ba) (Is.keep Hda.out (Keep.call HG.out)) (by omega); refine Calls.mono hcall ?_; clear hcall) | refine Calls.mono (under_is (b := ba) (Is.keep Hda.out (Keep.call HG.out)) (by omega)) ?_)
  rintro e w8 ⟨v8, rfl, hp, hb⟩
  obtain ⟨p_a, p_n, p_c, rfl⟩ := hp.lit
  refine ⟨_, rfl, ?_, hb⟩
  have Hx := Lib.hid (Can.keep Hx.out (Keep.call hb))
  have HG := Lib.hid (below_call HG.out hb)
  have Hp := Lib.hid hp
  clear hb hp
  simp only [Act.put, List.setIfInBounds_toArray, List.set_cons_zero, List.set_cons_succ]
  refine good_callX 14 63 (some 24) #[Go.Operand.tmp 21, Go.Operand.tmp 23] #[23, 23] (none) #[.slice p_a p_n p_c, sb] (by kernel_rfl) Hok.out (by kernel_rfl) (by kernel_rfl) (by kernel_rfl) (by kernel_rfl) rfl rfl rfl (by kernel_rfl) (fun w9 hb => ?_)
  have Hx := Lib.hid (Can.keep Hx.out (Keep.call hb))
  have Hp := Lib.hid (Is.keep Hp.out (Keep.call hb))
  have HG := Lib.hid (below_call HG.out hb)
  clear hb
  (first | (have hcall := mul_is Hp.out (Is.keep Hnb.out (Keep.call HG.out)) (by omega) (by omega); refine Calls.mono hcall ?_; clear hcall) | refine Calls.mono (mul_is Hp.out (Is.keep Hnb.out (Keep.call HG.out)) (by omega) (by omega)) ?_)
  rintro e w10 ⟨v10, rfl, hy, hb⟩
  obtain ⟨y_a, y_n, y_c, rfl⟩ := hy.is.lit
  refine ⟨_, rfl, ?_, hb⟩
  have Hx := Lib.hid (Can.keep Hx.out (Keep.call hb))
  have HG := Lib.hid (below_call HG.out hb)
  have Hy := Lib.hid hy
  clear hb hy
  simp only [Act.put, List.setIfInBounds_toArray, List.set_cons_zero, List.set_cons_succ]
  refine good_callX 15 62 (some 25) #[Go.Operand.tmp 14, Go.Operand.tmp 19, Go.Operand.tmp 24] #[4, 23, 23] (none) #[.bool (!ba == bb), .slice x_a x_n x_c, .slice y_a y_n y_c] (by kernel_rfl) Hok.out (by kernel_rfl) (by kernel_rfl) (by kernel_rfl) (by kernel_rfl) rfl rfl rfl (by kernel_rfl) (fun w11 hb => ?_)
  have Hx := Lib.hid (Can.keep Hx.out (Keep.call hb))
  have Hy := Lib.hid (Can.keep Hy.out (Keep.call hb))
  have HG := Lib.hid (below_call HG.out hb)
  clear hb
  refine Calls.mono (quot_is (neg := (!ba == bb)) (Nat.mul_pos (un_pos _) Hp0.out) Hx.out.is Hy.out.is (by omega) (by omega)) ?_
  rintro e w12 ⟨v12, rfl, hz, hb⟩
  obtain ⟨z_b, z_a, z_n, z_c, z_d, z_m, z_e, rfl⟩ := hz.litb
  refine ⟨_, rfl, ?_, hb⟩
  have HG := Lib.hid (below_call HG.out hb)
  have Hz := Lib.hid hz
  clear hb hz
  simp only [Act.put, List.setIfInBounds_toArray, List.set_cons_zero, List.set_cons_succ]
  refine good_end0 2 (by kernel_rfl) (fun _ w13 hb => ?_)
  have Hz := Lib.hid (CR.keep Hz.out (Keep.call hb))
  have HG := Lib.hid (below_call HG.out hb)
  clear hb
  have Xa0 := Lib.hid (Box.pcall HG.out Xa0.out)
  have Xb0 := Lib.hid (Box.pcall HG.out Xb0.out)
  have Xc0 := Lib.hid (Box.pcall HG.out Xc0.out)
  have HB := Lib.hid (below_call HB.out HG.out)
  have HS := Lib.hid (SE.of (E := [w.heap.size + 1 + 1]) HG.out)
  refine held_oneX 16 (Go.Op.store 25 (Go.Operand.tmp 4) (Go.Operand.tmp 25)) (none) (World.setCell (World.setCell (World.setCell w13 ⟨w.heap.size + 1 + 1, 0, none⟩ (.bool z_b)) ⟨w.heap.size + 1 + 1, 1, none⟩ (.slice z_a z_n z_c)) ⟨w.heap.size + 1 + 1, 2, none⟩ (.slice z_d z_m z_e)) (by kernel_rfl) (by kernel_rfl) (by kernel_rfl) (by kernel_rfl) ?_ (HS.out.store3 in1) ?_
  · obtain ⟨cc00, cc01, cc02, fc00, fc01, fc02⟩ := Xc0.out.c3
    first | (go_simp; done) | (go_simp; simp_all; done) | (go_simp; rfl)
  obtain ⟨W14, hW⟩ : ∃ W14, W14 = (World.setCell (World.setCell (World.setCell w13 ⟨w.heap.size + 1 + 1, 0, none⟩ (.bool z_b)) ⟨w.heap.size + 1 + 1, 1, none⟩ (.slice z_a z_n z_c)) ⟨w.heap.size + 1 + 1, 2, none⟩ (.slice z_d z_m z_e)) := ⟨_, rfl⟩
  rw [← hW]
  obtain ⟨xc0, hk, hf, hbb, hz⟩ := stored3s hW Xc0.out (by first | exact NoInt.bool _ | exact NoInt.slice _ _ _) (by first | exact NoInt.bool _ | exact NoInt.slice _ _ _) (by first | exact NoInt.bool _ | exact NoInt.slice _ _ _)
  have Hz := Lib.hid (CR.keep Hz.out hk)
  have Xa0 := Lib.hid (hf _ _ _ Xa0.out (by omega))
  have Xb0 := Lib.hid (hf _ _ _ Xb0.out (by omega))
  have Xc0 := Lib.hid xc0
  have HB := Lib.hid (hbb _ HB.out Gc0.out)
  have HS := Lib.hid (show SE (w2.drew) [w.heap.size + 1 + 1] W14 from by rw [hW]; exact HS.out.store3 in1)
  clear hW hk hf hbb xc0
  clear hz
  refine held_pureX 17 (some 5) (Go.Op.assign (Go.Operand.const (Go.Value.int Go.IntKind.i64 0))) (none) (.int .i64 0) (by kernel_rfl) (by kernel_rfl) (by kernel_rfl) (fun _ _ _ h => h) (fun w' => by first | (go_simp; done) | (go_simp; simp_all; done) | (go_simp; rfl)) HS.out ?_
  simp only [Act.put, List.setIfInBounds_toArray, List.set_cons_zero, List.set_cons_succ]
  refine wpAnyH_done (by kernel_rfl) ?_ _
  clear HG HS Hok 
  obtain ⟨ca00, ca01, ca02, fa00, fa01, fa02⟩ := Xa0.out.c3
  have la0 := Xa0.out.lt
  obtain ⟨cb00, cb01, cb02, fb00, fb01, fb02⟩ := Xb0.out.c3
  have lb0 := Xb0.out.lt
  obtain ⟨cc00, cc01, cc02, fc00, fc01, fc02⟩ := Xc0.out.c3
  have lc0 := Xc0.out.lt
  go_wp2
  clear ca00 ca01 ca02 fa00 fa01 fa02 la0 cb00 cb01 cb02 fb00 fb01 fb02 lb0 cc00 cc01 cc02 fc00 fc01 fc02 lc0
  exact ret_re rfl rfl rfl rfl Xc0.out ⟨_, rfl, CR.mono (CR.cast (div_parts _ _ _ _ _ _ Hp0.out) Hz.out) (by omega)⟩ HB.out


theorem rdiv_ar {a b : Rat} {L M : Nat} {u v : Value} {w : World} (h0 : b ≠ 0) (h : AR a L w u) (h' : AR b M w v) (hL : L ≤ 100000) (hM : M ≤ 100000) :
    Calls Try.prog 50 #[u, v] w (Ret w (CRE (a / b) (L + M + 2) 0)) := by
  obtain ⟨ba, sa, ta, na, da, rfl, h1, h2, rfl⟩ := h
  obtain ⟨bb, sb, tb, nb, db, rfl, h3, h4, rfl⟩ := h'
  have hp : 0 < nb := by
    rcases Nat.eq_zero_or_pos nb with rfl | h0'
    · exact absurd (by unfold rv; rw [show iv bb 0 = 0 by cases bb <;> rfl]; exact Rat.zero_mkRat _) h0
    · exact h0'
  exact rdiv_1 _ rfl (by cases bb <;> simp [iv, Int.sign_eq_zero_iff_zero] <;> omega) hp h1 h2 h3 h4 hL hM
theorem qdiv_zero {a b : Rat} {L M : Nat} {u v : Value} {w : World} (h0 : b = 0) (h : AR a L w u) (h' : AR b M w v) (hL : L ≤ 100000) (hM : M ≤ 100000) :
    Calls Try.prog 50 #[u, v] w (Ret w (Val (.tuple #[.agg #[.bool false, .slice none 0 0, .slice none 0 0], .int .i64 3]))) := by
  obtain ⟨ba, sa, ta, na, da, rfl, h1, h2, rfl⟩ := h
  obtain ⟨bb, sb, tb, nb, db, rfl, h3, h4, rfl⟩ := h'
  exact rdiv_0 (by rw [rv_sign _ _ db, h0]; rfl) h1 h2 h3 h4 hL hM

set_option maxRecDepth 100000 in
set_option maxHeartbeats 4000000 in
theorem rfloor_p {L : Nat} {ba : Bool} {na da : Nat} {sa ta : Value} {w : World} (hna : Is na L w sa) (hda : Is da L w ta) (hL : L ≤ 100000) :
    Calls Try.prog 31 #[.agg #[.bool ba, sa, ta]] w (Ret w (CL (rv ba na da).floor (L + 3))) := by
  have Hna := Lib.hid hna
  have Hda := Lib.hid hda
  clear hna hda
  go_enter Try.func31, Try.ntmps31
  have HB := Lib.hid (Below.refl w.heap.size w)
  go_wp2_with fail
  obtain ⟨W1, hW⟩ : ∃ W1, W1 = (World.alloc (World.alloc w (.cells #[.bool ba, sa, ta] 25)) (.cells #[.bool false, .slice none 0 0] 49)) := ⟨_, rfl⟩
  rw [← hW]
  obtain ⟨xa0, xb0, hk, hb⟩ := boxes_2 _ _ _ _ _ hW
  clear hW
  have Hna := Lib.hid (Is.keep Hna.out hk)
  have Hda := Lib.hid (Is.keep Hda.out hk)
  have Ga0 := Lib.hid (show w.heap.size ≤ w.heap.size from Nat.le_trans HB.out.size (by omega))
  have Gb0 := Lib.hid (show w.heap.size ≤ w.heap.size + 1 from Nat.le_trans HB.out.size (by omega))
  have Xa0 := Lib.hid xa0
  have Xb0 := Lib.hid xb0
  have HB := Lib.hid (below_call HB.out hb)
  clear hk hb xa0 xb0
  have Hna := Lib.hid (Is.keep Hna.out (Keep.drew W1))
  have Hda := Lib.hid (Is.keep Hda.out (Keep.drew W1))
  have Xa0 := Lib.hid (Box.drew Xa0.out)
  have Xb0 := Lib.hid (Box.drew Xb0.out)
  have HB := Lib.hid (Below.drew HB.out)
  refine wp_region_float [] [⟨10, 3, 49, #[.bool false, .slice none 0 0]⟩, ⟨11, 4, 49, #[.bool false, .slice none 0 0]⟩] (by kernel_rfl) (by kernel_rfl) 17 (by kernel_rfl) (Flok.cons (Flok.one (by kernel_rfl) (by kernel_rfl) (by kernel_rfl) (by intro w; go_simp)) (Flok.one (by kernel_rfl) (by kernel_rfl) (by kernel_rfl) (by intro w; go_simp)) (by kernel_rfl)) ?_
  intro ok
  have Hok := Lib.hid ok
  clear ok
  have HG := Lib.hid (Below.refl (W1.drew).heap.size (W1.drew))
  refine good_pureX 0 (some 7) (Go.Op.load 25 (Go.Operand.tmp 1)) (none) (.agg #[.bool ba, sa, ta]) (by kernel_rfl) (by kernel_rfl) (by kernel_rfl) (fun _ _ _ h => h) (fun w' hw' => ?_) ?_
  · obtain ⟨ca00, ca01, ca02, fa00, fa01, fa02⟩ := (Box.se hw' Xa0.out notin0).c3
    first | (go_simp; done) | (go_simp; simp_all; done) | (go_simp; rfl)
  simp only [Act.put, List.setIfInBounds_toArray, List.set_cons_zero, List.set_cons_succ]
  refine good_pureX 2 (some 9) (Go.Op.load 25 (Go.Operand.tmp 1)) (none) (.agg #[.bool ba, sa, ta]) (by kernel_rfl) (by kernel_rfl) (by kernel_rfl) (fun _ _ _ h => h) (fun w' hw' => ?_) ?_
  · obtain ⟨ca00, ca01, ca02, fa00, fa01, fa02⟩ := (Box.se hw' Xa0.out notin0).c3
    first | (go_simp; done) | (go_simp; simp_all; done) | (go_simp; rfl)
  simp only [Act.put, List.setIfInBounds_toArray, List.set_cons_zero, List.set_cons_succ]
  refine good_callX 1 58 (some 8) #[Go.Operand.tmp 7] #[25] (none) #[.agg #[.bool ba, sa, ta]] (by kernel_rfl) Hok.out (by kernel_rfl) (by kernel_rfl) (by kernel_rfl) (by kernel_rfl) rfl rfl rfl (by kernel_rfl) (fun w2 hb => ?_)
  have HG := Lib.hid (below_call HG.out hb)
  clear hb
  (first | (have hcall := signed_is (neg := ba) (Is.keep Hna.out (Keep.call HG.out)); refine Calls.mono hcall ?_; clear hcall) | refine Calls.mono (signed_is (neg := ba) (Is.keep Hna.out (Keep.call HG.out))) ?_)
  rintro e w3 ⟨v3, rfl, hz, hb⟩
  obtain ⟨z_b, z_a, z_n, z_c, rfl⟩ := hz.litb
  refine ⟨_, rfl, ?_, hb⟩
  have HG := Lib.hid (below_call HG.out hb)
  have Hz := Lib.hid hz
  clear hb hz
  simp only [Act.put, List.setIfInBounds_toArray, List.set_cons_zero, List.set_cons_succ]
  refine good_callX 3 59 (some 10) #[Go.Operand.tmp 9] #[25] (none) #[.agg #[.bool ba, sa, ta]] (by kernel_rfl) Hok.out (by kernel_rfl) (by kernel_rfl) (by kernel_rfl) (by kernel_rfl) rfl rfl rfl (by kernel_rfl) (fun w4 hb => ?_)
  have Hz := Lib.hid (CL.keep Hz.out (Keep.call hb))
  have HG := Lib.hid (below_call HG.out hb)
  clear hb
  (first | (have hcall := under_is (b := ba) (Is.keep Hda.out (Keep.call HG.out)) (by omega); refine Calls.mono hcall ?_; clear hcall) | refine Calls.mono (under_is (b := ba) (Is.keep Hda.out (Keep.call HG.out)) (by omega)) ?_)
  rintro e w5 ⟨v5, rfl, hu, hb⟩
  obtain ⟨u_a, u_n, u_c, rfl⟩ := hu.lit
  refine ⟨_, rfl, ?_, hb⟩
  have Hz := Lib.hid (CL.keep Hz.out (Keep.call hb))
  have HG := Lib.hid (below_call HG.out hb)
  have Hu := Lib.hid hu
  clear hb hu
  simp only [Act.put, List.setIfInBounds_toArray, List.set_cons_zero, List.set_cons_succ]
  refine good_pureX 4 (some 11) (Go.Op.build 49 #[(1, Go.Operand.tmp 10)]) (none) (.agg #[.bool false, .slice u_a u_n u_c]) (by kernel_rfl) (by kernel_rfl) (by kernel_rfl) (fun _ _ _ h => h) (fun w' hw' => ?_) ?_
  · first | (go_simp; done) | (go_simp; simp_all; done) | (go_simp; rfl)
  simp only [Act.put, List.setIfInBounds_toArray, List.set_cons_zero, List.set_cons_succ]
  refine good_callX 5 57 (some 12) #[Go.Operand.tmp 8, Go.Operand.tmp 11] #[49, 49] (none) #[.agg #[.bool z_b, .slice z_a z_n z_c], .agg #[.bool false, .slice u_a u_n u_c]] (by kernel_rfl) Hok.out (by kernel_rfl) (by kernel_rfl) (by kernel_rfl) (by kernel_rfl) rfl rfl rfl (by kernel_rfl) (fun w6 hb => ?_)
  have Hz := Lib.hid (CL.keep Hz.out (Keep.call hb))
  have Hu := Lib.hid (Is.keep Hu.out (Keep.call hb))
  have HG := Lib.hid (below_call HG.out hb)
  clear hb
  refine Calls.mono (idivmod_ai (un_int_ne _) Hz.out.ai (AI.mk (n := false) Hu.out) (by omega) (by omega)) ?_
  rintro e w7 ⟨t7, rfl, ⟨v7, u7, rfl, hq, hr⟩, hb⟩
  obtain ⟨q_b, q_a, q_n, q_c, rfl⟩ := hq.litb
  obtain ⟨r_b, r_a, r_n, r_c, rfl⟩ := hr.litb
  refine ⟨_, rfl, ?_, hb⟩
  have HG := Lib.hid (below_call HG.out hb)
  have Hq := Lib.hid hq
  have Hr := Lib.hid hr
  clear hb hq hr
  simp only [Act.put, List.setIfInBounds_toArray, List.set_cons_zero, List.set_cons_succ]
  refine good_pureX 6 (some 6) (Go.Op.move (Go.Operand.tmp 12)) (none) (.tuple #[.agg #[.bool q_b, .slice q_a q_n q_c], .agg #[.bool r_b, .slice r_a r_n r_c], .int .i64 0]) (by kernel_rfl) (by kernel_rfl) (by kernel_rfl) (fun _ _ _ h => h) (fun w' hw' => ?_) ?_
  · first | (go_simp; done) | (go_simp; simp_all; done) | (go_simp; rfl)
  simp only [Act.put, List.setIfInBounds_toArray, List.set_cons_zero, List.set_cons_succ]
  refine good_pureX 7 (some 13) (Go.Op.extract (Go.Operand.tmp 6) 0) (none) (.agg #[.bool q_b, .slice q_a q_n q_c]) (by kernel_rfl) (by kernel_rfl) (by kernel_rfl) (fun _ _ _ h => h) (fun w' hw' => ?_) ?_
  · first | (go_simp; done) | (go_simp; simp_all; done) | (go_simp; rfl)
  simp only [Act.put, List.setIfInBounds_toArray, List.set_cons_zero, List.set_cons_succ]
  refine good_pureX 8 (some 14) (Go.Op.extract (Go.Operand.tmp 6) 1) (none) (.agg #[.bool r_b, .slice r_a r_n r_c]) (by kernel_rfl) (by kernel_rfl) (by kernel_rfl) (fun _ _ _ h => h) (fun w' hw' => ?_) ?_
  · first | (go_simp; done) | (go_simp; simp_all; done) | (go_simp; rfl)
  simp only [Act.put, List.setIfInBounds_toArray, List.set_cons_zero, List.set_cons_succ]
  refine good_pureX 9 (some 15) (Go.Op.extract (Go.Operand.tmp 6) 2) (none) (.int .i64 0) (by kernel_rfl) (by kernel_rfl) (by kernel_rfl) (fun _ _ _ h => h) (fun w' hw' => ?_) ?_
  · first | (go_simp; done) | (go_simp; simp_all; done) | (go_simp; rfl)
  simp only [Act.put, List.setIfInBounds_toArray, List.set_cons_zero, List.set_cons_succ]
  refine good_end2 3 Hok.out (by kernel_rfl) (by kernel_rfl) (by kernel_rfl) (by kernel_rfl) (by kernel_rfl) (fun _ gc0 gd0 w8 hb ec0 ed0 hne xc0 xd0 => ?_)
  have Hq := Lib.hid (CL.keep Hq.out (Keep.call hb))
  have HG := Lib.hid (below_call HG.out hb)
  clear hb
  have Na0c0 := Lib.hid (show w.heap.size ≠ gc0 from Nat.ne_of_lt (Nat.lt_of_lt_of_le Xa0.out.lt ec0))
  have Nb0c0 := Lib.hid (show w.heap.size + 1 ≠ gc0 from Nat.ne_of_lt (Nat.lt_of_lt_of_le Xb0.out.lt ec0))
  have Gc0 := Lib.hid (show w.heap.size ≤ gc0 from Nat.le_trans HB.out.size ec0)
  have Ec0 := Lib.hid ec0
  clear ec0
  have Na0d0 := Lib.hid (show w.heap.size ≠ gd0 from Nat.ne_of_lt (Nat.lt_of_lt_of_le Xa0.out.lt ed0))
  have Nb0d0 := Lib.hid (show w.heap.size + 1 ≠ gd0 from Nat.ne_of_lt (Nat.lt_of_lt_of_le Xb0.out.lt ed0))
  have Gd0 := Lib.hid (show w.heap.size ≤ gd0 from Nat.le_trans HB.out.size ed0)
  have Ed0 := Lib.hid ed0
  clear ed0
  have Xa0 := Lib.hid (Box.pcall HG.out Xa0.out)
  have Xb0 := Lib.hid (Box.pcall HG.out Xb0.out)
  have HB := Lib.hid (below_call HB.out HG.out)
  have HS := Lib.hid (SE.of (E := []) HG.out)
  have Nc0d0 := Lib.hid hne
  clear hne
  have Xc0 := Lib.hid xc0
  clear xc0
  have Xd0 := Lib.hid xd0
  clear xd0
  simp only [Act.put, List.setIfInBounds_toArray, List.set_cons_zero, List.set_cons_succ]
  refine held_oneX 12 (Go.Op.store 49 (Go.Operand.tmp 3) (Go.Operand.tmp 13)) (none) (World.setCell (World.setCell w8 ⟨gc0, 0, none⟩ (.bool q_b)) ⟨gc0, 1, none⟩ (.slice q_a q_n q_c)) (by kernel_rfl) (by kernel_rfl) (by kernel_rfl) (by kernel_rfl) ?_ (HS.out.store2 (.inr Ec0.out)) ?_
  · obtain ⟨cc00, cc01, fc00, fc01⟩ := Xc0.out.c2
    first | (go_simp; done) | (go_simp; simp_all; done) | (go_simp; rfl)
  obtain ⟨W9, hW⟩ : ∃ W9, W9 = (World.setCell (World.setCell w8 ⟨gc0, 0, none⟩ (.bool q_b)) ⟨gc0, 1, none⟩ (.slice q_a q_n q_c)) := ⟨_, rfl⟩
  rw [← hW]
  obtain ⟨xc0, hk, hf, hbb, hz⟩ := stored2s hW Xc0.out (by first | exact NoInt.bool _ | exact NoInt.slice _ _ _) (by first | exact NoInt.bool _ | exact NoInt.slice _ _ _)
  have Hq := Lib.hid (CL.keep Hq.out hk)
  have Xa0 := Lib.hid (hf _ _ _ Xa0.out Na0c0.out)
  have Xb0 := Lib.hid (hf _ _ _ Xb0.out Nb0c0.out)
  have Xc0 := Lib.hid xc0
  have Xd0 := Lib.hid (hf _ _ _ Xd0.out Nc0d0.out.symm)
  have HB := Lib.hid (hbb _ HB.out Gc0.out)
  have HS := Lib.hid (show SE (W1.drew) [] W9 from by rw [hW]; exact HS.out.store2 (.inr Ec0.out))
  clear hW hk hf hbb xc0
  clear hz
  refine held_oneX 13 (Go.Op.store 49 (Go.Operand.tmp 4) (Go.Operand.tmp 14)) (none) (World.setCell (World.setCell W9 ⟨gd0, 0, none⟩ (.bool r_b)) ⟨gd0, 1, none⟩ (.slice r_a r_n r_c)) (by kernel_rfl) (by kernel_rfl) (by kernel_rfl) (by kernel_rfl) ?_ (HS.out.store2 (.inr Ed0.out)) ?_
  · obtain ⟨cd00, cd01, fd00, fd01⟩ := Xd0.out.c2
    first | (go_simp; done) | (go_simp; simp_all; done) | (go_simp; rfl)
  obtain ⟨W10, hW⟩ : ∃ W10, W10 = (World.setCell (World.setCell W9 ⟨gd0, 0, none⟩ (.bool r_b)) ⟨gd0, 1, none⟩ (.slice r_a r_n r_c)) := ⟨_, rfl⟩
  rw [← hW]
  obtain ⟨xd0, hk, hf, hbb, hz⟩ := stored2s hW Xd0.out (by first | exact NoInt.bool _ | exact NoInt.slice _ _ _) (by first | exact NoInt.bool _ | exact NoInt.slice _ _ _)
  have Hq := Lib.hid (CL.keep Hq.out hk)
  have Xa0 := Lib.hid (hf _ _ _ Xa0.out Na0d0.out)
  have Xb0 := Lib.hid (hf _ _ _ Xb0.out Nb0d0.out)
  have Xc0 := Lib.hid (hf _ _ _ Xc0.out Nc0d0.out)
  have Xd0 := Lib.hid xd0
  have HB := Lib.hid (hbb _ HB.out Gd0.out)
  have HS := Lib.hid (show SE (W1.drew) [] W10 from by rw [hW]; exact HS.out.store2 (.inr Ed0.out))
  clear hW hk hf hbb xd0
  clear hz
  refine held_pureX 14 (some 5) (Go.Op.assign (Go.Operand.tmp 15)) (none) (.int .i64 0) (by kernel_rfl) (by kernel_rfl) (by kernel_rfl) (fun _ _ _ h => h) (fun w' => by first | (go_simp; done) | (go_simp; simp_all; done) | (go_simp; rfl)) HS.out ?_
  simp only [Act.put, List.setIfInBounds_toArray, List.set_cons_zero, List.set_cons_succ]
  refine wpAnyH_done (by kernel_rfl) ?_ _
  clear HG HS Hok Ec0 Ed0
  obtain ⟨ca00, ca01, ca02, fa00, fa01, fa02⟩ := Xa0.out.c3
  have la0 := Xa0.out.lt
  obtain ⟨cb00, cb01, fb00, fb01⟩ := Xb0.out.c2
  have lb0 := Xb0.out.lt
  obtain ⟨cc00, cc01, fc00, fc01⟩ := Xc0.out.c2
  have lc0 := Xc0.out.lt
  obtain ⟨cd00, cd01, fd00, fd01⟩ := Xd0.out.c2
  have ld0 := Xd0.out.lt
  go_wp2
  clear ca00 ca01 ca02 fa00 fa01 fa02 la0 cb00 cb01 fb00 fb01 lb0 cc00 cc01 fc00 fc01 lc0 cd00 cd01 fd00 fd01 ld0
  obtain ⟨W11, hW⟩ : ∃ W11, W11 = (World.setCell (World.setCell W10 ⟨w.heap.size + 1, 0, none⟩ (.bool q_b)) ⟨w.heap.size + 1, 1, none⟩ (.slice q_a q_n q_c)) := ⟨_, rfl⟩
  rw [← hW]
  obtain ⟨xb0, hk, hf, hbb, hz⟩ := stored2s hW Xb0.out (by first | exact NoInt.bool _ | exact NoInt.slice _ _ _) (by first | exact NoInt.bool _ | exact NoInt.slice _ _ _)
  have Hq := Lib.hid (CL.keep Hq.out hk)
  have Xa0 := Lib.hid (hf _ _ _ Xa0.out (by omega))
  have Xb0 := Lib.hid xb0
  have Xc0 := Lib.hid (hf _ _ _ Xc0.out Nb0c0.out.symm)
  have Xd0 := Lib.hid (hf _ _ _ Xd0.out Nb0d0.out.symm)
  have HB := Lib.hid (hbb _ HB.out Gb0.out)
  clear hW hk hf hbb xb0
  clear hz
  exact ret_int1 rfl rfl rfl Xb0.out (CL.mono (CL.cast (floor_parts _ _ _) Hq.out) (by omega)) HB.out


theorem rfloor_ar {q : Rat} {L : Nat} {v : Value} {w : World} (h : AR q L w v) (hL : L ≤ 100000) : Calls Try.prog 31 #[v] w (Ret w (CL q.floor (L + 3))) := by
  obtain ⟨b, s, t, n, d, rfl, h1, h2, rfl⟩ := h
  exact rfloor_p h1 h2 hL

end Go.Proofs.Ytfffehmkohcgcaa
