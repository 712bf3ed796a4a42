/- Texts FixB, in this order. -/
import Derived.Test.YtfffehmkohcgcaaEa
namespace Go.Proofs.Ytfffehmkohcgcaa
open Go.RowKit Nt
set_option linter.unusedVariables false
theorem sh_one {s : Nat} (h : s ≤ 62) : Op.shift BinOp.shl IntKind.i64 1 IntKind.i64 ((s : Nat) : Int) = pure (.int .i64 (((2 ^ s : Nat) : Nat) : Int)) := by
  have h1 := pow_le62 h
  refine (shift_shl .i64 .i64 1 (s : Int) (by omega) (by show (s : Int) ≤ 64; omega)).trans ?_
  rw [Int.toNat_natCast, show (1 : Int) * 2 ^ s = ((2 ^ s : Nat) : Int) by simp, IntWalk.i64_in _ (by generalize 2 ^ s = p at *; omega)]

set_option maxRecDepth 100000 in
set_option maxHeartbeats 4000000 in
theorem fro_o {L : Nat} {s : Nat} {bx : Bool} {nx dx : Nat} {sx tx : Value} {w : World} (hv : decide (0 ≤ ((s : Nat) : Int) ∧ ((s : Nat) : Int) ≤ 62) = true) (h1 : -9223372036854775808 ≤ ((2 ^ s : Nat) : Int)) (h2 : ((2 ^ s : Nat) : Int) < 9223372036854775808) (hsh : Op.shift BinOp.shl IntKind.i64 1 IntKind.i64 ((s : Nat) : Int) = pure (.int .i64 (((2 ^ s : Nat) : Nat) : Int))) (N : Int) (hN : intV (rv false nx dx * tw s + ((1 : Int) : Rat) / ((2 : Int) : Rat)).floor = N ∧ intB (rv false nx dx * tw s + ((1 : Int) : Rat) / ((2 : Int) : Rat)).floor = false) (hnx : Is nx L w sx) (hdx : Is dx L w tx) (hL : L ≤ 10000)  :
    Calls Try.prog 12 #[.agg #[.bool bx, sx, tx], .int .i64 ((s : Nat) : Int)] w (Ret w (Val (.tuple #[.int .i64 0, .int .i64 2]))) := by
  have Hnx := Lib.hid hnx
  have Hdx := Lib.hid hdx
  have Hv := Lib.hid hv
  have H1 := Lib.hid h1
  have H2 := Lib.hid h2
  have HN := Lib.hid hN
  clear hnx hdx hv h1 h2 hN
  go_enter Try.func12, Try.ntmps12
  have HB := Lib.hid (Below.refl w.heap.size w)
  go_wp2_with fail
  obtain ⟨W1, hW⟩ : ∃ W1, W1 = (World.alloc w (.cells #[.bool bx, sx, tx] 25)) := ⟨_, rfl⟩
  rw [← hW]
  obtain ⟨xa0, hk, hb⟩ := boxes_1 _ _ _ hW
  clear hW
  have Hnx := Lib.hid (Is.keep Hnx.out hk)
  have Hdx := Lib.hid (Is.keep Hdx.out hk)
  have Ga0 := Lib.hid (show w.heap.size ≤ w.heap.size from Nat.le_trans HB.out.size (by omega))
  have Xa0 := Lib.hid xa0
  have HB := Lib.hid (below_call HB.out hb)
  clear hk hb xa0
  refine Calls.mono (fvalid_any _ _ Hv.out) ?_
  rintro e w2 ⟨v2, rfl, rfl, hb⟩
  have Hnx := Lib.hid (Is.keep Hnx.out (Keep.call hb))
  have Hdx := Lib.hid (Is.keep Hdx.out (Keep.call hb))
  have Xa0 := Lib.hid (Box.pcall hb Xa0.out)
  have HB := Lib.hid (below_call HB.out hb)
  clear hb
  obtain ⟨ca00, ca01, ca02, fa00, fa01, fa02⟩ := Xa0.out.c3
  have la0 := Xa0.out.lt
  go_wp2_with fail
  clear ca00 ca01 ca02 fa00 fa01 fa02 la0
  obtain ⟨W3, hW⟩ : ∃ W3, W3 = (World.setCell w2 ⟨w.heap.size, 0, none⟩ (.bool false)) := ⟨_, rfl⟩
  rw [← hW]
  obtain ⟨xa0, hk, hf, hbb, hz⟩ := stored3_0s hW Xa0.out (by first | exact NoInt.bool _ | exact NoInt.slice _ _ _)
  have Hnx := Lib.hid (Is.keep Hnx.out hk)
  have Hdx := Lib.hid (Is.keep Hdx.out hk)
  have Xa0 := Lib.hid xa0
  have HB := Lib.hid (hbb _ HB.out Ga0.out)
  clear hW hk hf hbb xa0
  clear hz
  refine Calls.mono (rfrac_1 (x := 1) (y := 2) (by decide) (by decide) (by decide) (by decide) (by decide)) ?_
  rintro e w4 ⟨t4, rfl, ⟨v4, rfl, hhf⟩, hb⟩
  obtain ⟨hf_b, hf_a, hf_n, hf_c, hf_d, hf_m, hf_e, rfl⟩ := hhf.litb
  have Hnx := Lib.hid (Is.keep Hnx.out (Keep.call hb))
  have Hdx := Lib.hid (Is.keep Hdx.out (Keep.call hb))
  have Xa0 := Lib.hid (Box.pcall hb Xa0.out)
  have HB := Lib.hid (below_call HB.out hb)
  have Hhf := Lib.hid hhf
  clear hb hhf
  obtain ⟨ca00, ca01, ca02, fa00, fa01, fa02⟩ := Xa0.out.c3
  have la0 := Xa0.out.lt
  go_wp2_with fail
  clear ca00 ca01 ca02 fa00 fa01 fa02 la0
  obtain ⟨W5, hW⟩ : ∃ W5, W5 = (World.alloc w4 (.cells #[.bool hf_b, .slice hf_a hf_n hf_c, .slice hf_d hf_m hf_e] 25)) := ⟨_, rfl⟩
  rw [← hW]
  obtain ⟨xb0, hk, hb⟩ := boxes_1 _ _ _ hW
  clear hW
  have Hnx := Lib.hid (Is.keep Hnx.out hk)
  have Hdx := Lib.hid (Is.keep Hdx.out hk)
  have Hhf := Lib.hid (CR.keep Hhf.out hk)
  have Na0b0 := Lib.hid (show w.heap.size ≠ w4.heap.size from Nat.ne_of_lt (Nat.lt_of_lt_of_le Xa0.out.lt (by omega)))
  have Gb0 := Lib.hid (show w.heap.size ≤ w4.heap.size from Nat.le_trans HB.out.size (by omega))
  have Xa0 := Lib.hid (Box.pcall hb Xa0.out)
  have Xb0 := Lib.hid xb0
  have HB := Lib.hid (below_call HB.out hb)
  clear hk hb xb0
  have Hnx := Lib.hid (Is.keep Hnx.out (Keep.drew W5))
  have Hdx := Lib.hid (Is.keep Hdx.out (Keep.drew W5))
  have Hhf := Lib.hid (CR.keep Hhf.out (Keep.drew W5))
  have Xa0 := Lib.hid (Box.drew Xa0.out)
  have Xb0 := Lib.hid (Box.drew Xb0.out)
  have HB := Lib.hid (Below.drew HB.out)
  refine wp_region_float [] [⟨8, 9, 49, #[.bool false, .slice none 0 0]⟩] (by kernel_rfl) (by kernel_rfl) 45 (by kernel_rfl) (Flok.one (by kernel_rfl) (by kernel_rfl) (by kernel_rfl) (by intro w; go_simp)) ?_
  intro ok
  have Hok := Lib.hid ok
  clear ok
  have HG := Lib.hid (Below.refl (W5.drew).heap.size (W5.drew))
  refine good_pureX 0 (some 22) (Go.Op.load 25 (Go.Operand.tmp 2)) (none) (.agg #[.bool false, sx, tx]) (by kernel_rfl) (by kernel_rfl) (by kernel_rfl) (fun _ _ _ h => h) (fun w' hw' => ?_) ?_
  · obtain ⟨ca00, ca01, ca02, fa00, fa01, fa02⟩ := (Box.se hw' Xa0.out notin0).c3
    first | (go_simp; done) | (go_simp; simp_all; done) | (go_simp; rfl)
  simp only [Act.put, List.setIfInBounds_toArray, List.set_cons_zero, List.set_cons_succ]
  refine good_pureX 1 (some 23) (Go.Op.move (Go.Operand.tmp 1)) (none) (.int .i64 ((s : Nat) : Int)) (by kernel_rfl) (by kernel_rfl) (by kernel_rfl) (fun _ _ _ h => h) (fun w' hw' => ?_) ?_
  · first | (go_simp; done) | (go_simp; simp_all; done) | (go_simp; rfl)
  simp only [Act.put, List.setIfInBounds_toArray, List.set_cons_zero, List.set_cons_succ]
  refine good_pureX 2 (some 24) (Go.Op.binOp Go.BinOp.shl 3 (Go.Operand.const (Go.Value.int Go.IntKind.i64 1)) (Go.Operand.tmp 23) 3) (none) (.int .i64 ((2 ^ s : Nat) : Int)) (by kernel_rfl) (by kernel_rfl) (by kernel_rfl) (fun _ _ _ h => h) (fun w' hw' => ?_) ?_
  · first | (go_simp; done) | (go_simp; simp_all; done) | (go_simp; rfl)
  simp only [Act.put, List.setIfInBounds_toArray, List.set_cons_zero, List.set_cons_succ]
  refine good_pureX 5 (some 27) (Go.Op.load 25 (Go.Operand.tmp 7)) (none) (.agg #[.bool hf_b, .slice hf_a hf_n hf_c, .slice hf_d hf_m hf_e]) (by kernel_rfl) (by kernel_rfl) (by kernel_rfl) (fun _ _ _ h => h) (fun w' hw' => ?_) ?_
  · obtain ⟨cb00, cb01, cb02, fb00, fb01, fb02⟩ := (Box.se hw' Xb0.out notin0).c3
    first | (go_simp; done) | (go_simp; simp_all; done) | (go_simp; rfl)
  simp only [Act.put, List.setIfInBounds_toArray, List.set_cons_zero, List.set_cons_succ]
  refine good_callX 3 34 (some 25) #[Go.Operand.tmp 24] #[3] (none) #[.int .i64 ((2 ^ s : Nat) : Int)] (by kernel_rfl) Hok.out (by kernel_rfl) (by kernel_rfl) (by kernel_rfl) (by kernel_rfl) rfl rfl rfl (by kernel_rfl) (fun w6 hb => ?_)
  have HG := Lib.hid (below_call HG.out hb)
  clear hb
  refine Calls.mono (of_rat (x := ((2 ^ s : Nat) : Int)) H1.out H2.out) ?_
  rintro e w7 ⟨v7, rfl, hp, hb⟩
  obtain ⟨p_b, p_a, p_n, p_c, p_d, p_m, p_e, rfl⟩ := hp.litb
  refine ⟨_, rfl, ?_, hb⟩
  have HG := Lib.hid (below_call HG.out hb)
  have Hp := Lib.hid hp
  clear hb hp
  simp only [Act.put, List.setIfInBounds_toArray, List.set_cons_zero, List.set_cons_succ]
  refine good_callX 4 33 (some 26) #[Go.Operand.tmp 22, Go.Operand.tmp 25] #[25, 25] (none) #[.agg #[.bool false, sx, tx], .agg #[.bool p_b, .slice p_a p_n p_c, .slice p_d p_m p_e]] (by kernel_rfl) Hok.out (by kernel_rfl) (by kernel_rfl) (by kernel_rfl) (by kernel_rfl) rfl rfl rfl (by kernel_rfl) (fun w8 hb => ?_)
  have Hp := Lib.hid (CR.keep Hp.out (Keep.call hb))
  have HG := Lib.hid (below_call HG.out hb)
  clear hb
  (first | (have hcall := rmul_ar (AR.mk (neg := false) (Is.keep Hnx.out (Keep.call HG.out)) (Is.keep Hdx.out (Keep.call HG.out))) Hp.out.ar (by omega) (by omega); refine Calls.mono hcall ?_; clear hcall) | refine Calls.mono (rmul_ar (AR.mk (neg := false) (Is.keep Hnx.out (Keep.call HG.out)) (Is.keep Hdx.out (Keep.call HG.out))) Hp.out.ar (by omega) (by omega)) ?_)
  rintro e w9 ⟨v9, rfl, hm, hb⟩
  obtain ⟨m_b, m_a, m_n, m_c, m_d, m_m, m_e, rfl⟩ := hm.litb
  refine ⟨_, rfl, ?_, hb⟩
  have HG := Lib.hid (below_call HG.out hb)
  have Hm := Lib.hid hm
  clear hb hm
  simp only [Act.put, List.setIfInBounds_toArray, List.set_cons_zero, List.set_cons_succ]
  refine good_callX 6 32 (some 28) #[Go.Operand.tmp 26, Go.Operand.tmp 27] #[25, 25] (none) #[.agg #[.bool m_b, .slice m_a m_n m_c, .slice m_d m_m m_e], .agg #[.bool hf_b, .slice hf_a hf_n hf_c, .slice hf_d hf_m hf_e]] (by kernel_rfl) Hok.out (by kernel_rfl) (by kernel_rfl) (by kernel_rfl) (by kernel_rfl) rfl rfl rfl (by kernel_rfl) (fun w10 hb => ?_)
  have Hm := Lib.hid (CR.keep Hm.out (Keep.call hb))
  have HG := Lib.hid (below_call HG.out hb)
  clear hb
  (first | (have hcall := radd_ar Hm.out.ar (CR.keep Hhf.out (Keep.call HG.out)).ar (by omega) (by omega); refine Calls.mono hcall ?_; clear hcall) | refine Calls.mono (radd_ar Hm.out.ar (CR.keep Hhf.out (Keep.call HG.out)).ar (by omega) (by omega)) ?_)
  rintro e w11 ⟨v11, rfl, ha0, hb⟩
  obtain ⟨a0_b, a0_a, a0_n, a0_c, a0_d, a0_m, a0_e, rfl⟩ := ha0.litb
  refine ⟨_, rfl, ?_, hb⟩
  have HG := Lib.hid (below_call HG.out hb)
  have Ha0 := Lib.hid ha0
  clear hb ha0
  simp only [Act.put, List.setIfInBounds_toArray, List.set_cons_zero, List.set_cons_succ]
  refine good_callX 7 31 (some 29) #[Go.Operand.tmp 28] #[25] (none) #[.agg #[.bool a0_b, .slice a0_a a0_n a0_c, .slice a0_d a0_m a0_e]] (by kernel_rfl) Hok.out (by kernel_rfl) (by kernel_rfl) (by kernel_rfl) (by kernel_rfl) rfl rfl rfl (by kernel_rfl) (fun w12 hb => ?_)
  have Ha0 := Lib.hid (CR.keep Ha0.out (Keep.call hb))
  have HG := Lib.hid (below_call HG.out hb)
  clear hb
  (first | (have hcall := rfloor_ar Ha0.out.ar (by omega); refine Calls.mono hcall ?_; clear hcall) | refine Calls.mono (rfloor_ar Ha0.out.ar (by omega)) ?_)
  rintro e w13 ⟨v13, rfl, hf0, hb⟩
  obtain ⟨f0_b, f0_a, f0_n, f0_c, rfl⟩ := hf0.litb
  refine ⟨_, rfl, ?_, hb⟩
  have HG := Lib.hid (below_call HG.out hb)
  have Hf0 := Lib.hid hf0
  clear hb hf0
  simp only [Act.put, List.setIfInBounds_toArray, List.set_cons_zero, List.set_cons_succ]
  refine good_end1 1 Hok.out (by kernel_rfl) (by kernel_rfl) (by kernel_rfl) (fun _ gc0 w14 hb ec0 xc0 => ?_)
  have Hf0 := Lib.hid (CL.keep Hf0.out (Keep.call hb))
  have HG := Lib.hid (below_call HG.out hb)
  clear hb
  have Na0c0 := Lib.hid (show w.heap.size ≠ gc0 from Nat.ne_of_lt (Nat.lt_of_lt_of_le Xa0.out.lt ec0))
  have Nb0c0 := Lib.hid (show w4.heap.size ≠ gc0 from Nat.ne_of_lt (Nat.lt_of_lt_of_le Xb0.out.lt ec0))
  have Gc0 := Lib.hid (show w.heap.size ≤ gc0 from Nat.le_trans HB.out.size ec0)
  have Ec0 := Lib.hid ec0
  clear ec0
  have Xa0 := Lib.hid (Box.pcall HG.out Xa0.out)
  have Xb0 := Lib.hid (Box.pcall HG.out Xb0.out)
  have HB := Lib.hid (below_call HB.out HG.out)
  have HS := Lib.hid (SE.of (E := []) HG.out)
  have Xc0 := Lib.hid xc0
  clear xc0
  simp only [Act.put, List.setIfInBounds_toArray, List.set_cons_zero, List.set_cons_succ]
  refine held_oneX 9 (Go.Op.store 49 (Go.Operand.tmp 9) (Go.Operand.tmp 29)) (none) (World.setCell (World.setCell w14 ⟨gc0, 0, none⟩ (.bool f0_b)) ⟨gc0, 1, none⟩ (.slice f0_a f0_n f0_c)) (by kernel_rfl) (by kernel_rfl) (by kernel_rfl) (by kernel_rfl) ?_ (HS.out.store2 (.inr Ec0.out)) ?_
  · obtain ⟨cc00, cc01, fc00, fc01⟩ := Xc0.out.c2
    first | (go_simp; done) | (go_simp; simp_all; done) | (go_simp; rfl)
  obtain ⟨W15, hW⟩ : ∃ W15, W15 = (World.setCell (World.setCell w14 ⟨gc0, 0, none⟩ (.bool f0_b)) ⟨gc0, 1, none⟩ (.slice f0_a f0_n f0_c)) := ⟨_, rfl⟩
  rw [← hW]
  obtain ⟨xc0, hk, hf, hbb, hz⟩ := stored2s hW Xc0.out (by first | exact NoInt.bool _ | exact NoInt.slice _ _ _) (by first | exact NoInt.bool _ | exact NoInt.slice _ _ _)
  have Hf0 := Lib.hid (CL.keep Hf0.out hk)
  have Xa0 := Lib.hid (hf _ _ _ Xa0.out Na0c0.out)
  have Xb0 := Lib.hid (hf _ _ _ Xb0.out Nb0c0.out)
  have Xc0 := Lib.hid xc0
  have HB := Lib.hid (hbb _ HB.out Gc0.out)
  have HS := Lib.hid (show SE (W5.drew) [] W15 from by rw [hW]; exact HS.out.store2 (.inr Ec0.out))
  clear hW hk hf hbb xc0
  clear hz
  refine wpAnyH_done (by kernel_rfl) ?_ _
  clear HG HS Hok Ec0
  obtain ⟨ca00, ca01, ca02, fa00, fa01, fa02⟩ := Xa0.out.c3
  have la0 := Xa0.out.lt
  obtain ⟨cb00, cb01, cb02, fb00, fb01, fb02⟩ := Xb0.out.c3
  have lb0 := Xb0.out.lt
  obtain ⟨cc00, cc01, fc00, fc01⟩ := Xc0.out.c2
  have lc0 := Xc0.out.lt
  go_wp2_with fail
  clear ca00 ca01 ca02 fa00 fa01 fa02 la0 cb00 cb01 cb02 fb00 fb01 fb02 lb0 cc00 cc01 fc00 fc01 lc0
  (first | (have hcall := iint_at HN.out Hf0.out.ai; refine Calls.mono hcall ?_; clear hcall) | refine Calls.mono (iint_at HN.out Hf0.out.ai) ?_)
  rintro e w16 ⟨v16, rfl, rfl, hb⟩
  have Xa0 := Lib.hid (Box.pcall hb Xa0.out)
  have Xb0 := Lib.hid (Box.pcall hb Xb0.out)
  have Xc0 := Lib.hid (Box.pcall hb Xc0.out)
  have HB := Lib.hid (below_call HB.out hb)
  clear hb
  obtain ⟨ca00, ca01, ca02, fa00, fa01, fa02⟩ := Xa0.out.c3
  have la0 := Xa0.out.lt
  obtain ⟨cb00, cb01, cb02, fb00, fb01, fb02⟩ := Xb0.out.c3
  have lb0 := Xb0.out.lt
  obtain ⟨cc00, cc01, fc00, fc01⟩ := Xc0.out.c2
  have lc0 := Xc0.out.lt
  go_wp2
  clear ca00 ca01 ca02 fa00 fa01 fa02 la0 cb00 cb01 cb02 fb00 fb01 fb02 lb0 cc00 cc01 fc00 fc01 lc0
  exact ret_tt rfl rfl rfl rfl rfl HB.out


set_option maxRecDepth 100000 in
set_option maxHeartbeats 4000000 in
theorem fro_g {L : Nat} {s : Nat} {bx : Bool} {nx dx : Nat} {sx tx : Value} {w : World} (hv : decide (0 ≤ ((s : Nat) : Int) ∧ ((s : Nat) : Int) ≤ 62) = true) (h1 : -9223372036854775808 ≤ ((2 ^ s : Nat) : Int)) (h2 : ((2 ^ s : Nat) : Int) < 9223372036854775808) (hsh : Op.shift BinOp.shl IntKind.i64 1 IntKind.i64 ((s : Nat) : Int) = pure (.int .i64 (((2 ^ s : Nat) : Nat) : Int))) (N : Int) (hN : intV (rv false nx dx * tw s + ((1 : Int) : Rat) / ((2 : Int) : Rat)).floor = N ∧ intB (rv false nx dx * tw s + ((1 : Int) : Rat) / ((2 : Int) : Rat)).floor = true) (hg : decide (4611686018427387904 < N) = true) (hnx : Is nx L w sx) (hdx : Is dx L w tx) (hL : L ≤ 10000)  :
    Calls Try.prog 12 #[.agg #[.bool bx, sx, tx], .int .i64 ((s : Nat) : Int)] w (Ret w (Val (.tuple #[.int .i64 0, .int .i64 2]))) := by
  have Hnx := Lib.hid hnx
  have Hdx := Lib.hid hdx
  have Hv := Lib.hid hv
  have H1 := Lib.hid h1
  have H2 := Lib.hid h2
  have HN := Lib.hid hN
  clear hnx hdx hv h1 h2 hN
  go_enter Try.func12, Try.ntmps12
  have HB := Lib.hid (Below.refl w.heap.size w)
  go_wp2_with fail
  obtain ⟨W1, hW⟩ : ∃ W1, W1 = (World.alloc w (.cells #[.bool bx, sx, tx] 25)) := ⟨_, rfl⟩
  rw [← hW]
  obtain ⟨xa0, hk, hb⟩ := boxes_1 _ _ _ hW
  clear hW
  have Hnx := Lib.hid (Is.keep Hnx.out hk)
  have Hdx := Lib.hid (Is.keep Hdx.out hk)
  have Ga0 := Lib.hid (show w.heap.size ≤ w.heap.size from Nat.le_trans HB.out.size (by omega))
  have Xa0 := Lib.hid xa0
  have HB := Lib.hid (below_call HB.out hb)
  clear hk hb xa0
  refine Calls.mono (fvalid_any _ _ Hv.out) ?_
  rintro e w2 ⟨v2, rfl, rfl, hb⟩
  have Hnx := Lib.hid (Is.keep Hnx.out (Keep.call hb))
  have Hdx := Lib.hid (Is.keep Hdx.out (Keep.call hb))
  have Xa0 := Lib.hid (Box.pcall hb Xa0.out)
  have HB := Lib.hid (below_call HB.out hb)
  clear hb
  obtain ⟨ca00, ca01, ca02, fa00, fa01, fa02⟩ := Xa0.out.c3
  have la0 := Xa0.out.lt
  go_wp2_with fail
  clear ca00 ca01 ca02 fa00 fa01 fa02 la0
  obtain ⟨W3, hW⟩ : ∃ W3, W3 = (World.setCell w2 ⟨w.heap.size, 0, none⟩ (.bool false)) := ⟨_, rfl⟩
  rw [← hW]
  obtain ⟨xa0, hk, hf, hbb, hz⟩ := stored3_0s hW Xa0.out (by first | exact NoInt.bool _ | exact NoInt.slice _ _ _)
  have Hnx := Lib.hid (Is.keep Hnx.out hk)
  have Hdx := Lib.hid (Is.keep Hdx.out hk)
  have Xa0 := Lib.hid xa0
  have HB := Lib.hid (hbb _ HB.out Ga0.out)
  clear hW hk hf hbb xa0
  clear hz
  refine Calls.mono (rfrac_1 (x := 1) (y := 2) (by decide) (by decide) (by decide) (by decide) (by decide)) ?_
  rintro e w4 ⟨t4, rfl, ⟨v4, rfl, hhf⟩, hb⟩
  obtain ⟨hf_b, hf_a, hf_n, hf_c, hf_d, hf_m, hf_e, rfl⟩ := hhf.litb
  have Hnx := Lib.hid (Is.keep Hnx.out (Keep.call hb))
  have Hdx := Lib.hid (Is.keep Hdx.out (Keep.call hb))
  have Xa0 := Lib.hid (Box.pcall hb Xa0.out)
  have HB := Lib.hid (below_call HB.out hb)
  have Hhf := Lib.hid hhf
  clear hb hhf
  obtain ⟨ca00, ca01, ca02, fa00, fa01, fa02⟩ := Xa0.out.c3
  have la0 := Xa0.out.lt
  go_wp2_with fail
  clear ca00 ca01 ca02 fa00 fa01 fa02 la0
  obtain ⟨W5, hW⟩ : ∃ W5, W5 = (World.alloc w4 (.cells #[.bool hf_b, .slice hf_a hf_n hf_c, .slice hf_d hf_m hf_e] 25)) := ⟨_, rfl⟩
  rw [← hW]
  obtain ⟨xb0, hk, hb⟩ := boxes_1 _ _ _ hW
  clear hW
  have Hnx := Lib.hid (Is.keep Hnx.out hk)
  have Hdx := Lib.hid (Is.keep Hdx.out hk)
  have Hhf := Lib.hid (CR.keep Hhf.out hk)
  have Na0b0 := Lib.hid (show w.heap.size ≠ w4.heap.size from Nat.ne_of_lt (Nat.lt_of_lt_of_le Xa0.out.lt (by omega)))
  have Gb0 := Lib.hid (show w.heap.size ≤ w4.heap.size from Nat.le_trans HB.out.size (by omega))
  have Xa0 := Lib.hid (Box.pcall hb Xa0.out)
  have Xb0 := Lib.hid xb0
  have HB := Lib.hid (below_call HB.out hb)
  clear hk hb xb0
  have Hnx := Lib.hid (Is.keep Hnx.out (Keep.drew W5))
  have Hdx := Lib.hid (Is.keep Hdx.out (Keep.drew W5))
  have Hhf := Lib.hid (CR.keep Hhf.out (Keep.drew W5))
  have Xa0 := Lib.hid (Box.drew Xa0.out)
  have Xb0 := Lib.hid (Box.drew Xb0.out)
  have HB := Lib.hid (Below.drew HB.out)
  refine wp_region_float [] [⟨8, 9, 49, #[.bool false, .slice none 0 0]⟩] (by kernel_rfl) (by kernel_rfl) 45 (by kernel_rfl) (Flok.one (by kernel_rfl) (by kernel_rfl) (by kernel_rfl) (by intro w; go_simp)) ?_
  intro ok
  have Hok := Lib.hid ok
  clear ok
  have HG := Lib.hid (Below.refl (W5.drew).heap.size (W5.drew))
  refine good_pureX 0 (some 22) (Go.Op.load 25 (Go.Operand.tmp 2)) (none) (.agg #[.bool false, sx, tx]) (by kernel_rfl) (by kernel_rfl) (by kernel_rfl) (fun _ _ _ h => h) (fun w' hw' => ?_) ?_
  · obtain ⟨ca00, ca01, ca02, fa00, fa01, fa02⟩ := (Box.se hw' Xa0.out notin0).c3
    first | (go_simp; done) | (go_simp; simp_all; done) | (go_simp; rfl)
  simp only [Act.put, List.setIfInBounds_toArray, List.set_cons_zero, List.set_cons_succ]
  refine good_pureX 1 (some 23) (Go.Op.move (Go.Operand.tmp 1)) (none) (.int .i64 ((s : Nat) : Int)) (by kernel_rfl) (by kernel_rfl) (by kernel_rfl) (fun _ _ _ h => h) (fun w' hw' => ?_) ?_
  · first | (go_simp; done) | (go_simp; simp_all; done) | (go_simp; rfl)
  simp only [Act.put, List.setIfInBounds_toArray, List.set_cons_zero, List.set_cons_succ]
  refine good_pureX 2 (some 24) (Go.Op.binOp Go.BinOp.shl 3 (Go.Operand.const (Go.Value.int Go.IntKind.i64 1)) (Go.Operand.tmp 23) 3) (none) (.int .i64 ((2 ^ s : Nat) : Int)) (by kernel_rfl) (by kernel_rfl) (by kernel_rfl) (fun _ _ _ h => h) (fun w' hw' => ?_) ?_
  · first | (go_simp; done) | (go_simp; simp_all; done) | (go_simp; rfl)
  simp only [Act.put, List.setIfInBounds_toArray, List.set_cons_zero, List.set_cons_succ]
  refine good_pureX 5 (some 27) (Go.Op.load 25 (Go.Operand.tmp 7)) (none) (.agg #[.bool hf_b, .slice hf_a hf_n hf_c, .slice hf_d hf_m hf_e]) (by kernel_rfl) (by kernel_rfl) (by kernel_rfl) (fun _ _ _ h => h) (fun w' hw' => ?_) ?_
  · obtain ⟨cb00, cb01, cb02, fb00, fb01, fb02⟩ := (Box.se hw' Xb0.out notin0).c3
    first | (go_simp; done) | (go_simp; simp_all; done) | (go_simp; rfl)
  simp only [Act.put, List.setIfInBounds_toArray, List.set_cons_zero, List.set_cons_succ]
  refine good_callX 3 34 (some 25) #[Go.Operand.tmp 24] #[3] (none) #[.int .i64 ((2 ^ s : Nat) : Int)] (by kernel_rfl) Hok.out (by kernel_rfl) (by kernel_rfl) (by kernel_rfl) (by kernel_rfl) rfl rfl rfl (by kernel_rfl) (fun w6 hb => ?_)
  have HG := Lib.hid (below_call HG.out hb)
  clear hb
  refine Calls.mono (of_rat (x := ((2 ^ s : Nat) : Int)) H1.out H2.out) ?_
  rintro e w7 ⟨v7, rfl, hp, hb⟩
  obtain ⟨p_b, p_a, p_n, p_c, p_d, p_m, p_e, rfl⟩ := hp.litb
  refine ⟨_, rfl, ?_, hb⟩
  have HG := Lib.hid (below_call HG.out hb)
  have Hp := Lib.hid hp
  clear hb hp
  simp only [Act.put, List.setIfInBounds_toArray, List.set_cons_zero, List.set_cons_succ]
  refine good_callX 4 33 (some 26) #[Go.Operand.tmp 22, Go.Operand.tmp 25] #[25, 25] (none) #[.agg #[.bool false, sx, tx], .agg #[.bool p_b, .slice p_a p_n p_c, .slice p_d p_m p_e]] (by kernel_rfl) Hok.out (by kernel_rfl) (by kernel_rfl) (by kernel_rfl) (by kernel_rfl) rfl rfl rfl (by kernel_rfl) (fun w8 hb => ?_)
  have Hp := Lib.hid (CR.keep Hp.out (Keep.call hb))
  have HG := Lib.hid (below_call HG.out hb)
  clear hb
  (first | (have hcall := rmul_ar (AR.mk (neg := false) (Is.keep Hnx.out (Keep.call HG.out)) (Is.keep Hdx.out (Keep.call HG.out))) Hp.out.ar (by omega) (by omega); refine Calls.mono hcall ?_; clear hcall) | refine Calls.mono (rmul_ar (AR.mk (neg := false) (Is.keep Hnx.out (Keep.call HG.out)) (Is.keep Hdx.out (Keep.call HG.out))) Hp.out.ar (by omega) (by omega)) ?_)
  rintro e w9 ⟨v9, rfl, hm, hb⟩
  obtain ⟨m_b, m_a, m_n, m_c, m_d, m_m, m_e, rfl⟩ := hm.litb
  refine ⟨_, rfl, ?_, hb⟩
  have HG := Lib.hid (below_call HG.out hb)
  have Hm := Lib.hid hm
  clear hb hm
  simp only [Act.put, List.setIfInBounds_toArray, List.set_cons_zero, List.set_cons_succ]
  refine good_callX 6 32 (some 28) #[Go.Operand.tmp 26, Go.Operand.tmp 27] #[25, 25] (none) #[.agg #[.bool m_b, .slice m_a m_n m_c, .slice m_d m_m m_e], .agg #[.bool hf_b, .slice hf_a hf_n hf_c, .slice hf_d hf_m hf_e]] (by kernel_rfl) Hok.out (by kernel_rfl) (by kernel_rfl) (by kernel_rfl) (by kernel_rfl) rfl rfl rfl (by kernel_rfl) (fun w10 hb => ?_)
  have Hm := Lib.hid (CR.keep Hm.out (Keep.call hb))
  have HG := Lib.hid (below_call HG.out hb)
  clear hb
  (first | (have hcall := radd_ar Hm.out.ar (CR.keep Hhf.out (Keep.call HG.out)).ar (by omega) (by omega); refine Calls.mono hcall ?_; clear hcall) | refine Calls.mono (radd_ar Hm.out.ar (CR.keep Hhf.out (Keep.call HG.out)).ar (by omega) (by omega)) ?_)
  rintro e w11 ⟨v11, rfl, ha0, hb⟩
  obtain ⟨a0_b, a0_a, a0_n, a0_c, a0_d, a0_m, a0_e, rfl⟩ := ha0.litb
  refine ⟨_, rfl, ?_, hb⟩
  have HG := Lib.hid (below_call HG.out hb)
  have Ha0 := Lib.hid ha0
  clear hb ha0
  simp only [Act.put, List.setIfInBounds_toArray, List.set_cons_zero, List.set_cons_succ]
  refine good_callX 7 31 (some 29) #[Go.Operand.tmp 28] #[25] (none) #[.agg #[.bool a0_b, .slice a0_a a0_n a0_c, .slice a0_d a0_m a0_e]] (by kernel_rfl) Hok.out (by kernel_rfl) (by kernel_rfl) (by kernel_rfl) (by kernel_rfl) rfl rfl rfl (by kernel_rfl) (fun w12 hb => ?_)
  have Ha0 := Lib.hid (CR.keep Ha0.out (Keep.call hb))
  have HG := Lib.hid (below_call HG.out hb)
  clear hb
  (first | (have hcall := rfloor_ar Ha0.out.ar (by omega); refine Calls.mono hcall ?_; clear hcall) | refine Calls.mono (rfloor_ar Ha0.out.ar (by omega)) ?_)
  rintro e w13 ⟨v13, rfl, hf0, hb⟩
  obtain ⟨f0_b, f0_a, f0_n, f0_c, rfl⟩ := hf0.litb
  refine ⟨_, rfl, ?_, hb⟩
  have HG := Lib.hid (below_call HG.out hb)
  have Hf0 := Lib.hid hf0
  clear hb hf0
  simp only [Act.put, List.setIfInBounds_toArray, List.set_cons_zero, List.set_cons_succ]
  refine good_end1 1 Hok.out (by kernel_rfl) (by kernel_rfl) (by kernel_rfl) (fun _ gc0 w14 hb ec0 xc0 => ?_)
  have Hf0 := Lib.hid (CL.keep Hf0.out (Keep.call hb))
  have HG := Lib.hid (below_call HG.out hb)
  clear hb
  have Na0c0 := Lib.hid (show w.heap.size ≠ gc0 from Nat.ne_of_lt (Nat.lt_of_lt_of_le Xa0.out.lt ec0))
  have Nb0c0 := Lib.hid (show w4.heap.size ≠ gc0 from Nat.ne_of_lt (Nat.lt_of_lt_of_le Xb0.out.lt ec0))
  have Gc0 := Lib.hid (show w.heap.size ≤ gc0 from Nat.le_trans HB.out.size ec0)
  have Ec0 := Lib.hid ec0
  clear ec0
  have Xa0 := Lib.hid (Box.pcall HG.out Xa0.out)
  have Xb0 := Lib.hid (Box.pcall HG.out Xb0.out)
  have HB := Lib.hid (below_call HB.out HG.out)
  have HS := Lib.hid (SE.of (E := []) HG.out)
  have Xc0 := Lib.hid xc0
  clear xc0
  simp only [Act.put, List.setIfInBounds_toArray, List.set_cons_zero, List.set_cons_succ]
  refine held_oneX 9 (Go.Op.store 49 (Go.Operand.tmp 9) (Go.Operand.tmp 29)) (none) (World.setCell (World.setCell w14 ⟨gc0, 0, none⟩ (.bool f0_b)) ⟨gc0, 1, none⟩ (.slice f0_a f0_n f0_c)) (by kernel_rfl) (by kernel_rfl) (by kernel_rfl) (by kernel_rfl) ?_ (HS.out.store2 (.inr Ec0.out)) ?_
  · obtain ⟨cc00, cc01, fc00, fc01⟩ := Xc0.out.c2
    first | (go_simp; done) | (go_simp; simp_all; done) | (go_simp; rfl)
  obtain ⟨W15, hW⟩ : ∃ W15, W15 = (World.setCell (World.setCell w14 ⟨gc0, 0, none⟩ (.bool f0_b)) ⟨gc0, 1, none⟩ (.slice f0_a f0_n f0_c)) := ⟨_, rfl⟩
  rw [← hW]
  obtain ⟨xc0, hk, hf, hbb, hz⟩ := stored2s hW Xc0.out (by first | exact NoInt.bool _ | exact NoInt.slice _ _ _) (by first | exact NoInt.bool _ | exact NoInt.slice _ _ _)
  have Hf0 := Lib.hid (CL.keep Hf0.out hk)
  have Xa0 := Lib.hid (hf _ _ _ Xa0.out Na0c0.out)
  have Xb0 := Lib.hid (hf _ _ _ Xb0.out Nb0c0.out)
  have Xc0 := Lib.hid xc0
  have HB := Lib.hid (hbb _ HB.out Gc0.out)
  have HS := Lib.hid (show SE (W5.drew) [] W15 from by rw [hW]; exact HS.out.store2 (.inr Ec0.out))
  clear hW hk hf hbb xc0
  clear hz
  refine wpAnyH_done (by kernel_rfl) ?_ _
  clear HG HS Hok Ec0
  obtain ⟨ca00, ca01, ca02, fa00, fa01, fa02⟩ := Xa0.out.c3
  have la0 := Xa0.out.lt
  obtain ⟨cb00, cb01, cb02, fb00, fb01, fb02⟩ := Xb0.out.c3
  have lb0 := Xb0.out.lt
  obtain ⟨cc00, cc01, fc00, fc01⟩ := Xc0.out.c2
  have lc0 := Xc0.out.lt
  go_wp2_with fail
  clear ca00 ca01 ca02 fa00 fa01 fa02 la0 cb00 cb01 cb02 fb00 fb01 fb02 lb0 cc00 cc01 fc00 fc01 lc0
  (first | (have hcall := iint_at HN.out Hf0.out.ai; refine Calls.mono hcall ?_; clear hcall) | refine Calls.mono (iint_at HN.out Hf0.out.ai) ?_)
  rintro e w16 ⟨v16, rfl, rfl, hb⟩
  have Xa0 := Lib.hid (Box.pcall hb Xa0.out)
  have Xb0 := Lib.hid (Box.pcall hb Xb0.out)
  have Xc0 := Lib.hid (Box.pcall hb Xc0.out)
  have HB := Lib.hid (below_call HB.out hb)
  clear hb
  obtain ⟨ca00, ca01, ca02, fa00, fa01, fa02⟩ := Xa0.out.c3
  have la0 := Xa0.out.lt
  obtain ⟨cb00, cb01, cb02, fb00, fb01, fb02⟩ := Xb0.out.c3
  have lb0 := Xb0.out.lt
  obtain ⟨cc00, cc01, fc00, fc01⟩ := Xc0.out.c2
  have lc0 := Xc0.out.lt
  go_wp2
  clear ca00 ca01 ca02 fa00 fa01 fa02 la0 cb00 cb01 cb02 fb00 fb01 fb02 lb0 cc00 cc01 fc00 fc01 lc0
  exact ret_tt rfl rfl rfl rfl rfl HB.out


set_option maxRecDepth 100000 in
set_option maxHeartbeats 4000000 in
theorem fro_p {L : Nat} {s : Nat} {nx dx : Nat} {sx tx : Value} {w : World} (hv : decide (0 ≤ ((s : Nat) : Int) ∧ ((s : Nat) : Int) ≤ 62) = true) (h1 : -9223372036854775808 ≤ ((2 ^ s : Nat) : Int)) (h2 : ((2 ^ s : Nat) : Int) < 9223372036854775808) (hsh : Op.shift BinOp.shl IntKind.i64 1 IntKind.i64 ((s : Nat) : Int) = pure (.int .i64 (((2 ^ s : Nat) : Nat) : Int))) (N : Int) (hN : intV (rv false nx dx * tw s + ((1 : Int) : Rat) / ((2 : Int) : Rat)).floor = N ∧ intB (rv false nx dx * tw s + ((1 : Int) : Rat) / ((2 : Int) : Rat)).floor = true) (hg : decide (4611686018427387904 < N) = false) (hnx : Is nx L w sx) (hdx : Is dx L w tx) (hL : L ≤ 10000)  :
    Calls Try.prog 12 #[.agg #[.bool false, sx, tx], .int .i64 ((s : Nat) : Int)] w (Ret w (Val (.tuple #[.int .i64 N, .int .i64 0]))) := by
  have Hnx := Lib.hid hnx
  have Hdx := Lib.hid hdx
  have Hv := Lib.hid hv
  have H1 := Lib.hid h1
  have H2 := Lib.hid h2
  have HN := Lib.hid hN
  clear hnx hdx hv h1 h2 hN
  go_enter Try.func12, Try.ntmps12
  have HB := Lib.hid (Below.refl w.heap.size w)
  go_wp2_with fail
  obtain ⟨W1, hW⟩ : ∃ W1, W1 = (World.alloc w (.cells #[.bool false, sx, tx] 25)) := ⟨_, rfl⟩
  rw [← hW]
  obtain ⟨xa0, hk, hb⟩ := boxes_1 _ _ _ hW
  clear hW
  have Hnx := Lib.hid (Is.keep Hnx.out hk)
  have Hdx := Lib.hid (Is.keep Hdx.out hk)
  have Ga0 := Lib.hid (show w.heap.size ≤ w.heap.size from Nat.le_trans HB.out.size (by omega))
  have Xa0 := Lib.hid xa0
  have HB := Lib.hid (below_call HB.out hb)
  clear hk hb xa0
  refine Calls.mono (fvalid_any _ _ Hv.out) ?_
  rintro e w2 ⟨v2, rfl, rfl, hb⟩
  have Hnx := Lib.hid (Is.keep Hnx.out (Keep.call hb))
  have Hdx := Lib.hid (Is.keep Hdx.out (Keep.call hb))
  have Xa0 := Lib.hid (Box.pcall hb Xa0.out)
  have HB := Lib.hid (below_call HB.out hb)
  clear hb
  obtain ⟨ca00, ca01, ca02, fa00, fa01, fa02⟩ := Xa0.out.c3
  have la0 := Xa0.out.lt
  go_wp2_with fail
  clear ca00 ca01 ca02 fa00 fa01 fa02 la0
  obtain ⟨W3, hW⟩ : ∃ W3, W3 = (World.setCell w2 ⟨w.heap.size, 0, none⟩ (.bool false)) := ⟨_, rfl⟩
  rw [← hW]
  obtain ⟨xa0, hk, hf, hbb, hz⟩ := stored3_0s hW Xa0.out (by first | exact NoInt.bool _ | exact NoInt.slice _ _ _)
  have Hnx := Lib.hid (Is.keep Hnx.out hk)
  have Hdx := Lib.hid (Is.keep Hdx.out hk)
  have Xa0 := Lib.hid xa0
  have HB := Lib.hid (hbb _ HB.out Ga0.out)
  clear hW hk hf hbb xa0
  clear hz
  refine Calls.mono (rfrac_1 (x := 1) (y := 2) (by decide) (by decide) (by decide) (by decide) (by decide)) ?_
  rintro e w4 ⟨t4, rfl, ⟨v4, rfl, hhf⟩, hb⟩
  obtain ⟨hf_b, hf_a, hf_n, hf_c, hf_d, hf_m, hf_e, rfl⟩ := hhf.litb
  have Hnx := Lib.hid (Is.keep Hnx.out (Keep.call hb))
  have Hdx := Lib.hid (Is.keep Hdx.out (Keep.call hb))
  have Xa0 := Lib.hid (Box.pcall hb Xa0.out)
  have HB := Lib.hid (below_call HB.out hb)
  have Hhf := Lib.hid hhf
  clear hb hhf
  obtain ⟨ca00, ca01, ca02, fa00, fa01, fa02⟩ := Xa0.out.c3
  have la0 := Xa0.out.lt
  go_wp2_with fail
  clear ca00 ca01 ca02 fa00 fa01 fa02 la0
  obtain ⟨W5, hW⟩ : ∃ W5, W5 = (World.alloc w4 (.cells #[.bool hf_b, .slice hf_a hf_n hf_c, .slice hf_d hf_m hf_e] 25)) := ⟨_, rfl⟩
  rw [← hW]
  obtain ⟨xb0, hk, hb⟩ := boxes_1 _ _ _ hW
  clear hW
  have Hnx := Lib.hid (Is.keep Hnx.out hk)
  have Hdx := Lib.hid (Is.keep Hdx.out hk)
  have Hhf := Lib.hid (CR.keep Hhf.out hk)
  have Na0b0 := Lib.hid (show w.heap.size ≠ w4.heap.size from Nat.ne_of_lt (Nat.lt_of_lt_of_le Xa0.out.lt (by omega)))
  have Gb0 := Lib.hid (show w.heap.size ≤ w4.heap.size from Nat.le_trans HB.out.size (by omega))
  have Xa0 := Lib.hid (Box.pcall hb Xa0.out)
  have Xb0 := Lib.hid xb0
  have HB := Lib.hid (below_call HB.out hb)
  clear hk hb xb0
  have Hnx := Lib.hid (Is.keep Hnx.out (Keep.drew W5))
  have Hdx := Lib.hid (Is.keep Hdx.out (Keep.drew W5))
  have Hhf := Lib.hid (CR.keep Hhf.out (Keep.drew W5))
  have Xa0 := Lib.hid (Box.drew Xa0.out)
  have Xb0 := Lib.hid (Box.drew Xb0.out)
  have HB := Lib.hid (Below.drew HB.out)
  refine wp_region_float [] [⟨8, 9, 49, #[.bool false, .slice none 0 0]⟩] (by kernel_rfl) (by kernel_rfl) 45 (by kernel_rfl) (Flok.one (by kernel_rfl) (by kernel_rfl) (by kernel_rfl) (by intro w; go_simp)) ?_
  intro ok
  have Hok := Lib.hid ok
  clear ok
  have HG := Lib.hid (Below.refl (W5.drew).heap.size (W5.drew))
  refine good_pureX 0 (some 22) (Go.Op.load 25 (Go.Operand.tmp 2)) (none) (.agg #[.bool false, sx, tx]) (by kernel_rfl) (by kernel_rfl) (by kernel_rfl) (fun _ _ _ h => h) (fun w' hw' => ?_) ?_
  · obtain ⟨ca00, ca01, ca02, fa00, fa01, fa02⟩ := (Box.se hw' Xa0.out notin0).c3
    first | (go_simp; done) | (go_simp; simp_all; done) | (go_simp; rfl)
  simp only [Act.put, List.setIfInBounds_toArray, List.set_cons_zero, List.set_cons_succ]
  refine good_pureX 1 (some 23) (Go.Op.move (Go.Operand.tmp 1)) (none) (.int .i64 ((s : Nat) : Int)) (by kernel_rfl) (by kernel_rfl) (by kernel_rfl) (fun _ _ _ h => h) (fun w' hw' => ?_) ?_
  · first | (go_simp; done) | (go_simp; simp_all; done) | (go_simp; rfl)
  simp only [Act.put, List.setIfInBounds_toArray, List.set_cons_zero, List.set_cons_succ]
  refine good_pureX 2 (some 24) (Go.Op.binOp Go.BinOp.shl 3 (Go.Operand.const (Go.Value.int Go.IntKind.i64 1)) (Go.Operand.tmp 23) 3) (none) (.int .i64 ((2 ^ s : Nat) : Int)) (by kernel_rfl) (by kernel_rfl) (by kernel_rfl) (fun _ _ _ h => h) (fun w' hw' => ?_) ?_
  · first | (go_simp; done) | (go_simp; simp_all; done) | (go_simp; rfl)
  simp only [Act.put, List.setIfInBounds_toArray, List.set_cons_zero, List.set_cons_succ]
  refine good_pureX 5 (some 27) (Go.Op.load 25 (Go.Operand.tmp 7)) (none) (.agg #[.bool hf_b, .slice hf_a hf_n hf_c, .slice hf_d hf_m hf_e]) (by kernel_rfl) (by kernel_rfl) (by kernel_rfl) (fun _ _ _ h => h) (fun w' hw' => ?_) ?_
  · obtain ⟨cb00, cb01, cb02, fb00, fb01, fb02⟩ := (Box.se hw' Xb0.out notin0).c3
    first | (go_simp; done) | (go_simp; simp_all; done) | (go_simp; rfl)
  simp only [Act.put, List.setIfInBounds_toArray, List.set_cons_zero, List.set_cons_succ]
  refine good_callX 3 34 (some 25) #[Go.Operand.tmp 24] #[3] (none) #[.int .i64 ((2 ^ s : Nat) : Int)] (by kernel_rfl) Hok.out (by kernel_rfl) (by kernel_rfl) (by kernel_rfl) (by kernel_rfl) rfl rfl rfl (by kernel_rfl) (fun w6 hb => ?_)
  have HG := Lib.hid (below_call HG.out hb)
  clear hb
  refine Calls.mono (of_rat (x := ((2 ^ s : Nat) : Int)) H1.out H2.out) ?_
  rintro e w7 ⟨v7, rfl, hp, hb⟩
  obtain ⟨p_b, p_a, p_n, p_c, p_d, p_m, p_e, rfl⟩ := hp.litb
  refine ⟨_, rfl, ?_, hb⟩
  have HG := Lib.hid (below_call HG.out hb)
  have Hp := Lib.hid hp
  clear hb hp
  simp only [Act.put, List.setIfInBounds_toArray, List.set_cons_zero, List.set_cons_succ]
  refine good_callX 4 33 (some 26) #[Go.Operand.tmp 22, Go.Operand.tmp 25] #[25, 25] (none) #[.agg #[.bool false, sx, tx], .agg #[.bool p_b, .slice p_a p_n p_c, .slice p_d p_m p_e]] (by kernel_rfl) Hok.out (by kernel_rfl) (by kernel_rfl) (by kernel_rfl) (by kernel_rfl) rfl rfl rfl (by kernel_rfl) (fun w8 hb => ?_)
  have Hp := Lib.hid (CR.keep Hp.out (Keep.call hb))
  have HG := Lib.hid (below_call HG.out hb)
  clear hb
  (first | (have hcall := rmul_ar (AR.mk (neg := false) (Is.keep Hnx.out (Keep.call HG.out)) (Is.keep Hdx.out (Keep.call HG.out))) Hp.out.ar (by omega) (by omega); refine Calls.mono hcall ?_; clear hcall) | refine Calls.mono (rmul_ar (AR.mk (neg := false) (Is.keep Hnx.out (Keep.call HG.out)) (Is.keep Hdx.out (Keep.call HG.out))) Hp.out.ar (by omega) (by omega)) ?_)
  rintro e w9 ⟨v9, rfl, hm, hb⟩
  obtain ⟨m_b, m_a, m_n, m_c, m_d, m_m, m_e, rfl⟩ := hm.litb
  refine ⟨_, rfl, ?_, hb⟩
  have HG := Lib.hid (below_call HG.out hb)
  have Hm := Lib.hid hm
  clear hb hm
  simp only [Act.put, List.setIfInBounds_toArray, List.set_cons_zero, List.set_cons_succ]
  refine good_callX 6 32 (some 28) #[Go.Operand.tmp 26, Go.Operand.tmp 27] #[25, 25] (none) #[.agg #[.bool m_b, .slice m_a m_n m_c, .slice m_d m_m m_e], .agg #[.bool hf_b, .slice hf_a hf_n hf_c, .slice hf_d hf_m hf_e]] (by kernel_rfl) Hok.out (by kernel_rfl) (by kernel_rfl) (by kernel_rfl) (by kernel_rfl) rfl rfl rfl (by kernel_rfl) (fun w10 hb => ?_)
  have Hm := Lib.hid (CR.keep Hm.out (Keep.call hb))
  have HG := Lib.hid (below_call HG.out hb)
  clear hb
  (first | (have hcall := radd_ar Hm.out.ar (CR.keep Hhf.out (Keep.call HG.out)).ar (by omega) (by omega); refine Calls.mono hcall ?_; clear hcall) | refine Calls.mono (radd_ar Hm.out.ar (CR.keep Hhf.out (Keep.call HG.out)).ar (by omega) (by omega)) ?_)
  rintro e w11 ⟨v11, rfl, ha0, hb⟩
  obtain ⟨a0_b, a0_a, a0_n, a0_c, a0_d, a0_m, a0_e, rfl⟩ := ha0.litb
  refine ⟨_, rfl, ?_, hb⟩
  have HG := Lib.hid (below_call HG.out hb)
  have Ha0 := Lib.hid ha0
  clear hb ha0
  simp only [Act.put, List.setIfInBounds_toArray, List.set_cons_zero, List.set_cons_succ]
  refine good_callX 7 31 (some 29) #[Go.Operand.tmp 28] #[25] (none) #[.agg #[.bool a0_b, .slice a0_a a0_n a0_c, .slice a0_d a0_m a0_e]] (by kernel_rfl) Hok.out (by kernel_rfl) (by kernel_rfl) (by kernel_rfl) (by kernel_rfl) rfl rfl rfl (by kernel_rfl) (fun w12 hb => ?_)
  have Ha0 := Lib.hid (CR.keep Ha0.out (Keep.call hb))
  have HG := Lib.hid (below_call HG.out hb)
  clear hb
  (first | (have hcall := rfloor_ar Ha0.out.ar (by omega); refine Calls.mono hcall ?_; clear hcall) | refine Calls.mono (rfloor_ar Ha0.out.ar (by omega)) ?_)
  rintro e w13 ⟨v13, rfl, hf0, hb⟩
  obtain ⟨f0_b, f0_a, f0_n, f0_c, rfl⟩ := hf0.litb
  refine ⟨_, rfl, ?_, hb⟩
  have HG := Lib.hid (below_call HG.out hb)
  have Hf0 := Lib.hid hf0
  clear hb hf0
  simp only [Act.put, List.setIfInBounds_toArray, List.set_cons_zero, List.set_cons_succ]
  refine good_end1 1 Hok.out (by kernel_rfl) (by kernel_rfl) (by kernel_rfl) (fun _ gc0 w14 hb ec0 xc0 => ?_)
  have Hf0 := Lib.hid (CL.keep Hf0.out (Keep.call hb))
  have HG := Lib.hid (below_call HG.out hb)
  clear hb
  have Na0c0 := Lib.hid (show w.heap.size ≠ gc0 from Nat.ne_of_lt (Nat.lt_of_lt_of_le Xa0.out.lt ec0))
  have Nb0c0 := Lib.hid (show w4.heap.size ≠ gc0 from Nat.ne_of_lt (Nat.lt_of_lt_of_le Xb0.out.lt ec0))
  have Gc0 := Lib.hid (show w.heap.size ≤ gc0 from Nat.le_trans HB.out.size ec0)
  have Ec0 := Lib.hid ec0
  clear ec0
  have Xa0 := Lib.hid (Box.pcall HG.out Xa0.out)
  have Xb0 := Lib.hid (Box.pcall HG.out Xb0.out)
  have HB := Lib.hid (below_call HB.out HG.out)
  have HS := Lib.hid (SE.of (E := []) HG.out)
  have Xc0 := Lib.hid xc0
  clear xc0
  simp only [Act.put, List.setIfInBounds_toArray, List.set_cons_zero, List.set_cons_succ]
  refine held_oneX 9 (Go.Op.store 49 (Go.Operand.tmp 9) (Go.Operand.tmp 29)) (none) (World.setCell (World.setCell w14 ⟨gc0, 0, none⟩ (.bool f0_b)) ⟨gc0, 1, none⟩ (.slice f0_a f0_n f0_c)) (by kernel_rfl) (by kernel_rfl) (by kernel_rfl) (by kernel_rfl) ?_ (HS.out.store2 (.inr Ec0.out)) ?_
  · obtain ⟨cc00, cc01, fc00, fc01⟩ := Xc0.out.c2
    first | (go_simp; done) | (go_simp; simp_all; done) | (go_simp; rfl)
  obtain ⟨W15, hW⟩ : ∃ W15, W15 = (World.setCell (World.setCell w14 ⟨gc0, 0, none⟩ (.bool f0_b)) ⟨gc0, 1, none⟩ (.slice f0_a f0_n f0_c)) := ⟨_, rfl⟩
  rw [← hW]
  obtain ⟨xc0, hk, hf, hbb, hz⟩ := stored2s hW Xc0.out (by first | exact NoInt.bool _ | exact NoInt.slice _ _ _) (by first | exact NoInt.bool _ | exact NoInt.slice _ _ _)
  have Hf0 := Lib.hid (CL.keep Hf0.out hk)
  have Xa0 := Lib.hid (hf _ _ _ Xa0.out Na0c0.out)
  have Xb0 := Lib.hid (hf _ _ _ Xb0.out Nb0c0.out)
  have Xc0 := Lib.hid xc0
  have HB := Lib.hid (hbb _ HB.out Gc0.out)
  have HS := Lib.hid (show SE (W5.drew) [] W15 from by rw [hW]; exact HS.out.store2 (.inr Ec0.out))
  clear hW hk hf hbb xc0
  clear hz
  refine wpAnyH_done (by kernel_rfl) ?_ _
  clear HG HS Hok Ec0
  obtain ⟨ca00, ca01, ca02, fa00, fa01, fa02⟩ := Xa0.out.c3
  have la0 := Xa0.out.lt
  obtain ⟨cb00, cb01, cb02, fb00, fb01, fb02⟩ := Xb0.out.c3
  have lb0 := Xb0.out.lt
  obtain ⟨cc00, cc01, fc00, fc01⟩ := Xc0.out.c2
  have lc0 := Xc0.out.lt
  go_wp2_with fail
  clear ca00 ca01 ca02 fa00 fa01 fa02 la0 cb00 cb01 cb02 fb00 fb01 fb02 lb0 cc00 cc01 fc00 fc01 lc0
  (first | (have hcall := iint_at HN.out Hf0.out.ai; refine Calls.mono hcall ?_; clear hcall) | refine Calls.mono (iint_at HN.out Hf0.out.ai) ?_)
  rintro e w16 ⟨v16, rfl, rfl, hb⟩
  have Xa0 := Lib.hid (Box.pcall hb Xa0.out)
  have Xb0 := Lib.hid (Box.pcall hb Xb0.out)
  have Xc0 := Lib.hid (Box.pcall hb Xc0.out)
  have HB := Lib.hid (below_call HB.out hb)
  clear hb
  obtain ⟨ca00, ca01, ca02, fa00, fa01, fa02⟩ := Xa0.out.c3
  have la0 := Xa0.out.lt
  obtain ⟨cb00, cb01, cb02, fb00, fb01, fb02⟩ := Xb0.out.c3
  have lb0 := Xb0.out.lt
  obtain ⟨cc00, cc01, fc00, fc01⟩ := Xc0.out.c2
  have lc0 := Xc0.out.lt
  go_wp2
  clear ca00 ca01 ca02 fa00 fa01 fa02 la0 cb00 cb01 cb02 fb00 fb01 fb02 lb0 cc00 cc01 fc00 fc01 lc0
  exact ret_tt rfl rfl rfl rfl rfl HB.out


set_option maxRecDepth 100000 in
set_option maxHeartbeats 4000000 in
theorem fro_n {L : Nat} {s : Nat} {nx dx : Nat} {sx tx : Value} {w : World} (hv : decide (0 ≤ ((s : Nat) : Int) ∧ ((s : Nat) : Int) ≤ 62) = true) (h1 : -9223372036854775808 ≤ ((2 ^ s : Nat) : Int)) (h2 : ((2 ^ s : Nat) : Int) < 9223372036854775808) (hsh : Op.shift BinOp.shl IntKind.i64 1 IntKind.i64 ((s : Nat) : Int) = pure (.int .i64 (((2 ^ s : Nat) : Nat) : Int))) (N : Int) (hN : intV (rv false nx dx * tw s + ((1 : Int) : Rat) / ((2 : Int) : Rat)).floor = N ∧ intB (rv false nx dx * tw s + ((1 : Int) : Rat) / ((2 : Int) : Rat)).floor = true) (hg : decide (4611686018427387904 < N) = false) (hw : IntKind.i64.wrap (-N) = -N) (hnx : Is nx L w sx) (hdx : Is dx L w tx) (hL : L ≤ 10000)  :
    Calls Try.prog 12 #[.agg #[.bool true, sx, tx], .int .i64 ((s : Nat) : Int)] w (Ret w (Val (.tuple #[.int .i64 (-N), .int .i64 0]))) := by
  have Hnx := Lib.hid hnx
  have Hdx := Lib.hid hdx
  have Hv := Lib.hid hv
  have H1 := Lib.hid h1
  have H2 := Lib.hid h2
  have HN := Lib.hid hN
  clear hnx hdx hv h1 h2 hN
  go_enter Try.func12, Try.ntmps12
  have HB := Lib.hid (Below.refl w.heap.size w)
  go_wp2_with fail
  obtain ⟨W1, hW⟩ : ∃ W1, W1 = (World.alloc w (.cells #[.bool true, sx, tx] 25)) := ⟨_, rfl⟩
  rw [← hW]
  obtain ⟨xa0, hk, hb⟩ := boxes_1 _ _ _ hW
  clear hW
  have Hnx := Lib.hid (Is.keep Hnx.out hk)
  have Hdx := Lib.hid (Is.keep Hdx.out hk)
  have Ga0 := Lib.hid (show w.heap.size ≤ w.heap.size from Nat.le_trans HB.out.size (by omega))
  have Xa0 := Lib.hid xa0
  have HB := Lib.hid (below_call HB.out hb)
  clear hk hb xa0
  refine Calls.mono (fvalid_any _ _ Hv.out) ?_
  rintro e w2 ⟨v2, rfl, rfl, hb⟩
  have Hnx := Lib.hid (Is.keep Hnx.out (Keep.call hb))
  have Hdx := Lib.hid (Is.keep Hdx.out (Keep.call hb))
  have Xa0 := Lib.hid (Box.pcall hb Xa0.out)
  have HB := Lib.hid (below_call HB.out hb)
  clear hb
  obtain ⟨ca00, ca01, ca02, fa00, fa01, fa02⟩ := Xa0.out.c3
  have la0 := Xa0.out.lt
  go_wp2_with fail
  clear ca00 ca01 ca02 fa00 fa01 fa02 la0
  obtain ⟨W3, hW⟩ : ∃ W3, W3 = (World.setCell w2 ⟨w.heap.size, 0, none⟩ (.bool false)) := ⟨_, rfl⟩
  rw [← hW]
  obtain ⟨xa0, hk, hf, hbb, hz⟩ := stored3_0s hW Xa0.out (by first | exact NoInt.bool _ | exact NoInt.slice _ _ _)
  have Hnx := Lib.hid (Is.keep Hnx.out hk)
  have Hdx := Lib.hid (Is.keep Hdx.out hk)
  have Xa0 := Lib.hid xa0
  have HB := Lib.hid (hbb _ HB.out Ga0.out)
  clear hW hk hf hbb xa0
  clear hz
  refine Calls.mono (rfrac_1 (x := 1) (y := 2) (by decide) (by decide) (by decide) (by decide) (by decide)) ?_
  rintro e w4 ⟨t4, rfl, ⟨v4, rfl, hhf⟩, hb⟩
  obtain ⟨hf_b, hf_a, hf_n, hf_c, hf_d, hf_m, hf_e, rfl⟩ := hhf.litb
  have Hnx := Lib.hid (Is.keep Hnx.out (Keep.call hb))
  have Hdx := Lib.hid (Is.keep Hdx.out (Keep.call hb))
  have Xa0 := Lib.hid (Box.pcall hb Xa0.out)
  have HB := Lib.hid (below_call HB.out hb)
  have Hhf := Lib.hid hhf
  clear hb hhf
  obtain ⟨ca00, ca01, ca02, fa00, fa01, fa02⟩ := Xa0.out.c3
  have la0 := Xa0.out.lt
  go_wp2_with fail
  clear ca00 ca01 ca02 fa00 fa01 fa02 la0
  obtain ⟨W5, hW⟩ : ∃ W5, W5 = (World.alloc w4 (.cells #[.bool hf_b, .slice hf_a hf_n hf_c, .slice hf_d hf_m hf_e] 25)) := ⟨_, rfl⟩
  rw [← hW]
  obtain ⟨xb0, hk, hb⟩ := boxes_1 _ _ _ hW
  clear hW
  have Hnx := Lib.hid (Is.keep Hnx.out hk)
  have Hdx := Lib.hid (Is.keep Hdx.out hk)
  have Hhf := Lib.hid (CR.keep Hhf.out hk)
  have Na0b0 := Lib.hid (show w.heap.size ≠ w4.heap.size from Nat.ne_of_lt (Nat.lt_of_lt_of_le Xa0.out.lt (by omega)))
  have Gb0 := Lib.hid (show w.heap.size ≤ w4.heap.size from Nat.le_trans HB.out.size (by omega))
  have Xa0 := Lib.hid (Box.pcall hb Xa0.out)
  have Xb0 := Lib.hid xb0
  have HB := Lib.hid (below_call HB.out hb)
  clear hk hb xb0
  have Hnx := Lib.hid (Is.keep Hnx.out (Keep.drew W5))
  have Hdx := Lib.hid (Is.keep Hdx.out (Keep.drew W5))
  have Hhf := Lib.hid (CR.keep Hhf.out (Keep.drew W5))
  have Xa0 := Lib.hid (Box.drew Xa0.out)
  have Xb0 := Lib.hid (Box.drew Xb0.out)
  have HB := Lib.hid (Below.drew HB.out)
  refine wp_region_float [] [⟨8, 9, 49, #[.bool false, .slice none 0 0]⟩] (by kernel_rfl) (by kernel_rfl) 45 (by kernel_rfl) (Flok.one (by kernel_rfl) (by kernel_rfl) (by kernel_rfl) (by intro w; go_simp)) ?_
  intro ok
  have Hok := Lib.hid ok
  clear ok
  have HG := Lib.hid (Below.refl (W5.drew).heap.size (W5.drew))
  refine good_pureX 0 (some 22) (Go.Op.load 25 (Go.Operand.tmp 2)) (none) (.agg #[.bool false, sx, tx]) (by kernel_rfl) (by kernel_rfl) (by kernel_rfl) (fun _ _ _ h => h) (fun w' hw' => ?_) ?_
  · obtain ⟨ca00, ca01, ca02, fa00, fa01, fa02⟩ := (Box.se hw' Xa0.out notin0).c3
    first | (go_simp; done) | (go_simp; simp_all; done) | (go_simp; rfl)
  simp only [Act.put, List.setIfInBounds_toArray, List.set_cons_zero, List.set_cons_succ]
  refine good_pureX 1 (some 23) (Go.Op.move (Go.Operand.tmp 1)) (none) (.int .i64 ((s : Nat) : Int)) (by kernel_rfl) (by kernel_rfl) (by kernel_rfl) (fun _ _ _ h => h) (fun w' hw' => ?_) ?_
  · first | (go_simp; done) | (go_simp; simp_all; done) | (go_simp; rfl)
  simp only [Act.put, List.setIfInBounds_toArray, List.set_cons_zero, List.set_cons_succ]
  refine good_pureX 2 (some 24) (Go.Op.binOp Go.BinOp.shl 3 (Go.Operand.const (Go.Value.int Go.IntKind.i64 1)) (Go.Operand.tmp 23) 3) (none) (.int .i64 ((2 ^ s : Nat) : Int)) (by kernel_rfl) (by kernel_rfl) (by kernel_rfl) (fun _ _ _ h => h) (fun w' hw' => ?_) ?_
  · first | (go_simp; done) | (go_simp; simp_all; done) | (go_simp; rfl)
  simp only [Act.put, List.setIfInBounds_toArray, List.set_cons_zero, List.set_cons_succ]
  refine good_pureX 5 (some 27) (Go.Op.load 25 (Go.Operand.tmp 7)) (none) (.agg #[.bool hf_b, .slice hf_a hf_n hf_c, .slice hf_d hf_m hf_e]) (by kernel_rfl) (by kernel_rfl) (by kernel_rfl) (fun _ _ _ h => h) (fun w' hw' => ?_) ?_
  · obtain ⟨cb00, cb01, cb02, fb00, fb01, fb02⟩ := (Box.se hw' Xb0.out notin0).c3
    first | (go_simp; done) | (go_simp; simp_all; done) | (go_simp; rfl)
  simp only [Act.put, List.setIfInBounds_toArray, List.set_cons_zero, List.set_cons_succ]
  refine good_callX 3 34 (some 25) #[Go.Operand.tmp 24] #[3] (none) #[.int .i64 ((2 ^ s : Nat) : Int)] (by kernel_rfl) Hok.out (by kernel_rfl) (by kernel_rfl) (by kernel_rfl) (by kernel_rfl) rfl rfl rfl (by kernel_rfl) (fun w6 hb => ?_)
  have HG := Lib.hid (below_call HG.out hb)
  clear hb
  refine Calls.mono (of_rat (x := ((2 ^ s : Nat) : Int)) H1.out H2.out) ?_
  rintro e w7 ⟨v7, rfl, hp, hb⟩
  obtain ⟨p_b, p_a, p_n, p_c, p_d, p_m, p_e, rfl⟩ := hp.litb
  refine ⟨_, rfl, ?_, hb⟩
  have HG := Lib.hid (below_call HG.out hb)
  have Hp := Lib.hid hp
  clear hb hp
  simp only [Act.put, List.setIfInBounds_toArray, List.set_cons_zero, List.set_cons_succ]
  refine good_callX 4 33 (some 26) #[Go.Operand.tmp 22, Go.Operand.tmp 25] #[25, 25] (none) #[.agg #[.bool false, sx, tx], .agg #[.bool p_b, .slice p_a p_n p_c, .slice p_d p_m p_e]] (by kernel_rfl) Hok.out (by kernel_rfl) (by kernel_rfl) (by kernel_rfl) (by kernel_rfl) rfl rfl rfl (by kernel_rfl) (fun w8 hb => ?_)
  have Hp := Lib.hid (CR.keep Hp.out (Keep.call hb))
  have HG := Lib.hid (below_call HG.out hb)
  clear hb
  (first | (have hcall := rmul_ar (AR.mk (neg := false) (Is.keep Hnx.out (Keep.call HG.out)) (Is.keep Hdx.out (Keep.call HG.out))) Hp.out.ar (by omega) (by omega); refine Calls.mono hcall ?_; clear hcall) | refine Calls.mono (rmul_ar (AR.mk (neg := false) (Is.keep Hnx.out (Keep.call HG.out)) (Is.keep Hdx.out (Keep.call HG.out))) Hp.out.ar (by omega) (by omega)) ?_)
  rintro e w9 ⟨v9, rfl, hm, hb⟩
  obtain ⟨m_b, m_a, m_n, m_c, m_d, m_m, m_e, rfl⟩ := hm.litb
  refine ⟨_, rfl, ?_, hb⟩
  have HG := Lib.hid (below_call HG.out hb)
  have Hm := Lib.hid hm
  clear hb hm
  simp only [Act.put, List.setIfInBounds_toArray, List.set_cons_zero, List.set_cons_succ]
  refine good_callX 6 32 (some 28) #[Go.Operand.tmp 26, Go.Operand.tmp 27] #[25, 25] (none) #[.agg #[.bool m_b, .slice m_a m_n m_c, .slice m_d m_m m_e], .agg #[.bool hf_b, .slice hf_a hf_n hf_c, .slice hf_d hf_m hf_e]] (by kernel_rfl) Hok.out (by kernel_rfl) (by kernel_rfl) (by kernel_rfl) (by kernel_rfl) rfl rfl rfl (by kernel_rfl) (fun w10 hb => ?_)
  have Hm := Lib.hid (CR.keep Hm.out (Keep.call hb))
  have HG := Lib.hid (below_call HG.out hb)
  clear hb
  (first | (have hcall := radd_ar Hm.out.ar (CR.keep Hhf.out (Keep.call HG.out)).ar (by omega) (by omega); refine Calls.mono hcall ?_; clear hcall) | refine Calls.mono (radd_ar Hm.out.ar (CR.keep Hhf.out (Keep.call HG.out)).ar (by omega) (by omega)) ?_)
  rintro e w11 ⟨v11, rfl, ha0, hb⟩
  obtain ⟨a0_b, a0_a, a0_n, a0_c, a0_d, a0_m, a0_e, rfl⟩ := ha0.litb
  refine ⟨_, rfl, ?_, hb⟩
  have HG := Lib.hid (below_call HG.out hb)
  have Ha0 := Lib.hid ha0
  clear hb ha0
  simp only [Act.put, List.setIfInBounds_toArray, List.set_cons_zero, List.set_cons_succ]
  refine good_callX 7 31 (some 29) #[Go.Operand.tmp 28] #[25] (none) #[.agg #[.bool a0_b, .slice a0_a a0_n a0_c, .slice a0_d a0_m a0_e]] (by kernel_rfl) Hok.out (by kernel_rfl) (by kernel_rfl) (by kernel_rfl) (by kernel_rfl) rfl rfl rfl (by kernel_rfl) (fun w12 hb => ?_)
  have Ha0 := Lib.hid (CR.keep Ha0.out (Keep.call hb))
  have HG := Lib.hid (below_call HG.out hb)
  clear hb
  (first | (have hcall := rfloor_ar Ha0.out.ar (by omega); refine Calls.mono hcall ?_; clear hcall) | refine Calls.mono (rfloor_ar Ha0.out.ar (by omega)) ?_)
  rintro e w13 ⟨v13, rfl, hf0, hb⟩
  obtain ⟨f0_b, f0_a, f0_n, f0_c, rfl⟩ := hf0.litb
  refine ⟨_, rfl, ?_, hb⟩
  have HG := Lib.hid (below_call HG.out hb)
  have Hf0 := Lib.hid hf0
  clear hb hf0
  simp only [Act.put, List.setIfInBounds_toArray, List.set_cons_zero, List.set_cons_succ]
  refine good_end1 1 Hok.out (by kernel_rfl) (by kernel_rfl) (by kernel_rfl) (fun _ gc0 w14 hb ec0 xc0 => ?_)
  have Hf0 := Lib.hid (CL.keep Hf0.out (Keep.call hb))
  have HG := Lib.hid (below_call HG.out hb)
  clear hb
  have Na0c0 := Lib.hid (show w.heap.size ≠ gc0 from Nat.ne_of_lt (Nat.lt_of_lt_of_le Xa0.out.lt ec0))
  have Nb0c0 := Lib.hid (show w4.heap.size ≠ gc0 from Nat.ne_of_lt (Nat.lt_of_lt_of_le Xb0.out.lt ec0))
  have Gc0 := Lib.hid (show w.heap.size ≤ gc0 from Nat.le_trans HB.out.size ec0)
  have Ec0 := Lib.hid ec0
  clear ec0
  have Xa0 := Lib.hid (Box.pcall HG.out Xa0.out)
  have Xb0 := Lib.hid (Box.pcall HG.out Xb0.out)
  have HB := Lib.hid (below_call HB.out HG.out)
  have HS := Lib.hid (SE.of (E := []) HG.out)
  have Xc0 := Lib.hid xc0
  clear xc0
  simp only [Act.put, List.setIfInBounds_toArray, List.set_cons_zero, List.set_cons_succ]
  refine held_oneX 9 (Go.Op.store 49 (Go.Operand.tmp 9) (Go.Operand.tmp 29)) (none) (World.setCell (World.setCell w14 ⟨gc0, 0, none⟩ (.bool f0_b)) ⟨gc0, 1, none⟩ (.slice f0_a f0_n f0_c)) (by kernel_rfl) (by kernel_rfl) (by kernel_rfl) (by kernel_rfl) ?_ (HS.out.store2 (.inr Ec0.out)) ?_
  · obtain ⟨cc00, cc01, fc00, fc01⟩ := Xc0.out.c2
    first | (go_simp; done) | (go_simp; simp_all; done) | (go_simp; rfl)
  obtain ⟨W15, hW⟩ : ∃ W15, W15 = (World.setCell (World.setCell w14 ⟨gc0, 0, none⟩ (.bool f0_b)) ⟨gc0, 1, none⟩ (.slice f0_a f0_n f0_c)) := ⟨_, rfl⟩
  rw [← hW]
  obtain ⟨xc0, hk, hf, hbb, hz⟩ := stored2s hW Xc0.out (by first | exact NoInt.bool _ | exact NoInt.slice _ _ _) (by first | exact NoInt.bool _ | exact NoInt.slice _ _ _)
  have Hf0 := Lib.hid (CL.keep Hf0.out hk)
  have Xa0 := Lib.hid (hf _ _ _ Xa0.out Na0c0.out)
  have Xb0 := Lib.hid (hf _ _ _ Xb0.out Nb0c0.out)
  have Xc0 := Lib.hid xc0
  have HB := Lib.hid (hbb _ HB.out Gc0.out)
  have HS := Lib.hid (show SE (W5.drew) [] W15 from by rw [hW]; exact HS.out.store2 (.inr Ec0.out))
  clear hW hk hf hbb xc0
  clear hz
  refine wpAnyH_done (by kernel_rfl) ?_ _
  clear HG HS Hok Ec0
  obtain ⟨ca00, ca01, ca02, fa00, fa01, fa02⟩ := Xa0.out.c3
  have la0 := Xa0.out.lt
  obtain ⟨cb00, cb01, cb02, fb00, fb01, fb02⟩ := Xb0.out.c3
  have lb0 := Xb0.out.lt
  obtain ⟨cc00, cc01, fc00, fc01⟩ := Xc0.out.c2
  have lc0 := Xc0.out.lt
  go_wp2_with fail
  clear ca00 ca01 ca02 fa00 fa01 fa02 la0 cb00 cb01 cb02 fb00 fb01 fb02 lb0 cc00 cc01 fc00 fc01 lc0
  (first | (have hcall := iint_at HN.out Hf0.out.ai; refine Calls.mono hcall ?_; clear hcall) | refine Calls.mono (iint_at HN.out Hf0.out.ai) ?_)
  rintro e w16 ⟨v16, rfl, rfl, hb⟩
  have Xa0 := Lib.hid (Box.pcall hb Xa0.out)
  have Xb0 := Lib.hid (Box.pcall hb Xb0.out)
  have Xc0 := Lib.hid (Box.pcall hb Xc0.out)
  have HB := Lib.hid (below_call HB.out hb)
  clear hb
  obtain ⟨ca00, ca01, ca02, fa00, fa01, fa02⟩ := Xa0.out.c3
  have la0 := Xa0.out.lt
  obtain ⟨cb00, cb01, cb02, fb00, fb01, fb02⟩ := Xb0.out.c3
  have lb0 := Xb0.out.lt
  obtain ⟨cc00, cc01, fc00, fc01⟩ := Xc0.out.c2
  have lc0 := Xc0.out.lt
  go_wp2
  clear ca00 ca01 ca02 fa00 fa01 fa02 la0 cb00 cb01 cb02 fb00 fb01 fb02 lb0 cc00 cc01 fc00 fc01 lc0
  exact ret_tt rfl rfl rfl rfl rfl HB.out


set_option maxRecDepth 100000 in
set_option maxHeartbeats 4000000 in
theorem fro_e {s : Int} {bx : Bool} {sx tx : Value}  {w : World} (hv : decide (0 ≤ s ∧ s ≤ 62) = false)  :
    Calls Try.prog 12 #[.agg #[.bool bx, sx, tx], .int .i64 s] w (Ret w (Val (.tuple #[.int .i64 0, .int .i64 1]))) := by
  have Hv := Lib.hid hv
  clear hv
  go_enter Try.func12, Try.ntmps12
  have HB := Lib.hid (Below.refl w.heap.size w)
  go_wp2_with fail
  obtain ⟨W1, hW⟩ : ∃ W1, W1 = (World.alloc w (.cells #[.bool bx, sx, tx] 25)) := ⟨_, rfl⟩
  rw [← hW]
  obtain ⟨xa0, hk, hb⟩ := boxes_1 _ _ _ hW
  clear hW
  have Ga0 := Lib.hid (show w.heap.size ≤ w.heap.size from Nat.le_trans HB.out.size (by omega))
  have Xa0 := Lib.hid xa0
  have HB := Lib.hid (below_call HB.out hb)
  clear hk hb xa0
  refine Calls.mono (fvalid_any _ _ Hv.out) ?_
  rintro e w2 ⟨v2, rfl, rfl, hb⟩
  have Xa0 := Lib.hid (Box.pcall hb Xa0.out)
  have HB := Lib.hid (below_call HB.out hb)
  clear hb
  obtain ⟨ca00, ca01, ca02, fa00, fa01, fa02⟩ := Xa0.out.c3
  have la0 := Xa0.out.lt
  go_wp2
  clear ca00 ca01 ca02 fa00 fa01 fa02 la0
  exact ret_tt rfl rfl rfl rfl rfl HB.out


theorem RV_big {q : Rat} (h : 4611686018427387904 < rN q) : RV q = (0, 2) := if_pos h
theorem RV_ok {q : Rat} (h : ¬ 4611686018427387904 < rN q) : RV q = (rI q, 0) := if_neg h
theorem FR_in {q : Rat} {n : Nat} (h : n ≤ 62) : FR q (n : Int) = RV (q * tw n) := if_pos ⟨by omega, by omega⟩
theorem FR_out {q : Rat} {s : Int} (h : ¬ (0 ≤ s ∧ s ≤ 62)) : FR q s = (0, 1) := if_neg h
theorem val_tu {P : Program} {f : FuncId} {args : Array Value} {w : World} {x y a e : Int} (h : Calls P f args w (Ret w (Val (.tuple #[.int .i64 x, .int .i64 y])))) (k : (x, y) = (a, e)) : Calls P f args w (Ret w (Val (.tuple #[.int .i64 a, .int .i64 e]))) := by
  injection k with k1 k2; subst k1 k2; exact h
theorem tw_of {n : Nat} (h : n ≤ 62) : -9223372036854775808 ≤ ((2 ^ n : Nat) : Int) ∧ ((2 ^ n : Nat) : Int) < 9223372036854775808 := by have := pow_le62 h; generalize 2 ^ n = p at *; omega
theorem fround_ar {q : Rat} {L : Nat} {v : Value} {s a e : Int} {w : World} (hf : FR q s = (a, e)) (h : AR q L w v) (hL : L ≤ 10000) :
    Calls Try.prog 12 #[v, .int .i64 s] w (Ret w (Val (.tuple #[.int .i64 a, .int .i64 e]))) := by
  obtain ⟨bx, sx, tx, nx, dx, rfl, h1, h2, rfl⟩ := h
  by_cases hs : 0 ≤ s ∧ s ≤ 62
  · obtain ⟨n, rfl⟩ := Int.eq_ofNat_of_zero_le hs.1
    have hn : n ≤ 62 := by omega
    have hd : decide (0 ≤ ((n : Nat) : Int) ∧ ((n : Nat) : Int) ≤ 62) = true := decide_eq_true hs
    rw [FR_in hn] at hf
    have hF := rN_rv bx nx dx (tw_pos n)
    have h0 := rN_nn (rv bx nx dx * tw n)
    obtain ⟨t1, t2⟩ := tw_of hn
    by_cases hbig : 4611686018427387904 < rN (rv bx nx dx * tw n)
    · rw [RV_big hbig] at hf
      by_cases hin : rN (rv bx nx dx * tw n) < 9223372036854775808
      · exact val_tu (fro_g hd t1 t2 (sh_one hn) _ (by rw [hF]; exact ⟨intV_in (by omega), intB_in (by omega)⟩) (decide_eq_true hbig) h1 h2 hL) hf
      · exact val_tu (fro_o hd t1 t2 (sh_one hn) _ (by rw [hF]; exact ⟨intV_out (by omega), intB_out (by omega)⟩) h1 h2 hL) hf
    · rw [RV_ok hbig, rI_rv bx nx dx (tw_pos n)] at hf
      cases bx
      · exact val_tu (fro_p hd t1 t2 (sh_one hn) _ (by rw [hF]; exact int_in h0 (by omega)) (decide_eq_false hbig) h1 h2 hL) hf
      · exact val_tu (fro_n hd t1 t2 (sh_one hn) (rN (rv true nx dx * tw n)) (by rw [hF]; exact int_in h0 (by omega)) (decide_eq_false hbig) (IntWalk.i64_in _ (by omega)) h1 h2 hL) hf
  · rw [FR_out hs] at hf
    exact val_tu (fro_e (decide_eq_false hs)) hf
theorem sm_int {z : Int} {L : Nat} (h : sz z.natAbs ≤ L) (hL : 1 ≤ L) : Sm L (z : Rat) := ⟨by rw [Rat.num_intCast]; exact h, by rw [Rat.den_intCast]; exact Nat.le_trans (sz_le (by decide)) hL⟩
theorem sm_tw {n : Nat} (h : n ≤ 63) : Sm 3 (tw n) := by
  refine sm_int (sz_le ?_) (by decide)
  have h1 : 2 ^ n ≤ 2 ^ 63 := Nat.pow_le_pow_right (by decide) h
  rw [show (2 : Nat) ^ 63 = 9223372036854775808 by decide] at h1
  rw [Int.natAbs_natCast]
  have h2 : (4294967296 : Nat) ^ 3 = 79228162514264337593543950336 := by decide
  omega
theorem tw_succ (j : Nat) : tw j + tw j = tw (j + 1) := by
  unfold tw
  rw [← Rat.intCast_add]
  congr 1
  rw [Nat.pow_succ]; omega
theorem tw_zero : ((1 : Int) : Rat) = tw 0 := rfl

set_option maxRecDepth 100000 in
set_option maxHeartbeats 4000000 in
theorem power_any (n : Nat) (hn : n ≤ 63) (w : World) : Calls Try.prog 39 #[.int .i64 ((n : Nat) : Int)] w (Ret w (CR (tw n) 3)) := by
  go_enter Try.func39, Try.ntmps39
  have HB := Lib.hid (Below.refl w.heap.size w)
  go_wp2_with fail
  obtain ⟨W1, hW⟩ : ∃ W1, W1 = (World.alloc w (.cells #[.bool false, .slice none 0 0, .slice none 0 0] 25)) := ⟨_, rfl⟩
  rw [← hW]
  obtain ⟨xa0, hk, hb⟩ := boxes_1 _ _ _ hW
  clear hW
  have Ga0 := Lib.hid (show w.heap.size ≤ w.heap.size from Nat.le_trans HB.out.size (by omega))
  have Xa0 := Lib.hid xa0
  have HB := Lib.hid (below_call HB.out hb)
  clear hk hb xa0
  refine Calls.mono (zof (x := 1) (by decide) (by decide)) ?_
  rintro e w2 ⟨v2, rfl, ho, hb⟩
  obtain ⟨o_b, o_a, o_n, o_c, o_d, o_m, o_e, rfl⟩ := ho.litb
  have Xa0 := Lib.hid (Box.pcall hb Xa0.out)
  have HB := Lib.hid (below_call HB.out hb)
  have Ho := Lib.hid ho
  clear hb ho
  obtain ⟨ca00, ca01, ca02, fa00, fa01, fa02⟩ := Xa0.out.c3
  have la0 := Xa0.out.lt
  go_wp2
  clear ca00 ca01 ca02 fa00 fa01 fa02 la0
  obtain ⟨W3, hW⟩ : ∃ W3, W3 = (World.alloc w2 (.cells #[.bool o_b, .slice o_a o_n o_c, .slice o_d o_m o_e] 25)) := ⟨_, rfl⟩
  rw [← hW]
  obtain ⟨xb0, hk, hb⟩ := boxes_1 _ _ _ hW
  clear hW
  have Ho := Lib.hid (CR.keep Ho.out hk)
  have Na0b0 := Lib.hid (show w.heap.size ≠ w2.heap.size from Nat.ne_of_lt (Nat.lt_of_lt_of_le Xa0.out.lt (by omega)))
  have Gb0 := Lib.hid (show w.heap.size ≤ w2.heap.size from Nat.le_trans HB.out.size (by omega))
  have Xa0 := Lib.hid (Box.pcall hb Xa0.out)
  have Xb0 := Lib.hid xb0
  have HB := Lib.hid (below_call HB.out hb)
  clear hk hb xb0
  go_loopw [4] (fun i wr => ∃ j : Nat, ∃ x_b x_a x_n x_c x_d x_m x_e, j ≤ n ∧ i = .int .i64 ((j : Nat) : Int) ∧ Box wr (w.heap.size) 25 #[.bool false, .slice none 0 0, .slice none 0 0] ∧ Box wr (w2.heap.size) 25 #[.bool x_b, .slice x_a x_n x_c, .slice x_d x_m x_e] ∧ CR (tw j) 3 wr (.agg #[.bool x_b, .slice x_a x_n x_c, .slice x_d x_m x_e]) ∧ Below w.heap.size w wr) (fun i _ => n - (intOf i).toNat)
  case atStart => exact ⟨0, _, _, _, _, _, _, _, Nat.zero_le _, rfl, Xa0.out, Xb0.out, CR.cast tw_zero (CR.mono Ho.out (by decide)), HB.out⟩
  case round =>
    clear HB Xa0 Xb0 Ho
    obtain ⟨j, x_b, x_a, x_n, x_c, x_d, x_m, x_e, hj, rfl, xa0, xb0, hx, hb⟩ := hrel
    have Xa0 := Lib.hid xa0
    have Xb0 := Lib.hid xb0
    have Hx := Lib.hid hx
    have HB := Lib.hid hb
    clear xa0 xb0 hx hb
    by_cases hjn : j < n
    · have hd : decide (((j : Nat) : Int) < ((n : Nat) : Int)) = true := decide_eq_true (by omega)
      obtain ⟨ca00, ca01, ca02, fa00, fa01, fa02⟩ := Xa0.out.c3
      have la0 := Xa0.out.lt
      obtain ⟨cb00, cb01, cb02, fb00, fb01, fb02⟩ := Xb0.out.c3
      have lb0 := Xb0.out.lt
      go_wp2_with fail
      clear ca00 ca01 ca02 fa00 fa01 fa02 la0 cb00 cb01 cb02 fb00 fb01 fb02 lb0
      (first | (have hcall := zadd_ar Hx.out.ar Hx.out.ar (by decide) (by decide); refine Calls.mono hcall ?_; clear hcall) | refine Calls.mono (zadd_ar Hx.out.ar Hx.out.ar (by decide) (by decide)) ?_)
      rintro e w51 ⟨v51, rfl, hz, hb⟩
      obtain ⟨z_b, z_a, z_n, z_c, z_d, z_m, z_e, rfl⟩ := hz.litb
      have Xa0 := Lib.hid (Box.pcall hb Xa0.out)
      have Xb0 := Lib.hid (Box.pcall hb Xb0.out)
      have HB := Lib.hid (below_call HB.out hb)
      have Hz := Lib.hid hz
      clear hb hz
      obtain ⟨ca00, ca01, ca02, fa00, fa01, fa02⟩ := Xa0.out.c3
      have la0 := Xa0.out.lt
      obtain ⟨cb00, cb01, cb02, fb00, fb01, fb02⟩ := Xb0.out.c3
      have lb0 := Xb0.out.lt
      go_wp2
      clear ca00 ca01 ca02 fa00 fa01 fa02 la0 cb00 cb01 cb02 fb00 fb01 fb02 lb0
      obtain ⟨W52, hW⟩ : ∃ W52, W52 = (World.setCell (World.setCell (World.setCell w51 ⟨w2.heap.size, 0, none⟩ (.bool z_b)) ⟨w2.heap.size, 1, none⟩ (.slice z_a z_n z_c)) ⟨w2.heap.size, 2, none⟩ (.slice z_d z_m z_e)) := ⟨_, rfl⟩
      rw [← hW]
      obtain ⟨xb0, hk, hf, hbb, hz⟩ := stored3s hW Xb0.out (by first | exact NoInt.bool _ | exact NoInt.slice _ _ _) (by first | exact NoInt.bool _ | exact NoInt.slice _ _ _) (by first | exact NoInt.bool _ | exact NoInt.slice _ _ _)
      have Hz := Lib.hid (CR.keep Hz.out hk)
      have Xa0 := Lib.hid (hf _ _ _ Xa0.out Na0b0.out)
      have Xb0 := Lib.hid xb0
      have HB := Lib.hid (hbb _ HB.out Gb0.out)
      clear hW hk hf hbb xb0
      clear hz
      go_roundw
      case rel => exact ⟨j + 1, _, _, _, _, _, _, _, by omega, by go_num, Xa0.out, Xb0.out, CR.small (CR.cast (tw_succ j) Hz.out) (sm_tw (by omega)), HB.out⟩
      case measure => simp [intOf] <;> omega
    · obtain rfl : j = n := by omega
      obtain ⟨ca00, ca01, ca02, fa00, fa01, fa02⟩ := Xa0.out.c3
      have la0 := Xa0.out.lt
      obtain ⟨cb00, cb01, cb02, fb00, fb01, fb02⟩ := Xb0.out.c3
      have lb0 := Xb0.out.lt
      go_wp2
      clear ca00 ca01 ca02 fa00 fa01 fa02 la0 cb00 cb01 cb02 fb00 fb01 fb02 lb0
      obtain ⟨W51, hW⟩ : ∃ W51, W51 = (World.setCell (World.setCell (World.setCell wr ⟨w.heap.size, 0, none⟩ (.bool x_b)) ⟨w.heap.size, 1, none⟩ (.slice x_a x_n x_c)) ⟨w.heap.size, 2, none⟩ (.slice x_d x_m x_e)) := ⟨_, rfl⟩
      rw [← hW]
      obtain ⟨xa0, hk, hf, hbb, hz⟩ := stored3s hW Xa0.out (by first | exact NoInt.bool _ | exact NoInt.slice _ _ _) (by first | exact NoInt.bool _ | exact NoInt.slice _ _ _) (by first | exact NoInt.bool _ | exact NoInt.slice _ _ _)
      have Hx := Lib.hid (CR.keep Hx.out hk)
      have Xa0 := Lib.hid xa0
      have Xb0 := Lib.hid (hf _ _ _ Xb0.out Na0b0.out.symm)
      have HB := Lib.hid (hbb _ HB.out Ga0.out)
      clear hW hk hf hbb xa0
      clear hz
      exact ret_rat1 rfl rfl rfl Xa0.out Hx.out HB.out

end Go.Proofs.Ytfffehmkohcgcaa
