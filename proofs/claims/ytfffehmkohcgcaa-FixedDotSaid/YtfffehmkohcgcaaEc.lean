/- Texts FixC, in this order. -/
import Derived.Test.YtfffehmkohcgcaaEb
namespace Go.Proofs.Ytfffehmkohcgcaa
open Go.RowKit Nt
set_option linter.unusedVariables false

set_option maxRecDepth 100000 in
set_option maxHeartbeats 4000000 in
theorem zwhole51 {x : Int}  {w : World} (h1 : -9223372036854775808 ≤ x) (h2 : x < 9223372036854775808) :
    Calls Try.prog 46 #[.int .i64 x] w (Ret w (CR (x : Rat) 2)) := by
  have H1 := Lib.hid h1
  have H2 := Lib.hid h2
  clear h1 h2
  go_enter Try.func46, Try.ntmps46
  have HB := Lib.hid (Below.refl w.heap.size w)
  go_wp2_with fail
  obtain ⟨W1, hW⟩ : ∃ W1, W1 = (World.alloc w (.cells #[.bool false, .slice none 0 0, .slice none 0 0] 25)) := ⟨_, rfl⟩
  rw [← hW]
  obtain ⟨xa0, hk, hb⟩ := boxes_1 _ _ _ hW
  clear hW
  have Ga0 := Lib.hid (show w.heap.size ≤ w.heap.size from Nat.le_trans HB.out.size (by omega))
  have Xa0 := Lib.hid xa0
  have HB := Lib.hid (below_call HB.out hb)
  clear hk hb xa0
  refine Calls.mono (zof H1.out H2.out) ?_
  rintro e w2 ⟨v2, rfl, ho, hb⟩
  obtain ⟨o_b, o_a, o_n, o_c, o_d, o_m, o_e, rfl⟩ := ho.litb
  have Xa0 := Lib.hid (Box.pcall hb Xa0.out)
  have HB := Lib.hid (below_call HB.out hb)
  have Ho := Lib.hid ho
  clear hb ho
  obtain ⟨ca00, ca01, ca02, fa00, fa01, fa02⟩ := Xa0.out.c3
  have la0 := Xa0.out.lt
  go_wp2
  clear ca00 ca01 ca02 fa00 fa01 fa02 la0
  obtain ⟨W3, hW⟩ : ∃ W3, W3 = (World.setCell (World.setCell (World.setCell w2 ⟨w.heap.size, 0, none⟩ (.bool o_b)) ⟨w.heap.size, 1, none⟩ (.slice o_a o_n o_c)) ⟨w.heap.size, 2, none⟩ (.slice o_d o_m o_e)) := ⟨_, rfl⟩
  rw [← hW]
  obtain ⟨xa0, hk, hf, hbb, hz⟩ := stored3s hW Xa0.out (by first | exact NoInt.bool _ | exact NoInt.slice _ _ _) (by first | exact NoInt.bool _ | exact NoInt.slice _ _ _) (by first | exact NoInt.bool _ | exact NoInt.slice _ _ _)
  have Ho := Lib.hid (CR.keep Ho.out hk)
  have Xa0 := Lib.hid xa0
  have HB := Lib.hid (hbb _ HB.out Ga0.out)
  clear hW hk hf hbb xa0
  clear hz
  exact ret_rat1 rfl rfl rfl Xa0.out Ho.out HB.out


set_option maxRecDepth 100000 in
set_option maxHeartbeats 4000000 in
theorem zro_g {L : Nat} {bx : Bool} {nx dx : Nat} {sx tx : Option Addr} {lx cx mx ex : Nat}  {w : World} (k : Int) (hk : cmpQ ((rv false nx dx + ((1 : Int) : Rat) / ((2 : Int) : Rat)).floor : Rat) (tw 62) = k) (hk0 : decide (0 < k) = true) (hnx : Is nx L w (.slice sx lx cx)) (hdx : Is dx L w (.slice tx mx ex)) (hL : L ≤ 10000)  :
    Calls Try.prog 66 #[.agg #[.bool bx, .slice sx lx cx, .slice tx mx ex]] w (Ret w (Val (.tuple #[.int .i64 0, .bool false]))) := by
  have Hnx := Lib.hid hnx
  have Hdx := Lib.hid hdx
  have Hk := Lib.hid hk
  have Hk0 := Lib.hid hk0
  clear hnx hdx hk hk0
  go_enter Try.func66, Try.ntmps66
  have HB := Lib.hid (Below.refl w.heap.size w)
  go_wp2_with fail
  obtain ⟨W1, hW⟩ : ∃ W1, W1 = (World.alloc (World.alloc w (.cells #[.bool bx, .slice sx lx cx, .slice tx mx ex] 25)) (.cells #[.bool false, .slice sx lx cx, .slice tx mx ex] 25)) := ⟨_, rfl⟩
  rw [← hW]
  obtain ⟨xa0, xb0, hk, hb⟩ := boxes_2 _ _ _ _ _ hW
  clear hW
  have Hnx := Lib.hid (Is.keep Hnx.out hk)
  have Hdx := Lib.hid (Is.keep Hdx.out hk)
  have Ga0 := Lib.hid (show w.heap.size ≤ w.heap.size from Nat.le_trans HB.out.size (by omega))
  have Gb0 := Lib.hid (show w.heap.size ≤ w.heap.size + 1 from Nat.le_trans HB.out.size (by omega))
  have Xa0 := Lib.hid xa0
  have Xb0 := Lib.hid xb0
  have HB := Lib.hid (below_call HB.out hb)
  clear hk hb xa0 xb0
  refine Calls.mono (zfrac_1 (x := 1) (y := 2) (by decide) (by decide) (by decide) (by decide) (by decide)) ?_
  rintro e w2 ⟨t2, rfl, ⟨v2, rfl, hhf⟩, hb⟩
  obtain ⟨hf_b, hf_a, hf_n, hf_c, hf_d, hf_m, hf_e, rfl⟩ := hhf.litb
  have Hnx := Lib.hid (Is.keep Hnx.out (Keep.call hb))
  have Hdx := Lib.hid (Is.keep Hdx.out (Keep.call hb))
  have Xa0 := Lib.hid (Box.pcall hb Xa0.out)
  have Xb0 := Lib.hid (Box.pcall hb Xb0.out)
  have HB := Lib.hid (below_call HB.out hb)
  have Hhf := Lib.hid hhf
  clear hb hhf
  obtain ⟨ca00, ca01, ca02, fa00, fa01, fa02⟩ := Xa0.out.c3
  have la0 := Xa0.out.lt
  obtain ⟨cb00, cb01, cb02, fb00, fb01, fb02⟩ := Xb0.out.c3
  have lb0 := Xb0.out.lt
  go_wp2_with fail
  clear ca00 ca01 ca02 fa00 fa01 fa02 la0 cb00 cb01 cb02 fb00 fb01 fb02 lb0
  obtain ⟨W3, hW⟩ : ∃ W3, W3 = (World.alloc w2 (.cells #[.bool hf_b, .slice hf_a hf_n hf_c, .slice hf_d hf_m hf_e] 25)) := ⟨_, rfl⟩
  rw [← hW]
  obtain ⟨xc0, hk, hb⟩ := boxes_1 _ _ _ hW
  clear hW
  have Hnx := Lib.hid (Is.keep Hnx.out hk)
  have Hdx := Lib.hid (Is.keep Hdx.out hk)
  have Hhf := Lib.hid (CR.keep Hhf.out hk)
  have Na0c0 := Lib.hid (show w.heap.size ≠ w2.heap.size from Nat.ne_of_lt (Nat.lt_of_lt_of_le Xa0.out.lt (by omega)))
  have Nb0c0 := Lib.hid (show w.heap.size + 1 ≠ w2.heap.size from Nat.ne_of_lt (Nat.lt_of_lt_of_le Xb0.out.lt (by omega)))
  have Gc0 := Lib.hid (show w.heap.size ≤ w2.heap.size from Nat.le_trans HB.out.size (by omega))
  have Xa0 := Lib.hid (Box.pcall hb Xa0.out)
  have Xb0 := Lib.hid (Box.pcall hb Xb0.out)
  have Xc0 := Lib.hid xc0
  have HB := Lib.hid (below_call HB.out hb)
  clear hk hb xc0
  (first | (have hcall := zadd_ar (AR.mk (neg := false) Hnx.out Hdx.out) Hhf.out.ar (by omega) (by omega); refine Calls.mono hcall ?_; clear hcall) | refine Calls.mono (zadd_ar (AR.mk (neg := false) Hnx.out Hdx.out) Hhf.out.ar (by omega) (by omega)) ?_)
  rintro e w4 ⟨v4, rfl, ha0, hb⟩
  obtain ⟨a0_b, a0_a, a0_n, a0_c, a0_d, a0_m, a0_e, rfl⟩ := ha0.litb
  have Xa0 := Lib.hid (Box.pcall hb Xa0.out)
  have Xb0 := Lib.hid (Box.pcall hb Xb0.out)
  have Xc0 := Lib.hid (Box.pcall hb Xc0.out)
  have HB := Lib.hid (below_call HB.out hb)
  have Ha0 := Lib.hid ha0
  clear hb ha0
  obtain ⟨ca00, ca01, ca02, fa00, fa01, fa02⟩ := Xa0.out.c3
  have la0 := Xa0.out.lt
  obtain ⟨cb00, cb01, cb02, fb00, fb01, fb02⟩ := Xb0.out.c3
  have lb0 := Xb0.out.lt
  obtain ⟨cc00, cc01, cc02, fc00, fc01, fc02⟩ := Xc0.out.c3
  have lc0 := Xc0.out.lt
  go_wp2_with fail
  clear ca00 ca01 ca02 fa00 fa01 fa02 la0 cb00 cb01 cb02 fb00 fb01 fb02 lb0 cc00 cc01 cc02 fc00 fc01 fc02 lc0
  (first | (have hcall := zfloor_ar Ha0.out.ar (by omega); refine Calls.mono hcall ?_; clear hcall) | refine Calls.mono (zfloor_ar Ha0.out.ar (by omega)) ?_)
  rintro e w5 ⟨v5, rfl, hf0, hb⟩
  obtain ⟨f0_b, f0_a, f0_n, f0_c, rfl⟩ := hf0.litb
  have Xa0 := Lib.hid (Box.pcall hb Xa0.out)
  have Xb0 := Lib.hid (Box.pcall hb Xb0.out)
  have Xc0 := Lib.hid (Box.pcall hb Xc0.out)
  have HB := Lib.hid (below_call HB.out hb)
  have Hf0 := Lib.hid hf0
  clear hb hf0
  obtain ⟨ca00, ca01, ca02, fa00, fa01, fa02⟩ := Xa0.out.c3
  have la0 := Xa0.out.lt
  obtain ⟨cb00, cb01, cb02, fb00, fb01, fb02⟩ := Xb0.out.c3
  have lb0 := Xb0.out.lt
  obtain ⟨cc00, cc01, cc02, fc00, fc01, fc02⟩ := Xc0.out.c3
  have lc0 := Xc0.out.lt
  go_wp2_with fail
  clear ca00 ca01 ca02 fa00 fa01 fa02 la0 cb00 cb01 cb02 fb00 fb01 fb02 lb0 cc00 cc01 cc02 fc00 fc01 fc02 lc0
  obtain ⟨W6, hW⟩ : ∃ W6, W6 = (World.alloc w5 (.cells #[.bool f0_b, .slice f0_a f0_n f0_c] 49)) := ⟨_, rfl⟩
  rw [← hW]
  obtain ⟨xd0, hk, hb⟩ := boxes_1 _ _ _ hW
  clear hW
  have Hf0 := Lib.hid (CL.keep Hf0.out hk)
  have Na0d0 := Lib.hid (show w.heap.size ≠ w5.heap.size from Nat.ne_of_lt (Nat.lt_of_lt_of_le Xa0.out.lt (by omega)))
  have Nb0d0 := Lib.hid (show w.heap.size + 1 ≠ w5.heap.size from Nat.ne_of_lt (Nat.lt_of_lt_of_le Xb0.out.lt (by omega)))
  have Nc0d0 := Lib.hid (show w2.heap.size ≠ w5.heap.size from Nat.ne_of_lt (Nat.lt_of_lt_of_le Xc0.out.lt (by omega)))
  have Gd0 := Lib.hid (show w.heap.size ≤ w5.heap.size from Nat.le_trans HB.out.size (by omega))
  have Xa0 := Lib.hid (Box.pcall hb Xa0.out)
  have Xb0 := Lib.hid (Box.pcall hb Xb0.out)
  have Xc0 := Lib.hid (Box.pcall hb Xc0.out)
  have Xd0 := Lib.hid xd0
  have HB := Lib.hid (below_call HB.out hb)
  clear hk hb xd0
  (first | (have hcall := zwhole_ai Hf0.out.ai (by omega); refine Calls.mono hcall ?_; clear hcall) | refine Calls.mono (zwhole_ai Hf0.out.ai (by omega)) ?_)
  rintro e w7 ⟨v7, rfl, hw0, hb⟩
  obtain ⟨w0_b, w0_a, w0_n, w0_c, w0_d, w0_m, w0_e, rfl⟩ := hw0.litb
  have Xa0 := Lib.hid (Box.pcall hb Xa0.out)
  have Xb0 := Lib.hid (Box.pcall hb Xb0.out)
  have Xc0 := Lib.hid (Box.pcall hb Xc0.out)
  have Xd0 := Lib.hid (Box.pcall hb Xd0.out)
  have HB := Lib.hid (below_call HB.out hb)
  have Hw0 := Lib.hid hw0
  clear hb hw0
  obtain ⟨ca00, ca01, ca02, fa00, fa01, fa02⟩ := Xa0.out.c3
  have la0 := Xa0.out.lt
  obtain ⟨cb00, cb01, cb02, fb00, fb01, fb02⟩ := Xb0.out.c3
  have lb0 := Xb0.out.lt
  obtain ⟨cc00, cc01, cc02, fc00, fc01, fc02⟩ := Xc0.out.c3
  have lc0 := Xc0.out.lt
  obtain ⟨cd00, cd01, fd00, fd01⟩ := Xd0.out.c2
  have ld0 := Xd0.out.lt
  go_wp2_with fail
  clear ca00 ca01 ca02 fa00 fa01 fa02 la0 cb00 cb01 cb02 fb00 fb01 fb02 lb0 cc00 cc01 cc02 fc00 fc01 fc02 lc0 cd00 cd01 fd00 fd01 ld0
  refine Calls.mono (power_any 62 (by decide) _) ?_
  rintro e w8 ⟨v8, rfl, hpw, hb⟩
  obtain ⟨pw_b, pw_a, pw_n, pw_c, pw_d, pw_m, pw_e, rfl⟩ := hpw.litb
  have Hw0 := Lib.hid (CR.keep Hw0.out (Keep.call hb))
  have Xa0 := Lib.hid (Box.pcall hb Xa0.out)
  have Xb0 := Lib.hid (Box.pcall hb Xb0.out)
  have Xc0 := Lib.hid (Box.pcall hb Xc0.out)
  have Xd0 := Lib.hid (Box.pcall hb Xd0.out)
  have HB := Lib.hid (below_call HB.out hb)
  have Hpw := Lib.hid hpw
  clear hb hpw
  obtain ⟨ca00, ca01, ca02, fa00, fa01, fa02⟩ := Xa0.out.c3
  have la0 := Xa0.out.lt
  obtain ⟨cb00, cb01, cb02, fb00, fb01, fb02⟩ := Xb0.out.c3
  have lb0 := Xb0.out.lt
  obtain ⟨cc00, cc01, cc02, fc00, fc01, fc02⟩ := Xc0.out.c3
  have lc0 := Xc0.out.lt
  obtain ⟨cd00, cd01, fd00, fd01⟩ := Xd0.out.c2
  have ld0 := Xd0.out.lt
  go_wp2_with fail
  clear ca00 ca01 ca02 fa00 fa01 fa02 la0 cb00 cb01 cb02 fb00 fb01 fb02 lb0 cc00 cc01 cc02 fc00 fc01 fc02 lc0 cd00 cd01 fd00 fd01 ld0
  (first | (have hcall := zcmp_ar k Hw0.out.ar Hpw.out.ar Hk.out (by omega) (by decide); refine Calls.mono hcall ?_; clear hcall) | refine Calls.mono (zcmp_ar k Hw0.out.ar Hpw.out.ar Hk.out (by omega) (by decide)) ?_)
  rintro e w9 ⟨v9, rfl, ⟨⟩, hb⟩
  have Xa0 := Lib.hid (Box.pcall hb Xa0.out)
  have Xb0 := Lib.hid (Box.pcall hb Xb0.out)
  have Xc0 := Lib.hid (Box.pcall hb Xc0.out)
  have Xd0 := Lib.hid (Box.pcall hb Xd0.out)
  have HB := Lib.hid (below_call HB.out hb)
  clear hb
  have hk0 : decide (0 < k) = true := Hk0.out
  obtain ⟨ca00, ca01, ca02, fa00, fa01, fa02⟩ := Xa0.out.c3
  have la0 := Xa0.out.lt
  obtain ⟨cb00, cb01, cb02, fb00, fb01, fb02⟩ := Xb0.out.c3
  have lb0 := Xb0.out.lt
  obtain ⟨cc00, cc01, cc02, fc00, fc01, fc02⟩ := Xc0.out.c3
  have lc0 := Xc0.out.lt
  obtain ⟨cd00, cd01, fd00, fd01⟩ := Xd0.out.c2
  have ld0 := Xd0.out.lt
  go_wp2
  clear ca00 ca01 ca02 fa00 fa01 fa02 la0 cb00 cb01 cb02 fb00 fb01 fb02 lb0 cc00 cc01 cc02 fc00 fc01 fc02 lc0 cd00 cd01 fd00 fd01 ld0
  exact ret_tt rfl rfl rfl rfl rfl HB.out


set_option maxRecDepth 100000 in
set_option maxHeartbeats 4000000 in
theorem zro_p {L : Nat} {bx : Bool} {nx dx : Nat} {sx tx : Option Addr} {lx cx mx ex : Nat}  {w : World} (k : Int) (hk : cmpQ ((rv false nx dx + ((1 : Int) : Rat) / ((2 : Int) : Rat)).floor : Rat) (tw 62) = k) (hk0 : decide (0 < k) = false) (N : Int) (hN : intV (rv false nx dx + ((1 : Int) : Rat) / ((2 : Int) : Rat)).floor = N ∧ intB (rv false nx dx + ((1 : Int) : Rat) / ((2 : Int) : Rat)).floor = true) (m : Int) (hm : (rv bx nx dx).num.sign = m) (hm0 : decide (m < 0) = false) (hnx : Is nx L w (.slice sx lx cx)) (hdx : Is dx L w (.slice tx mx ex)) (hL : L ≤ 10000)  :
    Calls Try.prog 66 #[.agg #[.bool bx, .slice sx lx cx, .slice tx mx ex]] w (Ret w (Val (.tuple #[.int .i64 N, .bool true]))) := by
  have Hnx := Lib.hid hnx
  have Hdx := Lib.hid hdx
  have Hk := Lib.hid hk
  have Hk0 := Lib.hid hk0
  have HN := Lib.hid hN
  have Hm := Lib.hid hm
  have Hm0 := Lib.hid hm0
  clear hnx hdx hk hk0 hN hm hm0
  go_enter Try.func66, Try.ntmps66
  have HB := Lib.hid (Below.refl w.heap.size w)
  go_wp2_with fail
  obtain ⟨W1, hW⟩ : ∃ W1, W1 = (World.alloc (World.alloc w (.cells #[.bool bx, .slice sx lx cx, .slice tx mx ex] 25)) (.cells #[.bool false, .slice sx lx cx, .slice tx mx ex] 25)) := ⟨_, rfl⟩
  rw [← hW]
  obtain ⟨xa0, xb0, hk, hb⟩ := boxes_2 _ _ _ _ _ hW
  clear hW
  have Hnx := Lib.hid (Is.keep Hnx.out hk)
  have Hdx := Lib.hid (Is.keep Hdx.out hk)
  have Ga0 := Lib.hid (show w.heap.size ≤ w.heap.size from Nat.le_trans HB.out.size (by omega))
  have Gb0 := Lib.hid (show w.heap.size ≤ w.heap.size + 1 from Nat.le_trans HB.out.size (by omega))
  have Xa0 := Lib.hid xa0
  have Xb0 := Lib.hid xb0
  have HB := Lib.hid (below_call HB.out hb)
  clear hk hb xa0 xb0
  refine Calls.mono (zfrac_1 (x := 1) (y := 2) (by decide) (by decide) (by decide) (by decide) (by decide)) ?_
  rintro e w2 ⟨t2, rfl, ⟨v2, rfl, hhf⟩, hb⟩
  obtain ⟨hf_b, hf_a, hf_n, hf_c, hf_d, hf_m, hf_e, rfl⟩ := hhf.litb
  have Hnx := Lib.hid (Is.keep Hnx.out (Keep.call hb))
  have Hdx := Lib.hid (Is.keep Hdx.out (Keep.call hb))
  have Xa0 := Lib.hid (Box.pcall hb Xa0.out)
  have Xb0 := Lib.hid (Box.pcall hb Xb0.out)
  have HB := Lib.hid (below_call HB.out hb)
  have Hhf := Lib.hid hhf
  clear hb hhf
  obtain ⟨ca00, ca01, ca02, fa00, fa01, fa02⟩ := Xa0.out.c3
  have la0 := Xa0.out.lt
  obtain ⟨cb00, cb01, cb02, fb00, fb01, fb02⟩ := Xb0.out.c3
  have lb0 := Xb0.out.lt
  go_wp2_with fail
  clear ca00 ca01 ca02 fa00 fa01 fa02 la0 cb00 cb01 cb02 fb00 fb01 fb02 lb0
  obtain ⟨W3, hW⟩ : ∃ W3, W3 = (World.alloc w2 (.cells #[.bool hf_b, .slice hf_a hf_n hf_c, .slice hf_d hf_m hf_e] 25)) := ⟨_, rfl⟩
  rw [← hW]
  obtain ⟨xc0, hk, hb⟩ := boxes_1 _ _ _ hW
  clear hW
  have Hnx := Lib.hid (Is.keep Hnx.out hk)
  have Hdx := Lib.hid (Is.keep Hdx.out hk)
  have Hhf := Lib.hid (CR.keep Hhf.out hk)
  have Na0c0 := Lib.hid (show w.heap.size ≠ w2.heap.size from Nat.ne_of_lt (Nat.lt_of_lt_of_le Xa0.out.lt (by omega)))
  have Nb0c0 := Lib.hid (show w.heap.size + 1 ≠ w2.heap.size from Nat.ne_of_lt (Nat.lt_of_lt_of_le Xb0.out.lt (by omega)))
  have Gc0 := Lib.hid (show w.heap.size ≤ w2.heap.size from Nat.le_trans HB.out.size (by omega))
  have Xa0 := Lib.hid (Box.pcall hb Xa0.out)
  have Xb0 := Lib.hid (Box.pcall hb Xb0.out)
  have Xc0 := Lib.hid xc0
  have HB := Lib.hid (below_call HB.out hb)
  clear hk hb xc0
  (first | (have hcall := zadd_ar (AR.mk (neg := false) Hnx.out Hdx.out) Hhf.out.ar (by omega) (by omega); refine Calls.mono hcall ?_; clear hcall) | refine Calls.mono (zadd_ar (AR.mk (neg := false) Hnx.out Hdx.out) Hhf.out.ar (by omega) (by omega)) ?_)
  rintro e w4 ⟨v4, rfl, ha0, hb⟩
  obtain ⟨a0_b, a0_a, a0_n, a0_c, a0_d, a0_m, a0_e, rfl⟩ := ha0.litb
  have Hnx := Lib.hid (Is.keep Hnx.out (Keep.call hb))
  have Hdx := Lib.hid (Is.keep Hdx.out (Keep.call hb))
  have Xa0 := Lib.hid (Box.pcall hb Xa0.out)
  have Xb0 := Lib.hid (Box.pcall hb Xb0.out)
  have Xc0 := Lib.hid (Box.pcall hb Xc0.out)
  have HB := Lib.hid (below_call HB.out hb)
  have Ha0 := Lib.hid ha0
  clear hb ha0
  obtain ⟨ca00, ca01, ca02, fa00, fa01, fa02⟩ := Xa0.out.c3
  have la0 := Xa0.out.lt
  obtain ⟨cb00, cb01, cb02, fb00, fb01, fb02⟩ := Xb0.out.c3
  have lb0 := Xb0.out.lt
  obtain ⟨cc00, cc01, cc02, fc00, fc01, fc02⟩ := Xc0.out.c3
  have lc0 := Xc0.out.lt
  go_wp2_with fail
  clear ca00 ca01 ca02 fa00 fa01 fa02 la0 cb00 cb01 cb02 fb00 fb01 fb02 lb0 cc00 cc01 cc02 fc00 fc01 fc02 lc0
  (first | (have hcall := zfloor_ar Ha0.out.ar (by omega); refine Calls.mono hcall ?_; clear hcall) | refine Calls.mono (zfloor_ar Ha0.out.ar (by omega)) ?_)
  rintro e w5 ⟨v5, rfl, hf0, hb⟩
  obtain ⟨f0_b, f0_a, f0_n, f0_c, rfl⟩ := hf0.litb
  have Hnx := Lib.hid (Is.keep Hnx.out (Keep.call hb))
  have Hdx := Lib.hid (Is.keep Hdx.out (Keep.call hb))
  have Xa0 := Lib.hid (Box.pcall hb Xa0.out)
  have Xb0 := Lib.hid (Box.pcall hb Xb0.out)
  have Xc0 := Lib.hid (Box.pcall hb Xc0.out)
  have HB := Lib.hid (below_call HB.out hb)
  have Hf0 := Lib.hid hf0
  clear hb hf0
  obtain ⟨ca00, ca01, ca02, fa00, fa01, fa02⟩ := Xa0.out.c3
  have la0 := Xa0.out.lt
  obtain ⟨cb00, cb01, cb02, fb00, fb01, fb02⟩ := Xb0.out.c3
  have lb0 := Xb0.out.lt
  obtain ⟨cc00, cc01, cc02, fc00, fc01, fc02⟩ := Xc0.out.c3
  have lc0 := Xc0.out.lt
  go_wp2_with fail
  clear ca00 ca01 ca02 fa00 fa01 fa02 la0 cb00 cb01 cb02 fb00 fb01 fb02 lb0 cc00 cc01 cc02 fc00 fc01 fc02 lc0
  obtain ⟨W6, hW⟩ : ∃ W6, W6 = (World.alloc w5 (.cells #[.bool f0_b, .slice f0_a f0_n f0_c] 49)) := ⟨_, rfl⟩
  rw [← hW]
  obtain ⟨xd0, hk, hb⟩ := boxes_1 _ _ _ hW
  clear hW
  have Hnx := Lib.hid (Is.keep Hnx.out hk)
  have Hdx := Lib.hid (Is.keep Hdx.out hk)
  have Hf0 := Lib.hid (CL.keep Hf0.out hk)
  have Na0d0 := Lib.hid (show w.heap.size ≠ w5.heap.size from Nat.ne_of_lt (Nat.lt_of_lt_of_le Xa0.out.lt (by omega)))
  have Nb0d0 := Lib.hid (show w.heap.size + 1 ≠ w5.heap.size from Nat.ne_of_lt (Nat.lt_of_lt_of_le Xb0.out.lt (by omega)))
  have Nc0d0 := Lib.hid (show w2.heap.size ≠ w5.heap.size from Nat.ne_of_lt (Nat.lt_of_lt_of_le Xc0.out.lt (by omega)))
  have Gd0 := Lib.hid (show w.heap.size ≤ w5.heap.size from Nat.le_trans HB.out.size (by omega))
  have Xa0 := Lib.hid (Box.pcall hb Xa0.out)
  have Xb0 := Lib.hid (Box.pcall hb Xb0.out)
  have Xc0 := Lib.hid (Box.pcall hb Xc0.out)
  have Xd0 := Lib.hid xd0
  have HB := Lib.hid (below_call HB.out hb)
  clear hk hb xd0
  (first | (have hcall := zwhole_ai Hf0.out.ai (by omega); refine Calls.mono hcall ?_; clear hcall) | refine Calls.mono (zwhole_ai Hf0.out.ai (by omega)) ?_)
  rintro e w7 ⟨v7, rfl, hw0, hb⟩
  obtain ⟨w0_b, w0_a, w0_n, w0_c, w0_d, w0_m, w0_e, rfl⟩ := hw0.litb
  have Hnx := Lib.hid (Is.keep Hnx.out (Keep.call hb))
  have Hdx := Lib.hid (Is.keep Hdx.out (Keep.call hb))
  have Hf0 := Lib.hid (CL.keep Hf0.out (Keep.call hb))
  have Xa0 := Lib.hid (Box.pcall hb Xa0.out)
  have Xb0 := Lib.hid (Box.pcall hb Xb0.out)
  have Xc0 := Lib.hid (Box.pcall hb Xc0.out)
  have Xd0 := Lib.hid (Box.pcall hb Xd0.out)
  have HB := Lib.hid (below_call HB.out hb)
  have Hw0 := Lib.hid hw0
  clear hb hw0
  obtain ⟨ca00, ca01, ca02, fa00, fa01, fa02⟩ := Xa0.out.c3
  have la0 := Xa0.out.lt
  obtain ⟨cb00, cb01, cb02, fb00, fb01, fb02⟩ := Xb0.out.c3
  have lb0 := Xb0.out.lt
  obtain ⟨cc00, cc01, cc02, fc00, fc01, fc02⟩ := Xc0.out.c3
  have lc0 := Xc0.out.lt
  obtain ⟨cd00, cd01, fd00, fd01⟩ := Xd0.out.c2
  have ld0 := Xd0.out.lt
  go_wp2_with fail
  clear ca00 ca01 ca02 fa00 fa01 fa02 la0 cb00 cb01 cb02 fb00 fb01 fb02 lb0 cc00 cc01 cc02 fc00 fc01 fc02 lc0 cd00 cd01 fd00 fd01 ld0
  refine Calls.mono (power_any 62 (by decide) _) ?_
  rintro e w8 ⟨v8, rfl, hpw, hb⟩
  obtain ⟨pw_b, pw_a, pw_n, pw_c, pw_d, pw_m, pw_e, rfl⟩ := hpw.litb
  have Hnx := Lib.hid (Is.keep Hnx.out (Keep.call hb))
  have Hdx := Lib.hid (Is.keep Hdx.out (Keep.call hb))
  have Hf0 := Lib.hid (CL.keep Hf0.out (Keep.call hb))
  have Hw0 := Lib.hid (CR.keep Hw0.out (Keep.call hb))
  have Xa0 := Lib.hid (Box.pcall hb Xa0.out)
  have Xb0 := Lib.hid (Box.pcall hb Xb0.out)
  have Xc0 := Lib.hid (Box.pcall hb Xc0.out)
  have Xd0 := Lib.hid (Box.pcall hb Xd0.out)
  have HB := Lib.hid (below_call HB.out hb)
  have Hpw := Lib.hid hpw
  clear hb hpw
  obtain ⟨ca00, ca01, ca02, fa00, fa01, fa02⟩ := Xa0.out.c3
  have la0 := Xa0.out.lt
  obtain ⟨cb00, cb01, cb02, fb00, fb01, fb02⟩ := Xb0.out.c3
  have lb0 := Xb0.out.lt
  obtain ⟨cc00, cc01, cc02, fc00, fc01, fc02⟩ := Xc0.out.c3
  have lc0 := Xc0.out.lt
  obtain ⟨cd00, cd01, fd00, fd01⟩ := Xd0.out.c2
  have ld0 := Xd0.out.lt
  go_wp2_with fail
  clear ca00 ca01 ca02 fa00 fa01 fa02 la0 cb00 cb01 cb02 fb00 fb01 fb02 lb0 cc00 cc01 cc02 fc00 fc01 fc02 lc0 cd00 cd01 fd00 fd01 ld0
  (first | (have hcall := zcmp_ar k Hw0.out.ar Hpw.out.ar Hk.out (by omega) (by decide); refine Calls.mono hcall ?_; clear hcall) | refine Calls.mono (zcmp_ar k Hw0.out.ar Hpw.out.ar Hk.out (by omega) (by decide)) ?_)
  rintro e w9 ⟨v9, rfl, ⟨⟩, hb⟩
  have Hnx := Lib.hid (Is.keep Hnx.out (Keep.call hb))
  have Hdx := Lib.hid (Is.keep Hdx.out (Keep.call hb))
  have Hf0 := Lib.hid (CL.keep Hf0.out (Keep.call hb))
  have Xa0 := Lib.hid (Box.pcall hb Xa0.out)
  have Xb0 := Lib.hid (Box.pcall hb Xb0.out)
  have Xc0 := Lib.hid (Box.pcall hb Xc0.out)
  have Xd0 := Lib.hid (Box.pcall hb Xd0.out)
  have HB := Lib.hid (below_call HB.out hb)
  clear hb
  have hk0 : decide (0 < k) = false := Hk0.out
  obtain ⟨ca00, ca01, ca02, fa00, fa01, fa02⟩ := Xa0.out.c3
  have la0 := Xa0.out.lt
  obtain ⟨cb00, cb01, cb02, fb00, fb01, fb02⟩ := Xb0.out.c3
  have lb0 := Xb0.out.lt
  obtain ⟨cc00, cc01, cc02, fc00, fc01, fc02⟩ := Xc0.out.c3
  have lc0 := Xc0.out.lt
  obtain ⟨cd00, cd01, fd00, fd01⟩ := Xd0.out.c2
  have ld0 := Xd0.out.lt
  go_wp2_with fail
  clear ca00 ca01 ca02 fa00 fa01 fa02 la0 cb00 cb01 cb02 fb00 fb01 fb02 lb0 cc00 cc01 cc02 fc00 fc01 fc02 lc0 cd00 cd01 fd00 fd01 ld0
  (first | (have hcall := riint_at HN.out Hf0.out.ai; refine Calls.mono hcall ?_; clear hcall) | refine Calls.mono (riint_at HN.out Hf0.out.ai) ?_)
  rintro e w10 ⟨v10, rfl, rfl, hb⟩
  have Hnx := Lib.hid (Is.keep Hnx.out (Keep.call hb))
  have Hdx := Lib.hid (Is.keep Hdx.out (Keep.call hb))
  have Xa0 := Lib.hid (Box.pcall hb Xa0.out)
  have Xb0 := Lib.hid (Box.pcall hb Xb0.out)
  have Xc0 := Lib.hid (Box.pcall hb Xc0.out)
  have Xd0 := Lib.hid (Box.pcall hb Xd0.out)
  have HB := Lib.hid (below_call HB.out hb)
  clear hb
  obtain ⟨ca00, ca01, ca02, fa00, fa01, fa02⟩ := Xa0.out.c3
  have la0 := Xa0.out.lt
  obtain ⟨cb00, cb01, cb02, fb00, fb01, fb02⟩ := Xb0.out.c3
  have lb0 := Xb0.out.lt
  obtain ⟨cc00, cc01, cc02, fc00, fc01, fc02⟩ := Xc0.out.c3
  have lc0 := Xc0.out.lt
  obtain ⟨cd00, cd01, fd00, fd01⟩ := Xd0.out.c2
  have ld0 := Xd0.out.lt
  go_wp2_with fail
  clear ca00 ca01 ca02 fa00 fa01 fa02 la0 cb00 cb01 cb02 fb00 fb01 fb02 lb0 cc00 cc01 cc02 fc00 fc01 fc02 lc0 cd00 cd01 fd00 fd01 ld0
  (first | (have hcall := zsign_ar m (AR.mk (neg := bx) Hnx.out Hdx.out) Hm.out; refine Calls.mono hcall ?_; clear hcall) | refine Calls.mono (zsign_ar m (AR.mk (neg := bx) Hnx.out Hdx.out) Hm.out) ?_)
  rintro e w11 ⟨v11, rfl, ⟨⟩, hb⟩
  have Xa0 := Lib.hid (Box.pcall hb Xa0.out)
  have Xb0 := Lib.hid (Box.pcall hb Xb0.out)
  have Xc0 := Lib.hid (Box.pcall hb Xc0.out)
  have Xd0 := Lib.hid (Box.pcall hb Xd0.out)
  have HB := Lib.hid (below_call HB.out hb)
  clear hb
  have hm0 : decide (m < 0) = false := Hm0.out
  obtain ⟨ca00, ca01, ca02, fa00, fa01, fa02⟩ := Xa0.out.c3
  have la0 := Xa0.out.lt
  obtain ⟨cb00, cb01, cb02, fb00, fb01, fb02⟩ := Xb0.out.c3
  have lb0 := Xb0.out.lt
  obtain ⟨cc00, cc01, cc02, fc00, fc01, fc02⟩ := Xc0.out.c3
  have lc0 := Xc0.out.lt
  obtain ⟨cd00, cd01, fd00, fd01⟩ := Xd0.out.c2
  have ld0 := Xd0.out.lt
  go_wp2
  clear ca00 ca01 ca02 fa00 fa01 fa02 la0 cb00 cb01 cb02 fb00 fb01 fb02 lb0 cc00 cc01 cc02 fc00 fc01 fc02 lc0 cd00 cd01 fd00 fd01 ld0
  exact ret_tt rfl rfl rfl rfl rfl HB.out


set_option maxRecDepth 100000 in
set_option maxHeartbeats 4000000 in
theorem zro_n {L : Nat} {bx : Bool} {nx dx : Nat} {sx tx : Option Addr} {lx cx mx ex : Nat}  {w : World} (k : Int) (hk : cmpQ ((rv false nx dx + ((1 : Int) : Rat) / ((2 : Int) : Rat)).floor : Rat) (tw 62) = k) (hk0 : decide (0 < k) = false) (N : Int) (hN : intV (rv false nx dx + ((1 : Int) : Rat) / ((2 : Int) : Rat)).floor = N ∧ intB (rv false nx dx + ((1 : Int) : Rat) / ((2 : Int) : Rat)).floor = true) (m : Int) (hm : (rv bx nx dx).num.sign = m) (hm0 : decide (m < 0) = true) (hw : IntKind.i64.wrap (-N) = -N) (hnx : Is nx L w (.slice sx lx cx)) (hdx : Is dx L w (.slice tx mx ex)) (hL : L ≤ 10000)  :
    Calls Try.prog 66 #[.agg #[.bool bx, .slice sx lx cx, .slice tx mx ex]] w (Ret w (Val (.tuple #[.int .i64 (-N), .bool true]))) := by
  have Hnx := Lib.hid hnx
  have Hdx := Lib.hid hdx
  have Hk := Lib.hid hk
  have Hk0 := Lib.hid hk0
  have HN := Lib.hid hN
  have Hm := Lib.hid hm
  have Hm0 := Lib.hid hm0
  clear hnx hdx hk hk0 hN hm hm0
  go_enter Try.func66, Try.ntmps66
  have HB := Lib.hid (Below.refl w.heap.size w)
  go_wp2_with fail
  obtain ⟨W1, hW⟩ : ∃ W1, W1 = (World.alloc (World.alloc w (.cells #[.bool bx, .slice sx lx cx, .slice tx mx ex] 25)) (.cells #[.bool false, .slice sx lx cx, .slice tx mx ex] 25)) := ⟨_, rfl⟩
  rw [← hW]
  obtain ⟨xa0, xb0, hk, hb⟩ := boxes_2 _ _ _ _ _ hW
  clear hW
  have Hnx := Lib.hid (Is.keep Hnx.out hk)
  have Hdx := Lib.hid (Is.keep Hdx.out hk)
  have Ga0 := Lib.hid (show w.heap.size ≤ w.heap.size from Nat.le_trans HB.out.size (by omega))
  have Gb0 := Lib.hid (show w.heap.size ≤ w.heap.size + 1 from Nat.le_trans HB.out.size (by omega))
  have Xa0 := Lib.hid xa0
  have Xb0 := Lib.hid xb0
  have HB := Lib.hid (below_call HB.out hb)
  clear hk hb xa0 xb0
  refine Calls.mono (zfrac_1 (x := 1) (y := 2) (by decide) (by decide) (by decide) (by decide) (by decide)) ?_
  rintro e w2 ⟨t2, rfl, ⟨v2, rfl, hhf⟩, hb⟩
  obtain ⟨hf_b, hf_a, hf_n, hf_c, hf_d, hf_m, hf_e, rfl⟩ := hhf.litb
  have Hnx := Lib.hid (Is.keep Hnx.out (Keep.call hb))
  have Hdx := Lib.hid (Is.keep Hdx.out (Keep.call hb))
  have Xa0 := Lib.hid (Box.pcall hb Xa0.out)
  have Xb0 := Lib.hid (Box.pcall hb Xb0.out)
  have HB := Lib.hid (below_call HB.out hb)
  have Hhf := Lib.hid hhf
  clear hb hhf
  obtain ⟨ca00, ca01, ca02, fa00, fa01, fa02⟩ := Xa0.out.c3
  have la0 := Xa0.out.lt
  obtain ⟨cb00, cb01, cb02, fb00, fb01, fb02⟩ := Xb0.out.c3
  have lb0 := Xb0.out.lt
  go_wp2_with fail
  clear ca00 ca01 ca02 fa00 fa01 fa02 la0 cb00 cb01 cb02 fb00 fb01 fb02 lb0
  obtain ⟨W3, hW⟩ : ∃ W3, W3 = (World.alloc w2 (.cells #[.bool hf_b, .slice hf_a hf_n hf_c, .slice hf_d hf_m hf_e] 25)) := ⟨_, rfl⟩
  rw [← hW]
  obtain ⟨xc0, hk, hb⟩ := boxes_1 _ _ _ hW
  clear hW
  have Hnx := Lib.hid (Is.keep Hnx.out hk)
  have Hdx := Lib.hid (Is.keep Hdx.out hk)
  have Hhf := Lib.hid (CR.keep Hhf.out hk)
  have Na0c0 := Lib.hid (show w.heap.size ≠ w2.heap.size from Nat.ne_of_lt (Nat.lt_of_lt_of_le Xa0.out.lt (by omega)))
  have Nb0c0 := Lib.hid (show w.heap.size + 1 ≠ w2.heap.size from Nat.ne_of_lt (Nat.lt_of_lt_of_le Xb0.out.lt (by omega)))
  have Gc0 := Lib.hid (show w.heap.size ≤ w2.heap.size from Nat.le_trans HB.out.size (by omega))
  have Xa0 := Lib.hid (Box.pcall hb Xa0.out)
  have Xb0 := Lib.hid (Box.pcall hb Xb0.out)
  have Xc0 := Lib.hid xc0
  have HB := Lib.hid (below_call HB.out hb)
  clear hk hb xc0
  (first | (have hcall := zadd_ar (AR.mk (neg := false) Hnx.out Hdx.out) Hhf.out.ar (by omega) (by omega); refine Calls.mono hcall ?_; clear hcall) | refine Calls.mono (zadd_ar (AR.mk (neg := false) Hnx.out Hdx.out) Hhf.out.ar (by omega) (by omega)) ?_)
  rintro e w4 ⟨v4, rfl, ha0, hb⟩
  obtain ⟨a0_b, a0_a, a0_n, a0_c, a0_d, a0_m, a0_e, rfl⟩ := ha0.litb
  have Hnx := Lib.hid (Is.keep Hnx.out (Keep.call hb))
  have Hdx := Lib.hid (Is.keep Hdx.out (Keep.call hb))
  have Xa0 := Lib.hid (Box.pcall hb Xa0.out)
  have Xb0 := Lib.hid (Box.pcall hb Xb0.out)
  have Xc0 := Lib.hid (Box.pcall hb Xc0.out)
  have HB := Lib.hid (below_call HB.out hb)
  have Ha0 := Lib.hid ha0
  clear hb ha0
  obtain ⟨ca00, ca01, ca02, fa00, fa01, fa02⟩ := Xa0.out.c3
  have la0 := Xa0.out.lt
  obtain ⟨cb00, cb01, cb02, fb00, fb01, fb02⟩ := Xb0.out.c3
  have lb0 := Xb0.out.lt
  obtain ⟨cc00, cc01, cc02, fc00, fc01, fc02⟩ := Xc0.out.c3
  have lc0 := Xc0.out.lt
  go_wp2_with fail
  clear ca00 ca01 ca02 fa00 fa01 fa02 la0 cb00 cb01 cb02 fb00 fb01 fb02 lb0 cc00 cc01 cc02 fc00 fc01 fc02 lc0
  (first | (have hcall := zfloor_ar Ha0.out.ar (by omega); refine Calls.mono hcall ?_; clear hcall) | refine Calls.mono (zfloor_ar Ha0.out.ar (by omega)) ?_)
  rintro e w5 ⟨v5, rfl, hf0, hb⟩
  obtain ⟨f0_b, f0_a, f0_n, f0_c, rfl⟩ := hf0.litb
  have Hnx := Lib.hid (Is.keep Hnx.out (Keep.call hb))
  have Hdx := Lib.hid (Is.keep Hdx.out (Keep.call hb))
  have Xa0 := Lib.hid (Box.pcall hb Xa0.out)
  have Xb0 := Lib.hid (Box.pcall hb Xb0.out)
  have Xc0 := Lib.hid (Box.pcall hb Xc0.out)
  have HB := Lib.hid (below_call HB.out hb)
  have Hf0 := Lib.hid hf0
  clear hb hf0
  obtain ⟨ca00, ca01, ca02, fa00, fa01, fa02⟩ := Xa0.out.c3
  have la0 := Xa0.out.lt
  obtain ⟨cb00, cb01, cb02, fb00, fb01, fb02⟩ := Xb0.out.c3
  have lb0 := Xb0.out.lt
  obtain ⟨cc00, cc01, cc02, fc00, fc01, fc02⟩ := Xc0.out.c3
  have lc0 := Xc0.out.lt
  go_wp2_with fail
  clear ca00 ca01 ca02 fa00 fa01 fa02 la0 cb00 cb01 cb02 fb00 fb01 fb02 lb0 cc00 cc01 cc02 fc00 fc01 fc02 lc0
  obtain ⟨W6, hW⟩ : ∃ W6, W6 = (World.alloc w5 (.cells #[.bool f0_b, .slice f0_a f0_n f0_c] 49)) := ⟨_, rfl⟩
  rw [← hW]
  obtain ⟨xd0, hk, hb⟩ := boxes_1 _ _ _ hW
  clear hW
  have Hnx := Lib.hid (Is.keep Hnx.out hk)
  have Hdx := Lib.hid (Is.keep Hdx.out hk)
  have Hf0 := Lib.hid (CL.keep Hf0.out hk)
  have Na0d0 := Lib.hid (show w.heap.size ≠ w5.heap.size from Nat.ne_of_lt (Nat.lt_of_lt_of_le Xa0.out.lt (by omega)))
  have Nb0d0 := Lib.hid (show w.heap.size + 1 ≠ w5.heap.size from Nat.ne_of_lt (Nat.lt_of_lt_of_le Xb0.out.lt (by omega)))
  have Nc0d0 := Lib.hid (show w2.heap.size ≠ w5.heap.size from Nat.ne_of_lt (Nat.lt_of_lt_of_le Xc0.out.lt (by omega)))
  have Gd0 := Lib.hid (show w.heap.size ≤ w5.heap.size from Nat.le_trans HB.out.size (by omega))
  have Xa0 := Lib.hid (Box.pcall hb Xa0.out)
  have Xb0 := Lib.hid (Box.pcall hb Xb0.out)
  have Xc0 := Lib.hid (Box.pcall hb Xc0.out)
  have Xd0 := Lib.hid xd0
  have HB := Lib.hid (below_call HB.out hb)
  clear hk hb xd0
  (first | (have hcall := zwhole_ai Hf0.out.ai (by omega); refine Calls.mono hcall ?_; clear hcall) | refine Calls.mono (zwhole_ai Hf0.out.ai (by omega)) ?_)
  rintro e w7 ⟨v7, rfl, hw0, hb⟩
  obtain ⟨w0_b, w0_a, w0_n, w0_c, w0_d, w0_m, w0_e, rfl⟩ := hw0.litb
  have Hnx := Lib.hid (Is.keep Hnx.out (Keep.call hb))
  have Hdx := Lib.hid (Is.keep Hdx.out (Keep.call hb))
  have Hf0 := Lib.hid (CL.keep Hf0.out (Keep.call hb))
  have Xa0 := Lib.hid (Box.pcall hb Xa0.out)
  have Xb0 := Lib.hid (Box.pcall hb Xb0.out)
  have Xc0 := Lib.hid (Box.pcall hb Xc0.out)
  have Xd0 := Lib.hid (Box.pcall hb Xd0.out)
  have HB := Lib.hid (below_call HB.out hb)
  have Hw0 := Lib.hid hw0
  clear hb hw0
  obtain ⟨ca00, ca01, ca02, fa00, fa01, fa02⟩ := Xa0.out.c3
  have la0 := Xa0.out.lt
  obtain ⟨cb00, cb01, cb02, fb00, fb01, fb02⟩ := Xb0.out.c3
  have lb0 := Xb0.out.lt
  obtain ⟨cc00, cc01, cc02, fc00, fc01, fc02⟩ := Xc0.out.c3
  have lc0 := Xc0.out.lt
  obtain ⟨cd00, cd01, fd00, fd01⟩ := Xd0.out.c2
  have ld0 := Xd0.out.lt
  go_wp2_with fail
  clear ca00 ca01 ca02 fa00 fa01 fa02 la0 cb00 cb01 cb02 fb00 fb01 fb02 lb0 cc00 cc01 cc02 fc00 fc01 fc02 lc0 cd00 cd01 fd00 fd01 ld0
  refine Calls.mono (power_any 62 (by decide) _) ?_
  rintro e w8 ⟨v8, rfl, hpw, hb⟩
  obtain ⟨pw_b, pw_a, pw_n, pw_c, pw_d, pw_m, pw_e, rfl⟩ := hpw.litb
  have Hnx := Lib.hid (Is.keep Hnx.out (Keep.call hb))
  have Hdx := Lib.hid (Is.keep Hdx.out (Keep.call hb))
  have Hf0 := Lib.hid (CL.keep Hf0.out (Keep.call hb))
  have Hw0 := Lib.hid (CR.keep Hw0.out (Keep.call hb))
  have Xa0 := Lib.hid (Box.pcall hb Xa0.out)
  have Xb0 := Lib.hid (Box.pcall hb Xb0.out)
  have Xc0 := Lib.hid (Box.pcall hb Xc0.out)
  have Xd0 := Lib.hid (Box.pcall hb Xd0.out)
  have HB := Lib.hid (below_call HB.out hb)
  have Hpw := Lib.hid hpw
  clear hb hpw
  obtain ⟨ca00, ca01, ca02, fa00, fa01, fa02⟩ := Xa0.out.c3
  have la0 := Xa0.out.lt
  obtain ⟨cb00, cb01, cb02, fb00, fb01, fb02⟩ := Xb0.out.c3
  have lb0 := Xb0.out.lt
  obtain ⟨cc00, cc01, cc02, fc00, fc01, fc02⟩ := Xc0.out.c3
  have lc0 := Xc0.out.lt
  obtain ⟨cd00, cd01, fd00, fd01⟩ := Xd0.out.c2
  have ld0 := Xd0.out.lt
  go_wp2_with fail
  clear ca00 ca01 ca02 fa00 fa01 fa02 la0 cb00 cb01 cb02 fb00 fb01 fb02 lb0 cc00 cc01 cc02 fc00 fc01 fc02 lc0 cd00 cd01 fd00 fd01 ld0
  (first | (have hcall := zcmp_ar k Hw0.out.ar Hpw.out.ar Hk.out (by omega) (by decide); refine Calls.mono hcall ?_; clear hcall) | refine Calls.mono (zcmp_ar k Hw0.out.ar Hpw.out.ar Hk.out (by omega) (by decide)) ?_)
  rintro e w9 ⟨v9, rfl, ⟨⟩, hb⟩
  have Hnx := Lib.hid (Is.keep Hnx.out (Keep.call hb))
  have Hdx := Lib.hid (Is.keep Hdx.out (Keep.call hb))
  have Hf0 := Lib.hid (CL.keep Hf0.out (Keep.call hb))
  have Xa0 := Lib.hid (Box.pcall hb Xa0.out)
  have Xb0 := Lib.hid (Box.pcall hb Xb0.out)
  have Xc0 := Lib.hid (Box.pcall hb Xc0.out)
  have Xd0 := Lib.hid (Box.pcall hb Xd0.out)
  have HB := Lib.hid (below_call HB.out hb)
  clear hb
  have hk0 : decide (0 < k) = false := Hk0.out
  obtain ⟨ca00, ca01, ca02, fa00, fa01, fa02⟩ := Xa0.out.c3
  have la0 := Xa0.out.lt
  obtain ⟨cb00, cb01, cb02, fb00, fb01, fb02⟩ := Xb0.out.c3
  have lb0 := Xb0.out.lt
  obtain ⟨cc00, cc01, cc02, fc00, fc01, fc02⟩ := Xc0.out.c3
  have lc0 := Xc0.out.lt
  obtain ⟨cd00, cd01, fd00, fd01⟩ := Xd0.out.c2
  have ld0 := Xd0.out.lt
  go_wp2_with fail
  clear ca00 ca01 ca02 fa00 fa01 fa02 la0 cb00 cb01 cb02 fb00 fb01 fb02 lb0 cc00 cc01 cc02 fc00 fc01 fc02 lc0 cd00 cd01 fd00 fd01 ld0
  (first | (have hcall := riint_at HN.out Hf0.out.ai; refine Calls.mono hcall ?_; clear hcall) | refine Calls.mono (riint_at HN.out Hf0.out.ai) ?_)
  rintro e w10 ⟨v10, rfl, rfl, hb⟩
  have Hnx := Lib.hid (Is.keep Hnx.out (Keep.call hb))
  have Hdx := Lib.hid (Is.keep Hdx.out (Keep.call hb))
  have Xa0 := Lib.hid (Box.pcall hb Xa0.out)
  have Xb0 := Lib.hid (Box.pcall hb Xb0.out)
  have Xc0 := Lib.hid (Box.pcall hb Xc0.out)
  have Xd0 := Lib.hid (Box.pcall hb Xd0.out)
  have HB := Lib.hid (below_call HB.out hb)
  clear hb
  obtain ⟨ca00, ca01, ca02, fa00, fa01, fa02⟩ := Xa0.out.c3
  have la0 := Xa0.out.lt
  obtain ⟨cb00, cb01, cb02, fb00, fb01, fb02⟩ := Xb0.out.c3
  have lb0 := Xb0.out.lt
  obtain ⟨cc00, cc01, cc02, fc00, fc01, fc02⟩ := Xc0.out.c3
  have lc0 := Xc0.out.lt
  obtain ⟨cd00, cd01, fd00, fd01⟩ := Xd0.out.c2
  have ld0 := Xd0.out.lt
  go_wp2_with fail
  clear ca00 ca01 ca02 fa00 fa01 fa02 la0 cb00 cb01 cb02 fb00 fb01 fb02 lb0 cc00 cc01 cc02 fc00 fc01 fc02 lc0 cd00 cd01 fd00 fd01 ld0
  (first | (have hcall := zsign_ar m (AR.mk (neg := bx) Hnx.out Hdx.out) Hm.out; refine Calls.mono hcall ?_; clear hcall) | refine Calls.mono (zsign_ar m (AR.mk (neg := bx) Hnx.out Hdx.out) Hm.out) ?_)
  rintro e w11 ⟨v11, rfl, ⟨⟩, hb⟩
  have Xa0 := Lib.hid (Box.pcall hb Xa0.out)
  have Xb0 := Lib.hid (Box.pcall hb Xb0.out)
  have Xc0 := Lib.hid (Box.pcall hb Xc0.out)
  have Xd0 := Lib.hid (Box.pcall hb Xd0.out)
  have HB := Lib.hid (below_call HB.out hb)
  clear hb
  have hm0 : decide (m < 0) = true := Hm0.out
  obtain ⟨ca00, ca01, ca02, fa00, fa01, fa02⟩ := Xa0.out.c3
  have la0 := Xa0.out.lt
  obtain ⟨cb00, cb01, cb02, fb00, fb01, fb02⟩ := Xb0.out.c3
  have lb0 := Xb0.out.lt
  obtain ⟨cc00, cc01, cc02, fc00, fc01, fc02⟩ := Xc0.out.c3
  have lc0 := Xc0.out.lt
  obtain ⟨cd00, cd01, fd00, fd01⟩ := Xd0.out.c2
  have ld0 := Xd0.out.lt
  go_wp2
  clear ca00 ca01 ca02 fa00 fa01 fa02 la0 cb00 cb01 cb02 fb00 fb01 fb02 lb0 cc00 cc01 cc02 fc00 fc01 fc02 lc0 cd00 cd01 fd00 fd01 ld0
  exact ret_tt rfl rfl rfl rfl rfl HB.out


theorem wrap64_id {z : Int} (h1 : -9223372036854775808 ≤ z) (h2 : z < 9223372036854775808) : wrap64 z = z := by
  unfold wrap64; omega
theorem power_at (n : Nat) {z : Int} (w : World) (hz : z = (n : Int)) (hn : n ≤ 63) : Calls Try.prog 39 #[.int .i64 z] w (Ret w (CR (tw n) 3)) := by subst hz; exact power_any n hn w
def OKV (q : Rat) : Int × Bool := if 4611686018427387904 < rN q then (0, false) else (rI q, true)
theorem val_tb {P : Program} {f : FuncId} {args : Array Value} {w : World} {x a : Int} {y e : Bool} (h : Calls P f args w (Ret w (Val (.tuple #[.int .i64 x, .bool y])))) (k : (x, y) = (a, e)) : Calls P f args w (Ret w (Val (.tuple #[.int .i64 a, .bool e]))) := by
  injection k with k1 k2; subst k1 k2; exact h
theorem tw62 : tw 62 = ((4611686018427387904 : Int) : Rat) := by unfold tw; congr 1
theorem cmp62 (z : Int) : 0 < cmpQ (z : Rat) (tw 62) ↔ 4611686018427387904 < z := by
  have h := @cmpQ_le (z : Rat) (tw 62)
  rw [tw62, Rat.intCast_le_intCast] at h
  rw [tw62]
  omega
theorem zround_ar {q : Rat} {L : Nat} {v : Value} {a : Int} {e : Bool} {w : World} (hf : OKV q = (a, e)) (h : AR q L w v) (hL : L ≤ 10000) :
    Calls Try.prog 66 #[v] w (Ret w (Val (.tuple #[.int .i64 a, .bool e]))) := by
  obtain ⟨bx, sx, tx, nx, dx, rfl, h1, h2, rfl⟩ := h
  obtain ⟨_, _, _, rfl⟩ := h1.lit
  obtain ⟨_, _, _, rfl⟩ := h2.lit
  have hF := rN_rv1 bx nx dx
  have h0 := rN_nn (rv bx nx dx)
  by_cases hbig : 4611686018427387904 < rN (rv bx nx dx)
  · have e1 : OKV (rv bx nx dx) = (0, false) := if_pos hbig
    rw [e1] at hf
    exact val_tb (zro_g _ rfl (decide_eq_true ((cmp62 _).2 (by rw [hF]; exact hbig))) h1 h2 hL) hf
  · have e1 : OKV (rv bx nx dx) = (rI (rv bx nx dx), true) := if_neg hbig
    have hk : decide (0 < cmpQ ((rv false nx dx + ((1 : Int) : Rat) / ((2 : Int) : Rat)).floor : Rat) (tw 62)) = false := decide_eq_false (by rw [cmp62, hF]; exact hbig)
    rw [e1, rI_sgn rfl] at hf
    by_cases hm : (rv bx nx dx).num.sign < 0
    · rw [if_pos hm] at hf
      exact val_tb (zro_n _ rfl hk (rN (rv bx nx dx)) (by rw [hF]; exact int_in h0 (by omega)) _ rfl (decide_eq_true hm) (IntWalk.i64_in _ (by omega)) h1 h2 hL) hf
    · rw [if_neg hm] at hf
      exact val_tb (zro_p _ rfl hk (rN (rv bx nx dx)) (by rw [hF]; exact int_in h0 (by omega)) _ rfl (decide_eq_false hm) h1 h2 hL) hf

set_option maxRecDepth 100000 in
set_option maxHeartbeats 4000000 in
theorem zres_y {L : Nat} {qx : Rat} {bx : Bool} {sx tx : Value} {w : World} {a : Int} (hf : OKV qx = (a, true)) (hx : AR qx L w (.agg #[.bool bx, sx, tx])) (hL : L ≤ 10000)  :
    Calls Try.prog 37 #[.agg #[.bool bx, sx, tx]] w (Ret w (Val (.tuple #[.int .i64 a, .int .i64 0]))) := by
  have Hx := Lib.hid hx
  have Hf := Lib.hid hf
  clear hx hf
  go_enter Try.func37, Try.ntmps37
  have HB := Lib.hid (Below.refl w.heap.size w)
  go_wp2_with fail
  obtain ⟨W1, hW⟩ : ∃ W1, W1 = (World.alloc w (.cells #[.bool bx, sx, tx] 25)) := ⟨_, rfl⟩
  rw [← hW]
  obtain ⟨xa0, hk, hb⟩ := boxes_1 _ _ _ hW
  clear hW
  have Hx := Lib.hid (AR.keep Hx.out hk)
  have Ga0 := Lib.hid (show w.heap.size ≤ w.heap.size from Nat.le_trans HB.out.size (by omega))
  have Xa0 := Lib.hid xa0
  have HB := Lib.hid (below_call HB.out hb)
  clear hk hb xa0
  (first | (have hcall := zround_ar Hf.out Hx.out (by omega); refine Calls.mono hcall ?_; clear hcall) | refine Calls.mono (zround_ar Hf.out Hx.out (by omega)) ?_)
  rintro e w2 ⟨v2, rfl, rfl, hb⟩
  have Xa0 := Lib.hid (Box.pcall hb Xa0.out)
  have HB := Lib.hid (below_call HB.out hb)
  clear hb
  obtain ⟨ca00, ca01, ca02, fa00, fa01, fa02⟩ := Xa0.out.c3
  have la0 := Xa0.out.lt
  go_wp2
  clear ca00 ca01 ca02 fa00 fa01 fa02 la0
  exact ret_tt rfl rfl rfl rfl rfl HB.out


set_option maxRecDepth 100000 in
set_option maxHeartbeats 4000000 in
theorem zres_n {L : Nat} {qx : Rat} {bx : Bool} {sx tx : Value} {w : World} {a : Int} (hf : OKV qx = (a, false)) (hx : AR qx L w (.agg #[.bool bx, sx, tx])) (hL : L ≤ 10000)  :
    Calls Try.prog 37 #[.agg #[.bool bx, sx, tx]] w (Ret w (Val (.tuple #[.int .i64 0, .int .i64 2]))) := by
  have Hx := Lib.hid hx
  have Hf := Lib.hid hf
  clear hx hf
  go_enter Try.func37, Try.ntmps37
  have HB := Lib.hid (Below.refl w.heap.size w)
  go_wp2_with fail
  obtain ⟨W1, hW⟩ : ∃ W1, W1 = (World.alloc w (.cells #[.bool bx, sx, tx] 25)) := ⟨_, rfl⟩
  rw [← hW]
  obtain ⟨xa0, hk, hb⟩ := boxes_1 _ _ _ hW
  clear hW
  have Hx := Lib.hid (AR.keep Hx.out hk)
  have Ga0 := Lib.hid (show w.heap.size ≤ w.heap.size from Nat.le_trans HB.out.size (by omega))
  have Xa0 := Lib.hid xa0
  have HB := Lib.hid (below_call HB.out hb)
  clear hk hb xa0
  (first | (have hcall := zround_ar Hf.out Hx.out (by omega); refine Calls.mono hcall ?_; clear hcall) | refine Calls.mono (zround_ar Hf.out Hx.out (by omega)) ?_)
  rintro e w2 ⟨v2, rfl, rfl, hb⟩
  have Xa0 := Lib.hid (Box.pcall hb Xa0.out)
  have HB := Lib.hid (below_call HB.out hb)
  clear hb
  obtain ⟨ca00, ca01, ca02, fa00, fa01, fa02⟩ := Xa0.out.c3
  have la0 := Xa0.out.lt
  go_wp2
  clear ca00 ca01 ca02 fa00 fa01 fa02 la0
  exact ret_tt rfl rfl rfl rfl rfl HB.out


theorem zresult_ar {q : Rat} {L : Nat} {v : Value} {a e : Int} {w : World} (hf : RV q = (a, e)) (h : AR q L w v) (hL : L ≤ 10000) :
    Calls Try.prog 37 #[v] w (Ret w (Val (.tuple #[.int .i64 a, .int .i64 e]))) := by
  obtain ⟨bx, sx, tx, rfl⟩ := h.agg
  by_cases hbig : 4611686018427387904 < rN q
  · rw [RV_big hbig] at hf
    exact val_tu (zres_n (a := 0) (if_pos hbig) h hL) hf
  · rw [RV_ok hbig] at hf
    exact val_tu (zres_y (if_neg hbig) h hL) hf

set_option maxRecDepth 100000 in
set_option maxHeartbeats 4000000 in
theorem zfr_y {s : Nat} {L : Nat} {qx : Rat} {bx : Bool} {sx tx : Value} {w : World} {a e : Int} (hf : RV (qx * tw s) = (a, e)) (hv : decide (0 ≤ ((s : Nat) : Int) ∧ ((s : Nat) : Int) ≤ 62) = true) (hs : s ≤ 62) (hx : AR qx L w (.agg #[.bool bx, sx, tx])) (hL : L ≤ 9000)  :
    Calls Try.prog 13 #[.agg #[.bool bx, sx, tx], .int .i64 ((s : Nat) : Int)] w (Ret w (Val (.tuple #[.int .i64 a, .int .i64 e]))) := by
  have Hx := Lib.hid hx
  have Hf := Lib.hid hf
  have Hv := Lib.hid hv
  have Hs := Lib.hid hs
  clear hx hf hv hs
  go_enter Try.func13, Try.ntmps13
  have HB := Lib.hid (Below.refl w.heap.size w)
  go_wp2_with fail
  obtain ⟨W1, hW⟩ : ∃ W1, W1 = (World.alloc w (.cells #[.bool bx, sx, tx] 25)) := ⟨_, rfl⟩
  rw [← hW]
  obtain ⟨xa0, hk, hb⟩ := boxes_1 _ _ _ hW
  clear hW
  have Hx := Lib.hid (AR.keep Hx.out hk)
  have Ga0 := Lib.hid (show w.heap.size ≤ w.heap.size from Nat.le_trans HB.out.size (by omega))
  have Xa0 := Lib.hid xa0
  have HB := Lib.hid (below_call HB.out hb)
  clear hk hb xa0
  refine Calls.mono (shifted_any _ _ Hv.out) ?_
  rintro e w2 ⟨v2, rfl, rfl, hb⟩
  have Hx := Lib.hid (AR.keep Hx.out (Keep.call hb))
  have Xa0 := Lib.hid (Box.pcall hb Xa0.out)
  have HB := Lib.hid (below_call HB.out hb)
  clear hb
  obtain ⟨ca00, ca01, ca02, fa00, fa01, fa02⟩ := Xa0.out.c3
  have la0 := Xa0.out.lt
  go_wp2_with fail
  clear ca00 ca01 ca02 fa00 fa01 fa02 la0
  have Hx := Lib.hid (AR.keep Hx.out (Keep.drew w2))
  have Xa0 := Lib.hid (Box.drew Xa0.out)
  have HB := Lib.hid (Below.drew HB.out)
  refine wp_region_float [] [] (by kernel_rfl) (by kernel_rfl) 16 (by kernel_rfl) Flok.nil ?_
  intro ok
  have Hok := Lib.hid ok
  clear ok
  have HG := Lib.hid (Below.refl (w2.drew).heap.size (w2.drew))
  refine good_pureX 0 (some 9) (Go.Op.load 25 (Go.Operand.tmp 2)) (none) (.agg #[.bool bx, sx, tx]) (by kernel_rfl) (by kernel_rfl) (by kernel_rfl) (fun _ _ _ h => h) (fun w' hw' => ?_) ?_
  · obtain ⟨ca00, ca01, ca02, fa00, fa01, fa02⟩ := (Box.se hw' Xa0.out notin0).c3
    first | (go_simp; done) | (go_simp; simp_all; done) | (go_simp; rfl)
  simp only [Act.put, List.setIfInBounds_toArray, List.set_cons_zero, List.set_cons_succ]
  refine good_pureX 1 (some 10) (Go.Op.move (Go.Operand.tmp 1)) (none) (.int .i64 ((s : Nat) : Int)) (by kernel_rfl) (by kernel_rfl) (by kernel_rfl) (fun _ _ _ h => h) (fun w' hw' => ?_) ?_
  · first | (go_simp; done) | (go_simp; simp_all; done) | (go_simp; rfl)
  simp only [Act.put, List.setIfInBounds_toArray, List.set_cons_zero, List.set_cons_succ]
  refine good_callX 2 39 (some 11) #[Go.Operand.tmp 10] #[3] (none) #[.int .i64 ((s : Nat) : Int)] (by kernel_rfl) Hok.out (by kernel_rfl) (by kernel_rfl) (by kernel_rfl) (by kernel_rfl) rfl rfl rfl (by kernel_rfl) (fun w3 hb => ?_)
  have HG := Lib.hid (below_call HG.out hb)
  clear hb
  refine Calls.mono (power_any s (by have := Hs.out; omega) _) ?_
  rintro e w4 ⟨v4, rfl, hpw, hb⟩
  obtain ⟨pw_b, pw_a, pw_n, pw_c, pw_d, pw_m, pw_e, rfl⟩ := hpw.litb
  refine ⟨_, rfl, ?_, hb⟩
  have HG := Lib.hid (below_call HG.out hb)
  have Hpw := Lib.hid hpw
  clear hb hpw
  simp only [Act.put, List.setIfInBounds_toArray, List.set_cons_zero, List.set_cons_succ]
  refine good_callX 3 38 (some 12) #[Go.Operand.tmp 9, Go.Operand.tmp 11] #[25, 25] (none) #[.agg #[.bool bx, sx, tx], .agg #[.bool pw_b, .slice pw_a pw_n pw_c, .slice pw_d pw_m pw_e]] (by kernel_rfl) Hok.out (by kernel_rfl) (by kernel_rfl) (by kernel_rfl) (by kernel_rfl) rfl rfl rfl (by kernel_rfl) (fun w5 hb => ?_)
  have Hpw := Lib.hid (CR.keep Hpw.out (Keep.call hb))
  have HG := Lib.hid (below_call HG.out hb)
  clear hb
  (first | (have hcall := zmul_ar (AR.keep Hx.out (Keep.call HG.out)) Hpw.out.ar (by omega) (by omega); refine Calls.mono hcall ?_; clear hcall) | refine Calls.mono (zmul_ar (AR.keep Hx.out (Keep.call HG.out)) Hpw.out.ar (by omega) (by omega)) ?_)
  rintro e w6 ⟨v6, rfl, hm0, hb⟩
  obtain ⟨m0_b, m0_a, m0_n, m0_c, m0_d, m0_m, m0_e, rfl⟩ := hm0.litb
  refine ⟨_, rfl, ?_, hb⟩
  have HG := Lib.hid (below_call HG.out hb)
  have Hm0 := Lib.hid hm0
  clear hb hm0
  simp only [Act.put, List.setIfInBounds_toArray, List.set_cons_zero, List.set_cons_succ]
  refine good_callX 4 37 (some 13) #[Go.Operand.tmp 12] #[25] (none) #[.agg #[.bool m0_b, .slice m0_a m0_n m0_c, .slice m0_d m0_m m0_e]] (by kernel_rfl) Hok.out (by kernel_rfl) (by kernel_rfl) (by kernel_rfl) (by kernel_rfl) rfl rfl rfl (by kernel_rfl) (fun w7 hb => ?_)
  have Hm0 := Lib.hid (CR.keep Hm0.out (Keep.call hb))
  have HG := Lib.hid (below_call HG.out hb)
  clear hb
  (first | (have hcall := zresult_ar Hf.out Hm0.out.ar (by omega); refine Calls.mono hcall ?_; clear hcall) | refine Calls.mono (zresult_ar Hf.out Hm0.out.ar (by omega)) ?_)
  rintro e w8 ⟨v8, rfl, rfl, hb⟩
  refine ⟨_, rfl, ?_, hb⟩
  have HG := Lib.hid (below_call HG.out hb)
  clear hb
  simp only [Act.put, List.setIfInBounds_toArray, List.set_cons_zero, List.set_cons_succ]
  refine good_pureX 5 (some 14) (Go.Op.extract (Go.Operand.tmp 13) 0) (none) (.int .i64 a) (by kernel_rfl) (by kernel_rfl) (by kernel_rfl) (fun _ _ _ h => h) (fun w' hw' => ?_) ?_
  · first | (go_simp; done) | (go_simp; simp_all; done) | (go_simp; rfl)
  simp only [Act.put, List.setIfInBounds_toArray, List.set_cons_zero, List.set_cons_succ]
  refine good_pureX 6 (some 15) (Go.Op.extract (Go.Operand.tmp 13) 1) (none) (.int .i64 e) (by kernel_rfl) (by kernel_rfl) (by kernel_rfl) (fun _ _ _ h => h) (fun w' hw' => ?_) ?_
  · first | (go_simp; done) | (go_simp; simp_all; done) | (go_simp; rfl)
  simp only [Act.put, List.setIfInBounds_toArray, List.set_cons_zero, List.set_cons_succ]
  refine good_pureX 7 (some 4) (Go.Op.assign (Go.Operand.tmp 14)) (none) (.int .i64 a) (by kernel_rfl) (by kernel_rfl) (by kernel_rfl) (fun _ _ _ h => h) (fun w' hw' => ?_) ?_
  · first | (go_simp; done) | (go_simp; simp_all; done) | (go_simp; rfl)
  simp only [Act.put, List.setIfInBounds_toArray, List.set_cons_zero, List.set_cons_succ]
  refine good_pureX 8 (some 5) (Go.Op.assign (Go.Operand.tmp 15)) (none) (.int .i64 e) (by kernel_rfl) (by kernel_rfl) (by kernel_rfl) (fun _ _ _ h => h) (fun w' hw' => ?_) ?_
  · first | (go_simp; done) | (go_simp; simp_all; done) | (go_simp; rfl)
  simp only [Act.put, List.setIfInBounds_toArray, List.set_cons_zero, List.set_cons_succ]
  refine good_end0 0 (by kernel_rfl) (fun _ w9 hb => ?_)
  have HG := Lib.hid (below_call HG.out hb)
  clear hb
  have Xa0 := Lib.hid (Box.pcall HG.out Xa0.out)
  have HB := Lib.hid (below_call HB.out HG.out)
  have HS := Lib.hid (SE.of (E := []) HG.out)
  refine wpAnyH_done (by kernel_rfl) ?_ _
  clear HG HS Hok 
  obtain ⟨ca00, ca01, ca02, fa00, fa01, fa02⟩ := Xa0.out.c3
  have la0 := Xa0.out.lt
  go_wp2
  clear ca00 ca01 ca02 fa00 fa01 fa02 la0
  exact ret_tt rfl rfl rfl rfl rfl HB.out


set_option maxRecDepth 100000 in
set_option maxHeartbeats 4000000 in
theorem zfr_n {s : Int} {bx : Bool} {sx tx : Value}  {w : World} (hv : decide (0 ≤ s ∧ s ≤ 62) = false)  :
    Calls Try.prog 13 #[.agg #[.bool bx, sx, tx], .int .i64 s] w (Ret w (Val (.tuple #[.int .i64 0, .int .i64 1]))) := by
  have Hv := Lib.hid hv
  clear hv
  go_enter Try.func13, Try.ntmps13
  have HB := Lib.hid (Below.refl w.heap.size w)
  go_wp2_with fail
  obtain ⟨W1, hW⟩ : ∃ W1, W1 = (World.alloc w (.cells #[.bool bx, sx, tx] 25)) := ⟨_, rfl⟩
  rw [← hW]
  obtain ⟨xa0, hk, hb⟩ := boxes_1 _ _ _ hW
  clear hW
  have Ga0 := Lib.hid (show w.heap.size ≤ w.heap.size from Nat.le_trans HB.out.size (by omega))
  have Xa0 := Lib.hid xa0
  have HB := Lib.hid (below_call HB.out hb)
  clear hk hb xa0
  refine Calls.mono (shifted_any _ _ Hv.out) ?_
  rintro e w2 ⟨v2, rfl, rfl, hb⟩
  have Xa0 := Lib.hid (Box.pcall hb Xa0.out)
  have HB := Lib.hid (below_call HB.out hb)
  clear hb
  obtain ⟨ca00, ca01, ca02, fa00, fa01, fa02⟩ := Xa0.out.c3
  have la0 := Xa0.out.lt
  go_wp2
  clear ca00 ca01 ca02 fa00 fa01 fa02 la0
  exact ret_tt rfl rfl rfl rfl rfl HB.out


theorem zfround_ar {q : Rat} {L : Nat} {v : Value} {s a e : Int} {w : World} (hf : FR q s = (a, e)) (h : AR q L w v) (hL : L ≤ 9000) :
    Calls Try.prog 13 #[v, .int .i64 s] w (Ret w (Val (.tuple #[.int .i64 a, .int .i64 e]))) := by
  obtain ⟨bx, sx, tx, rfl⟩ := h.agg
  by_cases hs : 0 ≤ s ∧ s ≤ 62
  · obtain ⟨n, rfl⟩ := Int.eq_ofNat_of_zero_le hs.1
    have hn : n ≤ 62 := by omega
    rw [FR_in hn] at hf
    exact zfr_y hf (decide_eq_true hs) hn h hL
  · rw [FR_out hs] at hf
    exact val_tu (zfr_n (decide_eq_false hs)) hf

set_option maxRecDepth 100000 in
set_option maxHeartbeats 4000000 in
theorem frat_y {s : Nat} {x : Int}  {w : World} (hv : decide (0 ≤ ((s : Nat) : Int) ∧ ((s : Nat) : Int) ≤ 62) = true) (hs : s ≤ 62) (h1 : -9223372036854775808 ≤ ((2 ^ s : Nat) : Int)) (h2 : ((2 ^ s : Nat) : Int) < 9223372036854775808) (hsh : Op.shift BinOp.shl IntKind.i64 1 IntKind.i64 ((s : Nat) : Int) = pure (.int .i64 (((2 ^ s : Nat) : Nat) : Int))) (ha1 : -9223372036854775808 ≤ x) (ha2 : x < 9223372036854775808)  :
    Calls Try.prog 22 #[.int .i64 x, .int .i64 ((s : Nat) : Int)] w (Ret w (CRE ((x : Rat) / tw s) 6 0)) := by
  have Hv := Lib.hid hv
  have Hs := Lib.hid hs
  have H1 := Lib.hid h1
  have H2 := Lib.hid h2
  have Ha1 := Lib.hid ha1
  have Ha2 := Lib.hid ha2
  clear hv hs h1 h2 ha1 ha2
  go_enter Try.func22, Try.ntmps22
  have HB := Lib.hid (Below.refl w.heap.size w)
  go_wp2_with fail
  obtain ⟨W1, hW⟩ : ∃ W1, W1 = (World.alloc w (.cells #[.bool false, .slice none 0 0, .slice none 0 0] 25)) := ⟨_, rfl⟩
  rw [← hW]
  obtain ⟨xa0, hk, hb⟩ := boxes_1 _ _ _ hW
  clear hW
  have Ga0 := Lib.hid (show w.heap.size ≤ w.heap.size from Nat.le_trans HB.out.size (by omega))
  have Xa0 := Lib.hid xa0
  have HB := Lib.hid (below_call HB.out hb)
  clear hk hb xa0
  refine Calls.mono (fvalid_any _ _ Hv.out) ?_
  rintro e w2 ⟨v2, rfl, rfl, hb⟩
  have Xa0 := Lib.hid (Box.pcall hb Xa0.out)
  have HB := Lib.hid (below_call HB.out hb)
  clear hb
  obtain ⟨ca00, ca01, ca02, fa00, fa01, fa02⟩ := Xa0.out.c3
  have la0 := Xa0.out.lt
  go_wp2_with fail
  clear ca00 ca01 ca02 fa00 fa01 fa02 la0
  have Xa0 := Lib.hid (Box.drew Xa0.out)
  have HB := Lib.hid (Below.drew HB.out)
  refine wp_region_float [] [⟨9, 6, 25, #[.bool false, .slice none 0 0, .slice none 0 0]⟩] (by kernel_rfl) (by kernel_rfl) 22 (by kernel_rfl) (Flok.one (by kernel_rfl) (by kernel_rfl) (by kernel_rfl) (by intro w; go_simp)) ?_
  intro ok
  have Hok := Lib.hid ok
  clear ok
  have HG := Lib.hid (Below.refl (w2.drew).heap.size (w2.drew))
  refine good_pureX 0 (some 13) (Go.Op.move (Go.Operand.tmp 0)) (none) (.int .i64 x) (by kernel_rfl) (by kernel_rfl) (by kernel_rfl) (fun _ _ _ h => h) (fun w' hw' => ?_) ?_
  · first | (go_simp; done) | (go_simp; simp_all; done) | (go_simp; rfl)
  simp only [Act.put, List.setIfInBounds_toArray, List.set_cons_zero, List.set_cons_succ]
  refine good_pureX 2 (some 15) (Go.Op.move (Go.Operand.tmp 1)) (none) (.int .i64 ((s : Nat) : Int)) (by kernel_rfl) (by kernel_rfl) (by kernel_rfl) (fun _ _ _ h => h) (fun w' hw' => ?_) ?_
  · first | (go_simp; done) | (go_simp; simp_all; done) | (go_simp; rfl)
  simp only [Act.put, List.setIfInBounds_toArray, List.set_cons_zero, List.set_cons_succ]
  refine good_pureX 3 (some 16) (Go.Op.binOp Go.BinOp.shl 3 (Go.Operand.const (Go.Value.int Go.IntKind.i64 1)) (Go.Operand.tmp 15) 3) (none) (.int .i64 ((2 ^ s : Nat) : Int)) (by kernel_rfl) (by kernel_rfl) (by kernel_rfl) (fun _ _ _ h => h) (fun w' hw' => ?_) ?_
  · first | (go_simp; done) | (go_simp; simp_all; done) | (go_simp; rfl)
  simp only [Act.put, List.setIfInBounds_toArray, List.set_cons_zero, List.set_cons_succ]
  refine good_callX 1 34 (some 14) #[Go.Operand.tmp 13] #[3] (none) #[.int .i64 x] (by kernel_rfl) Hok.out (by kernel_rfl) (by kernel_rfl) (by kernel_rfl) (by kernel_rfl) rfl rfl rfl (by kernel_rfl) (fun w3 hb => ?_)
  have HG := Lib.hid (below_call HG.out hb)
  clear hb
  refine Calls.mono (of_rat Ha1.out Ha2.out) ?_
  rintro e w4 ⟨v4, rfl, ho1, hb⟩
  obtain ⟨o1_b, o1_a, o1_n, o1_c, o1_d, o1_m, o1_e, rfl⟩ := ho1.litb
  refine ⟨_, rfl, ?_, hb⟩
  have HG := Lib.hid (below_call HG.out hb)
  have Ho1 := Lib.hid ho1
  clear hb ho1
  simp only [Act.put, List.setIfInBounds_toArray, List.set_cons_zero, List.set_cons_succ]
  refine good_callX 4 34 (some 17) #[Go.Operand.tmp 16] #[3] (none) #[.int .i64 ((2 ^ s : Nat) : Int)] (by kernel_rfl) Hok.out (by kernel_rfl) (by kernel_rfl) (by kernel_rfl) (by kernel_rfl) rfl rfl rfl (by kernel_rfl) (fun w5 hb => ?_)
  have Ho1 := Lib.hid (CR.keep Ho1.out (Keep.call hb))
  have HG := Lib.hid (below_call HG.out hb)
  clear hb
  refine Calls.mono (of_rat (x := ((2 ^ s : Nat) : Int)) H1.out H2.out) ?_
  rintro e w6 ⟨v6, rfl, ho2, hb⟩
  obtain ⟨o2_b, o2_a, o2_n, o2_c, o2_d, o2_m, o2_e, rfl⟩ := ho2.litb
  refine ⟨_, rfl, ?_, hb⟩
  have Ho1 := Lib.hid (CR.keep Ho1.out (Keep.call hb))
  have HG := Lib.hid (below_call HG.out hb)
  have Ho2 := Lib.hid ho2
  clear hb ho2
  simp only [Act.put, List.setIfInBounds_toArray, List.set_cons_zero, List.set_cons_succ]
  refine good_callX 5 50 (some 18) #[Go.Operand.tmp 14, Go.Operand.tmp 17] #[25, 25] (none) #[.agg #[.bool o1_b, .slice o1_a o1_n o1_c, .slice o1_d o1_m o1_e], .agg #[.bool o2_b, .slice o2_a o2_n o2_c, .slice o2_d o2_m o2_e]] (by kernel_rfl) Hok.out (by kernel_rfl) (by kernel_rfl) (by kernel_rfl) (by kernel_rfl) rfl rfl rfl (by kernel_rfl) (fun w7 hb => ?_)
  have Ho1 := Lib.hid (CR.keep Ho1.out (Keep.call hb))
  have Ho2 := Lib.hid (CR.keep Ho2.out (Keep.call hb))
  have HG := Lib.hid (below_call HG.out hb)
  clear hb
  (first | (have hcall := rdiv_ar (tw_ne s) Ho1.out.ar Ho2.out.ar (by decide) (by decide); refine Calls.mono hcall ?_; clear hcall) | refine Calls.mono (rdiv_ar (tw_ne s) Ho1.out.ar Ho2.out.ar (by decide) (by decide)) ?_)
  rintro e w8 ⟨t8, rfl, ⟨v8, rfl, hq1⟩, hb⟩
  obtain ⟨q1_b, q1_a, q1_n, q1_c, q1_d, q1_m, q1_e, rfl⟩ := hq1.litb
  refine ⟨_, rfl, ?_, hb⟩
  have HG := Lib.hid (below_call HG.out hb)
  have Hq1 := Lib.hid hq1
  clear hb hq1
  simp only [Act.put, List.setIfInBounds_toArray, List.set_cons_zero, List.set_cons_succ]
  refine good_pureX 6 (some 12) (Go.Op.move (Go.Operand.tmp 18)) (none) (.tuple #[.agg #[.bool q1_b, .slice q1_a q1_n q1_c, .slice q1_d q1_m q1_e], .int .i64 0]) (by kernel_rfl) (by kernel_rfl) (by kernel_rfl) (fun _ _ _ h => h) (fun w' hw' => ?_) ?_
  · first | (go_simp; done) | (go_simp; simp_all; done) | (go_simp; rfl)
  simp only [Act.put, List.setIfInBounds_toArray, List.set_cons_zero, List.set_cons_succ]
  refine good_pureX 7 (some 19) (Go.Op.extract (Go.Operand.tmp 12) 0) (none) (.agg #[.bool q1_b, .slice q1_a q1_n q1_c, .slice q1_d q1_m q1_e]) (by kernel_rfl) (by kernel_rfl) (by kernel_rfl) (fun _ _ _ h => h) (fun w' hw' => ?_) ?_
  · first | (go_simp; done) | (go_simp; simp_all; done) | (go_simp; rfl)
  simp only [Act.put, List.setIfInBounds_toArray, List.set_cons_zero, List.set_cons_succ]
  refine good_pureX 8 (some 20) (Go.Op.extract (Go.Operand.tmp 12) 1) (none) (.int .i64 0) (by kernel_rfl) (by kernel_rfl) (by kernel_rfl) (fun _ _ _ h => h) (fun w' hw' => ?_) ?_
  · first | (go_simp; done) | (go_simp; simp_all; done) | (go_simp; rfl)
  simp only [Act.put, List.setIfInBounds_toArray, List.set_cons_zero, List.set_cons_succ]
  refine good_end1 2 Hok.out (by kernel_rfl) (by kernel_rfl) (by kernel_rfl) (fun _ gb0 w9 hb eb0 xb0 => ?_)
  have Hq1 := Lib.hid (CR.keep Hq1.out (Keep.call hb))
  have HG := Lib.hid (below_call HG.out hb)
  clear hb
  have Na0b0 := Lib.hid (show w.heap.size ≠ gb0 from Nat.ne_of_lt (Nat.lt_of_lt_of_le Xa0.out.lt eb0))
  have Gb0 := Lib.hid (show w.heap.size ≤ gb0 from Nat.le_trans HB.out.size eb0)
  have Eb0 := Lib.hid eb0
  clear eb0
  have Xa0 := Lib.hid (Box.pcall HG.out Xa0.out)
  have HB := Lib.hid (below_call HB.out HG.out)
  have HS := Lib.hid (SE.of (E := []) HG.out)
  have Xb0 := Lib.hid xb0
  clear xb0
  simp only [Act.put, List.setIfInBounds_toArray, List.set_cons_zero, List.set_cons_succ]
  refine held_oneX 10 (Go.Op.store 25 (Go.Operand.tmp 6) (Go.Operand.tmp 19)) (none) (World.setCell (World.setCell (World.setCell w9 ⟨gb0, 0, none⟩ (.bool q1_b)) ⟨gb0, 1, none⟩ (.slice q1_a q1_n q1_c)) ⟨gb0, 2, none⟩ (.slice q1_d q1_m q1_e)) (by kernel_rfl) (by kernel_rfl) (by kernel_rfl) (by kernel_rfl) ?_ (HS.out.store3 (.inr Eb0.out)) ?_
  · obtain ⟨cb00, cb01, cb02, fb00, fb01, fb02⟩ := Xb0.out.c3
    first | (go_simp; done) | (go_simp; simp_all; done) | (go_simp; rfl)
  obtain ⟨W10, hW⟩ : ∃ W10, W10 = (World.setCell (World.setCell (World.setCell w9 ⟨gb0, 0, none⟩ (.bool q1_b)) ⟨gb0, 1, none⟩ (.slice q1_a q1_n q1_c)) ⟨gb0, 2, none⟩ (.slice q1_d q1_m q1_e)) := ⟨_, rfl⟩
  rw [← hW]
  obtain ⟨xb0, hk, hf, hbb, hz⟩ := stored3s hW Xb0.out (by first | exact NoInt.bool _ | exact NoInt.slice _ _ _) (by first | exact NoInt.bool _ | exact NoInt.slice _ _ _) (by first | exact NoInt.bool _ | exact NoInt.slice _ _ _)
  have Hq1 := Lib.hid (CR.keep Hq1.out hk)
  have Xa0 := Lib.hid (hf _ _ _ Xa0.out Na0b0.out)
  have Xb0 := Lib.hid xb0
  have HB := Lib.hid (hbb _ HB.out Gb0.out)
  have HS := Lib.hid (show SE (w2.drew) [] W10 from by rw [hW]; exact HS.out.store3 (.inr Eb0.out))
  clear hW hk hf hbb xb0
  clear hz
  refine held_pureX 11 (some 7) (Go.Op.assign (Go.Operand.tmp 20)) (none) (.int .i64 0) (by kernel_rfl) (by kernel_rfl) (by kernel_rfl) (fun _ _ _ h => h) (fun w' => by first | (go_simp; done) | (go_simp; simp_all; done) | (go_simp; rfl)) HS.out ?_
  simp only [Act.put, List.setIfInBounds_toArray, List.set_cons_zero, List.set_cons_succ]
  refine wpAnyH_done (by kernel_rfl) ?_ _
  clear HG HS Hok Eb0
  obtain ⟨ca00, ca01, ca02, fa00, fa01, fa02⟩ := Xa0.out.c3
  have la0 := Xa0.out.lt
  obtain ⟨cb00, cb01, cb02, fb00, fb01, fb02⟩ := Xb0.out.c3
  have lb0 := Xb0.out.lt
  go_wp2
  clear ca00 ca01 ca02 fa00 fa01 fa02 la0 cb00 cb01 cb02 fb00 fb01 fb02 lb0
  obtain ⟨W11, hW⟩ : ∃ W11, W11 = (World.setCell (World.setCell (World.setCell W10 ⟨w.heap.size, 0, none⟩ (.bool q1_b)) ⟨w.heap.size, 1, none⟩ (.slice q1_a q1_n q1_c)) ⟨w.heap.size, 2, none⟩ (.slice q1_d q1_m q1_e)) := ⟨_, rfl⟩
  rw [← hW]
  obtain ⟨xa0, hk, hf, hbb, hz⟩ := stored3s hW Xa0.out (by first | exact NoInt.bool _ | exact NoInt.slice _ _ _) (by first | exact NoInt.bool _ | exact NoInt.slice _ _ _) (by first | exact NoInt.bool _ | exact NoInt.slice _ _ _)
  have Hq1 := Lib.hid (CR.keep Hq1.out hk)
  have Xa0 := Lib.hid xa0
  have Xb0 := Lib.hid (hf _ _ _ Xb0.out Na0b0.out.symm)
  have HB := Lib.hid (hbb _ HB.out Ga0.out)
  clear hW hk hf hbb xa0
  clear hz
  exact ret_re rfl rfl rfl rfl Xa0.out ⟨_, rfl, CR.mono Hq1.out (by decide)⟩ HB.out


set_option maxRecDepth 100000 in
set_option maxHeartbeats 4000000 in
theorem zrat_y {s : Nat} {x : Int}  {w : World} (hv : decide (0 ≤ ((s : Nat) : Int) ∧ ((s : Nat) : Int) ≤ 62) = true) (hs : s ≤ 62) (ha1 : -9223372036854775808 ≤ x) (ha2 : x < 9223372036854775808)  :
    Calls Try.prog 25 #[.int .i64 x, .int .i64 ((s : Nat) : Int)] w (Ret w (CRE ((x : Rat) / tw s) 8 0)) := by
  have Hv := Lib.hid hv
  have Hs := Lib.hid hs
  have Ha1 := Lib.hid ha1
  have Ha2 := Lib.hid ha2
  clear hv hs ha1 ha2
  go_enter Try.func25, Try.ntmps25
  have HB := Lib.hid (Below.refl w.heap.size w)
  go_wp2_with fail
  obtain ⟨W1, hW⟩ : ∃ W1, W1 = (World.alloc w (.cells #[.bool false, .slice none 0 0, .slice none 0 0] 25)) := ⟨_, rfl⟩
  rw [← hW]
  obtain ⟨xa0, hk, hb⟩ := boxes_1 _ _ _ hW
  clear hW
  have Ga0 := Lib.hid (show w.heap.size ≤ w.heap.size from Nat.le_trans HB.out.size (by omega))
  have Xa0 := Lib.hid xa0
  have HB := Lib.hid (below_call HB.out hb)
  clear hk hb xa0
  refine Calls.mono (shifted_any _ _ Hv.out) ?_
  rintro e w2 ⟨v2, rfl, rfl, hb⟩
  have Xa0 := Lib.hid (Box.pcall hb Xa0.out)
  have HB := Lib.hid (below_call HB.out hb)
  clear hb
  obtain ⟨ca00, ca01, ca02, fa00, fa01, fa02⟩ := Xa0.out.c3
  have la0 := Xa0.out.lt
  go_wp2_with fail
  clear ca00 ca01 ca02 fa00 fa01 fa02 la0
  refine Calls.mono (zwhole51 Ha1.out Ha2.out) ?_
  rintro e w3 ⟨v3, rfl, ho1, hb⟩
  obtain ⟨o1_b, o1_a, o1_n, o1_c, o1_d, o1_m, o1_e, rfl⟩ := ho1.litb
  have Xa0 := Lib.hid (Box.pcall hb Xa0.out)
  have HB := Lib.hid (below_call HB.out hb)
  have Ho1 := Lib.hid ho1
  clear hb ho1
  obtain ⟨ca00, ca01, ca02, fa00, fa01, fa02⟩ := Xa0.out.c3
  have la0 := Xa0.out.lt
  go_wp2_with fail
  clear ca00 ca01 ca02 fa00 fa01 fa02 la0
  refine Calls.mono (power_any s (by have := Hs.out; omega) _) ?_
  rintro e w4 ⟨v4, rfl, hpw, hb⟩
  obtain ⟨pw_b, pw_a, pw_n, pw_c, pw_d, pw_m, pw_e, rfl⟩ := hpw.litb
  have Ho1 := Lib.hid (CR.keep Ho1.out (Keep.call hb))
  have Xa0 := Lib.hid (Box.pcall hb Xa0.out)
  have HB := Lib.hid (below_call HB.out hb)
  have Hpw := Lib.hid hpw
  clear hb hpw
  obtain ⟨ca00, ca01, ca02, fa00, fa01, fa02⟩ := Xa0.out.c3
  have la0 := Xa0.out.lt
  go_wp2_with fail
  clear ca00 ca01 ca02 fa00 fa01 fa02 la0
  (first | (have hcall := zdiv_ar (tw_ne s) Ho1.out.ar Hpw.out.ar (by decide) (by decide); refine Calls.mono hcall ?_; clear hcall) | refine Calls.mono (zdiv_ar (tw_ne s) Ho1.out.ar Hpw.out.ar (by decide) (by decide)) ?_)
  rintro e w5 ⟨t5, rfl, ⟨v5, rfl, hq1⟩, hb⟩
  obtain ⟨q1_b, q1_a, q1_n, q1_c, q1_d, q1_m, q1_e, rfl⟩ := hq1.litb
  have Xa0 := Lib.hid (Box.pcall hb Xa0.out)
  have HB := Lib.hid (below_call HB.out hb)
  have Hq1 := Lib.hid hq1
  clear hb hq1
  obtain ⟨ca00, ca01, ca02, fa00, fa01, fa02⟩ := Xa0.out.c3
  have la0 := Xa0.out.lt
  go_wp2
  clear ca00 ca01 ca02 fa00 fa01 fa02 la0
  obtain ⟨W6, hW⟩ : ∃ W6, W6 = (World.setCell (World.setCell (World.setCell w5 ⟨w.heap.size, 0, none⟩ (.bool q1_b)) ⟨w.heap.size, 1, none⟩ (.slice q1_a q1_n q1_c)) ⟨w.heap.size, 2, none⟩ (.slice q1_d q1_m q1_e)) := ⟨_, rfl⟩
  rw [← hW]
  obtain ⟨xa0, hk, hf, hbb, hz⟩ := stored3s hW Xa0.out (by first | exact NoInt.bool _ | exact NoInt.slice _ _ _) (by first | exact NoInt.bool _ | exact NoInt.slice _ _ _) (by first | exact NoInt.bool _ | exact NoInt.slice _ _ _)
  have Hq1 := Lib.hid (CR.keep Hq1.out hk)
  have Xa0 := Lib.hid xa0
  have HB := Lib.hid (hbb _ HB.out Ga0.out)
  clear hW hk hf hbb xa0
  clear hz
  exact ret_re rfl rfl rfl rfl Xa0.out ⟨_, rfl, CR.mono Hq1.out (by decide)⟩ HB.out


set_option maxRecDepth 100000 in
set_option maxHeartbeats 4000000 in
theorem frat_n {s x : Int}  {w : World} (hv : decide (0 ≤ s ∧ s ≤ 62) = false)  :
    Calls Try.prog 22 #[.int .i64 x, .int .i64 s] w (Ret w (Val (.tuple #[.agg #[.bool false, .slice none 0 0, .slice none 0 0], .int .i64 1]))) := by
  have Hv := Lib.hid hv
  clear hv
  go_enter Try.func22, Try.ntmps22
  have HB := Lib.hid (Below.refl w.heap.size w)
  go_wp2_with fail
  obtain ⟨W1, hW⟩ : ∃ W1, W1 = (World.alloc w (.cells #[.bool false, .slice none 0 0, .slice none 0 0] 25)) := ⟨_, rfl⟩
  rw [← hW]
  obtain ⟨xa0, hk, hb⟩ := boxes_1 _ _ _ hW
  clear hW
  have Ga0 := Lib.hid (show w.heap.size ≤ w.heap.size from Nat.le_trans HB.out.size (by omega))
  have Xa0 := Lib.hid xa0
  have HB := Lib.hid (below_call HB.out hb)
  clear hk hb xa0
  refine Calls.mono (fvalid_any _ _ Hv.out) ?_
  rintro e w2 ⟨v2, rfl, rfl, hb⟩
  have Xa0 := Lib.hid (Box.pcall hb Xa0.out)
  have HB := Lib.hid (below_call HB.out hb)
  clear hb
  obtain ⟨ca00, ca01, ca02, fa00, fa01, fa02⟩ := Xa0.out.c3
  have la0 := Xa0.out.lt
  go_wp2
  clear ca00 ca01 ca02 fa00 fa01 fa02 la0
  obtain ⟨W3, hW⟩ : ∃ W3, W3 = (World.setCell (World.setCell (World.setCell w2 ⟨w.heap.size, 0, none⟩ (.bool false)) ⟨w.heap.size, 1, none⟩ (.slice none 0 0)) ⟨w.heap.size, 2, none⟩ (.slice none 0 0)) := ⟨_, rfl⟩
  rw [← hW]
  obtain ⟨xa0, hk, hf, hbb, hz⟩ := stored3s hW Xa0.out (by first | exact NoInt.bool _ | exact NoInt.slice _ _ _) (by first | exact NoInt.bool _ | exact NoInt.slice _ _ _) (by first | exact NoInt.bool _ | exact NoInt.slice _ _ _)
  have Xa0 := Lib.hid xa0
  have HB := Lib.hid (hbb _ HB.out Ga0.out)
  clear hW hk hf hbb xa0
  clear hz
  exact ret_re rfl rfl rfl rfl Xa0.out rfl HB.out


set_option maxRecDepth 100000 in
set_option maxHeartbeats 4000000 in
theorem ferr_n {s : Int}  {w : World} (hv : decide (0 ≤ s ∧ s ≤ 62) = false)  :
    Calls Try.prog 23 #[.int .i64 s] w (Ret w (Val (.tuple #[.agg #[.bool false, .slice none 0 0, .slice none 0 0], .int .i64 1]))) := by
  have Hv := Lib.hid hv
  clear hv
  go_enter Try.func23, Try.ntmps23
  have HB := Lib.hid (Below.refl w.heap.size w)
  go_wp2_with fail
  obtain ⟨W1, hW⟩ : ∃ W1, W1 = (World.alloc w (.cells #[.bool false, .slice none 0 0, .slice none 0 0] 25)) := ⟨_, rfl⟩
  rw [← hW]
  obtain ⟨xa0, hk, hb⟩ := boxes_1 _ _ _ hW
  clear hW
  have Ga0 := Lib.hid (show w.heap.size ≤ w.heap.size from Nat.le_trans HB.out.size (by omega))
  have Xa0 := Lib.hid xa0
  have HB := Lib.hid (below_call HB.out hb)
  clear hk hb xa0
  refine Calls.mono (fvalid_any _ _ Hv.out) ?_
  rintro e w2 ⟨v2, rfl, rfl, hb⟩
  have Xa0 := Lib.hid (Box.pcall hb Xa0.out)
  have HB := Lib.hid (below_call HB.out hb)
  clear hb
  obtain ⟨ca00, ca01, ca02, fa00, fa01, fa02⟩ := Xa0.out.c3
  have la0 := Xa0.out.lt
  go_wp2
  clear ca00 ca01 ca02 fa00 fa01 fa02 la0
  obtain ⟨W3, hW⟩ : ∃ W3, W3 = (World.setCell (World.setCell (World.setCell w2 ⟨w.heap.size, 0, none⟩ (.bool false)) ⟨w.heap.size, 1, none⟩ (.slice none 0 0)) ⟨w.heap.size, 2, none⟩ (.slice none 0 0)) := ⟨_, rfl⟩
  rw [← hW]
  obtain ⟨xa0, hk, hf, hbb, hz⟩ := stored3s hW Xa0.out (by first | exact NoInt.bool _ | exact NoInt.slice _ _ _) (by first | exact NoInt.bool _ | exact NoInt.slice _ _ _) (by first | exact NoInt.bool _ | exact NoInt.slice _ _ _)
  have Xa0 := Lib.hid xa0
  have HB := Lib.hid (hbb _ HB.out Ga0.out)
  clear hW hk hf hbb xa0
  clear hz
  exact ret_re rfl rfl rfl rfl Xa0.out rfl HB.out


set_option maxRecDepth 100000 in
set_option maxHeartbeats 4000000 in
theorem zrat_n {s x : Int}  {w : World} (hv : decide (0 ≤ s ∧ s ≤ 62) = false)  :
    Calls Try.prog 25 #[.int .i64 x, .int .i64 s] w (Ret w (Val (.tuple #[.agg #[.bool false, .slice none 0 0, .slice none 0 0], .int .i64 1]))) := by
  have Hv := Lib.hid hv
  clear hv
  go_enter Try.func25, Try.ntmps25
  have HB := Lib.hid (Below.refl w.heap.size w)
  go_wp2_with fail
  obtain ⟨W1, hW⟩ : ∃ W1, W1 = (World.alloc w (.cells #[.bool false, .slice none 0 0, .slice none 0 0] 25)) := ⟨_, rfl⟩
  rw [← hW]
  obtain ⟨xa0, hk, hb⟩ := boxes_1 _ _ _ hW
  clear hW
  have Ga0 := Lib.hid (show w.heap.size ≤ w.heap.size from Nat.le_trans HB.out.size (by omega))
  have Xa0 := Lib.hid xa0
  have HB := Lib.hid (below_call HB.out hb)
  clear hk hb xa0
  refine Calls.mono (shifted_any _ _ Hv.out) ?_
  rintro e w2 ⟨v2, rfl, rfl, hb⟩
  have Xa0 := Lib.hid (Box.pcall hb Xa0.out)
  have HB := Lib.hid (below_call HB.out hb)
  clear hb
  obtain ⟨ca00, ca01, ca02, fa00, fa01, fa02⟩ := Xa0.out.c3
  have la0 := Xa0.out.lt
  go_wp2
  clear ca00 ca01 ca02 fa00 fa01 fa02 la0
  obtain ⟨W3, hW⟩ : ∃ W3, W3 = (World.setCell (World.setCell (World.setCell w2 ⟨w.heap.size, 0, none⟩ (.bool false)) ⟨w.heap.size, 1, none⟩ (.slice none 0 0)) ⟨w.heap.size, 2, none⟩ (.slice none 0 0)) := ⟨_, rfl⟩
  rw [← hW]
  obtain ⟨xa0, hk, hf, hbb, hz⟩ := stored3s hW Xa0.out (by first | exact NoInt.bool _ | exact NoInt.slice _ _ _) (by first | exact NoInt.bool _ | exact NoInt.slice _ _ _) (by first | exact NoInt.bool _ | exact NoInt.slice _ _ _)
  have Xa0 := Lib.hid xa0
  have HB := Lib.hid (hbb _ HB.out Ga0.out)
  clear hW hk hf hbb xa0
  clear hz
  exact ret_re rfl rfl rfl rfl Xa0.out rfl HB.out


set_option maxRecDepth 100000 in
set_option maxHeartbeats 4000000 in
theorem zerr_n {s : Int}  {w : World} (hv : decide (0 ≤ s ∧ s ≤ 62) = false)  :
    Calls Try.prog 26 #[.int .i64 s] w (Ret w (Val (.tuple #[.agg #[.bool false, .slice none 0 0, .slice none 0 0], .int .i64 1]))) := by
  have Hv := Lib.hid hv
  clear hv
  go_enter Try.func26, Try.ntmps26
  have HB := Lib.hid (Below.refl w.heap.size w)
  go_wp2_with fail
  obtain ⟨W1, hW⟩ : ∃ W1, W1 = (World.alloc w (.cells #[.bool false, .slice none 0 0, .slice none 0 0] 25)) := ⟨_, rfl⟩
  rw [← hW]
  obtain ⟨xa0, hk, hb⟩ := boxes_1 _ _ _ hW
  clear hW
  have Ga0 := Lib.hid (show w.heap.size ≤ w.heap.size from Nat.le_trans HB.out.size (by omega))
  have Xa0 := Lib.hid xa0
  have HB := Lib.hid (below_call HB.out hb)
  clear hk hb xa0
  refine Calls.mono (shifted_any _ _ Hv.out) ?_
  rintro e w2 ⟨v2, rfl, rfl, hb⟩
  have Xa0 := Lib.hid (Box.pcall hb Xa0.out)
  have HB := Lib.hid (below_call HB.out hb)
  clear hb
  obtain ⟨ca00, ca01, ca02, fa00, fa01, fa02⟩ := Xa0.out.c3
  have la0 := Xa0.out.lt
  go_wp2
  clear ca00 ca01 ca02 fa00 fa01 fa02 la0
  obtain ⟨W3, hW⟩ : ∃ W3, W3 = (World.setCell (World.setCell (World.setCell w2 ⟨w.heap.size, 0, none⟩ (.bool false)) ⟨w.heap.size, 1, none⟩ (.slice none 0 0)) ⟨w.heap.size, 2, none⟩ (.slice none 0 0)) := ⟨_, rfl⟩
  rw [← hW]
  obtain ⟨xa0, hk, hf, hbb, hz⟩ := stored3s hW Xa0.out (by first | exact NoInt.bool _ | exact NoInt.slice _ _ _) (by first | exact NoInt.bool _ | exact NoInt.slice _ _ _) (by first | exact NoInt.bool _ | exact NoInt.slice _ _ _)
  have Xa0 := Lib.hid xa0
  have HB := Lib.hid (hbb _ HB.out Ga0.out)
  clear hW hk hf hbb xa0
  clear hz
  exact ret_re rfl rfl rfl rfl Xa0.out rfl HB.out


set_option maxRecDepth 100000 in
set_option maxHeartbeats 4000000 in
theorem ferr_y {s : Nat}  {w : World} (hv : decide (0 ≤ ((s : Nat) : Int) ∧ ((s : Nat) : Int) ≤ 62) = true) (hs : s ≤ 62) (h1 : -9223372036854775808 ≤ ((2 ^ s : Nat) : Int)) (h2 : ((2 ^ s : Nat) : Int) < 9223372036854775808) (hsh : Op.shift BinOp.shl IntKind.i64 1 IntKind.i64 ((s : Nat) : Int) = pure (.int .i64 (((2 ^ s : Nat) : Nat) : Int)))  :
    Calls Try.prog 23 #[.int .i64 ((s : Nat) : Int)] w (Ret w (CRE (((1 : Int) : Rat) / ((2 : Int) : Rat) * (((1 : Int) : Rat) / tw s)) 12 0)) := by
  have Hv := Lib.hid hv
  have Hs := Lib.hid hs
  have H1 := Lib.hid h1
  have H2 := Lib.hid h2
  clear hv hs h1 h2
  go_enter Try.func23, Try.ntmps23
  have HB := Lib.hid (Below.refl w.heap.size w)
  go_wp2_with fail
  obtain ⟨W1, hW⟩ : ∃ W1, W1 = (World.alloc w (.cells #[.bool false, .slice none 0 0, .slice none 0 0] 25)) := ⟨_, rfl⟩
  rw [← hW]
  obtain ⟨xa0, hk, hb⟩ := boxes_1 _ _ _ hW
  clear hW
  have Ga0 := Lib.hid (show w.heap.size ≤ w.heap.size from Nat.le_trans HB.out.size (by omega))
  have Xa0 := Lib.hid xa0
  have HB := Lib.hid (below_call HB.out hb)
  clear hk hb xa0
  refine Calls.mono (fvalid_any _ _ Hv.out) ?_
  rintro e w2 ⟨v2, rfl, rfl, hb⟩
  have Xa0 := Lib.hid (Box.pcall hb Xa0.out)
  have HB := Lib.hid (below_call HB.out hb)
  clear hb
  obtain ⟨ca00, ca01, ca02, fa00, fa01, fa02⟩ := Xa0.out.c3
  have la0 := Xa0.out.lt
  go_wp2_with fail
  clear ca00 ca01 ca02 fa00 fa01 fa02 la0
  have Xa0 := Lib.hid (Box.drew Xa0.out)
  have HB := Lib.hid (Below.drew HB.out)
  refine wp_region_float [] [⟨8, 4, 25, #[.bool false, .slice none 0 0, .slice none 0 0]⟩] (by kernel_rfl) (by kernel_rfl) 27 (by kernel_rfl) (Flok.one (by kernel_rfl) (by kernel_rfl) (by kernel_rfl) (by intro w; go_simp)) ?_
  intro ok
  have Hok := Lib.hid ok
  clear ok
  have HG := Lib.hid (Below.refl (w2.drew).heap.size (w2.drew))
  refine good_pureX 1 (some 14) (Go.Op.move (Go.Operand.tmp 0)) (none) (.int .i64 ((s : Nat) : Int)) (by kernel_rfl) (by kernel_rfl) (by kernel_rfl) (fun _ _ _ h => h) (fun w' hw' => ?_) ?_
  · first | (go_simp; done) | (go_simp; simp_all; done) | (go_simp; rfl)
  simp only [Act.put, List.setIfInBounds_toArray, List.set_cons_zero, List.set_cons_succ]
  refine good_pureX 2 (some 15) (Go.Op.binOp Go.BinOp.shl 3 (Go.Operand.const (Go.Value.int Go.IntKind.i64 1)) (Go.Operand.tmp 14) 3) (none) (.int .i64 ((2 ^ s : Nat) : Int)) (by kernel_rfl) (by kernel_rfl) (by kernel_rfl) (fun _ _ _ h => h) (fun w' hw' => ?_) ?_
  · first | (go_simp; done) | (go_simp; simp_all; done) | (go_simp; rfl)
  simp only [Act.put, List.setIfInBounds_toArray, List.set_cons_zero, List.set_cons_succ]
  refine good_callX 0 34 (some 13) #[Go.Operand.const (Go.Value.int Go.IntKind.i64 1)] #[3] (none) #[.int .i64 1] (by kernel_rfl) Hok.out (by kernel_rfl) (by kernel_rfl) (by kernel_rfl) (by kernel_rfl) rfl rfl rfl (by kernel_rfl) (fun w3 hb => ?_)
  have HG := Lib.hid (below_call HG.out hb)
  clear hb
  refine Calls.mono (of_rat (x := 1) (by decide) (by decide)) ?_
  rintro e w4 ⟨v4, rfl, ho1, hb⟩
  obtain ⟨o1_b, o1_a, o1_n, o1_c, o1_d, o1_m, o1_e, rfl⟩ := ho1.litb
  refine ⟨_, rfl, ?_, hb⟩
  have HG := Lib.hid (below_call HG.out hb)
  have Ho1 := Lib.hid ho1
  clear hb ho1
  simp only [Act.put, List.setIfInBounds_toArray, List.set_cons_zero, List.set_cons_succ]
  refine good_callX 3 34 (some 16) #[Go.Operand.tmp 15] #[3] (none) #[.int .i64 ((2 ^ s : Nat) : Int)] (by kernel_rfl) Hok.out (by kernel_rfl) (by kernel_rfl) (by kernel_rfl) (by kernel_rfl) rfl rfl rfl (by kernel_rfl) (fun w5 hb => ?_)
  have Ho1 := Lib.hid (CR.keep Ho1.out (Keep.call hb))
  have HG := Lib.hid (below_call HG.out hb)
  clear hb
  refine Calls.mono (of_rat (x := ((2 ^ s : Nat) : Int)) H1.out H2.out) ?_
  rintro e w6 ⟨v6, rfl, ho2, hb⟩
  obtain ⟨o2_b, o2_a, o2_n, o2_c, o2_d, o2_m, o2_e, rfl⟩ := ho2.litb
  refine ⟨_, rfl, ?_, hb⟩
  have Ho1 := Lib.hid (CR.keep Ho1.out (Keep.call hb))
  have HG := Lib.hid (below_call HG.out hb)
  have Ho2 := Lib.hid ho2
  clear hb ho2
  simp only [Act.put, List.setIfInBounds_toArray, List.set_cons_zero, List.set_cons_succ]
  refine good_callX 4 50 (some 17) #[Go.Operand.tmp 13, Go.Operand.tmp 16] #[25, 25] (none) #[.agg #[.bool o1_b, .slice o1_a o1_n o1_c, .slice o1_d o1_m o1_e], .agg #[.bool o2_b, .slice o2_a o2_n o2_c, .slice o2_d o2_m o2_e]] (by kernel_rfl) Hok.out (by kernel_rfl) (by kernel_rfl) (by kernel_rfl) (by kernel_rfl) rfl rfl rfl (by kernel_rfl) (fun w7 hb => ?_)
  have Ho1 := Lib.hid (CR.keep Ho1.out (Keep.call hb))
  have Ho2 := Lib.hid (CR.keep Ho2.out (Keep.call hb))
  have HG := Lib.hid (below_call HG.out hb)
  clear hb
  (first | (have hcall := rdiv_ar (tw_ne s) Ho1.out.ar Ho2.out.ar (by decide) (by decide); refine Calls.mono hcall ?_; clear hcall) | refine Calls.mono (rdiv_ar (tw_ne s) Ho1.out.ar Ho2.out.ar (by decide) (by decide)) ?_)
  rintro e w8 ⟨t8, rfl, ⟨v8, rfl, hq1⟩, hb⟩
  obtain ⟨q1_b, q1_a, q1_n, q1_c, q1_d, q1_m, q1_e, rfl⟩ := hq1.litb
  refine ⟨_, rfl, ?_, hb⟩
  have HG := Lib.hid (below_call HG.out hb)
  have Hq1 := Lib.hid hq1
  clear hb hq1
  simp only [Act.put, List.setIfInBounds_toArray, List.set_cons_zero, List.set_cons_succ]
  refine good_pureX 5 (some 12) (Go.Op.move (Go.Operand.tmp 17)) (none) (.tuple #[.agg #[.bool q1_b, .slice q1_a q1_n q1_c, .slice q1_d q1_m q1_e], .int .i64 0]) (by kernel_rfl) (by kernel_rfl) (by kernel_rfl) (fun _ _ _ h => h) (fun w' hw' => ?_) ?_
  · first | (go_simp; done) | (go_simp; simp_all; done) | (go_simp; rfl)
  simp only [Act.put, List.setIfInBounds_toArray, List.set_cons_zero, List.set_cons_succ]
  refine good_pureX 6 (some 18) (Go.Op.extract (Go.Operand.tmp 12) 0) (none) (.agg #[.bool q1_b, .slice q1_a q1_n q1_c, .slice q1_d q1_m q1_e]) (by kernel_rfl) (by kernel_rfl) (by kernel_rfl) (fun _ _ _ h => h) (fun w' hw' => ?_) ?_
  · first | (go_simp; done) | (go_simp; simp_all; done) | (go_simp; rfl)
  simp only [Act.put, List.setIfInBounds_toArray, List.set_cons_zero, List.set_cons_succ]
  refine good_pureX 7 (some 19) (Go.Op.extract (Go.Operand.tmp 12) 1) (none) (.int .i64 0) (by kernel_rfl) (by kernel_rfl) (by kernel_rfl) (fun _ _ _ h => h) (fun w' hw' => ?_) ?_
  · first | (go_simp; done) | (go_simp; simp_all; done) | (go_simp; rfl)
  simp only [Act.put, List.setIfInBounds_toArray, List.set_cons_zero, List.set_cons_succ]
  refine good_end1 2 Hok.out (by kernel_rfl) (by kernel_rfl) (by kernel_rfl) (fun _ gb0 w9 hb eb0 xb0 => ?_)
  have Hq1 := Lib.hid (CR.keep Hq1.out (Keep.call hb))
  have HG := Lib.hid (below_call HG.out hb)
  clear hb
  have Na0b0 := Lib.hid (show w.heap.size ≠ gb0 from Nat.ne_of_lt (Nat.lt_of_lt_of_le Xa0.out.lt eb0))
  have Gb0 := Lib.hid (show w.heap.size ≤ gb0 from Nat.le_trans HB.out.size eb0)
  have Eb0 := Lib.hid eb0
  clear eb0
  have Xa0 := Lib.hid (Box.pcall HG.out Xa0.out)
  have HB := Lib.hid (below_call HB.out HG.out)
  have HS := Lib.hid (SE.of (E := []) HG.out)
  have Xb0 := Lib.hid xb0
  clear xb0
  simp only [Act.put, List.setIfInBounds_toArray, List.set_cons_zero, List.set_cons_succ]
  refine held_oneX 9 (Go.Op.store 25 (Go.Operand.tmp 4) (Go.Operand.tmp 18)) (none) (World.setCell (World.setCell (World.setCell w9 ⟨gb0, 0, none⟩ (.bool q1_b)) ⟨gb0, 1, none⟩ (.slice q1_a q1_n q1_c)) ⟨gb0, 2, none⟩ (.slice q1_d q1_m q1_e)) (by kernel_rfl) (by kernel_rfl) (by kernel_rfl) (by kernel_rfl) ?_ (HS.out.store3 (.inr Eb0.out)) ?_
  · obtain ⟨cb00, cb01, cb02, fb00, fb01, fb02⟩ := Xb0.out.c3
    first | (go_simp; done) | (go_simp; simp_all; done) | (go_simp; rfl)
  obtain ⟨W10, hW⟩ : ∃ W10, W10 = (World.setCell (World.setCell (World.setCell w9 ⟨gb0, 0, none⟩ (.bool q1_b)) ⟨gb0, 1, none⟩ (.slice q1_a q1_n q1_c)) ⟨gb0, 2, none⟩ (.slice q1_d q1_m q1_e)) := ⟨_, rfl⟩
  rw [← hW]
  obtain ⟨xb0, hk, hf, hbb, hz⟩ := stored3s hW Xb0.out (by first | exact NoInt.bool _ | exact NoInt.slice _ _ _) (by first | exact NoInt.bool _ | exact NoInt.slice _ _ _) (by first | exact NoInt.bool _ | exact NoInt.slice _ _ _)
  have Hq1 := Lib.hid (CR.keep Hq1.out hk)
  have Xa0 := Lib.hid (hf _ _ _ Xa0.out Na0b0.out)
  have Xb0 := Lib.hid xb0
  have HB := Lib.hid (hbb _ HB.out Gb0.out)
  have HS := Lib.hid (show SE (w2.drew) [] W10 from by rw [hW]; exact HS.out.store3 (.inr Eb0.out))
  clear hW hk hf hbb xb0
  clear hz
  refine held_pureX 10 (some 5) (Go.Op.assign (Go.Operand.tmp 19)) (none) (.int .i64 0) (by kernel_rfl) (by kernel_rfl) (by kernel_rfl) (fun _ _ _ h => h) (fun w' => by first | (go_simp; done) | (go_simp; simp_all; done) | (go_simp; rfl)) HS.out ?_
  simp only [Act.put, List.setIfInBounds_toArray, List.set_cons_zero, List.set_cons_succ]
  refine wpAnyH_done (by kernel_rfl) ?_ _
  clear HG HS Hok Eb0
  obtain ⟨ca00, ca01, ca02, fa00, fa01, fa02⟩ := Xa0.out.c3
  have la0 := Xa0.out.lt
  obtain ⟨cb00, cb01, cb02, fb00, fb01, fb02⟩ := Xb0.out.c3
  have lb0 := Xb0.out.lt
  go_wp2_with fail
  clear ca00 ca01 ca02 fa00 fa01 fa02 la0 cb00 cb01 cb02 fb00 fb01 fb02 lb0
  refine Calls.mono (rfrac_1 (x := 1) (y := 2) (by decide) (by decide) (by decide) (by decide) (by decide)) ?_
  rintro e w11 ⟨t11, rfl, ⟨v11, rfl, hhf⟩, hb⟩
  obtain ⟨hf_b, hf_a, hf_n, hf_c, hf_d, hf_m, hf_e, rfl⟩ := hhf.litb
  have Hq1 := Lib.hid (CR.keep Hq1.out (Keep.call hb))
  have Xa0 := Lib.hid (Box.pcall hb Xa0.out)
  have Xb0 := Lib.hid (Box.pcall hb Xb0.out)
  have HB := Lib.hid (below_call HB.out hb)
  have Hhf := Lib.hid hhf
  clear hb hhf
  obtain ⟨ca00, ca01, ca02, fa00, fa01, fa02⟩ := Xa0.out.c3
  have la0 := Xa0.out.lt
  obtain ⟨cb00, cb01, cb02, fb00, fb01, fb02⟩ := Xb0.out.c3
  have lb0 := Xb0.out.lt
  go_wp2_with fail
  clear ca00 ca01 ca02 fa00 fa01 fa02 la0 cb00 cb01 cb02 fb00 fb01 fb02 lb0
  obtain ⟨W12, hW⟩ : ∃ W12, W12 = (World.alloc w11 (.cells #[.bool hf_b, .slice hf_a hf_n hf_c, .slice hf_d hf_m hf_e] 25)) := ⟨_, rfl⟩
  rw [← hW]
  obtain ⟨xc0, hk, hb⟩ := boxes_1 _ _ _ hW
  clear hW
  have Hq1 := Lib.hid (CR.keep Hq1.out hk)
  have Hhf := Lib.hid (CR.keep Hhf.out hk)
  have Na0c0 := Lib.hid (show w.heap.size ≠ w11.heap.size from Nat.ne_of_lt (Nat.lt_of_lt_of_le Xa0.out.lt (by omega)))
  have Nb0c0 := Lib.hid (show gb0 ≠ w11.heap.size from Nat.ne_of_lt (Nat.lt_of_lt_of_le Xb0.out.lt (by omega)))
  have Gc0 := Lib.hid (show w.heap.size ≤ w11.heap.size from Nat.le_trans HB.out.size (by omega))
  have Xa0 := Lib.hid (Box.pcall hb Xa0.out)
  have Xb0 := Lib.hid (Box.pcall hb Xb0.out)
  have Xc0 := Lib.hid xc0
  have HB := Lib.hid (below_call HB.out hb)
  clear hk hb xc0
  (first | (have hcall := rmul_ar Hhf.out.ar Hq1.out.ar (by decide) (by decide); refine Calls.mono hcall ?_; clear hcall) | refine Calls.mono (rmul_ar Hhf.out.ar Hq1.out.ar (by decide) (by decide)) ?_)
  rintro e w13 ⟨v13, rfl, hm1, hb⟩
  obtain ⟨m1_b, m1_a, m1_n, m1_c, m1_d, m1_m, m1_e, rfl⟩ := hm1.litb
  have Xa0 := Lib.hid (Box.pcall hb Xa0.out)
  have Xb0 := Lib.hid (Box.pcall hb Xb0.out)
  have Xc0 := Lib.hid (Box.pcall hb Xc0.out)
  have HB := Lib.hid (below_call HB.out hb)
  have Hm1 := Lib.hid hm1
  clear hb hm1
  obtain ⟨ca00, ca01, ca02, fa00, fa01, fa02⟩ := Xa0.out.c3
  have la0 := Xa0.out.lt
  obtain ⟨cb00, cb01, cb02, fb00, fb01, fb02⟩ := Xb0.out.c3
  have lb0 := Xb0.out.lt
  obtain ⟨cc00, cc01, cc02, fc00, fc01, fc02⟩ := Xc0.out.c3
  have lc0 := Xc0.out.lt
  go_wp2
  clear ca00 ca01 ca02 fa00 fa01 fa02 la0 cb00 cb01 cb02 fb00 fb01 fb02 lb0 cc00 cc01 cc02 fc00 fc01 fc02 lc0
  obtain ⟨W14, hW⟩ : ∃ W14, W14 = (World.setCell (World.setCell (World.setCell w13 ⟨w.heap.size, 0, none⟩ (.bool m1_b)) ⟨w.heap.size, 1, none⟩ (.slice m1_a m1_n m1_c)) ⟨w.heap.size, 2, none⟩ (.slice m1_d m1_m m1_e)) := ⟨_, rfl⟩
  rw [← hW]
  obtain ⟨xa0, hk, hf, hbb, hz⟩ := stored3s hW Xa0.out (by first | exact NoInt.bool _ | exact NoInt.slice _ _ _) (by first | exact NoInt.bool _ | exact NoInt.slice _ _ _) (by first | exact NoInt.bool _ | exact NoInt.slice _ _ _)
  have Hm1 := Lib.hid (CR.keep Hm1.out hk)
  have Xa0 := Lib.hid xa0
  have Xb0 := Lib.hid (hf _ _ _ Xb0.out Na0b0.out.symm)
  have Xc0 := Lib.hid (hf _ _ _ Xc0.out Na0c0.out.symm)
  have HB := Lib.hid (hbb _ HB.out Ga0.out)
  clear hW hk hf hbb xa0
  clear hz
  exact ret_re rfl rfl rfl rfl Xa0.out ⟨_, rfl, CR.mono Hm1.out (by decide)⟩ HB.out


set_option maxRecDepth 100000 in
set_option maxHeartbeats 4000000 in
theorem zerr_y {s : Nat}  {w : World} (hv : decide (0 ≤ ((s : Nat) : Int) ∧ ((s : Nat) : Int) ≤ 62) = true) (hs : s ≤ 62)  :
    Calls Try.prog 26 #[.int .i64 ((s : Nat) : Int)] w (Ret w (CRE (((1 : Int) : Rat) / tw (s + 1)) 8 0)) := by
  have Hv := Lib.hid hv
  have Hs := Lib.hid hs
  clear hv hs
  go_enter Try.func26, Try.ntmps26
  have HB := Lib.hid (Below.refl w.heap.size w)
  go_wp2_with fail
  obtain ⟨W1, hW⟩ : ∃ W1, W1 = (World.alloc w (.cells #[.bool false, .slice none 0 0, .slice none 0 0] 25)) := ⟨_, rfl⟩
  rw [← hW]
  obtain ⟨xa0, hk, hb⟩ := boxes_1 _ _ _ hW
  clear hW
  have Ga0 := Lib.hid (show w.heap.size ≤ w.heap.size from Nat.le_trans HB.out.size (by omega))
  have Xa0 := Lib.hid xa0
  have HB := Lib.hid (below_call HB.out hb)
  clear hk hb xa0
  refine Calls.mono (shifted_any _ _ Hv.out) ?_
  rintro e w2 ⟨v2, rfl, rfl, hb⟩
  have Xa0 := Lib.hid (Box.pcall hb Xa0.out)
  have HB := Lib.hid (below_call HB.out hb)
  clear hb
  obtain ⟨ca00, ca01, ca02, fa00, fa01, fa02⟩ := Xa0.out.c3
  have la0 := Xa0.out.lt
  go_wp2_with fail
  clear ca00 ca01 ca02 fa00 fa01 fa02 la0
  refine Calls.mono (zof (x := 1) (by decide) (by decide)) ?_
  rintro e w3 ⟨v3, rfl, ho1, hb⟩
  obtain ⟨o1_b, o1_a, o1_n, o1_c, o1_d, o1_m, o1_e, rfl⟩ := ho1.litb
  have Xa0 := Lib.hid (Box.pcall hb Xa0.out)
  have HB := Lib.hid (below_call HB.out hb)
  have Ho1 := Lib.hid ho1
  clear hb ho1
  obtain ⟨ca00, ca01, ca02, fa00, fa01, fa02⟩ := Xa0.out.c3
  have la0 := Xa0.out.lt
  go_wp2_with fail
  clear ca00 ca01 ca02 fa00 fa01 fa02 la0
  refine Calls.mono (power_at (s + 1) _ (by first | omega | (rw [wrap64_id (by have := Hs.out; omega) (by have := Hs.out; omega)]; omega)) (by have := Hs.out; omega)) ?_
  rintro e w4 ⟨v4, rfl, hpw, hb⟩
  obtain ⟨pw_b, pw_a, pw_n, pw_c, pw_d, pw_m, pw_e, rfl⟩ := hpw.litb
  have Ho1 := Lib.hid (CR.keep Ho1.out (Keep.call hb))
  have Xa0 := Lib.hid (Box.pcall hb Xa0.out)
  have HB := Lib.hid (below_call HB.out hb)
  have Hpw := Lib.hid hpw
  clear hb hpw
  obtain ⟨ca00, ca01, ca02, fa00, fa01, fa02⟩ := Xa0.out.c3
  have la0 := Xa0.out.lt
  go_wp2_with fail
  clear ca00 ca01 ca02 fa00 fa01 fa02 la0
  refine Calls.mono (zdiv_ar (tw_ne _) Ho1.out.ar Hpw.out.ar (by decide) (by decide)) ?_
  rintro e w5 ⟨t5, rfl, ⟨v5, rfl, hq1⟩, hb⟩
  obtain ⟨q1_b, q1_a, q1_n, q1_c, q1_d, q1_m, q1_e, rfl⟩ := hq1.litb
  have Xa0 := Lib.hid (Box.pcall hb Xa0.out)
  have HB := Lib.hid (below_call HB.out hb)
  have Hq1 := Lib.hid hq1
  clear hb hq1
  obtain ⟨ca00, ca01, ca02, fa00, fa01, fa02⟩ := Xa0.out.c3
  have la0 := Xa0.out.lt
  go_wp2
  clear ca00 ca01 ca02 fa00 fa01 fa02 la0
  obtain ⟨W6, hW⟩ : ∃ W6, W6 = (World.setCell (World.setCell (World.setCell w5 ⟨w.heap.size, 0, none⟩ (.bool q1_b)) ⟨w.heap.size, 1, none⟩ (.slice q1_a q1_n q1_c)) ⟨w.heap.size, 2, none⟩ (.slice q1_d q1_m q1_e)) := ⟨_, rfl⟩
  rw [← hW]
  obtain ⟨xa0, hk, hf, hbb, hz⟩ := stored3s hW Xa0.out (by first | exact NoInt.bool _ | exact NoInt.slice _ _ _) (by first | exact NoInt.bool _ | exact NoInt.slice _ _ _) (by first | exact NoInt.bool _ | exact NoInt.slice _ _ _)
  have Hq1 := Lib.hid (CR.keep Hq1.out hk)
  have Xa0 := Lib.hid xa0
  have HB := Lib.hid (hbb _ HB.out Ga0.out)
  clear hW hk hf hbb xa0
  clear hz
  exact ret_re rfl rfl rfl rfl Xa0.out ⟨_, rfl, CR.mono Hq1.out (by decide)⟩ HB.out


theorem err_eq (s : Nat) : ((1 : Int) : Rat) / tw (s + 1) = ((1 : Int) : Rat) / ((2 : Int) : Rat) * (((1 : Int) : Rat) / tw s) := by
  have h := tw_ne s
  rw [← tw_succ]
  have e : ((1 : Int) : Rat) / ((2 : Int) : Rat) = 1 / 2 := half_eq
  rw [e, show ((1 : Int) : Rat) = 1 from rfl, show tw s + tw s = 2 * tw s by grind]
  rw [Rat.div_def, Rat.div_def, Rat.div_def, Rat.inv_mul_rev]
  grind

end Go.Proofs.Ytfffehmkohcgcaa
