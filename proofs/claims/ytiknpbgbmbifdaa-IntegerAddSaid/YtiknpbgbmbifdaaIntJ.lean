/- The laws of relucertlaw02: Add, Mul. Printed by lawi.py. -/
import Derived.Test.YtiknpbgbmbifdaaIntH
namespace Go.Proofs.Ytiknpbgbmbifdaa
open Go.RowKit Nt
set_option linter.unusedVariables false

set_option maxRecDepth 100000 in
set_option maxHeartbeats 4000000 in
theorem IntegerAdd_far (ba : Bool) (aa : Option Addr) (na ca : Nat) (bb : Bool) (ab : Option Addr) (nb cb : Nat) (bc : Bool) (ac : Option Addr) (nc cc : Nat) (w : World) (h : 8 < na ∨ 8 < nb ∨ 8 < nc) :
    Calls Try.prog 7 #[.agg #[.bool ba, .slice aa na ca], .agg #[.bool bb, .slice ab nb cb], .agg #[.bool bc, .slice ac nc cc]] w (Ret w (Val (.bool true))) := by
  go_enter Try.func7, Try.ntmps7
  go_wp2_with fail
  obtain ⟨W, hW⟩ : ∃ W, W = (((w.alloc (.cells #[.bool ba, .slice aa na ca] 25)).alloc (.cells #[.bool bb, .slice ab nb cb] 25)).alloc (.cells #[.bool bc, .slice ac nc cc] 25)) := ⟨_, rfl⟩
  rw [← hW]
  obtain ⟨xa, xb, xc, hk, hb⟩ := boxes_3 _ _ _ _ _ _ _ hW
  clear hW
  have Xa := Lib.hid xa
  have Xb := Lib.hid xb
  have Xc := Lib.hid xc
  have HB := Lib.hid hb
  clear hk hb xa xb xc
  refine Calls.mono (iawake_any _) ?_
  rintro e w1 ⟨v1, rfl, rfl, hb⟩
  have Xa := Lib.hid (Box.pcall hb Xa.out)
  have Xb := Lib.hid (Box.pcall hb Xb.out)
  have Xc := Lib.hid (Box.pcall hb Xc.out)
  have HB := Lib.hid (below_call HB.out hb)
  clear hb
  obtain ⟨ca0, ca1, fa0, fa1⟩ := Xa.out.c2
  obtain ⟨cb0, cb1, fb0, fb1⟩ := Xb.out.c2
  obtain ⟨cc0, cc1, fc0, fc1⟩ := Xc.out.c2
  go_wp2_with fail
  clear ca0 ca1 fa0 fa1 cb0 cb1 fb0 fb1 cc0 cc1 fc0 fc1
  refine Calls.mono (ifew_no h) ?_
  rintro e w2 ⟨v2, rfl, rfl, hb⟩
  have Xa := Lib.hid (Box.pcall hb Xa.out)
  have Xb := Lib.hid (Box.pcall hb Xb.out)
  have Xc := Lib.hid (Box.pcall hb Xc.out)
  have HB := Lib.hid (below_call HB.out hb)
  clear hb
  obtain ⟨ca0, ca1, fa0, fa1⟩ := Xa.out.c2
  obtain ⟨cb0, cb1, fb0, fb1⟩ := Xb.out.c2
  obtain ⟨cc0, cc1, fc0, fc1⟩ := Xc.out.c2
  go_wp2_with fail
  go_wp2
  all_goals (go_ret; exact ⟨_, rfl, rfl, HB.out⟩)


set_option maxRecDepth 100000 in
set_option maxHeartbeats 4000000 in
theorem IntegerAdd_near (ba : Bool) (aa : Option Addr) (na ca : Nat) (bb : Bool) (ab : Option Addr) (nb cb : Nat) (bc : Bool) (ac : Option Addr) (nc cc : Nat) (w : World) (Xa : Int) (ha : AI Xa 8 w (.agg #[.bool ba, .slice aa na ca])) (Xb : Int) (hb : AI Xb 8 w (.agg #[.bool bb, .slice ab nb cb])) (Xc : Int) (hc : AI Xc 8 w (.agg #[.bool bc, .slice ac nc cc])) (la : na ≤ 8) (lb : nb ≤ 8) (lc : nc ≤ 8) :
    Calls Try.prog 7 #[.agg #[.bool ba, .slice aa na ca], .agg #[.bool bb, .slice ab nb cb], .agg #[.bool bc, .slice ac nc cc]] w (Ret w (Val (.bool true))) := by
  have Ha := Lib.hid ha
  have Hb := Lib.hid hb
  have Hc := Lib.hid hc
  clear ha hb hc
  go_enter Try.func7, Try.ntmps7
  go_wp2_with fail
  obtain ⟨W, hW⟩ : ∃ W, W = (((w.alloc (.cells #[.bool ba, .slice aa na ca] 25)).alloc (.cells #[.bool bb, .slice ab nb cb] 25)).alloc (.cells #[.bool bc, .slice ac nc cc] 25)) := ⟨_, rfl⟩
  rw [← hW]
  obtain ⟨xa, xb, xc, hk, hb⟩ := boxes_3 _ _ _ _ _ _ _ hW
  clear hW
  have Ha := Lib.hid (AI.keep Ha.out hk)
  have Hb := Lib.hid (AI.keep Hb.out hk)
  have Hc := Lib.hid (AI.keep Hc.out hk)
  have Xa := Lib.hid xa
  have Xb := Lib.hid xb
  have Xc := Lib.hid xc
  have HB := Lib.hid hb
  clear hk hb xa xb xc
  refine Calls.mono (iawake_any _) ?_
  rintro e w1 ⟨v1, rfl, rfl, hb⟩
  have Ha := Lib.hid (AI.keep Ha.out (Keep.call hb))
  have Hb := Lib.hid (AI.keep Hb.out (Keep.call hb))
  have Hc := Lib.hid (AI.keep Hc.out (Keep.call hb))
  have Xa := Lib.hid (Box.pcall hb Xa.out)
  have Xb := Lib.hid (Box.pcall hb Xb.out)
  have Xc := Lib.hid (Box.pcall hb Xc.out)
  have HB := Lib.hid (below_call HB.out hb)
  clear hb
  obtain ⟨ca0, ca1, fa0, fa1⟩ := Xa.out.c2
  obtain ⟨cb0, cb1, fb0, fb1⟩ := Xb.out.c2
  obtain ⟨cc0, cc1, fc0, fc1⟩ := Xc.out.c2
  go_wp2_with fail
  clear ca0 ca1 fa0 fa1 cb0 cb1 fb0 fb1 cc0 cc1 fc0 fc1
  refine Calls.mono (ifew_yes la lb lc) ?_
  rintro e w2 ⟨v2, rfl, rfl, hb⟩
  have Ha := Lib.hid (AI.keep Ha.out (Keep.call hb))
  have Hb := Lib.hid (AI.keep Hb.out (Keep.call hb))
  have Hc := Lib.hid (AI.keep Hc.out (Keep.call hb))
  have Xa := Lib.hid (Box.pcall hb Xa.out)
  have Xb := Lib.hid (Box.pcall hb Xb.out)
  have Xc := Lib.hid (Box.pcall hb Xc.out)
  have HB := Lib.hid (below_call HB.out hb)
  clear hb
  obtain ⟨ca0, ca1, fa0, fa1⟩ := Xa.out.c2
  obtain ⟨cb0, cb1, fb0, fb1⟩ := Xb.out.c2
  obtain ⟨cc0, cc1, fc0, fc1⟩ := Xc.out.c2
  go_wp2_with fail
  clear ca0 ca1 fa0 fa1 cb0 cb1 fb0 fb1 cc0 cc1 fc0 fc1
  (first | (have hcall := iadd_ai Ha.out Hb.out (by decide) (by decide); refine Calls.mono hcall ?_; clear hcall) | refine Calls.mono (iadd_ai Ha.out Hb.out (by decide) (by decide)) ?_)
  rintro e w3 ⟨v3, rfl, hs, hb⟩
  obtain ⟨bs, ads, ns, caps, rfl⟩ := hs.litb
  have Ha := Lib.hid (AI.keep Ha.out (Keep.call hb))
  have Hb := Lib.hid (AI.keep Hb.out (Keep.call hb))
  have Hc := Lib.hid (AI.keep Hc.out (Keep.call hb))
  have Xa := Lib.hid (Box.pcall hb Xa.out)
  have Xb := Lib.hid (Box.pcall hb Xb.out)
  have Xc := Lib.hid (Box.pcall hb Xc.out)
  have HB := Lib.hid (below_call HB.out hb)
  have Hs := Lib.hid hs
  clear hb hs
  obtain ⟨ca0, ca1, fa0, fa1⟩ := Xa.out.c2
  obtain ⟨cb0, cb1, fb0, fb1⟩ := Xb.out.c2
  obtain ⟨cc0, cc1, fc0, fc1⟩ := Xc.out.c2
  go_wp2_with fail
  clear ca0 ca1 fa0 fa1 cb0 cb1 fb0 fb1 cc0 cc1 fc0 fc1
  obtain ⟨W4, hW⟩ : ∃ W4, W4 = (World.alloc w3 (.cells #[.bool bs, .slice ads ns caps] 25)) := ⟨_, rfl⟩
  rw [← hW]
  obtain ⟨xs, hk, hb⟩ := boxes_1 _ _ _ hW
  clear hW
  have Ha := Lib.hid (AI.keep Ha.out hk)
  have Hb := Lib.hid (AI.keep Hb.out hk)
  have Hc := Lib.hid (AI.keep Hc.out hk)
  have Hs := Lib.hid (CL.keep Hs.out hk)
  have Nas := Lib.hid (show w.heap.size ≠ w3.heap.size from Nat.ne_of_lt (Nat.lt_of_lt_of_le Xa.out.lt (by omega)))
  have Nbs := Lib.hid (show w.heap.size + 1 ≠ w3.heap.size from Nat.ne_of_lt (Nat.lt_of_lt_of_le Xb.out.lt (by omega)))
  have Ncs := Lib.hid (show w.heap.size + 1 + 1 ≠ w3.heap.size from Nat.ne_of_lt (Nat.lt_of_lt_of_le Xc.out.lt (by omega)))
  have Gs := Lib.hid (show w.heap.size ≤ w3.heap.size from Nat.le_trans HB.out.size (by omega))
  have Xa := Lib.hid (Box.pcall hb Xa.out)
  have Xb := Lib.hid (Box.pcall hb Xb.out)
  have Xc := Lib.hid (Box.pcall hb Xc.out)
  have Xs := Lib.hid xs
  have HB := Lib.hid (below_call HB.out hb)
  clear hk hb xs
  have Ha := Lib.hid (AI.keep Ha.out (Keep.drew W4))
  have Hb := Lib.hid (AI.keep Hb.out (Keep.drew W4))
  have Hc := Lib.hid (AI.keep Hc.out (Keep.drew W4))
  have Hs := Lib.hid (CL.keep Hs.out (Keep.drew W4))
  have Xa := Lib.hid (Box.drew Xa.out)
  have Xb := Lib.hid (Box.drew Xb.out)
  have Xc := Lib.hid (Box.drew Xc.out)
  have Xs := Lib.hid (Box.drew Xs.out)
  have HB := Lib.hid (Below.drew HB.out)
  have tok0 : True := trivial
  go_region_held3 (fun w' => w'.cell? ⟨w3.heap.size, 0, none⟩ = some (.bool bs) ∧ w'.cell? ⟨w3.heap.size, 1, none⟩ = some (.slice ads ns caps) ∧ w'.cell? ⟨w.heap.size, 0, none⟩ = some (.bool ba) ∧ w'.cell? ⟨w.heap.size, 1, none⟩ = some (.slice aa na ca) ∧ w'.cell? ⟨w.heap.size + 1, 0, none⟩ = some (.bool bb) ∧ w'.cell? ⟨w.heap.size + 1, 1, none⟩ = some (.slice ab nb cb))
    (first | exact ⟨Xs.out.cell 0 rfl, Xs.out.cell 1 rfl, Xa.out.cell 0 rfl, Xa.out.cell 1 rfl, Xb.out.cell 0 rfl, Xb.out.cell 1 rfl⟩ | go_keep)
    (first | (have _t := tok0; go_at_call 27; (first | (have hcall := riadd_ai Ha.out Hb.out (by decide) (by decide); refine Calls.mono hcall ?_; clear hcall) | refine Calls.mono (riadd_ai Ha.out Hb.out (by decide) (by decide)) ?_); rintro e w5 ⟨v5, rfl, hx, hb⟩; have Ha := Lib.hid (AI.keep Ha.out (Keep.call hb)); have Hb := Lib.hid (AI.keep Hb.out (Keep.call hb)); have Hc := Lib.hid (AI.keep Hc.out (Keep.call hb)); have Hs := Lib.hid (CL.keep Hs.out (Keep.call hb)); have Xa := Lib.hid (Box.pcall hb Xa.out); have Xb := Lib.hid (Box.pcall hb Xb.out); have Xc := Lib.hid (Box.pcall hb Xc.out); have Xs := Lib.hid (Box.pcall hb Xs.out); have HB := Lib.hid (below_call HB.out hb); have Hx := Lib.hid hx; clear hb hx tok0 _t; have tok1 : True := trivial)
           | (have _t := tok1; go_at_call 14; (first | (have hcall := isame_cl Hs.out Hx.out rfl; refine Calls.mono hcall ?_; clear hcall) | refine Calls.mono (isame_cl Hs.out Hx.out rfl) ?_); rintro e w6 ⟨v6, rfl, rfl, hb⟩; have Ha := Lib.hid (AI.keep Ha.out (Keep.call hb)); have Hb := Lib.hid (AI.keep Hb.out (Keep.call hb)); have Hc := Lib.hid (AI.keep Hc.out (Keep.call hb)); have Hs := Lib.hid (CL.keep Hs.out (Keep.call hb)); have Xa := Lib.hid (Box.pcall hb Xa.out); have Xb := Lib.hid (Box.pcall hb Xb.out); have Xc := Lib.hid (Box.pcall hb Xc.out); have Xs := Lib.hid (Box.pcall hb Xs.out); have HB := Lib.hid (below_call HB.out hb); clear hb tok1 _t; have tok2 : True := trivial)
           | (have _t := tok2; go_at_call 31; (first | (have hcall := isub_ai Ha.out Hb.out (by decide) (by decide); refine Calls.mono hcall ?_; clear hcall) | refine Calls.mono (isub_ai Ha.out Hb.out (by decide) (by decide)) ?_); rintro e w7 ⟨v7, rfl, hd, hb⟩; have Ha := Lib.hid (AI.keep Ha.out (Keep.call hb)); have Hb := Lib.hid (AI.keep Hb.out (Keep.call hb)); have Hc := Lib.hid (AI.keep Hc.out (Keep.call hb)); have Hs := Lib.hid (CL.keep Hs.out (Keep.call hb)); have Xa := Lib.hid (Box.pcall hb Xa.out); have Xb := Lib.hid (Box.pcall hb Xb.out); have Xc := Lib.hid (Box.pcall hb Xc.out); have Xs := Lib.hid (Box.pcall hb Xs.out); have HB := Lib.hid (below_call HB.out hb); have Hd := Lib.hid hd; clear hb hd tok2 _t; have tok3 : True := trivial)
           | (have _t := tok3; go_at_call 32; (first | (have hcall := risub_ai Ha.out Hb.out (by decide) (by decide); refine Calls.mono hcall ?_; clear hcall) | refine Calls.mono (risub_ai Ha.out Hb.out (by decide) (by decide)) ?_); rintro e w8 ⟨v8, rfl, he, hb⟩; have Ha := Lib.hid (AI.keep Ha.out (Keep.call hb)); have Hb := Lib.hid (AI.keep Hb.out (Keep.call hb)); have Hc := Lib.hid (AI.keep Hc.out (Keep.call hb)); have Hs := Lib.hid (CL.keep Hs.out (Keep.call hb)); have Hd := Lib.hid (CL.keep Hd.out (Keep.call hb)); have Xa := Lib.hid (Box.pcall hb Xa.out); have Xb := Lib.hid (Box.pcall hb Xb.out); have Xc := Lib.hid (Box.pcall hb Xc.out); have Xs := Lib.hid (Box.pcall hb Xs.out); have HB := Lib.hid (below_call HB.out hb); have He := Lib.hid he; clear hb he tok3 _t; have tok4 : True := trivial)
           | (have _t := tok4; go_at_call 14; (first | (have hcall := isame_cl Hd.out He.out rfl; refine Calls.mono hcall ?_; clear hcall) | refine Calls.mono (isame_cl Hd.out He.out rfl) ?_); rintro e w9 ⟨v9, rfl, rfl, hb⟩; have Ha := Lib.hid (AI.keep Ha.out (Keep.call hb)); have Hb := Lib.hid (AI.keep Hb.out (Keep.call hb)); have Hc := Lib.hid (AI.keep Hc.out (Keep.call hb)); have Hs := Lib.hid (CL.keep Hs.out (Keep.call hb)); have Xa := Lib.hid (Box.pcall hb Xa.out); have Xb := Lib.hid (Box.pcall hb Xb.out); have Xc := Lib.hid (Box.pcall hb Xc.out); have Xs := Lib.hid (Box.pcall hb Xs.out); have HB := Lib.hid (below_call HB.out hb); clear hb tok4 _t; have tok5 : True := trivial)
           | (have _t := tok5; go_at_call 30; (first | (have hcall := iadd_ai Hb.out Ha.out (by decide) (by decide); refine Calls.mono hcall ?_; clear hcall) | refine Calls.mono (iadd_ai Hb.out Ha.out (by decide) (by decide)) ?_); rintro e w10 ⟨v10, rfl, hy, hb⟩; have Ha := Lib.hid (AI.keep Ha.out (Keep.call hb)); have Hb := Lib.hid (AI.keep Hb.out (Keep.call hb)); have Hc := Lib.hid (AI.keep Hc.out (Keep.call hb)); have Hs := Lib.hid (CL.keep Hs.out (Keep.call hb)); have Xa := Lib.hid (Box.pcall hb Xa.out); have Xb := Lib.hid (Box.pcall hb Xb.out); have Xc := Lib.hid (Box.pcall hb Xc.out); have Xs := Lib.hid (Box.pcall hb Xs.out); have HB := Lib.hid (below_call HB.out hb); have Hy := Lib.hid hy; clear hb hy tok5 _t; have tok6 : True := trivial)
           | (have _t := tok6; go_at_call 14; refine Calls.mono (isame_cl Hs.out Hy.out (Int.add_comm _ _)) ?_; rintro e w11 ⟨v11, rfl, rfl, hb⟩; have Ha := Lib.hid (AI.keep Ha.out (Keep.call hb)); have Hb := Lib.hid (AI.keep Hb.out (Keep.call hb)); have Hc := Lib.hid (AI.keep Hc.out (Keep.call hb)); have Hs := Lib.hid (CL.keep Hs.out (Keep.call hb)); have Xa := Lib.hid (Box.pcall hb Xa.out); have Xb := Lib.hid (Box.pcall hb Xb.out); have Xc := Lib.hid (Box.pcall hb Xc.out); have Xs := Lib.hid (Box.pcall hb Xs.out); have HB := Lib.hid (below_call HB.out hb); clear hb tok6 _t))
  obtain ⟨ca0, ca1, fa0, fa1⟩ := Xa.out.c2
  obtain ⟨cb0, cb1, fb0, fb1⟩ := Xb.out.c2
  obtain ⟨cc0, cc1, fc0, fc1⟩ := Xc.out.c2
  obtain ⟨cs0, cs1, fs0, fs1⟩ := Xs.out.c2
  go_wp2_with fail
  clear ca0 ca1 fa0 fa1 cb0 cb1 fb0 fb1 cc0 cc1 fc0 fc1 cs0 cs1 fs0 fs1
  have Ha := Lib.hid (AI.keep Ha.out (Keep.drew w11))
  have Hb := Lib.hid (AI.keep Hb.out (Keep.drew w11))
  have Hc := Lib.hid (AI.keep Hc.out (Keep.drew w11))
  have Hs := Lib.hid (CL.keep Hs.out (Keep.drew w11))
  have Xa := Lib.hid (Box.drew Xa.out)
  have Xb := Lib.hid (Box.drew Xb.out)
  have Xc := Lib.hid (Box.drew Xc.out)
  have Xs := Lib.hid (Box.drew Xs.out)
  have HB := Lib.hid (Below.drew HB.out)
  have tok0 : True := trivial
  go_region_held3 (fun w' => w'.cell? ⟨w3.heap.size, 0, none⟩ = some (.bool bs) ∧ w'.cell? ⟨w3.heap.size, 1, none⟩ = some (.slice ads ns caps) ∧ w'.cell? ⟨w.heap.size, 0, none⟩ = some (.bool ba) ∧ w'.cell? ⟨w.heap.size, 1, none⟩ = some (.slice aa na ca) ∧ w'.cell? ⟨w.heap.size + 1, 0, none⟩ = some (.bool bb) ∧ w'.cell? ⟨w.heap.size + 1, 1, none⟩ = some (.slice ab nb cb) ∧ w'.cell? ⟨w.heap.size + 1 + 1, 0, none⟩ = some (.bool bc) ∧ w'.cell? ⟨w.heap.size + 1 + 1, 1, none⟩ = some (.slice ac nc cc))
    (first | exact ⟨Xs.out.cell 0 rfl, Xs.out.cell 1 rfl, Xa.out.cell 0 rfl, Xa.out.cell 1 rfl, Xb.out.cell 0 rfl, Xb.out.cell 1 rfl, Xc.out.cell 0 rfl, Xc.out.cell 1 rfl⟩ | go_keep)
    (first | (have _t := tok0; go_at_call 30; (first | (have hcall := iadd_ai Hs.out.ai Hc.out (by decide) (by decide); refine Calls.mono hcall ?_; clear hcall) | refine Calls.mono (iadd_ai Hs.out.ai Hc.out (by decide) (by decide)) ?_); rintro e w12 ⟨v12, rfl, hp, hb⟩; have Ha := Lib.hid (AI.keep Ha.out (Keep.call hb)); have Hb := Lib.hid (AI.keep Hb.out (Keep.call hb)); have Hc := Lib.hid (AI.keep Hc.out (Keep.call hb)); have Xa := Lib.hid (Box.pcall hb Xa.out); have Xb := Lib.hid (Box.pcall hb Xb.out); have Xc := Lib.hid (Box.pcall hb Xc.out); have Xs := Lib.hid (Box.pcall hb Xs.out); have HB := Lib.hid (below_call HB.out hb); have Hp := Lib.hid hp; clear hb hp tok0 _t; have tok1 : True := trivial)
           | (have _t := tok1; go_at_call 30; (first | (have hcall := iadd_ai Hb.out Hc.out (by decide) (by decide); refine Calls.mono hcall ?_; clear hcall) | refine Calls.mono (iadd_ai Hb.out Hc.out (by decide) (by decide)) ?_); rintro e w13 ⟨v13, rfl, hq, hb⟩; have Ha := Lib.hid (AI.keep Ha.out (Keep.call hb)); have Hp := Lib.hid (CL.keep Hp.out (Keep.call hb)); have Xa := Lib.hid (Box.pcall hb Xa.out); have Xb := Lib.hid (Box.pcall hb Xb.out); have Xc := Lib.hid (Box.pcall hb Xc.out); have Xs := Lib.hid (Box.pcall hb Xs.out); have HB := Lib.hid (below_call HB.out hb); have Hq := Lib.hid hq; clear hb hq tok1 _t; have tok2 : True := trivial)
           | (have _t := tok2; go_at_call 30; (first | (have hcall := iadd_ai Ha.out Hq.out.ai (by decide) (by decide); refine Calls.mono hcall ?_; clear hcall) | refine Calls.mono (iadd_ai Ha.out Hq.out.ai (by decide) (by decide)) ?_); rintro e w14 ⟨v14, rfl, hr, hb⟩; have Ha := Lib.hid (AI.keep Ha.out (Keep.call hb)); have Hp := Lib.hid (CL.keep Hp.out (Keep.call hb)); have Xa := Lib.hid (Box.pcall hb Xa.out); have Xb := Lib.hid (Box.pcall hb Xb.out); have Xc := Lib.hid (Box.pcall hb Xc.out); have Xs := Lib.hid (Box.pcall hb Xs.out); have HB := Lib.hid (below_call HB.out hb); have Hr := Lib.hid hr; clear hb hr tok2 _t; have tok3 : True := trivial)
           | (have _t := tok3; go_at_call 14; refine Calls.mono (isame_cl Hp.out Hr.out (Int.add_assoc _ _ _)) ?_; rintro e w15 ⟨v15, rfl, rfl, hb⟩; have Ha := Lib.hid (AI.keep Ha.out (Keep.call hb)); have Xa := Lib.hid (Box.pcall hb Xa.out); have Xb := Lib.hid (Box.pcall hb Xb.out); have Xc := Lib.hid (Box.pcall hb Xc.out); have Xs := Lib.hid (Box.pcall hb Xs.out); have HB := Lib.hid (below_call HB.out hb); clear hb tok3 _t; have tok4 : True := trivial)
           | (have _t := tok4; go_at_call 16; (first | (have hcall := ineg_ai Ha.out; refine Calls.mono hcall ?_; clear hcall) | refine Calls.mono (ineg_ai Ha.out) ?_); rintro e w16 ⟨v16, rfl, hn, hb⟩; have Ha := Lib.hid (AI.keep Ha.out (Keep.call hb)); have Xa := Lib.hid (Box.pcall hb Xa.out); have Xb := Lib.hid (Box.pcall hb Xb.out); have Xc := Lib.hid (Box.pcall hb Xc.out); have Xs := Lib.hid (Box.pcall hb Xs.out); have HB := Lib.hid (below_call HB.out hb); have Hn := Lib.hid hn; clear hb hn tok4 _t; have tok5 : True := trivial)
           | (have _t := tok5; go_at_call 30; (first | (have hcall := iadd_ai Ha.out Hn.out.ai (by decide) (by decide); refine Calls.mono hcall ?_; clear hcall) | refine Calls.mono (iadd_ai Ha.out Hn.out.ai (by decide) (by decide)) ?_); rintro e w17 ⟨v17, rfl, ho, hb⟩; have Xa := Lib.hid (Box.pcall hb Xa.out); have Xb := Lib.hid (Box.pcall hb Xb.out); have Xc := Lib.hid (Box.pcall hb Xc.out); have Xs := Lib.hid (Box.pcall hb Xs.out); have HB := Lib.hid (below_call HB.out hb); have Ho := Lib.hid ho; clear hb ho tok5 _t; have tok6 : True := trivial)
           | (have _t := tok6; go_at_call 19; (first | (have hcall := isign_ai 0 Ho.out.ai (by rw [Int.add_right_neg]; rfl) (by decide); refine Calls.mono hcall ?_; clear hcall) | refine Calls.mono (isign_ai 0 Ho.out.ai (by rw [Int.add_right_neg]; rfl) (by decide)) ?_); rintro e w18 ⟨v18, rfl, rfl, hb⟩; have Xa := Lib.hid (Box.pcall hb Xa.out); have Xb := Lib.hid (Box.pcall hb Xb.out); have Xc := Lib.hid (Box.pcall hb Xc.out); have Xs := Lib.hid (Box.pcall hb Xs.out); have HB := Lib.hid (below_call HB.out hb); clear hb tok6 _t))
  go_wp2
  all_goals (go_ret; exact ⟨_, rfl, rfl, HB.out⟩)


set_option maxRecDepth 100000 in
set_option maxHeartbeats 4000000 in
theorem IntegerMul_far (ba : Bool) (aa : Option Addr) (na ca : Nat) (bb : Bool) (ab : Option Addr) (nb cb : Nat) (bc : Bool) (ac : Option Addr) (nc cc : Nat) (w : World) (h : 8 < na ∨ 8 < nb ∨ 8 < nc) :
    Calls Try.prog 8 #[.agg #[.bool ba, .slice aa na ca], .agg #[.bool bb, .slice ab nb cb], .agg #[.bool bc, .slice ac nc cc]] w (Ret w (Val (.bool true))) := by
  go_enter Try.func8, Try.ntmps8
  go_wp2_with fail
  obtain ⟨W, hW⟩ : ∃ W, W = (((w.alloc (.cells #[.bool ba, .slice aa na ca] 25)).alloc (.cells #[.bool bb, .slice ab nb cb] 25)).alloc (.cells #[.bool bc, .slice ac nc cc] 25)) := ⟨_, rfl⟩
  rw [← hW]
  obtain ⟨xa, xb, xc, hk, hb⟩ := boxes_3 _ _ _ _ _ _ _ hW
  clear hW
  have Xa := Lib.hid xa
  have Xb := Lib.hid xb
  have Xc := Lib.hid xc
  have HB := Lib.hid hb
  clear hk hb xa xb xc
  refine Calls.mono (iawake_any _) ?_
  rintro e w1 ⟨v1, rfl, rfl, hb⟩
  have Xa := Lib.hid (Box.pcall hb Xa.out)
  have Xb := Lib.hid (Box.pcall hb Xb.out)
  have Xc := Lib.hid (Box.pcall hb Xc.out)
  have HB := Lib.hid (below_call HB.out hb)
  clear hb
  obtain ⟨ca0, ca1, fa0, fa1⟩ := Xa.out.c2
  obtain ⟨cb0, cb1, fb0, fb1⟩ := Xb.out.c2
  obtain ⟨cc0, cc1, fc0, fc1⟩ := Xc.out.c2
  go_wp2_with fail
  clear ca0 ca1 fa0 fa1 cb0 cb1 fb0 fb1 cc0 cc1 fc0 fc1
  refine Calls.mono (ifew_no h) ?_
  rintro e w2 ⟨v2, rfl, rfl, hb⟩
  have Xa := Lib.hid (Box.pcall hb Xa.out)
  have Xb := Lib.hid (Box.pcall hb Xb.out)
  have Xc := Lib.hid (Box.pcall hb Xc.out)
  have HB := Lib.hid (below_call HB.out hb)
  clear hb
  obtain ⟨ca0, ca1, fa0, fa1⟩ := Xa.out.c2
  obtain ⟨cb0, cb1, fb0, fb1⟩ := Xb.out.c2
  obtain ⟨cc0, cc1, fc0, fc1⟩ := Xc.out.c2
  go_wp2_with fail
  go_wp2
  all_goals (go_ret; exact ⟨_, rfl, rfl, HB.out⟩)


set_option maxRecDepth 100000 in
set_option maxHeartbeats 4000000 in
theorem IntegerMul_near (ba : Bool) (aa : Option Addr) (na ca : Nat) (bb : Bool) (ab : Option Addr) (nb cb : Nat) (bc : Bool) (ac : Option Addr) (nc cc : Nat) (w : World) (Xa : Int) (ha : AI Xa 8 w (.agg #[.bool ba, .slice aa na ca])) (Xb : Int) (hb : AI Xb 8 w (.agg #[.bool bb, .slice ab nb cb])) (Xc : Int) (hc : AI Xc 8 w (.agg #[.bool bc, .slice ac nc cc])) (la : na ≤ 8) (lb : nb ≤ 8) (lc : nc ≤ 8) :
    Calls Try.prog 8 #[.agg #[.bool ba, .slice aa na ca], .agg #[.bool bb, .slice ab nb cb], .agg #[.bool bc, .slice ac nc cc]] w (Ret w (Val (.bool true))) := by
  have Ha := Lib.hid ha
  have Hb := Lib.hid hb
  have Hc := Lib.hid hc
  clear ha hb hc
  go_enter Try.func8, Try.ntmps8
  go_wp2_with fail
  obtain ⟨W, hW⟩ : ∃ W, W = (((w.alloc (.cells #[.bool ba, .slice aa na ca] 25)).alloc (.cells #[.bool bb, .slice ab nb cb] 25)).alloc (.cells #[.bool bc, .slice ac nc cc] 25)) := ⟨_, rfl⟩
  rw [← hW]
  obtain ⟨xa, xb, xc, hk, hb⟩ := boxes_3 _ _ _ _ _ _ _ hW
  clear hW
  have Ha := Lib.hid (AI.keep Ha.out hk)
  have Hb := Lib.hid (AI.keep Hb.out hk)
  have Hc := Lib.hid (AI.keep Hc.out hk)
  have Xa := Lib.hid xa
  have Xb := Lib.hid xb
  have Xc := Lib.hid xc
  have HB := Lib.hid hb
  clear hk hb xa xb xc
  refine Calls.mono (iawake_any _) ?_
  rintro e w1 ⟨v1, rfl, rfl, hb⟩
  have Ha := Lib.hid (AI.keep Ha.out (Keep.call hb))
  have Hb := Lib.hid (AI.keep Hb.out (Keep.call hb))
  have Hc := Lib.hid (AI.keep Hc.out (Keep.call hb))
  have Xa := Lib.hid (Box.pcall hb Xa.out)
  have Xb := Lib.hid (Box.pcall hb Xb.out)
  have Xc := Lib.hid (Box.pcall hb Xc.out)
  have HB := Lib.hid (below_call HB.out hb)
  clear hb
  obtain ⟨ca0, ca1, fa0, fa1⟩ := Xa.out.c2
  obtain ⟨cb0, cb1, fb0, fb1⟩ := Xb.out.c2
  obtain ⟨cc0, cc1, fc0, fc1⟩ := Xc.out.c2
  go_wp2_with fail
  clear ca0 ca1 fa0 fa1 cb0 cb1 fb0 fb1 cc0 cc1 fc0 fc1
  refine Calls.mono (ifew_yes la lb lc) ?_
  rintro e w2 ⟨v2, rfl, rfl, hb⟩
  have Ha := Lib.hid (AI.keep Ha.out (Keep.call hb))
  have Hb := Lib.hid (AI.keep Hb.out (Keep.call hb))
  have Hc := Lib.hid (AI.keep Hc.out (Keep.call hb))
  have Xa := Lib.hid (Box.pcall hb Xa.out)
  have Xb := Lib.hid (Box.pcall hb Xb.out)
  have Xc := Lib.hid (Box.pcall hb Xc.out)
  have HB := Lib.hid (below_call HB.out hb)
  clear hb
  obtain ⟨ca0, ca1, fa0, fa1⟩ := Xa.out.c2
  obtain ⟨cb0, cb1, fb0, fb1⟩ := Xb.out.c2
  obtain ⟨cc0, cc1, fc0, fc1⟩ := Xc.out.c2
  go_wp2_with fail
  clear ca0 ca1 fa0 fa1 cb0 cb1 fb0 fb1 cc0 cc1 fc0 fc1
  (first | (have hcall := imul_ai Ha.out Hb.out (by decide) (by decide); refine Calls.mono hcall ?_; clear hcall) | refine Calls.mono (imul_ai Ha.out Hb.out (by decide) (by decide)) ?_)
  rintro e w3 ⟨v3, rfl, hs, hb⟩
  obtain ⟨bs, ads, ns, caps, rfl⟩ := hs.litb
  have Ha := Lib.hid (AI.keep Ha.out (Keep.call hb))
  have Hb := Lib.hid (AI.keep Hb.out (Keep.call hb))
  have Hc := Lib.hid (AI.keep Hc.out (Keep.call hb))
  have Xa := Lib.hid (Box.pcall hb Xa.out)
  have Xb := Lib.hid (Box.pcall hb Xb.out)
  have Xc := Lib.hid (Box.pcall hb Xc.out)
  have HB := Lib.hid (below_call HB.out hb)
  have Hs := Lib.hid hs
  clear hb hs
  obtain ⟨ca0, ca1, fa0, fa1⟩ := Xa.out.c2
  obtain ⟨cb0, cb1, fb0, fb1⟩ := Xb.out.c2
  obtain ⟨cc0, cc1, fc0, fc1⟩ := Xc.out.c2
  go_wp2_with fail
  clear ca0 ca1 fa0 fa1 cb0 cb1 fb0 fb1 cc0 cc1 fc0 fc1
  obtain ⟨W4, hW⟩ : ∃ W4, W4 = (World.alloc w3 (.cells #[.bool bs, .slice ads ns caps] 25)) := ⟨_, rfl⟩
  rw [← hW]
  obtain ⟨xs, hk, hb⟩ := boxes_1 _ _ _ hW
  clear hW
  have Ha := Lib.hid (AI.keep Ha.out hk)
  have Hb := Lib.hid (AI.keep Hb.out hk)
  have Hc := Lib.hid (AI.keep Hc.out hk)
  have Hs := Lib.hid (CL.keep Hs.out hk)
  have Nas := Lib.hid (show w.heap.size ≠ w3.heap.size from Nat.ne_of_lt (Nat.lt_of_lt_of_le Xa.out.lt (by omega)))
  have Nbs := Lib.hid (show w.heap.size + 1 ≠ w3.heap.size from Nat.ne_of_lt (Nat.lt_of_lt_of_le Xb.out.lt (by omega)))
  have Ncs := Lib.hid (show w.heap.size + 1 + 1 ≠ w3.heap.size from Nat.ne_of_lt (Nat.lt_of_lt_of_le Xc.out.lt (by omega)))
  have Gs := Lib.hid (show w.heap.size ≤ w3.heap.size from Nat.le_trans HB.out.size (by omega))
  have Xa := Lib.hid (Box.pcall hb Xa.out)
  have Xb := Lib.hid (Box.pcall hb Xb.out)
  have Xc := Lib.hid (Box.pcall hb Xc.out)
  have Xs := Lib.hid xs
  have HB := Lib.hid (below_call HB.out hb)
  clear hk hb xs
  have Ha := Lib.hid (AI.keep Ha.out (Keep.drew W4))
  have Hb := Lib.hid (AI.keep Hb.out (Keep.drew W4))
  have Hc := Lib.hid (AI.keep Hc.out (Keep.drew W4))
  have Hs := Lib.hid (CL.keep Hs.out (Keep.drew W4))
  have Xa := Lib.hid (Box.drew Xa.out)
  have Xb := Lib.hid (Box.drew Xb.out)
  have Xc := Lib.hid (Box.drew Xc.out)
  have Xs := Lib.hid (Box.drew Xs.out)
  have HB := Lib.hid (Below.drew HB.out)
  have tok0 : True := trivial
  go_region_held3 (fun w' => w'.cell? ⟨w3.heap.size, 0, none⟩ = some (.bool bs) ∧ w'.cell? ⟨w3.heap.size, 1, none⟩ = some (.slice ads ns caps) ∧ w'.cell? ⟨w.heap.size, 0, none⟩ = some (.bool ba) ∧ w'.cell? ⟨w.heap.size, 1, none⟩ = some (.slice aa na ca) ∧ w'.cell? ⟨w.heap.size + 1, 0, none⟩ = some (.bool bb) ∧ w'.cell? ⟨w.heap.size + 1, 1, none⟩ = some (.slice ab nb cb) ∧ w'.cell? ⟨w.heap.size + 1 + 1, 0, none⟩ = some (.bool bc) ∧ w'.cell? ⟨w.heap.size + 1 + 1, 1, none⟩ = some (.slice ac nc cc))
    (first | exact ⟨Xs.out.cell 0 rfl, Xs.out.cell 1 rfl, Xa.out.cell 0 rfl, Xa.out.cell 1 rfl, Xb.out.cell 0 rfl, Xb.out.cell 1 rfl, Xc.out.cell 0 rfl, Xc.out.cell 1 rfl⟩ | go_keep)
    (first | (have _t := tok0; go_at_call 28; (first | (have hcall := rimul_ai Ha.out Hb.out (by decide) (by decide); refine Calls.mono hcall ?_; clear hcall) | refine Calls.mono (rimul_ai Ha.out Hb.out (by decide) (by decide)) ?_); rintro e w5 ⟨v5, rfl, hx, hb⟩; have Ha := Lib.hid (AI.keep Ha.out (Keep.call hb)); have Hb := Lib.hid (AI.keep Hb.out (Keep.call hb)); have Hc := Lib.hid (AI.keep Hc.out (Keep.call hb)); have Hs := Lib.hid (CL.keep Hs.out (Keep.call hb)); have Xa := Lib.hid (Box.pcall hb Xa.out); have Xb := Lib.hid (Box.pcall hb Xb.out); have Xc := Lib.hid (Box.pcall hb Xc.out); have Xs := Lib.hid (Box.pcall hb Xs.out); have HB := Lib.hid (below_call HB.out hb); have Hx := Lib.hid hx; clear hb hx tok0 _t; have tok1 : True := trivial)
           | (have _t := tok1; go_at_call 14; (first | (have hcall := isame_cl Hs.out Hx.out rfl; refine Calls.mono hcall ?_; clear hcall) | refine Calls.mono (isame_cl Hs.out Hx.out rfl) ?_); rintro e w6 ⟨v6, rfl, rfl, hb⟩; have Ha := Lib.hid (AI.keep Ha.out (Keep.call hb)); have Hb := Lib.hid (AI.keep Hb.out (Keep.call hb)); have Hc := Lib.hid (AI.keep Hc.out (Keep.call hb)); have Hs := Lib.hid (CL.keep Hs.out (Keep.call hb)); have Xa := Lib.hid (Box.pcall hb Xa.out); have Xb := Lib.hid (Box.pcall hb Xb.out); have Xc := Lib.hid (Box.pcall hb Xc.out); have Xs := Lib.hid (Box.pcall hb Xs.out); have HB := Lib.hid (below_call HB.out hb); clear hb tok1 _t; have tok2 : True := trivial)
           | (have _t := tok2; go_at_call 33; (first | (have hcall := imul_ai Hb.out Ha.out (by decide) (by decide); refine Calls.mono hcall ?_; clear hcall) | refine Calls.mono (imul_ai Hb.out Ha.out (by decide) (by decide)) ?_); rintro e w7 ⟨v7, rfl, hy, hb⟩; have Ha := Lib.hid (AI.keep Ha.out (Keep.call hb)); have Hb := Lib.hid (AI.keep Hb.out (Keep.call hb)); have Hc := Lib.hid (AI.keep Hc.out (Keep.call hb)); have Hs := Lib.hid (CL.keep Hs.out (Keep.call hb)); have Xa := Lib.hid (Box.pcall hb Xa.out); have Xb := Lib.hid (Box.pcall hb Xb.out); have Xc := Lib.hid (Box.pcall hb Xc.out); have Xs := Lib.hid (Box.pcall hb Xs.out); have HB := Lib.hid (below_call HB.out hb); have Hy := Lib.hid hy; clear hb hy tok2 _t; have tok3 : True := trivial)
           | (have _t := tok3; go_at_call 14; refine Calls.mono (isame_cl Hs.out Hy.out (Int.mul_comm _ _)) ?_; rintro e w8 ⟨v8, rfl, rfl, hb⟩; have Ha := Lib.hid (AI.keep Ha.out (Keep.call hb)); have Hb := Lib.hid (AI.keep Hb.out (Keep.call hb)); have Hc := Lib.hid (AI.keep Hc.out (Keep.call hb)); have Hs := Lib.hid (CL.keep Hs.out (Keep.call hb)); have Xa := Lib.hid (Box.pcall hb Xa.out); have Xb := Lib.hid (Box.pcall hb Xb.out); have Xc := Lib.hid (Box.pcall hb Xc.out); have Xs := Lib.hid (Box.pcall hb Xs.out); have HB := Lib.hid (below_call HB.out hb); clear hb tok3 _t; have tok4 : True := trivial)
           | (have _t := tok4; go_at_call 33; (first | (have hcall := imul_ai Hs.out.ai Hc.out (by decide) (by decide); refine Calls.mono hcall ?_; clear hcall) | refine Calls.mono (imul_ai Hs.out.ai Hc.out (by decide) (by decide)) ?_); rintro e w9 ⟨v9, rfl, hp, hb⟩; have Ha := Lib.hid (AI.keep Ha.out (Keep.call hb)); have Hb := Lib.hid (AI.keep Hb.out (Keep.call hb)); have Hc := Lib.hid (AI.keep Hc.out (Keep.call hb)); have Hs := Lib.hid (CL.keep Hs.out (Keep.call hb)); have Xa := Lib.hid (Box.pcall hb Xa.out); have Xb := Lib.hid (Box.pcall hb Xb.out); have Xc := Lib.hid (Box.pcall hb Xc.out); have Xs := Lib.hid (Box.pcall hb Xs.out); have HB := Lib.hid (below_call HB.out hb); have Hp := Lib.hid hp; clear hb hp tok4 _t; have tok5 : True := trivial)
           | (have _t := tok5; go_at_call 33; (first | (have hcall := imul_ai Hb.out Hc.out (by decide) (by decide); refine Calls.mono hcall ?_; clear hcall) | refine Calls.mono (imul_ai Hb.out Hc.out (by decide) (by decide)) ?_); rintro e w10 ⟨v10, rfl, hq, hb⟩; have Ha := Lib.hid (AI.keep Ha.out (Keep.call hb)); have Hb := Lib.hid (AI.keep Hb.out (Keep.call hb)); have Hc := Lib.hid (AI.keep Hc.out (Keep.call hb)); have Hs := Lib.hid (CL.keep Hs.out (Keep.call hb)); have Hp := Lib.hid (CL.keep Hp.out (Keep.call hb)); have Xa := Lib.hid (Box.pcall hb Xa.out); have Xb := Lib.hid (Box.pcall hb Xb.out); have Xc := Lib.hid (Box.pcall hb Xc.out); have Xs := Lib.hid (Box.pcall hb Xs.out); have HB := Lib.hid (below_call HB.out hb); have Hq := Lib.hid hq; clear hb hq tok5 _t; have tok6 : True := trivial)
           | (have _t := tok6; go_at_call 33; (first | (have hcall := imul_ai Ha.out Hq.out.ai (by decide) (by decide); refine Calls.mono hcall ?_; clear hcall) | refine Calls.mono (imul_ai Ha.out Hq.out.ai (by decide) (by decide)) ?_); rintro e w11 ⟨v11, rfl, hr, hb⟩; have Ha := Lib.hid (AI.keep Ha.out (Keep.call hb)); have Hb := Lib.hid (AI.keep Hb.out (Keep.call hb)); have Hc := Lib.hid (AI.keep Hc.out (Keep.call hb)); have Hs := Lib.hid (CL.keep Hs.out (Keep.call hb)); have Hp := Lib.hid (CL.keep Hp.out (Keep.call hb)); have Xa := Lib.hid (Box.pcall hb Xa.out); have Xb := Lib.hid (Box.pcall hb Xb.out); have Xc := Lib.hid (Box.pcall hb Xc.out); have Xs := Lib.hid (Box.pcall hb Xs.out); have HB := Lib.hid (below_call HB.out hb); have Hr := Lib.hid hr; clear hb hr tok6 _t; have tok7 : True := trivial)
           | (have _t := tok7; go_at_call 14; refine Calls.mono (isame_cl Hp.out Hr.out (Int.mul_assoc _ _ _)) ?_; rintro e w12 ⟨v12, rfl, rfl, hb⟩; have Ha := Lib.hid (AI.keep Ha.out (Keep.call hb)); have Hb := Lib.hid (AI.keep Hb.out (Keep.call hb)); have Hc := Lib.hid (AI.keep Hc.out (Keep.call hb)); have Hs := Lib.hid (CL.keep Hs.out (Keep.call hb)); have Xa := Lib.hid (Box.pcall hb Xa.out); have Xb := Lib.hid (Box.pcall hb Xb.out); have Xc := Lib.hid (Box.pcall hb Xc.out); have Xs := Lib.hid (Box.pcall hb Xs.out); have HB := Lib.hid (below_call HB.out hb); clear hb tok7 _t))
  obtain ⟨ca0, ca1, fa0, fa1⟩ := Xa.out.c2
  obtain ⟨cb0, cb1, fb0, fb1⟩ := Xb.out.c2
  obtain ⟨cc0, cc1, fc0, fc1⟩ := Xc.out.c2
  obtain ⟨cs0, cs1, fs0, fs1⟩ := Xs.out.c2
  go_wp2_with fail
  clear ca0 ca1 fa0 fa1 cb0 cb1 fb0 fb1 cc0 cc1 fc0 fc1 cs0 cs1 fs0 fs1
  have Ha := Lib.hid (AI.keep Ha.out (Keep.drew w12))
  have Hb := Lib.hid (AI.keep Hb.out (Keep.drew w12))
  have Hc := Lib.hid (AI.keep Hc.out (Keep.drew w12))
  have Hs := Lib.hid (CL.keep Hs.out (Keep.drew w12))
  have Xa := Lib.hid (Box.drew Xa.out)
  have Xb := Lib.hid (Box.drew Xb.out)
  have Xc := Lib.hid (Box.drew Xc.out)
  have Xs := Lib.hid (Box.drew Xs.out)
  have HB := Lib.hid (Below.drew HB.out)
  have tok0 : True := trivial
  go_region_held3 (fun w' => w'.cell? ⟨w3.heap.size, 0, none⟩ = some (.bool bs) ∧ w'.cell? ⟨w3.heap.size, 1, none⟩ = some (.slice ads ns caps) ∧ w'.cell? ⟨w.heap.size, 0, none⟩ = some (.bool ba) ∧ w'.cell? ⟨w.heap.size, 1, none⟩ = some (.slice aa na ca) ∧ w'.cell? ⟨w.heap.size + 1, 0, none⟩ = some (.bool bb) ∧ w'.cell? ⟨w.heap.size + 1, 1, none⟩ = some (.slice ab nb cb) ∧ w'.cell? ⟨w.heap.size + 1 + 1, 0, none⟩ = some (.bool bc) ∧ w'.cell? ⟨w.heap.size + 1 + 1, 1, none⟩ = some (.slice ac nc cc))
    (first | exact ⟨Xs.out.cell 0 rfl, Xs.out.cell 1 rfl, Xa.out.cell 0 rfl, Xa.out.cell 1 rfl, Xb.out.cell 0 rfl, Xb.out.cell 1 rfl, Xc.out.cell 0 rfl, Xc.out.cell 1 rfl⟩ | go_keep)
    (first | (have _t := tok0; go_at_call 30; (first | (have hcall := iadd_ai Hb.out Hc.out (by decide) (by decide); refine Calls.mono hcall ?_; clear hcall) | refine Calls.mono (iadd_ai Hb.out Hc.out (by decide) (by decide)) ?_); rintro e w13 ⟨v13, rfl, hd, hb⟩; have Ha := Lib.hid (AI.keep Ha.out (Keep.call hb)); have Hc := Lib.hid (AI.keep Hc.out (Keep.call hb)); have Hs := Lib.hid (CL.keep Hs.out (Keep.call hb)); have Xa := Lib.hid (Box.pcall hb Xa.out); have Xb := Lib.hid (Box.pcall hb Xb.out); have Xc := Lib.hid (Box.pcall hb Xc.out); have Xs := Lib.hid (Box.pcall hb Xs.out); have HB := Lib.hid (below_call HB.out hb); have Hd := Lib.hid hd; clear hb hd tok0 _t; have tok1 : True := trivial)
           | (have _t := tok1; go_at_call 33; (first | (have hcall := imul_ai Ha.out Hd.out.ai (by decide) (by decide); refine Calls.mono hcall ?_; clear hcall) | refine Calls.mono (imul_ai Ha.out Hd.out.ai (by decide) (by decide)) ?_); rintro e w14 ⟨v14, rfl, he, hb⟩; have Ha := Lib.hid (AI.keep Ha.out (Keep.call hb)); have Hc := Lib.hid (AI.keep Hc.out (Keep.call hb)); have Hs := Lib.hid (CL.keep Hs.out (Keep.call hb)); have Xa := Lib.hid (Box.pcall hb Xa.out); have Xb := Lib.hid (Box.pcall hb Xb.out); have Xc := Lib.hid (Box.pcall hb Xc.out); have Xs := Lib.hid (Box.pcall hb Xs.out); have HB := Lib.hid (below_call HB.out hb); have He := Lib.hid he; clear hb he tok1 _t; have tok2 : True := trivial)
           | (have _t := tok2; go_at_call 33; (first | (have hcall := imul_ai Ha.out Hc.out (by decide) (by decide); refine Calls.mono hcall ?_; clear hcall) | refine Calls.mono (imul_ai Ha.out Hc.out (by decide) (by decide)) ?_); rintro e w15 ⟨v15, rfl, hf, hb⟩; have Hs := Lib.hid (CL.keep Hs.out (Keep.call hb)); have He := Lib.hid (CL.keep He.out (Keep.call hb)); have Xa := Lib.hid (Box.pcall hb Xa.out); have Xb := Lib.hid (Box.pcall hb Xb.out); have Xc := Lib.hid (Box.pcall hb Xc.out); have Xs := Lib.hid (Box.pcall hb Xs.out); have HB := Lib.hid (below_call HB.out hb); have Hf := Lib.hid hf; clear hb hf tok2 _t; have tok3 : True := trivial)
           | (have _t := tok3; go_at_call 30; (first | (have hcall := iadd_ai Hs.out.ai Hf.out.ai (by decide) (by decide); refine Calls.mono hcall ?_; clear hcall) | refine Calls.mono (iadd_ai Hs.out.ai Hf.out.ai (by decide) (by decide)) ?_); rintro e w16 ⟨v16, rfl, hg, hb⟩; have He := Lib.hid (CL.keep He.out (Keep.call hb)); have Xa := Lib.hid (Box.pcall hb Xa.out); have Xb := Lib.hid (Box.pcall hb Xb.out); have Xc := Lib.hid (Box.pcall hb Xc.out); have Xs := Lib.hid (Box.pcall hb Xs.out); have HB := Lib.hid (below_call HB.out hb); have Hg := Lib.hid hg; clear hb hg tok3 _t; have tok4 : True := trivial)
           | (have _t := tok4; go_at_call 14; refine Calls.mono (isame_cl He.out Hg.out (Int.mul_add _ _ _)) ?_; rintro e w17 ⟨v17, rfl, rfl, hb⟩; have Xa := Lib.hid (Box.pcall hb Xa.out); have Xb := Lib.hid (Box.pcall hb Xb.out); have Xc := Lib.hid (Box.pcall hb Xc.out); have Xs := Lib.hid (Box.pcall hb Xs.out); have HB := Lib.hid (below_call HB.out hb); clear hb tok4 _t))
  go_wp2
  all_goals (go_ret; exact ⟨_, rfl, rfl, HB.out⟩)


end Go.Proofs.Ytiknpbgbmbifdaa
