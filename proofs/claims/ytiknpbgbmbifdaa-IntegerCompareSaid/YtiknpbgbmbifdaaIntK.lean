/- The laws of relucertlaw02: Compare. Printed by lawi.py. -/
import Derived.Test.YtiknpbgbmbifdaaIntH
namespace Go.Proofs.Ytiknpbgbmbifdaa
open Go.RowKit Nt
set_option linter.unusedVariables false

set_option maxRecDepth 100000 in
set_option maxHeartbeats 4000000 in
theorem IntegerCompare_nearmm (ba : Bool) (aa : Option Addr) (na ca : Nat) (bb : Bool) (ab : Option Addr) (nb cb : Nat) (bc : Bool) (ac : Option Addr) (nc cc : Nat) (w : World) (Xa : Int) (ha : AI Xa 8 w (.agg #[.bool ba, .slice aa na ca])) (Xb : Int) (hb : AI Xb 8 w (.agg #[.bool bb, .slice ab nb cb])) (Xc : Int) (hc : AI Xc 8 w (.agg #[.bool bc, .slice ac nc cc])) (la : na ≤ 8) (lb : nb ≤ 8) (lc : nc ≤ 8) (hx : Xa < Xb) (hy : Xb < Xc) (k : Int) (hk : Xc.sign = k) (k1 : -1 ≤ k) (k2 : k ≤ 1) :
    Calls Try.prog 9 #[.agg #[.bool ba, .slice aa na ca], .agg #[.bool bb, .slice ab nb cb], .agg #[.bool bc, .slice ac nc cc]] w (Ret w (Val (.bool true))) := by
  have Ha := Lib.hid ha
  have Hb := Lib.hid hb
  have Hc := Lib.hid hc
  have Hx := Lib.hid hx
  have Hy := Lib.hid hy
  have Hk := Lib.hid hk
  clear ha hb hc hx hy hk
  go_enter Try.func9, Try.ntmps9
  go_wp2_with fail
  obtain ⟨W, hW⟩ : ∃ W, W = (((w.alloc (.cells #[.bool ba, .slice aa na ca] 25)).alloc (.cells #[.bool bb, .slice ab nb cb] 25)).alloc (.cells #[.bool bc, .slice ac nc cc] 25)) := ⟨_, rfl⟩
  rw [← hW]
  obtain ⟨xa, xb, xc, hk, hb⟩ := boxes_3 _ _ _ _ _ _ _ hW
  clear hW
  have Ha := Lib.hid (AI.keep Ha.out hk)
  have Hb := Lib.hid (AI.keep Hb.out hk)
  have Hc := Lib.hid (AI.keep Hc.out hk)
  have Xa := Lib.hid xa
  have Xb := Lib.hid xb
  have Xc := Lib.hid xc
  have HB := Lib.hid hb
  clear hk hb xa xb xc
  refine Calls.mono (iawake_any _) ?_
  rintro e w1 ⟨v1, rfl, rfl, hb⟩
  have Ha := Lib.hid (AI.keep Ha.out (Keep.call hb))
  have Hb := Lib.hid (AI.keep Hb.out (Keep.call hb))
  have Hc := Lib.hid (AI.keep Hc.out (Keep.call hb))
  have Xa := Lib.hid (Box.pcall hb Xa.out)
  have Xb := Lib.hid (Box.pcall hb Xb.out)
  have Xc := Lib.hid (Box.pcall hb Xc.out)
  have HB := Lib.hid (below_call HB.out hb)
  clear hb
  obtain ⟨ca0, ca1, fa0, fa1⟩ := Xa.out.c2
  obtain ⟨cb0, cb1, fb0, fb1⟩ := Xb.out.c2
  obtain ⟨cc0, cc1, fc0, fc1⟩ := Xc.out.c2
  go_wp2_with fail
  clear ca0 ca1 fa0 fa1 cb0 cb1 fb0 fb1 cc0 cc1 fc0 fc1
  refine Calls.mono (ifew_yes la lb lc) ?_
  rintro e w2 ⟨v2, rfl, rfl, hb⟩
  have Ha := Lib.hid (AI.keep Ha.out (Keep.call hb))
  have Hb := Lib.hid (AI.keep Hb.out (Keep.call hb))
  have Hc := Lib.hid (AI.keep Hc.out (Keep.call hb))
  have Xa := Lib.hid (Box.pcall hb Xa.out)
  have Xb := Lib.hid (Box.pcall hb Xb.out)
  have Xc := Lib.hid (Box.pcall hb Xc.out)
  have HB := Lib.hid (below_call HB.out hb)
  clear hb
  obtain ⟨ca0, ca1, fa0, fa1⟩ := Xa.out.c2
  obtain ⟨cb0, cb1, fb0, fb1⟩ := Xb.out.c2
  obtain ⟨cc0, cc1, fc0, fc1⟩ := Xc.out.c2
  go_wp2_with fail
  clear ca0 ca1 fa0 fa1 cb0 cb1 fb0 fb1 cc0 cc1 fc0 fc1
  (first | (have hcall := icmp_ai (-1) Ha.out Hb.out (sgn_lt (by have := Hx.out; have := Hy.out; omega)) (by decide) (by decide); refine Calls.mono hcall ?_; clear hcall) | refine Calls.mono (icmp_ai (-1) Ha.out Hb.out (sgn_lt (by have := Hx.out; have := Hy.out; omega)) (by decide) (by decide)) ?_)
  rintro e w3 ⟨v3, rfl, rfl, hb⟩
  have Ha := Lib.hid (AI.keep Ha.out (Keep.call hb))
  have Hb := Lib.hid (AI.keep Hb.out (Keep.call hb))
  have Hc := Lib.hid (AI.keep Hc.out (Keep.call hb))
  have Xa := Lib.hid (Box.pcall hb Xa.out)
  have Xb := Lib.hid (Box.pcall hb Xb.out)
  have Xc := Lib.hid (Box.pcall hb Xc.out)
  have HB := Lib.hid (below_call HB.out hb)
  clear hb
  obtain ⟨ca0, ca1, fa0, fa1⟩ := Xa.out.c2
  obtain ⟨cb0, cb1, fb0, fb1⟩ := Xb.out.c2
  obtain ⟨cc0, cc1, fc0, fc1⟩ := Xc.out.c2
  go_wp2_with fail
  clear ca0 ca1 fa0 fa1 cb0 cb1 fb0 fb1 cc0 cc1 fc0 fc1
  (first | (have hcall := ricmp_ai (-1) Ha.out Hb.out (sgn_lt (by have := Hx.out; have := Hy.out; omega)) (by decide) (by decide); refine Calls.mono hcall ?_; clear hcall) | refine Calls.mono (ricmp_ai (-1) Ha.out Hb.out (sgn_lt (by have := Hx.out; have := Hy.out; omega)) (by decide) (by decide)) ?_)
  rintro e w4 ⟨v4, rfl, rfl, hb⟩
  have Ha := Lib.hid (AI.keep Ha.out (Keep.call hb))
  have Hb := Lib.hid (AI.keep Hb.out (Keep.call hb))
  have Hc := Lib.hid (AI.keep Hc.out (Keep.call hb))
  have Xa := Lib.hid (Box.pcall hb Xa.out)
  have Xb := Lib.hid (Box.pcall hb Xb.out)
  have Xc := Lib.hid (Box.pcall hb Xc.out)
  have HB := Lib.hid (below_call HB.out hb)
  clear hb
  obtain ⟨ca0, ca1, fa0, fa1⟩ := Xa.out.c2
  obtain ⟨cb0, cb1, fb0, fb1⟩ := Xb.out.c2
  obtain ⟨cc0, cc1, fc0, fc1⟩ := Xc.out.c2
  go_wp2_with fail
  clear ca0 ca1 fa0 fa1 cb0 cb1 fb0 fb1 cc0 cc1 fc0 fc1
  (first | (have hcall := icmp_ai 1 Hb.out Ha.out (sgn_gt (by have := Hx.out; have := Hy.out; omega)) (by decide) (by decide); refine Calls.mono hcall ?_; clear hcall) | refine Calls.mono (icmp_ai 1 Hb.out Ha.out (sgn_gt (by have := Hx.out; have := Hy.out; omega)) (by decide) (by decide)) ?_)
  rintro e w5 ⟨v5, rfl, rfl, hb⟩
  have Ha := Lib.hid (AI.keep Ha.out (Keep.call hb))
  have Hb := Lib.hid (AI.keep Hb.out (Keep.call hb))
  have Hc := Lib.hid (AI.keep Hc.out (Keep.call hb))
  have Xa := Lib.hid (Box.pcall hb Xa.out)
  have Xb := Lib.hid (Box.pcall hb Xb.out)
  have Xc := Lib.hid (Box.pcall hb Xc.out)
  have HB := Lib.hid (below_call HB.out hb)
  clear hb
  obtain ⟨ca0, ca1, fa0, fa1⟩ := Xa.out.c2
  obtain ⟨cb0, cb1, fb0, fb1⟩ := Xb.out.c2
  obtain ⟨cc0, cc1, fc0, fc1⟩ := Xc.out.c2
  go_wp2_with fail
  clear ca0 ca1 fa0 fa1 cb0 cb1 fb0 fb1 cc0 cc1 fc0 fc1
  (first | (have hcall := icmp_ai (-1) Hb.out Hc.out (sgn_lt (by have := Hx.out; have := Hy.out; omega)) (by decide) (by decide); refine Calls.mono hcall ?_; clear hcall) | refine Calls.mono (icmp_ai (-1) Hb.out Hc.out (sgn_lt (by have := Hx.out; have := Hy.out; omega)) (by decide) (by decide)) ?_)
  rintro e w6 ⟨v6, rfl, rfl, hb⟩
  have Ha := Lib.hid (AI.keep Ha.out (Keep.call hb))
  have Hb := Lib.hid (AI.keep Hb.out (Keep.call hb))
  have Hc := Lib.hid (AI.keep Hc.out (Keep.call hb))
  have Xa := Lib.hid (Box.pcall hb Xa.out)
  have Xb := Lib.hid (Box.pcall hb Xb.out)
  have Xc := Lib.hid (Box.pcall hb Xc.out)
  have HB := Lib.hid (below_call HB.out hb)
  clear hb
  obtain ⟨ca0, ca1, fa0, fa1⟩ := Xa.out.c2
  obtain ⟨cb0, cb1, fb0, fb1⟩ := Xb.out.c2
  obtain ⟨cc0, cc1, fc0, fc1⟩ := Xc.out.c2
  go_wp2_with fail
  clear ca0 ca1 fa0 fa1 cb0 cb1 fb0 fb1 cc0 cc1 fc0 fc1
  (first | (have hcall := icmp_ai (-1) Ha.out Hc.out (sgn_lt (by have := Hx.out; have := Hy.out; omega)) (by decide) (by decide); refine Calls.mono hcall ?_; clear hcall) | refine Calls.mono (icmp_ai (-1) Ha.out Hc.out (sgn_lt (by have := Hx.out; have := Hy.out; omega)) (by decide) (by decide)) ?_)
  rintro e w7 ⟨v7, rfl, rfl, hb⟩
  have Ha := Lib.hid (AI.keep Ha.out (Keep.call hb))
  have Hb := Lib.hid (AI.keep Hb.out (Keep.call hb))
  have Hc := Lib.hid (AI.keep Hc.out (Keep.call hb))
  have Xa := Lib.hid (Box.pcall hb Xa.out)
  have Xb := Lib.hid (Box.pcall hb Xb.out)
  have Xc := Lib.hid (Box.pcall hb Xc.out)
  have HB := Lib.hid (below_call HB.out hb)
  clear hb
  obtain ⟨ca0, ca1, fa0, fa1⟩ := Xa.out.c2
  obtain ⟨cb0, cb1, fb0, fb1⟩ := Xb.out.c2
  obtain ⟨cc0, cc1, fc0, fc1⟩ := Xc.out.c2
  go_wp2_with fail
  have hwk : IntKind.i64.wrap (-k) = -k := IntWalk.i64_in _ (by omega)
  clear ca0 ca1 fa0 fa1 cb0 cb1 fb0 fb1 cc0 cc1 fc0 fc1
  have Ha := Lib.hid (AI.keep Ha.out (Keep.drew w7))
  have Hb := Lib.hid (AI.keep Hb.out (Keep.drew w7))
  have Hc := Lib.hid (AI.keep Hc.out (Keep.drew w7))
  have Xa := Lib.hid (Box.drew Xa.out)
  have Xb := Lib.hid (Box.drew Xb.out)
  have Xc := Lib.hid (Box.drew Xc.out)
  have HB := Lib.hid (Below.drew HB.out)
  have tok0 : True := trivial
  go_region_held3 (fun w' => w'.cell? ⟨w.heap.size, 0, none⟩ = some (.bool ba) ∧ w'.cell? ⟨w.heap.size, 1, none⟩ = some (.slice aa na ca) ∧ w'.cell? ⟨w.heap.size + 1, 0, none⟩ = some (.bool bb) ∧ w'.cell? ⟨w.heap.size + 1, 1, none⟩ = some (.slice ab nb cb) ∧ w'.cell? ⟨w.heap.size + 1 + 1, 0, none⟩ = some (.bool bc) ∧ w'.cell? ⟨w.heap.size + 1 + 1, 1, none⟩ = some (.slice ac nc cc))
    (first | exact ⟨Xa.out.cell 0 rfl, Xa.out.cell 1 rfl, Xb.out.cell 0 rfl, Xb.out.cell 1 rfl, Xc.out.cell 0 rfl, Xc.out.cell 1 rfl⟩ | go_keep)
    (first | (have _t := tok0; go_at_call 30; (first | (have hcall := iadd_ai Ha.out Hc.out (by decide) (by decide); refine Calls.mono hcall ?_; clear hcall) | refine Calls.mono (iadd_ai Ha.out Hc.out (by decide) (by decide)) ?_); rintro e w8 ⟨v8, rfl, hp, hb⟩; have Ha := Lib.hid (AI.keep Ha.out (Keep.call hb)); have Hb := Lib.hid (AI.keep Hb.out (Keep.call hb)); have Hc := Lib.hid (AI.keep Hc.out (Keep.call hb)); have Xa := Lib.hid (Box.pcall hb Xa.out); have Xb := Lib.hid (Box.pcall hb Xb.out); have Xc := Lib.hid (Box.pcall hb Xc.out); have HB := Lib.hid (below_call HB.out hb); have Hp := Lib.hid hp; clear hb hp tok0 _t; have tok1 : True := trivial)
           | (have _t := tok1; go_at_call 30; (first | (have hcall := iadd_ai Hb.out Hc.out (by decide) (by decide); refine Calls.mono hcall ?_; clear hcall) | refine Calls.mono (iadd_ai Hb.out Hc.out (by decide) (by decide)) ?_); rintro e w9 ⟨v9, rfl, hq, hb⟩; have Ha := Lib.hid (AI.keep Ha.out (Keep.call hb)); have Hb := Lib.hid (AI.keep Hb.out (Keep.call hb)); have Hc := Lib.hid (AI.keep Hc.out (Keep.call hb)); have Hp := Lib.hid (CL.keep Hp.out (Keep.call hb)); have Xa := Lib.hid (Box.pcall hb Xa.out); have Xb := Lib.hid (Box.pcall hb Xb.out); have Xc := Lib.hid (Box.pcall hb Xc.out); have HB := Lib.hid (below_call HB.out hb); have Hq := Lib.hid hq; clear hb hq tok1 _t; have tok2 : True := trivial)
           | (have _t := tok2; go_at_call 34; (first | (have hcall := icmp_ai (-1) Hp.out.ai Hq.out.ai (sgn_lt (by have := Hx.out; have := Hy.out; omega)) (by decide) (by decide); refine Calls.mono hcall ?_; clear hcall) | refine Calls.mono (icmp_ai (-1) Hp.out.ai Hq.out.ai (sgn_lt (by have := Hx.out; have := Hy.out; omega)) (by decide) (by decide)) ?_); rintro e w10 ⟨v10, rfl, rfl, hb⟩; have Ha := Lib.hid (AI.keep Ha.out (Keep.call hb)); have Hb := Lib.hid (AI.keep Hb.out (Keep.call hb)); have Hc := Lib.hid (AI.keep Hc.out (Keep.call hb)); have Xa := Lib.hid (Box.pcall hb Xa.out); have Xb := Lib.hid (Box.pcall hb Xb.out); have Xc := Lib.hid (Box.pcall hb Xc.out); have HB := Lib.hid (below_call HB.out hb); clear hb tok2 _t; have tok3 : True := trivial)
           | (have _t := tok3; go_at_call 33; (first | (have hcall := imul_ai Ha.out Hc.out (by decide) (by decide); refine Calls.mono hcall ?_; clear hcall) | refine Calls.mono (imul_ai Ha.out Hc.out (by decide) (by decide)) ?_); rintro e w11 ⟨v11, rfl, hr, hb⟩; have Hb := Lib.hid (AI.keep Hb.out (Keep.call hb)); have Hc := Lib.hid (AI.keep Hc.out (Keep.call hb)); have Xa := Lib.hid (Box.pcall hb Xa.out); have Xb := Lib.hid (Box.pcall hb Xb.out); have Xc := Lib.hid (Box.pcall hb Xc.out); have HB := Lib.hid (below_call HB.out hb); have Hr := Lib.hid hr; clear hb hr tok3 _t; have tok4 : True := trivial)
           | (have _t := tok4; go_at_call 33; (first | (have hcall := imul_ai Hb.out Hc.out (by decide) (by decide); refine Calls.mono hcall ?_; clear hcall) | refine Calls.mono (imul_ai Hb.out Hc.out (by decide) (by decide)) ?_); rintro e w12 ⟨v12, rfl, ht, hb⟩; have Hc := Lib.hid (AI.keep Hc.out (Keep.call hb)); have Hr := Lib.hid (CL.keep Hr.out (Keep.call hb)); have Xa := Lib.hid (Box.pcall hb Xa.out); have Xb := Lib.hid (Box.pcall hb Xb.out); have Xc := Lib.hid (Box.pcall hb Xc.out); have HB := Lib.hid (below_call HB.out hb); have Ht := Lib.hid ht; clear hb ht tok4 _t; have tok5 : True := trivial)
           | (have _t := tok5; go_at_call 34; (first | (have hcall := icmp_ai (-k) Hr.out.ai Ht.out.ai (mul_sgn_m Hx.out Hk.out) (by decide) (by decide); refine Calls.mono hcall ?_; clear hcall) | refine Calls.mono (icmp_ai (-k) Hr.out.ai Ht.out.ai (mul_sgn_m Hx.out Hk.out) (by decide) (by decide)) ?_); rintro e w13 ⟨v13, rfl, rfl, hb⟩; have Hc := Lib.hid (AI.keep Hc.out (Keep.call hb)); have Xa := Lib.hid (Box.pcall hb Xa.out); have Xb := Lib.hid (Box.pcall hb Xb.out); have Xc := Lib.hid (Box.pcall hb Xc.out); have HB := Lib.hid (below_call HB.out hb); clear hb tok5 _t; have tok6 : True := trivial)
           | (have _t := tok6; go_at_call 19; (first | (have hcall := isign_ai k Hc.out Hk.out (by decide); refine Calls.mono hcall ?_; clear hcall) | refine Calls.mono (isign_ai k Hc.out Hk.out (by decide)) ?_); rintro e w14 ⟨v14, rfl, rfl, hb⟩; have Xa := Lib.hid (Box.pcall hb Xa.out); have Xb := Lib.hid (Box.pcall hb Xb.out); have Xc := Lib.hid (Box.pcall hb Xc.out); have HB := Lib.hid (below_call HB.out hb); clear hb tok6 _t))
  go_wp2
  all_goals (go_ret; exact ⟨_, rfl, rfl, HB.out⟩)


set_option maxRecDepth 100000 in
set_option maxHeartbeats 4000000 in
theorem IntegerCompare_nearmz (ba : Bool) (aa : Option Addr) (na ca : Nat) (bb : Bool) (ab : Option Addr) (nb cb : Nat) (bc : Bool) (ac : Option Addr) (nc cc : Nat) (w : World) (Xa : Int) (ha : AI Xa 8 w (.agg #[.bool ba, .slice aa na ca])) (Xb : Int) (hb : AI Xb 8 w (.agg #[.bool bb, .slice ab nb cb])) (Xc : Int) (hc : AI Xc 8 w (.agg #[.bool bc, .slice ac nc cc])) (la : na ≤ 8) (lb : nb ≤ 8) (lc : nc ≤ 8) (hx : Xa < Xb) (hy : Xb = Xc) (k : Int) (hk : Xc.sign = k) (k1 : -1 ≤ k) (k2 : k ≤ 1) :
    Calls Try.prog 9 #[.agg #[.bool ba, .slice aa na ca], .agg #[.bool bb, .slice ab nb cb], .agg #[.bool bc, .slice ac nc cc]] w (Ret w (Val (.bool true))) := by
  have Ha := Lib.hid ha
  have Hb := Lib.hid hb
  have Hc := Lib.hid hc
  have Hx := Lib.hid hx
  have Hy := Lib.hid hy
  have Hk := Lib.hid hk
  clear ha hb hc hx hy hk
  go_enter Try.func9, Try.ntmps9
  go_wp2_with fail
  obtain ⟨W, hW⟩ : ∃ W, W = (((w.alloc (.cells #[.bool ba, .slice aa na ca] 25)).alloc (.cells #[.bool bb, .slice ab nb cb] 25)).alloc (.cells #[.bool bc, .slice ac nc cc] 25)) := ⟨_, rfl⟩
  rw [← hW]
  obtain ⟨xa, xb, xc, hk, hb⟩ := boxes_3 _ _ _ _ _ _ _ hW
  clear hW
  have Ha := Lib.hid (AI.keep Ha.out hk)
  have Hb := Lib.hid (AI.keep Hb.out hk)
  have Hc := Lib.hid (AI.keep Hc.out hk)
  have Xa := Lib.hid xa
  have Xb := Lib.hid xb
  have Xc := Lib.hid xc
  have HB := Lib.hid hb
  clear hk hb xa xb xc
  refine Calls.mono (iawake_any _) ?_
  rintro e w1 ⟨v1, rfl, rfl, hb⟩
  have Ha := Lib.hid (AI.keep Ha.out (Keep.call hb))
  have Hb := Lib.hid (AI.keep Hb.out (Keep.call hb))
  have Hc := Lib.hid (AI.keep Hc.out (Keep.call hb))
  have Xa := Lib.hid (Box.pcall hb Xa.out)
  have Xb := Lib.hid (Box.pcall hb Xb.out)
  have Xc := Lib.hid (Box.pcall hb Xc.out)
  have HB := Lib.hid (below_call HB.out hb)
  clear hb
  obtain ⟨ca0, ca1, fa0, fa1⟩ := Xa.out.c2
  obtain ⟨cb0, cb1, fb0, fb1⟩ := Xb.out.c2
  obtain ⟨cc0, cc1, fc0, fc1⟩ := Xc.out.c2
  go_wp2_with fail
  clear ca0 ca1 fa0 fa1 cb0 cb1 fb0 fb1 cc0 cc1 fc0 fc1
  refine Calls.mono (ifew_yes la lb lc) ?_
  rintro e w2 ⟨v2, rfl, rfl, hb⟩
  have Ha := Lib.hid (AI.keep Ha.out (Keep.call hb))
  have Hb := Lib.hid (AI.keep Hb.out (Keep.call hb))
  have Hc := Lib.hid (AI.keep Hc.out (Keep.call hb))
  have Xa := Lib.hid (Box.pcall hb Xa.out)
  have Xb := Lib.hid (Box.pcall hb Xb.out)
  have Xc := Lib.hid (Box.pcall hb Xc.out)
  have HB := Lib.hid (below_call HB.out hb)
  clear hb
  obtain ⟨ca0, ca1, fa0, fa1⟩ := Xa.out.c2
  obtain ⟨cb0, cb1, fb0, fb1⟩ := Xb.out.c2
  obtain ⟨cc0, cc1, fc0, fc1⟩ := Xc.out.c2
  go_wp2_with fail
  clear ca0 ca1 fa0 fa1 cb0 cb1 fb0 fb1 cc0 cc1 fc0 fc1
  (first | (have hcall := icmp_ai (-1) Ha.out Hb.out (sgn_lt (by have := Hx.out; have := Hy.out; omega)) (by decide) (by decide); refine Calls.mono hcall ?_; clear hcall) | refine Calls.mono (icmp_ai (-1) Ha.out Hb.out (sgn_lt (by have := Hx.out; have := Hy.out; omega)) (by decide) (by decide)) ?_)
  rintro e w3 ⟨v3, rfl, rfl, hb⟩
  have Ha := Lib.hid (AI.keep Ha.out (Keep.call hb))
  have Hb := Lib.hid (AI.keep Hb.out (Keep.call hb))
  have Hc := Lib.hid (AI.keep Hc.out (Keep.call hb))
  have Xa := Lib.hid (Box.pcall hb Xa.out)
  have Xb := Lib.hid (Box.pcall hb Xb.out)
  have Xc := Lib.hid (Box.pcall hb Xc.out)
  have HB := Lib.hid (below_call HB.out hb)
  clear hb
  obtain ⟨ca0, ca1, fa0, fa1⟩ := Xa.out.c2
  obtain ⟨cb0, cb1, fb0, fb1⟩ := Xb.out.c2
  obtain ⟨cc0, cc1, fc0, fc1⟩ := Xc.out.c2
  go_wp2_with fail
  clear ca0 ca1 fa0 fa1 cb0 cb1 fb0 fb1 cc0 cc1 fc0 fc1
  (first | (have hcall := ricmp_ai (-1) Ha.out Hb.out (sgn_lt (by have := Hx.out; have := Hy.out; omega)) (by decide) (by decide); refine Calls.mono hcall ?_; clear hcall) | refine Calls.mono (ricmp_ai (-1) Ha.out Hb.out (sgn_lt (by have := Hx.out; have := Hy.out; omega)) (by decide) (by decide)) ?_)
  rintro e w4 ⟨v4, rfl, rfl, hb⟩
  have Ha := Lib.hid (AI.keep Ha.out (Keep.call hb))
  have Hb := Lib.hid (AI.keep Hb.out (Keep.call hb))
  have Hc := Lib.hid (AI.keep Hc.out (Keep.call hb))
  have Xa := Lib.hid (Box.pcall hb Xa.out)
  have Xb := Lib.hid (Box.pcall hb Xb.out)
  have Xc := Lib.hid (Box.pcall hb Xc.out)
  have HB := Lib.hid (below_call HB.out hb)
  clear hb
  obtain ⟨ca0, ca1, fa0, fa1⟩ := Xa.out.c2
  obtain ⟨cb0, cb1, fb0, fb1⟩ := Xb.out.c2
  obtain ⟨cc0, cc1, fc0, fc1⟩ := Xc.out.c2
  go_wp2_with fail
  clear ca0 ca1 fa0 fa1 cb0 cb1 fb0 fb1 cc0 cc1 fc0 fc1
  (first | (have hcall := icmp_ai 1 Hb.out Ha.out (sgn_gt (by have := Hx.out; have := Hy.out; omega)) (by decide) (by decide); refine Calls.mono hcall ?_; clear hcall) | refine Calls.mono (icmp_ai 1 Hb.out Ha.out (sgn_gt (by have := Hx.out; have := Hy.out; omega)) (by decide) (by decide)) ?_)
  rintro e w5 ⟨v5, rfl, rfl, hb⟩
  have Ha := Lib.hid (AI.keep Ha.out (Keep.call hb))
  have Hb := Lib.hid (AI.keep Hb.out (Keep.call hb))
  have Hc := Lib.hid (AI.keep Hc.out (Keep.call hb))
  have Xa := Lib.hid (Box.pcall hb Xa.out)
  have Xb := Lib.hid (Box.pcall hb Xb.out)
  have Xc := Lib.hid (Box.pcall hb Xc.out)
  have HB := Lib.hid (below_call HB.out hb)
  clear hb
  obtain ⟨ca0, ca1, fa0, fa1⟩ := Xa.out.c2
  obtain ⟨cb0, cb1, fb0, fb1⟩ := Xb.out.c2
  obtain ⟨cc0, cc1, fc0, fc1⟩ := Xc.out.c2
  go_wp2_with fail
  clear ca0 ca1 fa0 fa1 cb0 cb1 fb0 fb1 cc0 cc1 fc0 fc1
  (first | (have hcall := icmp_ai 0 Hb.out Hc.out (sgn_eq (by have := Hx.out; have := Hy.out; omega)) (by decide) (by decide); refine Calls.mono hcall ?_; clear hcall) | refine Calls.mono (icmp_ai 0 Hb.out Hc.out (sgn_eq (by have := Hx.out; have := Hy.out; omega)) (by decide) (by decide)) ?_)
  rintro e w6 ⟨v6, rfl, rfl, hb⟩
  have Ha := Lib.hid (AI.keep Ha.out (Keep.call hb))
  have Hb := Lib.hid (AI.keep Hb.out (Keep.call hb))
  have Hc := Lib.hid (AI.keep Hc.out (Keep.call hb))
  have Xa := Lib.hid (Box.pcall hb Xa.out)
  have Xb := Lib.hid (Box.pcall hb Xb.out)
  have Xc := Lib.hid (Box.pcall hb Xc.out)
  have HB := Lib.hid (below_call HB.out hb)
  clear hb
  obtain ⟨ca0, ca1, fa0, fa1⟩ := Xa.out.c2
  obtain ⟨cb0, cb1, fb0, fb1⟩ := Xb.out.c2
  obtain ⟨cc0, cc1, fc0, fc1⟩ := Xc.out.c2
  go_wp2_with fail
  clear ca0 ca1 fa0 fa1 cb0 cb1 fb0 fb1 cc0 cc1 fc0 fc1
  (first | (have hcall := icmp_ai (-1) Ha.out Hc.out (sgn_lt (by have := Hx.out; have := Hy.out; omega)) (by decide) (by decide); refine Calls.mono hcall ?_; clear hcall) | refine Calls.mono (icmp_ai (-1) Ha.out Hc.out (sgn_lt (by have := Hx.out; have := Hy.out; omega)) (by decide) (by decide)) ?_)
  rintro e w7 ⟨v7, rfl, rfl, hb⟩
  have Ha := Lib.hid (AI.keep Ha.out (Keep.call hb))
  have Hb := Lib.hid (AI.keep Hb.out (Keep.call hb))
  have Hc := Lib.hid (AI.keep Hc.out (Keep.call hb))
  have Xa := Lib.hid (Box.pcall hb Xa.out)
  have Xb := Lib.hid (Box.pcall hb Xb.out)
  have Xc := Lib.hid (Box.pcall hb Xc.out)
  have HB := Lib.hid (below_call HB.out hb)
  clear hb
  obtain ⟨ca0, ca1, fa0, fa1⟩ := Xa.out.c2
  obtain ⟨cb0, cb1, fb0, fb1⟩ := Xb.out.c2
  obtain ⟨cc0, cc1, fc0, fc1⟩ := Xc.out.c2
  go_wp2_with fail
  have hwk : IntKind.i64.wrap (-k) = -k := IntWalk.i64_in _ (by omega)
  clear ca0 ca1 fa0 fa1 cb0 cb1 fb0 fb1 cc0 cc1 fc0 fc1
  have Ha := Lib.hid (AI.keep Ha.out (Keep.drew w7))
  have Hb := Lib.hid (AI.keep Hb.out (Keep.drew w7))
  have Hc := Lib.hid (AI.keep Hc.out (Keep.drew w7))
  have Xa := Lib.hid (Box.drew Xa.out)
  have Xb := Lib.hid (Box.drew Xb.out)
  have Xc := Lib.hid (Box.drew Xc.out)
  have HB := Lib.hid (Below.drew HB.out)
  have tok0 : True := trivial
  go_region_held3 (fun w' => w'.cell? ⟨w.heap.size, 0, none⟩ = some (.bool ba) ∧ w'.cell? ⟨w.heap.size, 1, none⟩ = some (.slice aa na ca) ∧ w'.cell? ⟨w.heap.size + 1, 0, none⟩ = some (.bool bb) ∧ w'.cell? ⟨w.heap.size + 1, 1, none⟩ = some (.slice ab nb cb) ∧ w'.cell? ⟨w.heap.size + 1 + 1, 0, none⟩ = some (.bool bc) ∧ w'.cell? ⟨w.heap.size + 1 + 1, 1, none⟩ = some (.slice ac nc cc))
    (first | exact ⟨Xa.out.cell 0 rfl, Xa.out.cell 1 rfl, Xb.out.cell 0 rfl, Xb.out.cell 1 rfl, Xc.out.cell 0 rfl, Xc.out.cell 1 rfl⟩ | go_keep)
    (first | (have _t := tok0; go_at_call 30; (first | (have hcall := iadd_ai Ha.out Hc.out (by decide) (by decide); refine Calls.mono hcall ?_; clear hcall) | refine Calls.mono (iadd_ai Ha.out Hc.out (by decide) (by decide)) ?_); rintro e w8 ⟨v8, rfl, hp, hb⟩; have Ha := Lib.hid (AI.keep Ha.out (Keep.call hb)); have Hb := Lib.hid (AI.keep Hb.out (Keep.call hb)); have Hc := Lib.hid (AI.keep Hc.out (Keep.call hb)); have Xa := Lib.hid (Box.pcall hb Xa.out); have Xb := Lib.hid (Box.pcall hb Xb.out); have Xc := Lib.hid (Box.pcall hb Xc.out); have HB := Lib.hid (below_call HB.out hb); have Hp := Lib.hid hp; clear hb hp tok0 _t; have tok1 : True := trivial)
           | (have _t := tok1; go_at_call 30; (first | (have hcall := iadd_ai Hb.out Hc.out (by decide) (by decide); refine Calls.mono hcall ?_; clear hcall) | refine Calls.mono (iadd_ai Hb.out Hc.out (by decide) (by decide)) ?_); rintro e w9 ⟨v9, rfl, hq, hb⟩; have Ha := Lib.hid (AI.keep Ha.out (Keep.call hb)); have Hb := Lib.hid (AI.keep Hb.out (Keep.call hb)); have Hc := Lib.hid (AI.keep Hc.out (Keep.call hb)); have Hp := Lib.hid (CL.keep Hp.out (Keep.call hb)); have Xa := Lib.hid (Box.pcall hb Xa.out); have Xb := Lib.hid (Box.pcall hb Xb.out); have Xc := Lib.hid (Box.pcall hb Xc.out); have HB := Lib.hid (below_call HB.out hb); have Hq := Lib.hid hq; clear hb hq tok1 _t; have tok2 : True := trivial)
           | (have _t := tok2; go_at_call 34; (first | (have hcall := icmp_ai (-1) Hp.out.ai Hq.out.ai (sgn_lt (by have := Hx.out; have := Hy.out; omega)) (by decide) (by decide); refine Calls.mono hcall ?_; clear hcall) | refine Calls.mono (icmp_ai (-1) Hp.out.ai Hq.out.ai (sgn_lt (by have := Hx.out; have := Hy.out; omega)) (by decide) (by decide)) ?_); rintro e w10 ⟨v10, rfl, rfl, hb⟩; have Ha := Lib.hid (AI.keep Ha.out (Keep.call hb)); have Hb := Lib.hid (AI.keep Hb.out (Keep.call hb)); have Hc := Lib.hid (AI.keep Hc.out (Keep.call hb)); have Xa := Lib.hid (Box.pcall hb Xa.out); have Xb := Lib.hid (Box.pcall hb Xb.out); have Xc := Lib.hid (Box.pcall hb Xc.out); have HB := Lib.hid (below_call HB.out hb); clear hb tok2 _t; have tok3 : True := trivial)
           | (have _t := tok3; go_at_call 33; (first | (have hcall := imul_ai Ha.out Hc.out (by decide) (by decide); refine Calls.mono hcall ?_; clear hcall) | refine Calls.mono (imul_ai Ha.out Hc.out (by decide) (by decide)) ?_); rintro e w11 ⟨v11, rfl, hr, hb⟩; have Hb := Lib.hid (AI.keep Hb.out (Keep.call hb)); have Hc := Lib.hid (AI.keep Hc.out (Keep.call hb)); have Xa := Lib.hid (Box.pcall hb Xa.out); have Xb := Lib.hid (Box.pcall hb Xb.out); have Xc := Lib.hid (Box.pcall hb Xc.out); have HB := Lib.hid (below_call HB.out hb); have Hr := Lib.hid hr; clear hb hr tok3 _t; have tok4 : True := trivial)
           | (have _t := tok4; go_at_call 33; (first | (have hcall := imul_ai Hb.out Hc.out (by decide) (by decide); refine Calls.mono hcall ?_; clear hcall) | refine Calls.mono (imul_ai Hb.out Hc.out (by decide) (by decide)) ?_); rintro e w12 ⟨v12, rfl, ht, hb⟩; have Hc := Lib.hid (AI.keep Hc.out (Keep.call hb)); have Hr := Lib.hid (CL.keep Hr.out (Keep.call hb)); have Xa := Lib.hid (Box.pcall hb Xa.out); have Xb := Lib.hid (Box.pcall hb Xb.out); have Xc := Lib.hid (Box.pcall hb Xc.out); have HB := Lib.hid (below_call HB.out hb); have Ht := Lib.hid ht; clear hb ht tok4 _t; have tok5 : True := trivial)
           | (have _t := tok5; go_at_call 34; (first | (have hcall := icmp_ai (-k) Hr.out.ai Ht.out.ai (mul_sgn_m Hx.out Hk.out) (by decide) (by decide); refine Calls.mono hcall ?_; clear hcall) | refine Calls.mono (icmp_ai (-k) Hr.out.ai Ht.out.ai (mul_sgn_m Hx.out Hk.out) (by decide) (by decide)) ?_); rintro e w13 ⟨v13, rfl, rfl, hb⟩; have Hc := Lib.hid (AI.keep Hc.out (Keep.call hb)); have Xa := Lib.hid (Box.pcall hb Xa.out); have Xb := Lib.hid (Box.pcall hb Xb.out); have Xc := Lib.hid (Box.pcall hb Xc.out); have HB := Lib.hid (below_call HB.out hb); clear hb tok5 _t; have tok6 : True := trivial)
           | (have _t := tok6; go_at_call 19; (first | (have hcall := isign_ai k Hc.out Hk.out (by decide); refine Calls.mono hcall ?_; clear hcall) | refine Calls.mono (isign_ai k Hc.out Hk.out (by decide)) ?_); rintro e w14 ⟨v14, rfl, rfl, hb⟩; have Xa := Lib.hid (Box.pcall hb Xa.out); have Xb := Lib.hid (Box.pcall hb Xb.out); have Xc := Lib.hid (Box.pcall hb Xc.out); have HB := Lib.hid (below_call HB.out hb); clear hb tok6 _t))
  go_wp2
  all_goals (go_ret; exact ⟨_, rfl, rfl, HB.out⟩)


set_option maxRecDepth 100000 in
set_option maxHeartbeats 4000000 in
theorem IntegerCompare_nearmp (ba : Bool) (aa : Option Addr) (na ca : Nat) (bb : Bool) (ab : Option Addr) (nb cb : Nat) (bc : Bool) (ac : Option Addr) (nc cc : Nat) (w : World) (Xa : Int) (ha : AI Xa 8 w (.agg #[.bool ba, .slice aa na ca])) (Xb : Int) (hb : AI Xb 8 w (.agg #[.bool bb, .slice ab nb cb])) (Xc : Int) (hc : AI Xc 8 w (.agg #[.bool bc, .slice ac nc cc])) (la : na ≤ 8) (lb : nb ≤ 8) (lc : nc ≤ 8) (hx : Xa < Xb) (hy : Xc < Xb) (k : Int) (hk : Xc.sign = k) (k1 : -1 ≤ k) (k2 : k ≤ 1) :
    Calls Try.prog 9 #[.agg #[.bool ba, .slice aa na ca], .agg #[.bool bb, .slice ab nb cb], .agg #[.bool bc, .slice ac nc cc]] w (Ret w (Val (.bool true))) := by
  have Ha := Lib.hid ha
  have Hb := Lib.hid hb
  have Hc := Lib.hid hc
  have Hx := Lib.hid hx
  have Hy := Lib.hid hy
  have Hk := Lib.hid hk
  clear ha hb hc hx hy hk
  go_enter Try.func9, Try.ntmps9
  go_wp2_with fail
  obtain ⟨W, hW⟩ : ∃ W, W = (((w.alloc (.cells #[.bool ba, .slice aa na ca] 25)).alloc (.cells #[.bool bb, .slice ab nb cb] 25)).alloc (.cells #[.bool bc, .slice ac nc cc] 25)) := ⟨_, rfl⟩
  rw [← hW]
  obtain ⟨xa, xb, xc, hk, hb⟩ := boxes_3 _ _ _ _ _ _ _ hW
  clear hW
  have Ha := Lib.hid (AI.keep Ha.out hk)
  have Hb := Lib.hid (AI.keep Hb.out hk)
  have Hc := Lib.hid (AI.keep Hc.out hk)
  have Xa := Lib.hid xa
  have Xb := Lib.hid xb
  have Xc := Lib.hid xc
  have HB := Lib.hid hb
  clear hk hb xa xb xc
  refine Calls.mono (iawake_any _) ?_
  rintro e w1 ⟨v1, rfl, rfl, hb⟩
  have Ha := Lib.hid (AI.keep Ha.out (Keep.call hb))
  have Hb := Lib.hid (AI.keep Hb.out (Keep.call hb))
  have Hc := Lib.hid (AI.keep Hc.out (Keep.call hb))
  have Xa := Lib.hid (Box.pcall hb Xa.out)
  have Xb := Lib.hid (Box.pcall hb Xb.out)
  have Xc := Lib.hid (Box.pcall hb Xc.out)
  have HB := Lib.hid (below_call HB.out hb)
  clear hb
  obtain ⟨ca0, ca1, fa0, fa1⟩ := Xa.out.c2
  obtain ⟨cb0, cb1, fb0, fb1⟩ := Xb.out.c2
  obtain ⟨cc0, cc1, fc0, fc1⟩ := Xc.out.c2
  go_wp2_with fail
  clear ca0 ca1 fa0 fa1 cb0 cb1 fb0 fb1 cc0 cc1 fc0 fc1
  refine Calls.mono (ifew_yes la lb lc) ?_
  rintro e w2 ⟨v2, rfl, rfl, hb⟩
  have Ha := Lib.hid (AI.keep Ha.out (Keep.call hb))
  have Hb := Lib.hid (AI.keep Hb.out (Keep.call hb))
  have Hc := Lib.hid (AI.keep Hc.out (Keep.call hb))
  have Xa := Lib.hid (Box.pcall hb Xa.out)
  have Xb := Lib.hid (Box.pcall hb Xb.out)
  have Xc := Lib.hid (Box.pcall hb Xc.out)
  have HB := Lib.hid (below_call HB.out hb)
  clear hb
  obtain ⟨ca0, ca1, fa0, fa1⟩ := Xa.out.c2
  obtain ⟨cb0, cb1, fb0, fb1⟩ := Xb.out.c2
  obtain ⟨cc0, cc1, fc0, fc1⟩ := Xc.out.c2
  go_wp2_with fail
  clear ca0 ca1 fa0 fa1 cb0 cb1 fb0 fb1 cc0 cc1 fc0 fc1
  (first | (have hcall := icmp_ai (-1) Ha.out Hb.out (sgn_lt (by have := Hx.out; have := Hy.out; omega)) (by decide) (by decide); refine Calls.mono hcall ?_; clear hcall) | refine Calls.mono (icmp_ai (-1) Ha.out Hb.out (sgn_lt (by have := Hx.out; have := Hy.out; omega)) (by decide) (by decide)) ?_)
  rintro e w3 ⟨v3, rfl, rfl, hb⟩
  have Ha := Lib.hid (AI.keep Ha.out (Keep.call hb))
  have Hb := Lib.hid (AI.keep Hb.out (Keep.call hb))
  have Hc := Lib.hid (AI.keep Hc.out (Keep.call hb))
  have Xa := Lib.hid (Box.pcall hb Xa.out)
  have Xb := Lib.hid (Box.pcall hb Xb.out)
  have Xc := Lib.hid (Box.pcall hb Xc.out)
  have HB := Lib.hid (below_call HB.out hb)
  clear hb
  obtain ⟨ca0, ca1, fa0, fa1⟩ := Xa.out.c2
  obtain ⟨cb0, cb1, fb0, fb1⟩ := Xb.out.c2
  obtain ⟨cc0, cc1, fc0, fc1⟩ := Xc.out.c2
  go_wp2_with fail
  clear ca0 ca1 fa0 fa1 cb0 cb1 fb0 fb1 cc0 cc1 fc0 fc1
  (first | (have hcall := ricmp_ai (-1) Ha.out Hb.out (sgn_lt (by have := Hx.out; have := Hy.out; omega)) (by decide) (by decide); refine Calls.mono hcall ?_; clear hcall) | refine Calls.mono (ricmp_ai (-1) Ha.out Hb.out (sgn_lt (by have := Hx.out; have := Hy.out; omega)) (by decide) (by decide)) ?_)
  rintro e w4 ⟨v4, rfl, rfl, hb⟩
  have Ha := Lib.hid (AI.keep Ha.out (Keep.call hb))
  have Hb := Lib.hid (AI.keep Hb.out (Keep.call hb))
  have Hc := Lib.hid (AI.keep Hc.out (Keep.call hb))
  have Xa := Lib.hid (Box.pcall hb Xa.out)
  have Xb := Lib.hid (Box.pcall hb Xb.out)
  have Xc := Lib.hid (Box.pcall hb Xc.out)
  have HB := Lib.hid (below_call HB.out hb)
  clear hb
  obtain ⟨ca0, ca1, fa0, fa1⟩ := Xa.out.c2
  obtain ⟨cb0, cb1, fb0, fb1⟩ := Xb.out.c2
  obtain ⟨cc0, cc1, fc0, fc1⟩ := Xc.out.c2
  go_wp2_with fail
  clear ca0 ca1 fa0 fa1 cb0 cb1 fb0 fb1 cc0 cc1 fc0 fc1
  (first | (have hcall := icmp_ai 1 Hb.out Ha.out (sgn_gt (by have := Hx.out; have := Hy.out; omega)) (by decide) (by decide); refine Calls.mono hcall ?_; clear hcall) | refine Calls.mono (icmp_ai 1 Hb.out Ha.out (sgn_gt (by have := Hx.out; have := Hy.out; omega)) (by decide) (by decide)) ?_)
  rintro e w5 ⟨v5, rfl, rfl, hb⟩
  have Ha := Lib.hid (AI.keep Ha.out (Keep.call hb))
  have Hb := Lib.hid (AI.keep Hb.out (Keep.call hb))
  have Hc := Lib.hid (AI.keep Hc.out (Keep.call hb))
  have Xa := Lib.hid (Box.pcall hb Xa.out)
  have Xb := Lib.hid (Box.pcall hb Xb.out)
  have Xc := Lib.hid (Box.pcall hb Xc.out)
  have HB := Lib.hid (below_call HB.out hb)
  clear hb
  obtain ⟨ca0, ca1, fa0, fa1⟩ := Xa.out.c2
  obtain ⟨cb0, cb1, fb0, fb1⟩ := Xb.out.c2
  obtain ⟨cc0, cc1, fc0, fc1⟩ := Xc.out.c2
  go_wp2_with fail
  clear ca0 ca1 fa0 fa1 cb0 cb1 fb0 fb1 cc0 cc1 fc0 fc1
  (first | (have hcall := icmp_ai 1 Hb.out Hc.out (sgn_gt (by have := Hx.out; have := Hy.out; omega)) (by decide) (by decide); refine Calls.mono hcall ?_; clear hcall) | refine Calls.mono (icmp_ai 1 Hb.out Hc.out (sgn_gt (by have := Hx.out; have := Hy.out; omega)) (by decide) (by decide)) ?_)
  rintro e w6 ⟨v6, rfl, rfl, hb⟩
  have Ha := Lib.hid (AI.keep Ha.out (Keep.call hb))
  have Hb := Lib.hid (AI.keep Hb.out (Keep.call hb))
  have Hc := Lib.hid (AI.keep Hc.out (Keep.call hb))
  have Xa := Lib.hid (Box.pcall hb Xa.out)
  have Xb := Lib.hid (Box.pcall hb Xb.out)
  have Xc := Lib.hid (Box.pcall hb Xc.out)
  have HB := Lib.hid (below_call HB.out hb)
  clear hb
  obtain ⟨ca0, ca1, fa0, fa1⟩ := Xa.out.c2
  obtain ⟨cb0, cb1, fb0, fb1⟩ := Xb.out.c2
  obtain ⟨cc0, cc1, fc0, fc1⟩ := Xc.out.c2
  go_wp2_with fail
  have hwk : IntKind.i64.wrap (-k) = -k := IntWalk.i64_in _ (by omega)
  clear ca0 ca1 fa0 fa1 cb0 cb1 fb0 fb1 cc0 cc1 fc0 fc1
  have Ha := Lib.hid (AI.keep Ha.out (Keep.drew w6))
  have Hb := Lib.hid (AI.keep Hb.out (Keep.drew w6))
  have Hc := Lib.hid (AI.keep Hc.out (Keep.drew w6))
  have Xa := Lib.hid (Box.drew Xa.out)
  have Xb := Lib.hid (Box.drew Xb.out)
  have Xc := Lib.hid (Box.drew Xc.out)
  have HB := Lib.hid (Below.drew HB.out)
  have tok0 : True := trivial
  go_region_held3 (fun w' => w'.cell? ⟨w.heap.size, 0, none⟩ = some (.bool ba) ∧ w'.cell? ⟨w.heap.size, 1, none⟩ = some (.slice aa na ca) ∧ w'.cell? ⟨w.heap.size + 1, 0, none⟩ = some (.bool bb) ∧ w'.cell? ⟨w.heap.size + 1, 1, none⟩ = some (.slice ab nb cb) ∧ w'.cell? ⟨w.heap.size + 1 + 1, 0, none⟩ = some (.bool bc) ∧ w'.cell? ⟨w.heap.size + 1 + 1, 1, none⟩ = some (.slice ac nc cc))
    (first | exact ⟨Xa.out.cell 0 rfl, Xa.out.cell 1 rfl, Xb.out.cell 0 rfl, Xb.out.cell 1 rfl, Xc.out.cell 0 rfl, Xc.out.cell 1 rfl⟩ | go_keep)
    (first | (have _t := tok0; go_at_call 30; (first | (have hcall := iadd_ai Ha.out Hc.out (by decide) (by decide); refine Calls.mono hcall ?_; clear hcall) | refine Calls.mono (iadd_ai Ha.out Hc.out (by decide) (by decide)) ?_); rintro e w7 ⟨v7, rfl, hp, hb⟩; have Ha := Lib.hid (AI.keep Ha.out (Keep.call hb)); have Hb := Lib.hid (AI.keep Hb.out (Keep.call hb)); have Hc := Lib.hid (AI.keep Hc.out (Keep.call hb)); have Xa := Lib.hid (Box.pcall hb Xa.out); have Xb := Lib.hid (Box.pcall hb Xb.out); have Xc := Lib.hid (Box.pcall hb Xc.out); have HB := Lib.hid (below_call HB.out hb); have Hp := Lib.hid hp; clear hb hp tok0 _t; have tok1 : True := trivial)
           | (have _t := tok1; go_at_call 30; (first | (have hcall := iadd_ai Hb.out Hc.out (by decide) (by decide); refine Calls.mono hcall ?_; clear hcall) | refine Calls.mono (iadd_ai Hb.out Hc.out (by decide) (by decide)) ?_); rintro e w8 ⟨v8, rfl, hq, hb⟩; have Ha := Lib.hid (AI.keep Ha.out (Keep.call hb)); have Hb := Lib.hid (AI.keep Hb.out (Keep.call hb)); have Hc := Lib.hid (AI.keep Hc.out (Keep.call hb)); have Hp := Lib.hid (CL.keep Hp.out (Keep.call hb)); have Xa := Lib.hid (Box.pcall hb Xa.out); have Xb := Lib.hid (Box.pcall hb Xb.out); have Xc := Lib.hid (Box.pcall hb Xc.out); have HB := Lib.hid (below_call HB.out hb); have Hq := Lib.hid hq; clear hb hq tok1 _t; have tok2 : True := trivial)
           | (have _t := tok2; go_at_call 34; (first | (have hcall := icmp_ai (-1) Hp.out.ai Hq.out.ai (sgn_lt (by have := Hx.out; have := Hy.out; omega)) (by decide) (by decide); refine Calls.mono hcall ?_; clear hcall) | refine Calls.mono (icmp_ai (-1) Hp.out.ai Hq.out.ai (sgn_lt (by have := Hx.out; have := Hy.out; omega)) (by decide) (by decide)) ?_); rintro e w9 ⟨v9, rfl, rfl, hb⟩; have Ha := Lib.hid (AI.keep Ha.out (Keep.call hb)); have Hb := Lib.hid (AI.keep Hb.out (Keep.call hb)); have Hc := Lib.hid (AI.keep Hc.out (Keep.call hb)); have Xa := Lib.hid (Box.pcall hb Xa.out); have Xb := Lib.hid (Box.pcall hb Xb.out); have Xc := Lib.hid (Box.pcall hb Xc.out); have HB := Lib.hid (below_call HB.out hb); clear hb tok2 _t; have tok3 : True := trivial)
           | (have _t := tok3; go_at_call 33; (first | (have hcall := imul_ai Ha.out Hc.out (by decide) (by decide); refine Calls.mono hcall ?_; clear hcall) | refine Calls.mono (imul_ai Ha.out Hc.out (by decide) (by decide)) ?_); rintro e w10 ⟨v10, rfl, hr, hb⟩; have Hb := Lib.hid (AI.keep Hb.out (Keep.call hb)); have Hc := Lib.hid (AI.keep Hc.out (Keep.call hb)); have Xa := Lib.hid (Box.pcall hb Xa.out); have Xb := Lib.hid (Box.pcall hb Xb.out); have Xc := Lib.hid (Box.pcall hb Xc.out); have HB := Lib.hid (below_call HB.out hb); have Hr := Lib.hid hr; clear hb hr tok3 _t; have tok4 : True := trivial)
           | (have _t := tok4; go_at_call 33; (first | (have hcall := imul_ai Hb.out Hc.out (by decide) (by decide); refine Calls.mono hcall ?_; clear hcall) | refine Calls.mono (imul_ai Hb.out Hc.out (by decide) (by decide)) ?_); rintro e w11 ⟨v11, rfl, ht, hb⟩; have Hc := Lib.hid (AI.keep Hc.out (Keep.call hb)); have Hr := Lib.hid (CL.keep Hr.out (Keep.call hb)); have Xa := Lib.hid (Box.pcall hb Xa.out); have Xb := Lib.hid (Box.pcall hb Xb.out); have Xc := Lib.hid (Box.pcall hb Xc.out); have HB := Lib.hid (below_call HB.out hb); have Ht := Lib.hid ht; clear hb ht tok4 _t; have tok5 : True := trivial)
           | (have _t := tok5; go_at_call 34; (first | (have hcall := icmp_ai (-k) Hr.out.ai Ht.out.ai (mul_sgn_m Hx.out Hk.out) (by decide) (by decide); refine Calls.mono hcall ?_; clear hcall) | refine Calls.mono (icmp_ai (-k) Hr.out.ai Ht.out.ai (mul_sgn_m Hx.out Hk.out) (by decide) (by decide)) ?_); rintro e w12 ⟨v12, rfl, rfl, hb⟩; have Hc := Lib.hid (AI.keep Hc.out (Keep.call hb)); have Xa := Lib.hid (Box.pcall hb Xa.out); have Xb := Lib.hid (Box.pcall hb Xb.out); have Xc := Lib.hid (Box.pcall hb Xc.out); have HB := Lib.hid (below_call HB.out hb); clear hb tok5 _t; have tok6 : True := trivial)
           | (have _t := tok6; go_at_call 19; (first | (have hcall := isign_ai k Hc.out Hk.out (by decide); refine Calls.mono hcall ?_; clear hcall) | refine Calls.mono (isign_ai k Hc.out Hk.out (by decide)) ?_); rintro e w13 ⟨v13, rfl, rfl, hb⟩; have Xa := Lib.hid (Box.pcall hb Xa.out); have Xb := Lib.hid (Box.pcall hb Xb.out); have Xc := Lib.hid (Box.pcall hb Xc.out); have HB := Lib.hid (below_call HB.out hb); clear hb tok6 _t))
  go_wp2
  all_goals (go_ret; exact ⟨_, rfl, rfl, HB.out⟩)


end Go.Proofs.Ytiknpbgbmbifdaa
