/- The laws of relucertlaw02: Make, Divide. Printed by lawi.py. -/
import Derived.Test.YtiknpbgbmbifdaaIntH
namespace Go.Proofs.Ytiknpbgbmbifdaa
open Go.RowKit Nt
set_option linter.unusedVariables false

set_option maxRecDepth 100000 in
set_option maxHeartbeats 4000000 in
theorem IntegerMake_far (ba : Bool) (aa : Option Addr) (na ca : Nat) (w : World) (la : 30 < na) :
    Calls Try.prog 5 #[.agg #[.bool ba, .slice aa na ca]] w (Ret w (Val (.bool true))) := by
  have hda : decide ((30 : Int) < na) = true := by simpa using (show (30 : Int) < na by omega)
  go_enter Try.func5, Try.ntmps5
  go_wp2_with fail
  obtain ⟨W, hW⟩ : ∃ W, W = (w.alloc (.cells #[.bool ba, .slice aa na ca] 25)) := ⟨_, rfl⟩
  rw [← hW]
  obtain ⟨xa, hk, hb⟩ := boxes_1 _ _ _ hW
  clear hW
  have Xa := Lib.hid xa
  have HB := Lib.hid hb
  clear hk hb xa
  refine Calls.mono (iawake_any _) ?_
  rintro e w1 ⟨v1, rfl, rfl, hb⟩
  have Xa := Lib.hid (Box.pcall hb Xa.out)
  have HB := Lib.hid (below_call HB.out hb)
  clear hb
  obtain ⟨ca0, ca1, fa0, fa1⟩ := Xa.out.c2
  go_wp2_with fail
  go_wp2
  all_goals (go_ret; exact ⟨_, rfl, rfl, HB.out⟩)


set_option maxRecDepth 100000 in
set_option maxHeartbeats 4000000 in
theorem IntegerMake_near (ba : Bool) (aa : Option Addr) (na ca : Nat) (w : World) (Xa : Int) (ha : AI Xa 30 w (.agg #[.bool ba, .slice aa na ca])) (la : na ≤ 30) (k : Int) (B : Bool) (hk : Xa.sign = k) (xs : List Nat) (hs : Sl w (.slice aa na ca) xs) (hv : ivB ba xs = B) :
    Calls Try.prog 5 #[.agg #[.bool ba, .slice aa na ca]] w (Ret w (Val (.bool true))) := by
  have hda : decide ((30 : Int) < na) = false := by simpa using (show (na : Int) ≤ 30 by omega)
  have Ha := Lib.hid ha
  have Hs := Lib.hid hs
  have Hk := Lib.hid hk
  have Hv := Lib.hid hv
  clear ha hs hk hv
  go_enter Try.func5, Try.ntmps5
  go_wp2_with fail
  obtain ⟨W, hW⟩ : ∃ W, W = (w.alloc (.cells #[.bool ba, .slice aa na ca] 25)) := ⟨_, rfl⟩
  rw [← hW]
  obtain ⟨xa, hk, hb⟩ := boxes_1 _ _ _ hW
  clear hW
  have Ha := Lib.hid (AI.keep Ha.out hk)
  have Hs := Lib.hid (Sl.keep Hs.out hk)
  have Xa := Lib.hid xa
  have HB := Lib.hid hb
  clear hk hb xa
  refine Calls.mono (iawake_any _) ?_
  rintro e w1 ⟨v1, rfl, rfl, hb⟩
  have Ha := Lib.hid (AI.keep Ha.out (Keep.call hb))
  have Hs := Lib.hid (Sl.keep Hs.out (Keep.call hb))
  have Xa := Lib.hid (Box.pcall hb Xa.out)
  have HB := Lib.hid (below_call HB.out hb)
  clear hb
  obtain ⟨ca0, ca1, fa0, fa1⟩ := Xa.out.c2
  go_wp2_with fail
  clear ca0 ca1 fa0 fa1
  (first | (have hcall := imake_of Ha.out; refine Calls.mono hcall ?_; clear hcall) | refine Calls.mono (imake_of Ha.out) ?_)
  rintro e w2 ⟨v2, rfl, hm, hb⟩
  obtain ⟨bm, adm, nm, capm, rfl⟩ := hm.litb
  have Ha := Lib.hid (AI.keep Ha.out (Keep.call hb))
  have Hs := Lib.hid (Sl.keep Hs.out (Keep.call hb))
  have Xa := Lib.hid (Box.pcall hb Xa.out)
  have HB := Lib.hid (below_call HB.out hb)
  have Hm := Lib.hid hm
  clear hb hm
  obtain ⟨ca0, ca1, fa0, fa1⟩ := Xa.out.c2
  go_wp2_with fail
  clear ca0 ca1 fa0 fa1
  obtain ⟨W3, hW⟩ : ∃ W3, W3 = (World.alloc w2 (.cells #[.bool bm, .slice adm nm capm] 25)) := ⟨_, rfl⟩
  rw [← hW]
  obtain ⟨xm, hk, hb⟩ := boxes_1 _ _ _ hW
  clear hW
  have Ha := Lib.hid (AI.keep Ha.out hk)
  have Hs := Lib.hid (Sl.keep Hs.out hk)
  have Hm := Lib.hid (CL.keep Hm.out hk)
  have Nam := Lib.hid (show w.heap.size ≠ w2.heap.size from Nat.ne_of_lt (Nat.lt_of_lt_of_le Xa.out.lt (by omega)))
  have Gm := Lib.hid (show w.heap.size ≤ w2.heap.size from Nat.le_trans HB.out.size (by omega))
  have Xa := Lib.hid (Box.pcall hb Xa.out)
  have Xm := Lib.hid xm
  have HB := Lib.hid (below_call HB.out hb)
  clear hk hb xm
  have Ha := Lib.hid (AI.keep Ha.out (Keep.drew W3))
  have Hs := Lib.hid (Sl.keep Hs.out (Keep.drew W3))
  have Hm := Lib.hid (CL.keep Hm.out (Keep.drew W3))
  have Xa := Lib.hid (Box.drew Xa.out)
  have Xm := Lib.hid (Box.drew Xm.out)
  have HB := Lib.hid (Below.drew HB.out)
  have tok0 : True := trivial
  go_region_held3 (fun w' => w'.cell? ⟨w2.heap.size, 0, none⟩ = some (.bool bm) ∧ w'.cell? ⟨w2.heap.size, 1, none⟩ = some (.slice adm nm capm) ∧ w'.cell? ⟨w.heap.size, 0, none⟩ = some (.bool ba) ∧ w'.cell? ⟨w.heap.size, 1, none⟩ = some (.slice aa na ca))
    (first | exact ⟨Xm.out.cell 0 rfl, Xm.out.cell 1 rfl, Xa.out.cell 0 rfl, Xa.out.cell 1 rfl⟩ | go_keep)
    (first | (have _t := tok0; go_at_call 18; (first | (have hcall := rimake_of Ha.out; refine Calls.mono hcall ?_; clear hcall) | refine Calls.mono (rimake_of Ha.out) ?_); rintro e w4 ⟨v4, rfl, hx, hb⟩; have Ha := Lib.hid (AI.keep Ha.out (Keep.call hb)); have Hs := Lib.hid (Sl.keep Hs.out (Keep.call hb)); have Hm := Lib.hid (CL.keep Hm.out (Keep.call hb)); have Xa := Lib.hid (Box.pcall hb Xa.out); have Xm := Lib.hid (Box.pcall hb Xm.out); have HB := Lib.hid (below_call HB.out hb); have Hx := Lib.hid hx; clear hb hx tok0 _t; have tok1 : True := trivial)
           | (have _t := tok1; go_at_call 14; (first | (have hcall := isame_cl Hm.out Hx.out rfl; refine Calls.mono hcall ?_; clear hcall) | refine Calls.mono (isame_cl Hm.out Hx.out rfl) ?_); rintro e w5 ⟨v5, rfl, rfl, hb⟩; have Ha := Lib.hid (AI.keep Ha.out (Keep.call hb)); have Hs := Lib.hid (Sl.keep Hs.out (Keep.call hb)); have Hm := Lib.hid (CL.keep Hm.out (Keep.call hb)); have Xa := Lib.hid (Box.pcall hb Xa.out); have Xm := Lib.hid (Box.pcall hb Xm.out); have HB := Lib.hid (below_call HB.out hb); clear hb tok1 _t; have tok2 : True := trivial)
           | (have _t := tok2; go_at_call 21; (first | (have hcall := ivalid_any B Hv.out Hs.out; refine Calls.mono hcall ?_; clear hcall) | refine Calls.mono (ivalid_any B Hv.out Hs.out) ?_); rintro e w6 ⟨v6, rfl, rfl, hb⟩; have Ha := Lib.hid (AI.keep Ha.out (Keep.call hb)); have Hs := Lib.hid (Sl.keep Hs.out (Keep.call hb)); have Hm := Lib.hid (CL.keep Hm.out (Keep.call hb)); have Xa := Lib.hid (Box.pcall hb Xa.out); have Xm := Lib.hid (Box.pcall hb Xm.out); have HB := Lib.hid (below_call HB.out hb); clear hb tok2 _t; have tok3 : True := trivial)
           | (have _t := tok3; go_at_call 22; (first | (have hcall := rivalid_any B Hv.out Hs.out; refine Calls.mono hcall ?_; clear hcall) | refine Calls.mono (rivalid_any B Hv.out Hs.out) ?_); rintro e w7 ⟨v7, rfl, rfl, hb⟩; have Ha := Lib.hid (AI.keep Ha.out (Keep.call hb)); have Hm := Lib.hid (CL.keep Hm.out (Keep.call hb)); have Xa := Lib.hid (Box.pcall hb Xa.out); have Xm := Lib.hid (Box.pcall hb Xm.out); have HB := Lib.hid (below_call HB.out hb); clear hb tok3 _t; have tok4 : True := trivial)
           | (have _t := tok4; go_at_call 21; (first | (have hcall := ivalid_cl Hm.out; refine Calls.mono hcall ?_; clear hcall) | refine Calls.mono (ivalid_cl Hm.out) ?_); rintro e w8 ⟨v8, rfl, rfl, hb⟩; have Ha := Lib.hid (AI.keep Ha.out (Keep.call hb)); have Xa := Lib.hid (Box.pcall hb Xa.out); have Xm := Lib.hid (Box.pcall hb Xm.out); have HB := Lib.hid (below_call HB.out hb); clear hb tok4 _t; have tok5 : True := trivial)
           | (have _t := tok5; go_at_call 19; (first | (have hcall := isign_ai k Ha.out Hk.out (by decide); refine Calls.mono hcall ?_; clear hcall) | refine Calls.mono (isign_ai k Ha.out Hk.out (by decide)) ?_); rintro e w9 ⟨v9, rfl, rfl, hb⟩; have Ha := Lib.hid (AI.keep Ha.out (Keep.call hb)); have Xa := Lib.hid (Box.pcall hb Xa.out); have Xm := Lib.hid (Box.pcall hb Xm.out); have HB := Lib.hid (below_call HB.out hb); clear hb tok5 _t; have tok6 : True := trivial)
           | (have _t := tok6; go_at_call 23; (first | (have hcall := risign_ai k Ha.out Hk.out; refine Calls.mono hcall ?_; clear hcall) | refine Calls.mono (risign_ai k Ha.out Hk.out) ?_); rintro e w10 ⟨v10, rfl, rfl, hb⟩; have Xa := Lib.hid (Box.pcall hb Xa.out); have Xm := Lib.hid (Box.pcall hb Xm.out); have HB := Lib.hid (below_call HB.out hb); clear hb tok6 _t))
  go_wp2
  all_goals (go_ret; exact ⟨_, rfl, rfl, HB.out⟩)


set_option maxRecDepth 100000 in
set_option maxHeartbeats 4000000 in
theorem IntegerDivide_far1 (ba : Bool) (aa : Option Addr) (na ca : Nat) (bb : Bool) (ab : Option Addr) (nb cb : Nat) (w : World) (la : 6 < na) :
    Calls Try.prog 6 #[.agg #[.bool ba, .slice aa na ca], .agg #[.bool bb, .slice ab nb cb]] w (Ret w (Val (.bool true))) := by
  have hda : decide ((6 : Int) < na) = true := by simpa using (show (6 : Int) < na by omega)
  go_enter Try.func6, Try.ntmps6
  go_wp2_with fail
  obtain ⟨W, hW⟩ : ∃ W, W = ((w.alloc (.cells #[.bool ba, .slice aa na ca] 25)).alloc (.cells #[.bool bb, .slice ab nb cb] 25)) := ⟨_, rfl⟩
  rw [← hW]
  obtain ⟨xa, xb, hk, hb⟩ := boxes_2 _ _ _ _ _ hW
  clear hW
  have Xa := Lib.hid xa
  have Xb := Lib.hid xb
  have HB := Lib.hid hb
  clear hk hb xa xb
  refine Calls.mono (iawake_any _) ?_
  rintro e w1 ⟨v1, rfl, rfl, hb⟩
  have Xa := Lib.hid (Box.pcall hb Xa.out)
  have Xb := Lib.hid (Box.pcall hb Xb.out)
  have HB := Lib.hid (below_call HB.out hb)
  clear hb
  obtain ⟨ca0, ca1, fa0, fa1⟩ := Xa.out.c2
  obtain ⟨cb0, cb1, fb0, fb1⟩ := Xb.out.c2
  go_wp2_with fail
  go_wp2
  all_goals (go_ret; exact ⟨_, rfl, rfl, HB.out⟩)


set_option maxRecDepth 100000 in
set_option maxHeartbeats 4000000 in
theorem IntegerDivide_far2 (ba : Bool) (aa : Option Addr) (na ca : Nat) (bb : Bool) (ab : Option Addr) (nb cb : Nat) (w : World) (la : na ≤ 6) (lb : 6 < nb) :
    Calls Try.prog 6 #[.agg #[.bool ba, .slice aa na ca], .agg #[.bool bb, .slice ab nb cb]] w (Ret w (Val (.bool true))) := by
  have hda : decide ((6 : Int) < na) = false := by simpa using (show (na : Int) ≤ 6 by omega)
  have hdb : decide ((6 : Int) < nb) = true := by simpa using (show (6 : Int) < nb by omega)
  go_enter Try.func6, Try.ntmps6
  go_wp2_with fail
  obtain ⟨W, hW⟩ : ∃ W, W = ((w.alloc (.cells #[.bool ba, .slice aa na ca] 25)).alloc (.cells #[.bool bb, .slice ab nb cb] 25)) := ⟨_, rfl⟩
  rw [← hW]
  obtain ⟨xa, xb, hk, hb⟩ := boxes_2 _ _ _ _ _ hW
  clear hW
  have Xa := Lib.hid xa
  have Xb := Lib.hid xb
  have HB := Lib.hid hb
  clear hk hb xa xb
  refine Calls.mono (iawake_any _) ?_
  rintro e w1 ⟨v1, rfl, rfl, hb⟩
  have Xa := Lib.hid (Box.pcall hb Xa.out)
  have Xb := Lib.hid (Box.pcall hb Xb.out)
  have HB := Lib.hid (below_call HB.out hb)
  clear hb
  obtain ⟨ca0, ca1, fa0, fa1⟩ := Xa.out.c2
  obtain ⟨cb0, cb1, fb0, fb1⟩ := Xb.out.c2
  go_wp2_with fail
  go_wp2
  all_goals (go_ret; exact ⟨_, rfl, rfl, HB.out⟩)


set_option maxRecDepth 100000 in
set_option maxHeartbeats 4000000 in
theorem IntegerDivide_zero (ba : Bool) (aa : Option Addr) (na ca : Nat) (bb : Bool) (ab : Option Addr) (nb cb : Nat) (w : World) (Xa : Int) (ha : AI Xa 6 w (.agg #[.bool ba, .slice aa na ca])) (Xb : Int) (hb : AI Xb 6 w (.agg #[.bool bb, .slice ab nb cb])) (la : na ≤ 6) (lb : nb ≤ 6) (hz : Xb = 0) :
    Calls Try.prog 6 #[.agg #[.bool ba, .slice aa na ca], .agg #[.bool bb, .slice ab nb cb]] w (Ret w (Val (.bool true))) := by
  have hda : decide ((6 : Int) < na) = false := by simpa using (show (na : Int) ≤ 6 by omega)
  have hdb : decide ((6 : Int) < nb) = false := by simpa using (show (nb : Int) ≤ 6 by omega)
  have Ha := Lib.hid ha
  have Hb := Lib.hid hb
  have Hz := Lib.hid hz
  clear ha hb hz
  go_enter Try.func6, Try.ntmps6
  go_wp2_with fail
  obtain ⟨W, hW⟩ : ∃ W, W = ((w.alloc (.cells #[.bool ba, .slice aa na ca] 25)).alloc (.cells #[.bool bb, .slice ab nb cb] 25)) := ⟨_, rfl⟩
  rw [← hW]
  obtain ⟨xa, xb, hk, hb⟩ := boxes_2 _ _ _ _ _ hW
  clear hW
  have Ha := Lib.hid (AI.keep Ha.out hk)
  have Hb := Lib.hid (AI.keep Hb.out hk)
  have Xa := Lib.hid xa
  have Xb := Lib.hid xb
  have HB := Lib.hid hb
  clear hk hb xa xb
  refine Calls.mono (iawake_any _) ?_
  rintro e w1 ⟨v1, rfl, rfl, hb⟩
  have Ha := Lib.hid (AI.keep Ha.out (Keep.call hb))
  have Hb := Lib.hid (AI.keep Hb.out (Keep.call hb))
  have Xa := Lib.hid (Box.pcall hb Xa.out)
  have Xb := Lib.hid (Box.pcall hb Xb.out)
  have HB := Lib.hid (below_call HB.out hb)
  clear hb
  obtain ⟨ca0, ca1, fa0, fa1⟩ := Xa.out.c2
  have la := Xa.out.lt
  obtain ⟨cb0, cb1, fb0, fb1⟩ := Xb.out.c2
  have lb := Xb.out.lt
  go_wp2_with fail
  clear ca0 ca1 fa0 fa1 la cb0 cb1 fb0 fb1 lb
  (first | (have hcall := idivmod_zero Hz.out Ha.out Hb.out (by decide); refine Calls.mono hcall ?_; clear hcall) | refine Calls.mono (idivmod_zero Hz.out Ha.out Hb.out (by decide)) ?_)
  rintro e w2 ⟨v2, rfl, rfl, hb⟩
  have Hb := Lib.hid (AI.keep Hb.out (Keep.call hb))
  have Xa := Lib.hid (Box.pcall hb Xa.out)
  have Xb := Lib.hid (Box.pcall hb Xb.out)
  have HB := Lib.hid (below_call HB.out hb)
  clear hb
  obtain ⟨ca0, ca1, fa0, fa1⟩ := Xa.out.c2
  have la := Xa.out.lt
  obtain ⟨cb0, cb1, fb0, fb1⟩ := Xb.out.c2
  have lb := Xb.out.lt
  go_wp2_with fail
  clear ca0 ca1 fa0 fa1 la cb0 cb1 fb0 fb1 lb
  obtain ⟨W3, hW⟩ : ∃ W3, W3 = (World.alloc (World.alloc w2 (.cells #[.bool false, .slice none 0 0] 25)) (.cells #[.bool false, .slice none 0 0] 25)) := ⟨_, rfl⟩
  rw [← hW]
  obtain ⟨xq, xr, hk, hb⟩ := boxes_2 _ _ _ _ _ hW
  clear hW
  have Hb := Lib.hid (AI.keep Hb.out hk)
  have Naq := Lib.hid (show w.heap.size ≠ w2.heap.size from Nat.ne_of_lt (Nat.lt_of_lt_of_le Xa.out.lt (by omega)))
  have Nbq := Lib.hid (show w.heap.size + 1 ≠ w2.heap.size from Nat.ne_of_lt (Nat.lt_of_lt_of_le Xb.out.lt (by omega)))
  have Gq := Lib.hid (show w.heap.size ≤ w2.heap.size from Nat.le_trans HB.out.size (by omega))
  have Nar := Lib.hid (show w.heap.size ≠ w2.heap.size + 1 from Nat.ne_of_lt (Nat.lt_of_lt_of_le Xa.out.lt (by omega)))
  have Nbr := Lib.hid (show w.heap.size + 1 ≠ w2.heap.size + 1 from Nat.ne_of_lt (Nat.lt_of_lt_of_le Xb.out.lt (by omega)))
  have Gr := Lib.hid (show w.heap.size ≤ w2.heap.size + 1 from Nat.le_trans HB.out.size (by omega))
  have Xa := Lib.hid (Box.pcall hb Xa.out)
  have Xb := Lib.hid (Box.pcall hb Xb.out)
  have Xq := Lib.hid xq
  have Xr := Lib.hid xr
  have HB := Lib.hid (below_call HB.out hb)
  clear hk hb xq xr
  (first | (have hcall := risign_ai 0 Hb.out (by rw [Hz.out]; rfl); refine Calls.mono hcall ?_; clear hcall) | refine Calls.mono (risign_ai 0 Hb.out (by rw [Hz.out]; rfl)) ?_)
  rintro e w4 ⟨v4, rfl, rfl, hb⟩
  have Xa := Lib.hid (Box.pcall hb Xa.out)
  have Xb := Lib.hid (Box.pcall hb Xb.out)
  have Xq := Lib.hid (Box.pcall hb Xq.out)
  have Xr := Lib.hid (Box.pcall hb Xr.out)
  have HB := Lib.hid (below_call HB.out hb)
  clear hb
  obtain ⟨ca0, ca1, fa0, fa1⟩ := Xa.out.c2
  have la := Xa.out.lt
  obtain ⟨cb0, cb1, fb0, fb1⟩ := Xb.out.c2
  have lb := Xb.out.lt
  obtain ⟨cq0, cq1, fq0, fq1⟩ := Xq.out.c2
  have lq := Xq.out.lt
  obtain ⟨cr0, cr1, fr0, fr1⟩ := Xr.out.c2
  have lr := Xr.out.lt
  go_wp2_with fail
  clear ca0 ca1 fa0 fa1 la cb0 cb1 fb0 fb1 lb cq0 cq1 fq0 fq1 lq cr0 cr1 fr0 fr1 lr
  refine Calls.mono (isame_zero _) ?_
  rintro e w5 ⟨v5, rfl, rfl, hb⟩
  have Xa := Lib.hid (Box.pcall hb Xa.out)
  have Xb := Lib.hid (Box.pcall hb Xb.out)
  have Xq := Lib.hid (Box.pcall hb Xq.out)
  have Xr := Lib.hid (Box.pcall hb Xr.out)
  have HB := Lib.hid (below_call HB.out hb)
  clear hb
  obtain ⟨ca0, ca1, fa0, fa1⟩ := Xa.out.c2
  have la := Xa.out.lt
  obtain ⟨cb0, cb1, fb0, fb1⟩ := Xb.out.c2
  have lb := Xb.out.lt
  obtain ⟨cq0, cq1, fq0, fq1⟩ := Xq.out.c2
  have lq := Xq.out.lt
  obtain ⟨cr0, cr1, fr0, fr1⟩ := Xr.out.c2
  have lr := Xr.out.lt
  go_wp2_with fail
  clear ca0 ca1 fa0 fa1 la cb0 cb1 fb0 fb1 lb cq0 cq1 fq0 fq1 lq cr0 cr1 fr0 fr1 lr
  refine Calls.mono (isame_zero _) ?_
  rintro e w6 ⟨v6, rfl, rfl, hb⟩
  have Xa := Lib.hid (Box.pcall hb Xa.out)
  have Xb := Lib.hid (Box.pcall hb Xb.out)
  have Xq := Lib.hid (Box.pcall hb Xq.out)
  have Xr := Lib.hid (Box.pcall hb Xr.out)
  have HB := Lib.hid (below_call HB.out hb)
  clear hb
  obtain ⟨ca0, ca1, fa0, fa1⟩ := Xa.out.c2
  have la := Xa.out.lt
  obtain ⟨cb0, cb1, fb0, fb1⟩ := Xb.out.c2
  have lb := Xb.out.lt
  obtain ⟨cq0, cq1, fq0, fq1⟩ := Xq.out.c2
  have lq := Xq.out.lt
  obtain ⟨cr0, cr1, fr0, fr1⟩ := Xr.out.c2
  have lr := Xr.out.lt
  go_wp2_with fail
  go_wp2
  all_goals (go_ret; exact ⟨_, rfl, rfl, HB.out⟩)


set_option maxRecDepth 100000 in
set_option maxHeartbeats 4000000 in
theorem IntegerDivide_pos (ba : Bool) (aa : Option Addr) (na ca : Nat) (bb : Bool) (ab : Option Addr) (nb cb : Nat) (w : World) (Xa : Int) (ha : AI Xa 6 w (.agg #[.bool ba, .slice aa na ca])) (Xb : Int) (hb : AI Xb 6 w (.agg #[.bool bb, .slice ab nb cb])) (la : na ≤ 6) (lb : nb ≤ 6) (hz : Xb ≠ 0) (k k2 : Int) (hk : (Xa % Xb).sign = k) (hk2 : Xb.sign = k2) (d1 : decide (0 ≤ k) = true) (d2 : (k2 == 0) = false) :
    Calls Try.prog 6 #[.agg #[.bool ba, .slice aa na ca], .agg #[.bool bb, .slice ab nb cb]] w (Ret w (Val (.bool true))) := by
  have hda : decide ((6 : Int) < na) = false := by simpa using (show (na : Int) ≤ 6 by omega)
  have hdb : decide ((6 : Int) < nb) = false := by simpa using (show (nb : Int) ≤ 6 by omega)
  have Ha := Lib.hid ha
  have Hb := Lib.hid hb
  have Hz := Lib.hid hz
  have Hk := Lib.hid hk
  have Hk2 := Lib.hid hk2
  clear ha hb hz hk hk2
  go_enter Try.func6, Try.ntmps6
  go_wp2_with fail
  obtain ⟨W, hW⟩ : ∃ W, W = ((w.alloc (.cells #[.bool ba, .slice aa na ca] 25)).alloc (.cells #[.bool bb, .slice ab nb cb] 25)) := ⟨_, rfl⟩
  rw [← hW]
  obtain ⟨xa, xb, hk, hb⟩ := boxes_2 _ _ _ _ _ hW
  clear hW
  have Ha := Lib.hid (AI.keep Ha.out hk)
  have Hb := Lib.hid (AI.keep Hb.out hk)
  have Xa := Lib.hid xa
  have Xb := Lib.hid xb
  have HB := Lib.hid hb
  clear hk hb xa xb
  refine Calls.mono (iawake_any _) ?_
  rintro e w1 ⟨v1, rfl, rfl, hb⟩
  have Ha := Lib.hid (AI.keep Ha.out (Keep.call hb))
  have Hb := Lib.hid (AI.keep Hb.out (Keep.call hb))
  have Xa := Lib.hid (Box.pcall hb Xa.out)
  have Xb := Lib.hid (Box.pcall hb Xb.out)
  have HB := Lib.hid (below_call HB.out hb)
  clear hb
  obtain ⟨ca0, ca1, fa0, fa1⟩ := Xa.out.c2
  have la := Xa.out.lt
  obtain ⟨cb0, cb1, fb0, fb1⟩ := Xb.out.c2
  have lb := Xb.out.lt
  go_wp2_with fail
  clear ca0 ca1 fa0 fa1 la cb0 cb1 fb0 fb1 lb
  (first | (have hcall := idivmod_ai Hz.out Ha.out Hb.out (by decide) (by decide); refine Calls.mono hcall ?_; clear hcall) | refine Calls.mono (idivmod_ai Hz.out Ha.out Hb.out (by decide) (by decide)) ?_)
  rintro e w2 ⟨t2, rfl, ⟨v2, u2, rfl, hq, hr⟩, hb⟩
  obtain ⟨bq, adq, nq, capq, rfl⟩ := hq.litb
  obtain ⟨br, adr, nr, capr, rfl⟩ := hr.litb
  have Ha := Lib.hid (AI.keep Ha.out (Keep.call hb))
  have Hb := Lib.hid (AI.keep Hb.out (Keep.call hb))
  have Xa := Lib.hid (Box.pcall hb Xa.out)
  have Xb := Lib.hid (Box.pcall hb Xb.out)
  have HB := Lib.hid (below_call HB.out hb)
  have Hq := Lib.hid hq
  have Hr := Lib.hid hr
  clear hb hq hr
  obtain ⟨ca0, ca1, fa0, fa1⟩ := Xa.out.c2
  have la := Xa.out.lt
  obtain ⟨cb0, cb1, fb0, fb1⟩ := Xb.out.c2
  have lb := Xb.out.lt
  go_wp2_with fail
  clear ca0 ca1 fa0 fa1 la cb0 cb1 fb0 fb1 lb
  obtain ⟨W3, hW⟩ : ∃ W3, W3 = (World.alloc (World.alloc w2 (.cells #[.bool bq, .slice adq nq capq] 25)) (.cells #[.bool br, .slice adr nr capr] 25)) := ⟨_, rfl⟩
  rw [← hW]
  obtain ⟨xq, xr, hk, hb⟩ := boxes_2 _ _ _ _ _ hW
  clear hW
  have Ha := Lib.hid (AI.keep Ha.out hk)
  have Hb := Lib.hid (AI.keep Hb.out hk)
  have Hq := Lib.hid (CL.keep Hq.out hk)
  have Hr := Lib.hid (CL.keep Hr.out hk)
  have Naq := Lib.hid (show w.heap.size ≠ w2.heap.size from Nat.ne_of_lt (Nat.lt_of_lt_of_le Xa.out.lt (by omega)))
  have Nbq := Lib.hid (show w.heap.size + 1 ≠ w2.heap.size from Nat.ne_of_lt (Nat.lt_of_lt_of_le Xb.out.lt (by omega)))
  have Gq := Lib.hid (show w.heap.size ≤ w2.heap.size from Nat.le_trans HB.out.size (by omega))
  have Nar := Lib.hid (show w.heap.size ≠ w2.heap.size + 1 from Nat.ne_of_lt (Nat.lt_of_lt_of_le Xa.out.lt (by omega)))
  have Nbr := Lib.hid (show w.heap.size + 1 ≠ w2.heap.size + 1 from Nat.ne_of_lt (Nat.lt_of_lt_of_le Xb.out.lt (by omega)))
  have Gr := Lib.hid (show w.heap.size ≤ w2.heap.size + 1 from Nat.le_trans HB.out.size (by omega))
  have Xa := Lib.hid (Box.pcall hb Xa.out)
  have Xb := Lib.hid (Box.pcall hb Xb.out)
  have Xq := Lib.hid xq
  have Xr := Lib.hid xr
  have HB := Lib.hid (below_call HB.out hb)
  clear hk hb xq xr
  (first | (have hcall := risign_ai k2 Hb.out Hk2.out; refine Calls.mono hcall ?_; clear hcall) | refine Calls.mono (risign_ai k2 Hb.out Hk2.out) ?_)
  rintro e w4 ⟨v4, rfl, rfl, hb⟩
  have Ha := Lib.hid (AI.keep Ha.out (Keep.call hb))
  have Hb := Lib.hid (AI.keep Hb.out (Keep.call hb))
  have Hq := Lib.hid (CL.keep Hq.out (Keep.call hb))
  have Hr := Lib.hid (CL.keep Hr.out (Keep.call hb))
  have Xa := Lib.hid (Box.pcall hb Xa.out)
  have Xb := Lib.hid (Box.pcall hb Xb.out)
  have Xq := Lib.hid (Box.pcall hb Xq.out)
  have Xr := Lib.hid (Box.pcall hb Xr.out)
  have HB := Lib.hid (below_call HB.out hb)
  clear hb
  obtain ⟨ca0, ca1, fa0, fa1⟩ := Xa.out.c2
  have la := Xa.out.lt
  obtain ⟨cb0, cb1, fb0, fb1⟩ := Xb.out.c2
  have lb := Xb.out.lt
  obtain ⟨cq0, cq1, fq0, fq1⟩ := Xq.out.c2
  have lq := Xq.out.lt
  obtain ⟨cr0, cr1, fr0, fr1⟩ := Xr.out.c2
  have lr := Xr.out.lt
  go_wp2_with fail
  clear ca0 ca1 fa0 fa1 la cb0 cb1 fb0 fb1 lb cq0 cq1 fq0 fq1 lq cr0 cr1 fr0 fr1 lr
  have Ha := Lib.hid (AI.keep Ha.out (Keep.drew w4))
  have Hb := Lib.hid (AI.keep Hb.out (Keep.drew w4))
  have Hq := Lib.hid (CL.keep Hq.out (Keep.drew w4))
  have Hr := Lib.hid (CL.keep Hr.out (Keep.drew w4))
  have Xa := Lib.hid (Box.drew Xa.out)
  have Xb := Lib.hid (Box.drew Xb.out)
  have Xq := Lib.hid (Box.drew Xq.out)
  have Xr := Lib.hid (Box.drew Xr.out)
  have HB := Lib.hid (Below.drew HB.out)
  have tok0 : True := trivial
  go_region_held3 (fun w' => w'.cell? ⟨w2.heap.size, 0, none⟩ = some (.bool bq) ∧ w'.cell? ⟨w2.heap.size, 1, none⟩ = some (.slice adq nq capq) ∧ w'.cell? ⟨w2.heap.size + 1, 0, none⟩ = some (.bool br) ∧ w'.cell? ⟨w2.heap.size + 1, 1, none⟩ = some (.slice adr nr capr) ∧ w'.cell? ⟨w.heap.size, 0, none⟩ = some (.bool ba) ∧ w'.cell? ⟨w.heap.size, 1, none⟩ = some (.slice aa na ca) ∧ w'.cell? ⟨w.heap.size + 1, 0, none⟩ = some (.bool bb) ∧ w'.cell? ⟨w.heap.size + 1, 1, none⟩ = some (.slice ab nb cb))
    (first | exact ⟨Xq.out.cell 0 rfl, Xq.out.cell 1 rfl, Xr.out.cell 0 rfl, Xr.out.cell 1 rfl, Xa.out.cell 0 rfl, Xa.out.cell 1 rfl, Xb.out.cell 0 rfl, Xb.out.cell 1 rfl⟩ | go_keep)
    (first | (have _t := tok0; go_at_call 21; (first | (have hcall := ivalid_cl Hq.out; refine Calls.mono hcall ?_; clear hcall) | refine Calls.mono (ivalid_cl Hq.out) ?_); rintro e w5 ⟨v5, rfl, rfl, hb⟩; have Ha := Lib.hid (AI.keep Ha.out (Keep.call hb)); have Hb := Lib.hid (AI.keep Hb.out (Keep.call hb)); have Hq := Lib.hid (CL.keep Hq.out (Keep.call hb)); have Hr := Lib.hid (CL.keep Hr.out (Keep.call hb)); have Xa := Lib.hid (Box.pcall hb Xa.out); have Xb := Lib.hid (Box.pcall hb Xb.out); have Xq := Lib.hid (Box.pcall hb Xq.out); have Xr := Lib.hid (Box.pcall hb Xr.out); have HB := Lib.hid (below_call HB.out hb); clear hb tok0 _t; have tok1 : True := trivial)
           | (have _t := tok1; go_at_call 21; (first | (have hcall := ivalid_cl Hr.out; refine Calls.mono hcall ?_; clear hcall) | refine Calls.mono (ivalid_cl Hr.out) ?_); rintro e w6 ⟨v6, rfl, rfl, hb⟩; have Ha := Lib.hid (AI.keep Ha.out (Keep.call hb)); have Hb := Lib.hid (AI.keep Hb.out (Keep.call hb)); have Hq := Lib.hid (CL.keep Hq.out (Keep.call hb)); have Hr := Lib.hid (CL.keep Hr.out (Keep.call hb)); have Xa := Lib.hid (Box.pcall hb Xa.out); have Xb := Lib.hid (Box.pcall hb Xb.out); have Xq := Lib.hid (Box.pcall hb Xq.out); have Xr := Lib.hid (Box.pcall hb Xr.out); have HB := Lib.hid (below_call HB.out hb); clear hb tok1 _t; have tok2 : True := trivial)
           | (have _t := tok2; go_at_call 23; (first | (have hcall := risign_ai k Hr.out.ai Hk.out; refine Calls.mono hcall ?_; clear hcall) | refine Calls.mono (risign_ai k Hr.out.ai Hk.out) ?_); rintro e w7 ⟨v7, rfl, rfl, hb⟩; have Ha := Lib.hid (AI.keep Ha.out (Keep.call hb)); have Hb := Lib.hid (AI.keep Hb.out (Keep.call hb)); have Hq := Lib.hid (CL.keep Hq.out (Keep.call hb)); have Hr := Lib.hid (CL.keep Hr.out (Keep.call hb)); have Xa := Lib.hid (Box.pcall hb Xa.out); have Xb := Lib.hid (Box.pcall hb Xb.out); have Xq := Lib.hid (Box.pcall hb Xq.out); have Xr := Lib.hid (Box.pcall hb Xr.out); have HB := Lib.hid (below_call HB.out hb); clear hb tok2 _t; have tok3 : True := trivial)
           | (have _t := tok3; go_at_call 25; (first | (have hcall := rcmp_is (-1) Hr.out.mag.is Hb.out.mag (mod_cmp Hz.out); refine Calls.mono hcall ?_; clear hcall) | refine Calls.mono (rcmp_is (-1) Hr.out.mag.is Hb.out.mag (mod_cmp Hz.out)) ?_); rintro e w8 ⟨v8, rfl, rfl, hb⟩; have Ha := Lib.hid (AI.keep Ha.out (Keep.call hb)); have Hb := Lib.hid (AI.keep Hb.out (Keep.call hb)); have Hq := Lib.hid (CL.keep Hq.out (Keep.call hb)); have Hr := Lib.hid (CL.keep Hr.out (Keep.call hb)); have Xa := Lib.hid (Box.pcall hb Xa.out); have Xb := Lib.hid (Box.pcall hb Xb.out); have Xq := Lib.hid (Box.pcall hb Xq.out); have Xr := Lib.hid (Box.pcall hb Xr.out); have HB := Lib.hid (below_call HB.out hb); clear hb tok3 _t; have tok4 : True := trivial)
           | (have _t := tok4; go_at_call 28; (first | (have hcall := rimul_ai Hq.out.ai Hb.out (by decide) (by decide); refine Calls.mono hcall ?_; clear hcall) | refine Calls.mono (rimul_ai Hq.out.ai Hb.out (by decide) (by decide)) ?_); rintro e w9 ⟨v9, rfl, hm, hb⟩; have Ha := Lib.hid (AI.keep Ha.out (Keep.call hb)); have Hr := Lib.hid (CL.keep Hr.out (Keep.call hb)); have Xa := Lib.hid (Box.pcall hb Xa.out); have Xb := Lib.hid (Box.pcall hb Xb.out); have Xq := Lib.hid (Box.pcall hb Xq.out); have Xr := Lib.hid (Box.pcall hb Xr.out); have HB := Lib.hid (below_call HB.out hb); have Hm := Lib.hid hm; clear hb hm tok4 _t; have tok5 : True := trivial)
           | (have _t := tok5; go_at_call 27; (first | (have hcall := riadd_ai Hm.out.ai Hr.out.ai (by decide) (by decide); refine Calls.mono hcall ?_; clear hcall) | refine Calls.mono (riadd_ai Hm.out.ai Hr.out.ai (by decide) (by decide)) ?_); rintro e w10 ⟨v10, rfl, hs, hb⟩; have Ha := Lib.hid (AI.keep Ha.out (Keep.call hb)); have Xa := Lib.hid (Box.pcall hb Xa.out); have Xb := Lib.hid (Box.pcall hb Xb.out); have Xq := Lib.hid (Box.pcall hb Xq.out); have Xr := Lib.hid (Box.pcall hb Xr.out); have HB := Lib.hid (below_call HB.out hb); have Hs := Lib.hid hs; clear hb hs tok5 _t; have tok6 : True := trivial)
           | (have _t := tok6; go_at_call 26; refine Calls.mono (ricmp_ai 0 Hs.out.ai Ha.out (sgn_eq (div_mod _ _)) (by decide) (by decide)) ?_; rintro e w11 ⟨v11, rfl, rfl, hb⟩; have Xa := Lib.hid (Box.pcall hb Xa.out); have Xb := Lib.hid (Box.pcall hb Xb.out); have Xq := Lib.hid (Box.pcall hb Xq.out); have Xr := Lib.hid (Box.pcall hb Xr.out); have HB := Lib.hid (below_call HB.out hb); clear hb tok6 _t))
  go_wp2
  all_goals (go_ret; exact ⟨_, rfl, rfl, HB.out⟩)


end Go.Proofs.Ytiknpbgbmbifdaa
