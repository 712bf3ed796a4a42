/- few and awake of relucertlaw02. Printed by lawi.py. -/
import Derived.Test.YtiknpbgbmbifdaaIntF
namespace Go.Proofs.Ytiknpbgbmbifdaa
open Go.RowKit Nt
set_option linter.unusedVariables false

set_option maxRecDepth 100000 in
theorem ifew_yes {ba bb bc : Bool} {aa ab ac : Option Addr} {na ca nb cb nc cc : Nat} {w : World} (la : na ≤ 8) (lb : nb ≤ 8) (lc : nc ≤ 8) :
    Calls Try.prog 29 #[.agg #[.bool ba, .slice aa na ca], .agg #[.bool bb, .slice ab nb cb], .agg #[.bool bc, .slice ac nc cc]] w (Ret w (Val (.bool true))) := by
  have hda : decide ((na : Int) ≤ 8) = true := by simpa using (show (na : Int) ≤ 8 by omega)
  have hdb : decide ((nb : Int) ≤ 8) = true := by simpa using (show (nb : Int) ≤ 8 by omega)
  have hdc : decide ((nc : Int) ≤ 8) = true := by simpa using (show (nc : Int) ≤ 8 by omega)
  go_enter Try.func29, Try.ntmps29
  go_wp2
  go_ret
  exact ⟨_, rfl, rfl, (((Below.refl _ _).alloc (Nat.le_refl _) _).alloc (by simp) _).alloc (by simp; omega) _⟩


set_option maxRecDepth 100000 in
theorem ifew_no1 {ba bb bc : Bool} {aa ab ac : Option Addr} {na ca nb cb nc cc : Nat} {w : World} (la : 8 < na) :
    Calls Try.prog 29 #[.agg #[.bool ba, .slice aa na ca], .agg #[.bool bb, .slice ab nb cb], .agg #[.bool bc, .slice ac nc cc]] w (Ret w (Val (.bool false))) := by
  have hda : decide ((na : Int) ≤ 8) = false := by simpa using (show 8 < (na : Int) by omega)
  go_enter Try.func29, Try.ntmps29
  go_wp2
  go_ret
  exact ⟨_, rfl, rfl, (((Below.refl _ _).alloc (Nat.le_refl _) _).alloc (by simp) _).alloc (by simp; omega) _⟩


set_option maxRecDepth 100000 in
theorem ifew_no2 {ba bb bc : Bool} {aa ab ac : Option Addr} {na ca nb cb nc cc : Nat} {w : World} (la : na ≤ 8) (lb : 8 < nb) :
    Calls Try.prog 29 #[.agg #[.bool ba, .slice aa na ca], .agg #[.bool bb, .slice ab nb cb], .agg #[.bool bc, .slice ac nc cc]] w (Ret w (Val (.bool false))) := by
  have hda : decide ((na : Int) ≤ 8) = true := by simpa using (show (na : Int) ≤ 8 by omega)
  have hdb : decide ((nb : Int) ≤ 8) = false := by simpa using (show 8 < (nb : Int) by omega)
  go_enter Try.func29, Try.ntmps29
  go_wp2
  go_ret
  exact ⟨_, rfl, rfl, (((Below.refl _ _).alloc (Nat.le_refl _) _).alloc (by simp) _).alloc (by simp; omega) _⟩


set_option maxRecDepth 100000 in
theorem ifew_no3 {ba bb bc : Bool} {aa ab ac : Option Addr} {na ca nb cb nc cc : Nat} {w : World} (la : na ≤ 8) (lb : nb ≤ 8) (lc : 8 < nc) :
    Calls Try.prog 29 #[.agg #[.bool ba, .slice aa na ca], .agg #[.bool bb, .slice ab nb cb], .agg #[.bool bc, .slice ac nc cc]] w (Ret w (Val (.bool false))) := by
  have hda : decide ((na : Int) ≤ 8) = true := by simpa using (show (na : Int) ≤ 8 by omega)
  have hdb : decide ((nb : Int) ≤ 8) = true := by simpa using (show (nb : Int) ≤ 8 by omega)
  have hdc : decide ((nc : Int) ≤ 8) = false := by simpa using (show 8 < (nc : Int) by omega)
  go_enter Try.func29, Try.ntmps29
  go_wp2
  go_ret
  exact ⟨_, rfl, rfl, (((Below.refl _ _).alloc (Nat.le_refl _) _).alloc (by simp) _).alloc (by simp; omega) _⟩


theorem ifew_no {ba bb bc : Bool} {aa ab ac : Option Addr} {na ca nb cb nc cc : Nat} {w : World} (h : 8 < na ∨ 8 < nb ∨ 8 < nc) : Calls Try.prog 29 #[.agg #[.bool ba, .slice aa na ca], .agg #[.bool bb, .slice ab nb cb], .agg #[.bool bc, .slice ac nc cc]] w (Ret w (Val (.bool false))) := by
  by_cases la : 8 < na
  · exact ifew_no1 la
  · by_cases lb : 8 < nb
    · exact ifew_no2 (by omega) lb
    · exact ifew_no3 (by omega) (by omega) (by omega)

theorem Is.nil0 (w : World) : Is 0 0 w (.slice none 0 0) := ⟨[], Sl.nil w, rfl, Nat.le_refl _⟩
theorem bool_refl (b : Bool) : (b == b) = true := by cases b <;> rfl

set_option maxRecDepth 100000 in
theorem iawake_any (w : World) :
    Calls Try.prog 10 #[] w (Ret w (Val (.bool true))) := by
  go_enter Try.func10, Try.ntmps10
  go_wp2_with fail
  have HB := Lib.hid (Below.refl w.heap.size w)
  refine Calls.mono (iof_any (x := -7) (by decide) (by decide)) ?_
  rintro e w1 ⟨v1, rfl, hx, hb⟩
  have HB := Lib.hid (below_call HB.out hb)
  have Hx := Lib.hid hx
  clear hb hx
  go_wp2_with fail
  refine Calls.mono (iof_any (x := 2) (by decide) (by decide)) ?_
  rintro e w2 ⟨v2, rfl, hy, hb⟩
  have Hx := Lib.hid (CL.keep Hx.out (Keep.call hb))
  have HB := Lib.hid (below_call HB.out hb)
  have Hy := Lib.hid hy
  clear hb hy
  go_wp2_with fail
  (first | (have hcall := idivmod_ai (by decide) Hx.out.ai Hy.out.ai (by decide) (by decide); refine Calls.mono hcall ?_; clear hcall) | refine Calls.mono (idivmod_ai (by decide) Hx.out.ai Hy.out.ai (by decide) (by decide)) ?_)
  rintro e w3 ⟨t3, rfl, ⟨v3, u3, rfl, hq, hr⟩, hb⟩
  obtain ⟨bq, adq, nq, capq, rfl⟩ := hq.litb
  obtain ⟨br, adr, nr, capr, rfl⟩ := hr.litb
  have Hx := Lib.hid (CL.keep Hx.out (Keep.call hb))
  have Hy := Lib.hid (CL.keep Hy.out (Keep.call hb))
  have HB := Lib.hid (below_call HB.out hb)
  have Hq := Lib.hid hq
  have Hr := Lib.hid hr
  clear hb hq hr
  go_wp2_with fail
  obtain ⟨W4, hW⟩ : ∃ W4, W4 = (World.alloc (World.alloc w3 (.cells #[.bool bq, .slice adq nq capq] 25)) (.cells #[.bool br, .slice adr nr capr] 25)) := ⟨_, rfl⟩
  rw [← hW]
  obtain ⟨xq, xr, hk, hb⟩ := boxes_2 _ _ _ _ _ hW
  clear hW
  have Hx := Lib.hid (CL.keep Hx.out hk)
  have Hy := Lib.hid (CL.keep Hy.out hk)
  have Hq := Lib.hid (CL.keep Hq.out hk)
  have Hr := Lib.hid (CL.keep Hr.out hk)
  have Gq := Lib.hid (show w.heap.size ≤ w3.heap.size from Nat.le_trans HB.out.size (by omega))
  have Gr := Lib.hid (show w.heap.size ≤ w3.heap.size + 1 from Nat.le_trans HB.out.size (by omega))
  have Xq := Lib.hid xq
  have Xr := Lib.hid xr
  have HB := Lib.hid (below_call HB.out hb)
  clear hk hb xq xr
  refine Calls.mono (iof_any (x := -7) (by decide) (by decide)) ?_
  rintro e w5 ⟨v5, rfl, hx, hb⟩
  have Hx := Lib.hid (CL.keep Hx.out (Keep.call hb))
  have Hy := Lib.hid (CL.keep Hy.out (Keep.call hb))
  have Hq := Lib.hid (CL.keep Hq.out (Keep.call hb))
  have Hr := Lib.hid (CL.keep Hr.out (Keep.call hb))
  have Xq := Lib.hid (Box.pcall hb Xq.out)
  have Xr := Lib.hid (Box.pcall hb Xr.out)
  have HB := Lib.hid (below_call HB.out hb)
  have Hx := Lib.hid hx
  clear hb hx
  obtain ⟨cq0, cq1, fq0, fq1⟩ := Xq.out.c2
  have lq := Xq.out.lt
  obtain ⟨cr0, cr1, fr0, fr1⟩ := Xr.out.c2
  have lr := Xr.out.lt
  go_wp2_with fail
  clear cq0 cq1 fq0 fq1 lq cr0 cr1 fr0 fr1 lr
  refine Calls.mono (iof_any (x := -2) (by decide) (by decide)) ?_
  rintro e w6 ⟨v6, rfl, hy, hb⟩
  have Hx := Lib.hid (CL.keep Hx.out (Keep.call hb))
  have Hy := Lib.hid (CL.keep Hy.out (Keep.call hb))
  have Hq := Lib.hid (CL.keep Hq.out (Keep.call hb))
  have Hr := Lib.hid (CL.keep Hr.out (Keep.call hb))
  have Xq := Lib.hid (Box.pcall hb Xq.out)
  have Xr := Lib.hid (Box.pcall hb Xr.out)
  have HB := Lib.hid (below_call HB.out hb)
  have Hy := Lib.hid hy
  clear hb hy
  obtain ⟨cq0, cq1, fq0, fq1⟩ := Xq.out.c2
  have lq := Xq.out.lt
  obtain ⟨cr0, cr1, fr0, fr1⟩ := Xr.out.c2
  have lr := Xr.out.lt
  go_wp2_with fail
  clear cq0 cq1 fq0 fq1 lq cr0 cr1 fr0 fr1 lr
  (first | (have hcall := idivmod_ai (by decide) Hx.out.ai Hy.out.ai (by decide) (by decide); refine Calls.mono hcall ?_; clear hcall) | refine Calls.mono (idivmod_ai (by decide) Hx.out.ai Hy.out.ai (by decide) (by decide)) ?_)
  rintro e w7 ⟨t7, rfl, ⟨v7, u7, rfl, hs, ht⟩, hb⟩
  obtain ⟨bs, ads, ns, caps, rfl⟩ := hs.litb
  obtain ⟨bt, adt, nt, capt, rfl⟩ := ht.litb
  have Hq := Lib.hid (CL.keep Hq.out (Keep.call hb))
  have Hr := Lib.hid (CL.keep Hr.out (Keep.call hb))
  have Xq := Lib.hid (Box.pcall hb Xq.out)
  have Xr := Lib.hid (Box.pcall hb Xr.out)
  have HB := Lib.hid (below_call HB.out hb)
  have Hs := Lib.hid hs
  have Ht := Lib.hid ht
  clear hb hs ht
  obtain ⟨cq0, cq1, fq0, fq1⟩ := Xq.out.c2
  have lq := Xq.out.lt
  obtain ⟨cr0, cr1, fr0, fr1⟩ := Xr.out.c2
  have lr := Xr.out.lt
  go_wp2_with fail
  clear cq0 cq1 fq0 fq1 lq cr0 cr1 fr0 fr1 lr
  obtain ⟨W8, hW⟩ : ∃ W8, W8 = (World.alloc (World.alloc w7 (.cells #[.bool bs, .slice ads ns caps] 25)) (.cells #[.bool bt, .slice adt nt capt] 25)) := ⟨_, rfl⟩
  rw [← hW]
  obtain ⟨xs, xt, hk, hb⟩ := boxes_2 _ _ _ _ _ hW
  clear hW
  have Hq := Lib.hid (CL.keep Hq.out hk)
  have Hr := Lib.hid (CL.keep Hr.out hk)
  have Hs := Lib.hid (CL.keep Hs.out hk)
  have Ht := Lib.hid (CL.keep Ht.out hk)
  have Nqs := Lib.hid (show w3.heap.size ≠ w7.heap.size from Nat.ne_of_lt (Nat.lt_of_lt_of_le Xq.out.lt (by omega)))
  have Nrs := Lib.hid (show w3.heap.size + 1 ≠ w7.heap.size from Nat.ne_of_lt (Nat.lt_of_lt_of_le Xr.out.lt (by omega)))
  have Gs := Lib.hid (show w.heap.size ≤ w7.heap.size from Nat.le_trans HB.out.size (by omega))
  have Nqt := Lib.hid (show w3.heap.size ≠ w7.heap.size + 1 from Nat.ne_of_lt (Nat.lt_of_lt_of_le Xq.out.lt (by omega)))
  have Nrt := Lib.hid (show w3.heap.size + 1 ≠ w7.heap.size + 1 from Nat.ne_of_lt (Nat.lt_of_lt_of_le Xr.out.lt (by omega)))
  have Gt := Lib.hid (show w.heap.size ≤ w7.heap.size + 1 from Nat.le_trans HB.out.size (by omega))
  have Xq := Lib.hid (Box.pcall hb Xq.out)
  have Xr := Lib.hid (Box.pcall hb Xr.out)
  have Xs := Lib.hid xs
  have Xt := Lib.hid xt
  have HB := Lib.hid (below_call HB.out hb)
  clear hk hb xs xt
  (first | (have hcall := val_of (iint_ai Hq.out.ai) (tuple_int (b := -4) (d := true) (by decide) (by decide)); refine Calls.mono hcall ?_; clear hcall) | refine Calls.mono (val_of (iint_ai Hq.out.ai) (tuple_int (b := -4) (d := true) (by decide) (by decide))) ?_)
  rintro e w9 ⟨v9, rfl, rfl, hb⟩
  have Hr := Lib.hid (CL.keep Hr.out (Keep.call hb))
  have Hs := Lib.hid (CL.keep Hs.out (Keep.call hb))
  have Ht := Lib.hid (CL.keep Ht.out (Keep.call hb))
  have Xq := Lib.hid (Box.pcall hb Xq.out)
  have Xr := Lib.hid (Box.pcall hb Xr.out)
  have Xs := Lib.hid (Box.pcall hb Xs.out)
  have Xt := Lib.hid (Box.pcall hb Xt.out)
  have HB := Lib.hid (below_call HB.out hb)
  clear hb
  obtain ⟨cq0, cq1, fq0, fq1⟩ := Xq.out.c2
  have lq := Xq.out.lt
  obtain ⟨cr0, cr1, fr0, fr1⟩ := Xr.out.c2
  have lr := Xr.out.lt
  obtain ⟨cs0, cs1, fs0, fs1⟩ := Xs.out.c2
  have ls := Xs.out.lt
  obtain ⟨ct0, ct1, ft0, ft1⟩ := Xt.out.c2
  have lt := Xt.out.lt
  go_wp2_with fail
  clear cq0 cq1 fq0 fq1 lq cr0 cr1 fr0 fr1 lr cs0 cs1 fs0 fs1 ls ct0 ct1 ft0 ft1 lt
  (first | (have hcall := val_of (iint_ai Hs.out.ai) (tuple_int (b := 4) (d := true) (by decide) (by decide)); refine Calls.mono hcall ?_; clear hcall) | refine Calls.mono (val_of (iint_ai Hs.out.ai) (tuple_int (b := 4) (d := true) (by decide) (by decide))) ?_)
  rintro e w10 ⟨v10, rfl, rfl, hb⟩
  have Hr := Lib.hid (CL.keep Hr.out (Keep.call hb))
  have Ht := Lib.hid (CL.keep Ht.out (Keep.call hb))
  have Xq := Lib.hid (Box.pcall hb Xq.out)
  have Xr := Lib.hid (Box.pcall hb Xr.out)
  have Xs := Lib.hid (Box.pcall hb Xs.out)
  have Xt := Lib.hid (Box.pcall hb Xt.out)
  have HB := Lib.hid (below_call HB.out hb)
  clear hb
  obtain ⟨cq0, cq1, fq0, fq1⟩ := Xq.out.c2
  have lq := Xq.out.lt
  obtain ⟨cr0, cr1, fr0, fr1⟩ := Xr.out.c2
  have lr := Xr.out.lt
  obtain ⟨cs0, cs1, fs0, fs1⟩ := Xs.out.c2
  have ls := Xs.out.lt
  obtain ⟨ct0, ct1, ft0, ft1⟩ := Xt.out.c2
  have lt := Xt.out.lt
  go_wp2_with fail
  clear cq0 cq1 fq0 fq1 lq cr0 cr1 fr0 fr1 lr cs0 cs1 fs0 fs1 ls ct0 ct1 ft0 ft1 lt
  (first | (have hcall := isign_ai 1 Hr.out.ai (by decide) (by decide); refine Calls.mono hcall ?_; clear hcall) | refine Calls.mono (isign_ai 1 Hr.out.ai (by decide) (by decide)) ?_)
  rintro e w11 ⟨v11, rfl, rfl, hb⟩
  have Hr := Lib.hid (CL.keep Hr.out (Keep.call hb))
  have Ht := Lib.hid (CL.keep Ht.out (Keep.call hb))
  have Xq := Lib.hid (Box.pcall hb Xq.out)
  have Xr := Lib.hid (Box.pcall hb Xr.out)
  have Xs := Lib.hid (Box.pcall hb Xs.out)
  have Xt := Lib.hid (Box.pcall hb Xt.out)
  have HB := Lib.hid (below_call HB.out hb)
  clear hb
  obtain ⟨cq0, cq1, fq0, fq1⟩ := Xq.out.c2
  have lq := Xq.out.lt
  obtain ⟨cr0, cr1, fr0, fr1⟩ := Xr.out.c2
  have lr := Xr.out.lt
  obtain ⟨cs0, cs1, fs0, fs1⟩ := Xs.out.c2
  have ls := Xs.out.lt
  obtain ⟨ct0, ct1, ft0, ft1⟩ := Xt.out.c2
  have lt := Xt.out.lt
  go_wp2_with fail
  clear cq0 cq1 fq0 fq1 lq cr0 cr1 fr0 fr1 lr cs0 cs1 fs0 fs1 ls ct0 ct1 ft0 ft1 lt
  (first | (have hcall := icmp_ai 0 Hr.out.ai Ht.out.ai (by decide) (by decide) (by decide); refine Calls.mono hcall ?_; clear hcall) | refine Calls.mono (icmp_ai 0 Hr.out.ai Ht.out.ai (by decide) (by decide) (by decide)) ?_)
  rintro e w12 ⟨v12, rfl, rfl, hb⟩
  have Xq := Lib.hid (Box.pcall hb Xq.out)
  have Xr := Lib.hid (Box.pcall hb Xr.out)
  have Xs := Lib.hid (Box.pcall hb Xs.out)
  have Xt := Lib.hid (Box.pcall hb Xt.out)
  have HB := Lib.hid (below_call HB.out hb)
  clear hb
  obtain ⟨cq0, cq1, fq0, fq1⟩ := Xq.out.c2
  have lq := Xq.out.lt
  obtain ⟨cr0, cr1, fr0, fr1⟩ := Xr.out.c2
  have lr := Xr.out.lt
  obtain ⟨cs0, cs1, fs0, fs1⟩ := Xs.out.c2
  have ls := Xs.out.lt
  obtain ⟨ct0, ct1, ft0, ft1⟩ := Xt.out.c2
  have lt := Xt.out.lt
  go_wp2_with fail
  clear cq0 cq1 fq0 fq1 lq cr0 cr1 fr0 fr1 lr cs0 cs1 fs0 fs1 ls ct0 ct1 ft0 ft1 lt
  refine Calls.mono (imake_ai (neg := true) (m := 0) (L := 0) (Is.nil0 _)) ?_
  rintro e w13 ⟨v13, rfl, hm, hb⟩
  have Xq := Lib.hid (Box.pcall hb Xq.out)
  have Xr := Lib.hid (Box.pcall hb Xr.out)
  have Xs := Lib.hid (Box.pcall hb Xs.out)
  have Xt := Lib.hid (Box.pcall hb Xt.out)
  have HB := Lib.hid (below_call HB.out hb)
  have Hm := Lib.hid hm
  clear hb hm
  obtain ⟨cq0, cq1, fq0, fq1⟩ := Xq.out.c2
  have lq := Xq.out.lt
  obtain ⟨cr0, cr1, fr0, fr1⟩ := Xr.out.c2
  have lr := Xr.out.lt
  obtain ⟨cs0, cs1, fs0, fs1⟩ := Xs.out.c2
  have ls := Xs.out.lt
  obtain ⟨ct0, ct1, ft0, ft1⟩ := Xt.out.c2
  have lt := Xt.out.lt
  go_wp2_with fail
  clear cq0 cq1 fq0 fq1 lq cr0 cr1 fr0 fr1 lr cs0 cs1 fs0 fs1 ls ct0 ct1 ft0 ft1 lt
  (first | (have hcall := isign_ai 0 Hm.out.ai (by decide) (by decide); refine Calls.mono hcall ?_; clear hcall) | refine Calls.mono (isign_ai 0 Hm.out.ai (by decide) (by decide)) ?_)
  rintro e w14 ⟨v14, rfl, rfl, hb⟩
  have Xq := Lib.hid (Box.pcall hb Xq.out)
  have Xr := Lib.hid (Box.pcall hb Xr.out)
  have Xs := Lib.hid (Box.pcall hb Xs.out)
  have Xt := Lib.hid (Box.pcall hb Xt.out)
  have HB := Lib.hid (below_call HB.out hb)
  clear hb
  go_wp2
  all_goals (go_ret; exact ⟨_, rfl, rfl, HB.out⟩)


end Go.Proofs.Ytiknpbgbmbifdaa
