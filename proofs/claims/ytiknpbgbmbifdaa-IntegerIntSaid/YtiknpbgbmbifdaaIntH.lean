/- The laws of relucertlaw02: Neg, Int. Printed by lawi.py. -/
import Derived.Test.YtiknpbgbmbifdaaIntG
namespace Go.Proofs.Ytiknpbgbmbifdaa
open Go.RowKit Nt
set_option linter.unusedVariables false

theorem Row.ai {w : World} {b : Bool} {a : Option Addr} {n c : Nat} (h : Row w (.slice a n c) n) (L : Nat) (hn : n ≤ L) (hL : L ≤ 1099511627776) : ∃ z, AI z L w (.agg #[.bool b, .slice a n c]) := by
  obtain ⟨X, hX⟩ := h.is L hn hL
  exact ⟨_, AI.mk hX⟩
theorem imake_of {z : Int} {L : Nat} {n : Bool} {s : Value} {w : World} (h : AI z L w (.agg #[.bool n, s])) : Calls Try.prog 20 #[.bool n, s] w (Ret w (CL z L)) := by
  obtain ⟨n', s', m, he, h, rfl⟩ := h
  injection he with he; injection he with he; injection he with e1 he; injection he with e2 _; injection e1 with e1
  subst e1 e2
  exact imake_ai h
theorem rimake_of {z : Int} {L : Nat} {n : Bool} {s : Value} {w : World} (h : AI z L w (.agg #[.bool n, s])) : Calls Try.prog 18 #[.bool n, s] w (Ret w (CL z L)) := by
  obtain ⟨n', s', m, he, h, rfl⟩ := h
  injection he with he; injection he with he; injection he with e1 he; injection he with e2 _; injection e1 with e1
  subst e1 e2
  exact rimake_ai h
theorem AI.mag {z : Int} {L : Nat} {n : Bool} {s : Value} {w : World} (h : AI z L w (.agg #[.bool n, s])) : Is z.natAbs L w s := by
  obtain ⟨n', s', m, he, h, rfl⟩ := h
  injection he with he; injection he with he; injection he with e1 he; injection he with e2 _; injection e1 with e1
  subst e1 e2
  rw [iv_abs]; exact h
theorem CL.mag {z : Int} {L : Nat} {n : Bool} {s : Value} {w : World} (h : CL z L w (.agg #[.bool n, s])) : Can z.natAbs L w s := by
  obtain ⟨⟨s', he, h2⟩, h3⟩ := h
  injection he with he; injection he with he; injection he with e1 he; injection he with e2 _
  subst e2
  exact ⟨h2, h3⟩
theorem sgn_lt {y z : Int} (h : y < z) : (y - z).sign = -1 := Int.sign_eq_neg_one_of_neg (by omega)
theorem sgn_eq {y z : Int} (h : y = z) : (y - z).sign = 0 := by rw [h, Int.sub_self]; rfl
theorem sgn_gt {y z : Int} (h : z < y) : (y - z).sign = 1 := Int.sign_eq_one_of_pos (by omega)
theorem mul_sgn_m {x y z k : Int} (h : x < y) (hk : z.sign = k) : (x * z - y * z).sign = -k := by rw [← Int.sub_mul, Int.sign_mul, sgn_lt h, hk]; omega
theorem mul_sgn_z {x y z k : Int} (h : x = y) (_hk : z.sign = k) : (x * z - y * z).sign = 0 := by rw [h, Int.sub_self]; rfl
theorem mul_sgn_p {x y z k : Int} (h : y < x) (hk : z.sign = k) : (x * z - y * z).sign = k := by rw [← Int.sub_mul, Int.sign_mul, sgn_gt h, hk]; omega
theorem CL.zero (w : World) : CL 0 0 w (.agg #[.bool false, .slice none 0 0]) := ⟨⟨_, rfl, by show Sl w _ (limbs 0); rw [limbs_zero]; exact Sl.nil w⟩, by show sz 0 ≤ 0; rw [sz_zero]; exact Nat.le_refl _⟩
theorem isame_zero (w : World) : Calls Try.prog 14 #[.agg #[.bool false, .slice none 0 0], .agg #[.bool false, .slice none 0 0]] w (Ret w (Val (.bool true))) := isame_cl (CL.zero w) (CL.zero w) rfl
theorem mod_cmp {y z : Int} (h : z ≠ 0) : cmpN (y % z).natAbs z.natAbs = -1 := by
  apply cmpN_lt
  have h1 := Int.emod_nonneg y h
  have h2 := Int.emod_lt y h
  omega
theorem div_mod (y z : Int) : y / z * z + y % z = y := Int.ediv_mul_add_emod y z
theorem sign_cases (z : Int) : z.sign = -1 ∨ z.sign = 0 ∨ z.sign = 1 := by
  rcases Int.lt_trichotomy z 0 with h | h | h
  · exact Or.inl (Int.sign_eq_neg_one_of_neg h)
  · exact Or.inr (Or.inl (by rw [h]; rfl))
  · exact Or.inr (Or.inr (Int.sign_eq_one_of_pos h))
theorem sign_neg {z k : Int} (h : z.sign = k) : (-z).sign = -k := by rw [Int.sign_neg, h]

set_option maxRecDepth 100000 in
set_option maxHeartbeats 4000000 in
theorem IntegerNeg_far (ba : Bool) (aa : Option Addr) (na ca : Nat) (w : World) (la : 30 < na) :
    Calls Try.prog 4 #[.agg #[.bool ba, .slice aa na ca]] w (Ret w (Val (.bool true))) := by
  have hda : decide ((30 : Int) < na) = true := by simpa using (show (30 : Int) < na by omega)
  go_enter Try.func4, Try.ntmps4
  go_wp2_with fail
  obtain ⟨W, hW⟩ : ∃ W, W = (w.alloc (.cells #[.bool ba, .slice aa na ca] 25)) := ⟨_, rfl⟩
  rw [← hW]
  obtain ⟨xa, hk, hb⟩ := boxes_1 _ _ _ hW
  clear hW
  have Xa := Lib.hid xa
  have HB := Lib.hid hb
  clear hk hb xa
  refine Calls.mono (iawake_any _) ?_
  rintro e w1 ⟨v1, rfl, rfl, hb⟩
  have Xa := Lib.hid (Box.pcall hb Xa.out)
  have HB := Lib.hid (below_call HB.out hb)
  clear hb
  obtain ⟨ca0, ca1, fa0, fa1⟩ := Xa.out.c2
  go_wp2_with fail
  go_wp2
  all_goals (go_ret; exact ⟨_, rfl, rfl, HB.out⟩)


set_option maxRecDepth 100000 in
set_option maxHeartbeats 4000000 in
theorem IntegerNeg_near (ba : Bool) (aa : Option Addr) (na ca : Nat) (w : World) (Xa : Int) (ha : AI Xa 30 w (.agg #[.bool ba, .slice aa na ca])) (la : na ≤ 30) (k : Int) (hk : Xa.sign = k) (k1 : -1 ≤ k) (k2 : k ≤ 1) :
    Calls Try.prog 4 #[.agg #[.bool ba, .slice aa na ca]] w (Ret w (Val (.bool true))) := by
  have hda : decide ((30 : Int) < na) = false := by simpa using (show (na : Int) ≤ 30 by omega)
  have Ha := Lib.hid ha
  have Hk := Lib.hid hk
  clear ha hk
  go_enter Try.func4, Try.ntmps4
  go_wp2_with fail
  obtain ⟨W, hW⟩ : ∃ W, W = (w.alloc (.cells #[.bool ba, .slice aa na ca] 25)) := ⟨_, rfl⟩
  rw [← hW]
  obtain ⟨xa, hk, hb⟩ := boxes_1 _ _ _ hW
  clear hW
  have Ha := Lib.hid (AI.keep Ha.out hk)
  have Xa := Lib.hid xa
  have HB := Lib.hid hb
  clear hk hb xa
  refine Calls.mono (iawake_any _) ?_
  rintro e w1 ⟨v1, rfl, rfl, hb⟩
  have Ha := Lib.hid (AI.keep Ha.out (Keep.call hb))
  have Xa := Lib.hid (Box.pcall hb Xa.out)
  have HB := Lib.hid (below_call HB.out hb)
  clear hb
  obtain ⟨ca0, ca1, fa0, fa1⟩ := Xa.out.c2
  go_wp2_with fail
  clear ca0 ca1 fa0 fa1
  (first | (have hcall := ineg_ai Ha.out; refine Calls.mono hcall ?_; clear hcall) | refine Calls.mono (ineg_ai Ha.out) ?_)
  rintro e w2 ⟨v2, rfl, hn, hb⟩
  obtain ⟨bn, adn, nn, capn, rfl⟩ := hn.litb
  have Ha := Lib.hid (AI.keep Ha.out (Keep.call hb))
  have Xa := Lib.hid (Box.pcall hb Xa.out)
  have HB := Lib.hid (below_call HB.out hb)
  have Hn := Lib.hid hn
  clear hb hn
  obtain ⟨ca0, ca1, fa0, fa1⟩ := Xa.out.c2
  go_wp2_with fail
  clear ca0 ca1 fa0 fa1
  obtain ⟨W3, hW⟩ : ∃ W3, W3 = (World.alloc w2 (.cells #[.bool bn, .slice adn nn capn] 25)) := ⟨_, rfl⟩
  rw [← hW]
  obtain ⟨xn, hk, hb⟩ := boxes_1 _ _ _ hW
  clear hW
  have Ha := Lib.hid (AI.keep Ha.out hk)
  have Hn := Lib.hid (CL.keep Hn.out hk)
  have Nan := Lib.hid (show w.heap.size ≠ w2.heap.size from Nat.ne_of_lt (Nat.lt_of_lt_of_le Xa.out.lt (by omega)))
  have Gn := Lib.hid (show w.heap.size ≤ w2.heap.size from Nat.le_trans HB.out.size (by omega))
  have Xa := Lib.hid (Box.pcall hb Xa.out)
  have Xn := Lib.hid xn
  have HB := Lib.hid (below_call HB.out hb)
  clear hk hb xn
  have hwk : IntKind.i64.wrap (-k) = -k := IntWalk.i64_in _ (by omega)
  have Ha := Lib.hid (AI.keep Ha.out (Keep.drew W3))
  have Hn := Lib.hid (CL.keep Hn.out (Keep.drew W3))
  have Xa := Lib.hid (Box.drew Xa.out)
  have Xn := Lib.hid (Box.drew Xn.out)
  have HB := Lib.hid (Below.drew HB.out)
  have tok0 : True := trivial
  go_region_held3 (fun w' => w'.cell? ⟨w2.heap.size, 0, none⟩ = some (.bool bn) ∧ w'.cell? ⟨w2.heap.size, 1, none⟩ = some (.slice adn nn capn) ∧ w'.cell? ⟨w.heap.size, 0, none⟩ = some (.bool ba) ∧ w'.cell? ⟨w.heap.size, 1, none⟩ = some (.slice aa na ca))
    (first | exact ⟨Xn.out.cell 0 rfl, Xn.out.cell 1 rfl, Xa.out.cell 0 rfl, Xa.out.cell 1 rfl⟩ | go_keep)
    (first | (have _t := tok0; go_at_call 17; (first | (have hcall := rineg_ai Ha.out; refine Calls.mono hcall ?_; clear hcall) | refine Calls.mono (rineg_ai Ha.out) ?_); rintro e w4 ⟨v4, rfl, hx, hb⟩; have Ha := Lib.hid (AI.keep Ha.out (Keep.call hb)); have Hn := Lib.hid (CL.keep Hn.out (Keep.call hb)); have Xa := Lib.hid (Box.pcall hb Xa.out); have Xn := Lib.hid (Box.pcall hb Xn.out); have HB := Lib.hid (below_call HB.out hb); have Hx := Lib.hid hx; clear hb hx tok0 _t; have tok1 : True := trivial)
           | (have _t := tok1; go_at_call 14; (first | (have hcall := isame_cl Hn.out Hx.out rfl; refine Calls.mono hcall ?_; clear hcall) | refine Calls.mono (isame_cl Hn.out Hx.out rfl) ?_); rintro e w5 ⟨v5, rfl, rfl, hb⟩; have Ha := Lib.hid (AI.keep Ha.out (Keep.call hb)); have Hn := Lib.hid (CL.keep Hn.out (Keep.call hb)); have Xa := Lib.hid (Box.pcall hb Xa.out); have Xn := Lib.hid (Box.pcall hb Xn.out); have HB := Lib.hid (below_call HB.out hb); clear hb tok1 _t; have tok2 : True := trivial)
           | (have _t := tok2; go_at_call 16; (first | (have hcall := ineg_ai Hn.out.ai; refine Calls.mono hcall ?_; clear hcall) | refine Calls.mono (ineg_ai Hn.out.ai) ?_); rintro e w6 ⟨v6, rfl, hy, hb⟩; have Ha := Lib.hid (AI.keep Ha.out (Keep.call hb)); have Hn := Lib.hid (CL.keep Hn.out (Keep.call hb)); have Xa := Lib.hid (Box.pcall hb Xa.out); have Xn := Lib.hid (Box.pcall hb Xn.out); have HB := Lib.hid (below_call HB.out hb); have Hy := Lib.hid hy; clear hb hy tok2 _t; have tok3 : True := trivial)
           | (have _t := tok3; go_at_call 18; (first | (have hcall := rimake_of Ha.out; refine Calls.mono hcall ?_; clear hcall) | refine Calls.mono (rimake_of Ha.out) ?_); rintro e w7 ⟨v7, rfl, hz, hb⟩; have Ha := Lib.hid (AI.keep Ha.out (Keep.call hb)); have Hn := Lib.hid (CL.keep Hn.out (Keep.call hb)); have Hy := Lib.hid (CL.keep Hy.out (Keep.call hb)); have Xa := Lib.hid (Box.pcall hb Xa.out); have Xn := Lib.hid (Box.pcall hb Xn.out); have HB := Lib.hid (below_call HB.out hb); have Hz := Lib.hid hz; clear hb hz tok3 _t; have tok4 : True := trivial)
           | (have _t := tok4; go_at_call 14; (first | (have hcall := isame_cl Hy.out Hz.out (by omega); refine Calls.mono hcall ?_; clear hcall) | refine Calls.mono (isame_cl Hy.out Hz.out (by omega)) ?_); rintro e w8 ⟨v8, rfl, rfl, hb⟩; have Ha := Lib.hid (AI.keep Ha.out (Keep.call hb)); have Hn := Lib.hid (CL.keep Hn.out (Keep.call hb)); have Xa := Lib.hid (Box.pcall hb Xa.out); have Xn := Lib.hid (Box.pcall hb Xn.out); have HB := Lib.hid (below_call HB.out hb); clear hb tok4 _t; have tok5 : True := trivial)
           | (have _t := tok5; go_at_call 19; (first | (have hcall := isign_ai (-k) Hn.out.ai (sign_neg Hk.out) (by decide); refine Calls.mono hcall ?_; clear hcall) | refine Calls.mono (isign_ai (-k) Hn.out.ai (sign_neg Hk.out) (by decide)) ?_); rintro e w9 ⟨v9, rfl, rfl, hb⟩; have Ha := Lib.hid (AI.keep Ha.out (Keep.call hb)); have Xa := Lib.hid (Box.pcall hb Xa.out); have Xn := Lib.hid (Box.pcall hb Xn.out); have HB := Lib.hid (below_call HB.out hb); clear hb tok5 _t; have tok6 : True := trivial)
           | (have _t := tok6; go_at_call 19; (first | (have hcall := isign_ai k Ha.out Hk.out (by decide); refine Calls.mono hcall ?_; clear hcall) | refine Calls.mono (isign_ai k Ha.out Hk.out (by decide)) ?_); rintro e w10 ⟨v10, rfl, rfl, hb⟩; have Xa := Lib.hid (Box.pcall hb Xa.out); have Xn := Lib.hid (Box.pcall hb Xn.out); have HB := Lib.hid (below_call HB.out hb); clear hb tok6 _t))
  go_wp2
  all_goals (go_ret; exact ⟨_, rfl, rfl, HB.out⟩)


set_option maxRecDepth 100000 in
set_option maxHeartbeats 4000000 in
theorem IntegerInt_far (x : Int) (ba : Bool) (aa : Option Addr) (na ca : Nat) (w : World) (la : 30 < na) :
    Calls Try.prog 3 #[.int .i64 x, .agg #[.bool ba, .slice aa na ca]] w (Ret w (Val (.bool true))) := by
  have hda : decide ((30 : Int) < na) = true := by simpa using (show (30 : Int) < na by omega)
  go_enter Try.func3, Try.ntmps3
  go_wp2_with fail
  obtain ⟨W, hW⟩ : ∃ W, W = (w.alloc (.cells #[.bool ba, .slice aa na ca] 25)) := ⟨_, rfl⟩
  rw [← hW]
  obtain ⟨xa, hk, hb⟩ := boxes_1 _ _ _ hW
  clear hW
  have Xa := Lib.hid xa
  have HB := Lib.hid hb
  clear hk hb xa
  refine Calls.mono (iawake_any _) ?_
  rintro e w1 ⟨v1, rfl, rfl, hb⟩
  have Xa := Lib.hid (Box.pcall hb Xa.out)
  have HB := Lib.hid (below_call HB.out hb)
  clear hb
  obtain ⟨ca0, ca1, fa0, fa1⟩ := Xa.out.c2
  go_wp2_with fail
  go_wp2
  all_goals (go_ret; exact ⟨_, rfl, rfl, HB.out⟩)


set_option maxRecDepth 100000 in
set_option maxHeartbeats 4000000 in
theorem IntegerInt_near (x : Int) (ba : Bool) (aa : Option Addr) (na ca : Nat) (w : World) (Xa : Int) (ha : AI Xa 30 w (.agg #[.bool ba, .slice aa na ca])) (la : na ≤ 30) (hx : -9223372036854775808 ≤ x ∧ x < 9223372036854775808) (U : Int) (B : Bool) (hu : intV Xa = U) (hv : intB Xa = B) :
    Calls Try.prog 3 #[.int .i64 x, .agg #[.bool ba, .slice aa na ca]] w (Ret w (Val (.bool true))) := by
  have hda : decide ((30 : Int) < na) = false := by simpa using (show (na : Int) ≤ 30 by omega)
  have Ha := Lib.hid ha
  have Hx := Lib.hid hx
  have Hu := Lib.hid hu
  have Hv := Lib.hid hv
  clear ha hx hu hv
  go_enter Try.func3, Try.ntmps3
  go_wp2_with fail
  obtain ⟨W, hW⟩ : ∃ W, W = (w.alloc (.cells #[.bool ba, .slice aa na ca] 25)) := ⟨_, rfl⟩
  rw [← hW]
  obtain ⟨xa, hk, hb⟩ := boxes_1 _ _ _ hW
  clear hW
  have Ha := Lib.hid (AI.keep Ha.out hk)
  have Xa := Lib.hid xa
  have HB := Lib.hid hb
  clear hk hb xa
  refine Calls.mono (iawake_any _) ?_
  rintro e w1 ⟨v1, rfl, rfl, hb⟩
  have Ha := Lib.hid (AI.keep Ha.out (Keep.call hb))
  have Xa := Lib.hid (Box.pcall hb Xa.out)
  have HB := Lib.hid (below_call HB.out hb)
  clear hb
  obtain ⟨ca0, ca1, fa0, fa1⟩ := Xa.out.c2
  go_wp2_with fail
  clear ca0 ca1 fa0 fa1
  (first | (have hcall := iof_any Hx.out.1 Hx.out.2; refine Calls.mono hcall ?_; clear hcall) | refine Calls.mono (iof_any Hx.out.1 Hx.out.2) ?_)
  rintro e w2 ⟨v2, rfl, ho, hb⟩
  have Ha := Lib.hid (AI.keep Ha.out (Keep.call hb))
  have Xa := Lib.hid (Box.pcall hb Xa.out)
  have HB := Lib.hid (below_call HB.out hb)
  have Ho := Lib.hid ho
  clear hb ho
  obtain ⟨ca0, ca1, fa0, fa1⟩ := Xa.out.c2
  go_wp2_with fail
  clear ca0 ca1 fa0 fa1
  (first | (have hcall := val_of (iint_ai Ho.out.ai) (tuple_int (intV_in Hx.out) (intB_in Hx.out)); refine Calls.mono hcall ?_; clear hcall) | refine Calls.mono (val_of (iint_ai Ho.out.ai) (tuple_int (intV_in Hx.out) (intB_in Hx.out))) ?_)
  rintro e w3 ⟨v3, rfl, rfl, hb⟩
  have Ha := Lib.hid (AI.keep Ha.out (Keep.call hb))
  have Xa := Lib.hid (Box.pcall hb Xa.out)
  have HB := Lib.hid (below_call HB.out hb)
  clear hb
  obtain ⟨ca0, ca1, fa0, fa1⟩ := Xa.out.c2
  go_wp2_with fail
  clear ca0 ca1 fa0 fa1
  (first | (have hcall := val_of (iint_ai Ha.out) (tuple_int Hu.out Hv.out); refine Calls.mono hcall ?_; clear hcall) | refine Calls.mono (val_of (iint_ai Ha.out) (tuple_int Hu.out Hv.out)) ?_)
  rintro e w4 ⟨v4, rfl, rfl, hb⟩
  have Ha := Lib.hid (AI.keep Ha.out (Keep.call hb))
  have Xa := Lib.hid (Box.pcall hb Xa.out)
  have HB := Lib.hid (below_call HB.out hb)
  clear hb
  obtain ⟨ca0, ca1, fa0, fa1⟩ := Xa.out.c2
  go_wp2_with fail
  clear ca0 ca1 fa0 fa1
  (first | (have hcall := val_of (riint_ai Ha.out) (tuple_int Hu.out Hv.out); refine Calls.mono hcall ?_; clear hcall) | refine Calls.mono (val_of (riint_ai Ha.out) (tuple_int Hu.out Hv.out)) ?_)
  rintro e w5 ⟨v5, rfl, rfl, hb⟩
  have Xa := Lib.hid (Box.pcall hb Xa.out)
  have HB := Lib.hid (below_call HB.out hb)
  clear hb
  obtain ⟨ca0, ca1, fa0, fa1⟩ := Xa.out.c2
  go_wp2_with fail
  clear ca0 ca1 fa0 fa1
  (first | (have hcall := iof_any Hx.out.1 Hx.out.2; refine Calls.mono hcall ?_; clear hcall) | refine Calls.mono (iof_any Hx.out.1 Hx.out.2) ?_)
  rintro e w6 ⟨v6, rfl, hp, hb⟩
  have Xa := Lib.hid (Box.pcall hb Xa.out)
  have HB := Lib.hid (below_call HB.out hb)
  have Hp := Lib.hid hp
  clear hb hp
  obtain ⟨ca0, ca1, fa0, fa1⟩ := Xa.out.c2
  go_wp2_with fail
  clear ca0 ca1 fa0 fa1
  (first | (have hcall := riof_any Hx.out.1 Hx.out.2; refine Calls.mono hcall ?_; clear hcall) | refine Calls.mono (riof_any Hx.out.1 Hx.out.2) ?_)
  rintro e w7 ⟨v7, rfl, hq, hb⟩
  have Hp := Lib.hid (CL.keep Hp.out (Keep.call hb))
  have Xa := Lib.hid (Box.pcall hb Xa.out)
  have HB := Lib.hid (below_call HB.out hb)
  have Hq := Lib.hid hq
  clear hb hq
  obtain ⟨ca0, ca1, fa0, fa1⟩ := Xa.out.c2
  go_wp2_with fail
  clear ca0 ca1 fa0 fa1
  (first | (have hcall := isame_cl Hp.out Hq.out rfl; refine Calls.mono hcall ?_; clear hcall) | refine Calls.mono (isame_cl Hp.out Hq.out rfl) ?_)
  rintro e w8 ⟨v8, rfl, rfl, hb⟩
  have Xa := Lib.hid (Box.pcall hb Xa.out)
  have HB := Lib.hid (below_call HB.out hb)
  clear hb
  obtain ⟨ca0, ca1, fa0, fa1⟩ := Xa.out.c2
  go_wp2_with fail
  go_wp2
  all_goals (go_ret; exact ⟨_, rfl, rfl, HB.out⟩)


end Go.Proofs.Ytiknpbgbmbifdaa
