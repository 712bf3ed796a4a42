/- Walks over the laws of package natural: NaturalCompare, NaturalDivide, NaturalDivides. Printed by laws02.py. -/
import Derived.Test.YtenncidmkcfebaaLawD
namespace Go.Proofs.Ytenncidmkcfebaa
open Go.RowKit Nt

set_option maxRecDepth 100000 in
theorem NaturalCompare_far1 (aa : Option Addr) (na ca : Nat) (ab : Option Addr) (nb cb : Nat) (ac : Option Addr) (nc cc : Nat) (w : World) (h : 12 < na ∨ 12 < nb) :
    Calls Try.prog 6 #[.slice aa na ca, .slice ab nb cb, .slice ac nc cc] w (Ret w (Val (.bool true))) := by
  go_enter Try.func6, Try.ntmps6
  go_wp2_with fail
  refine (awake_any _).mono ?_
  rintro e w1 ⟨v1, rfl, rfl, hb⟩
  have HB1 := Lib.hid hb
  clear hb
  go_wp2_with fail
  refine (few_no h).mono ?_
  rintro e w2 ⟨v2, rfl, rfl, hb⟩
  have HB2 := Lib.hid (HB1.out.trans (hb.mono HB1.out.size))
  clear hb
  go_wp2
  go_ret
  exact ⟨_, rfl, rfl, HB2.out⟩

set_option maxRecDepth 100000 in
theorem NaturalCompare_far2 (aa : Option Addr) (na ca : Nat) (ab : Option Addr) (nb cb : Nat) (ac : Option Addr) (nc cc : Nat) (w : World) (la : na ≤ 12) (lb : nb ≤ 12) (lc : 12 < nc) :
    Calls Try.prog 6 #[.slice aa na ca, .slice ab nb cb, .slice ac nc cc] w (Ret w (Val (.bool true))) := by
  go_enter Try.func6, Try.ntmps6
  have hc : decide ((12 : Int) < nc) = true := by simpa using (show (12 : Int) < nc by omega)
  go_wp2_with fail
  refine (awake_any _).mono ?_
  rintro e w1 ⟨v1, rfl, rfl, hb⟩
  have HB1 := Lib.hid hb
  clear hb
  go_wp2_with fail
  refine (few_yes la lb).mono ?_
  rintro e w2 ⟨v2, rfl, rfl, hb⟩
  have HB2 := Lib.hid (HB1.out.trans (hb.mono HB1.out.size))
  clear hb
  go_wp2
  go_ret
  exact ⟨_, rfl, rfl, HB2.out⟩

set_option maxRecDepth 100000 in
theorem NaturalCompare_nearmm (aa : Option Addr) (na ca : Nat) (ab : Option Addr) (nb cb : Nat) (ac : Option Addr) (nc cc : Nat) (w : World) (Xa : Nat) (ha : Is Xa 12 w (.slice aa na ca)) (la : na ≤ 12) (Xb : Nat) (hb : Is Xb 12 w (.slice ab nb cb)) (lb : nb ≤ 12) (Xc : Nat) (hc : Is Xc 12 w (.slice ac nc cc)) (lc : nc ≤ 12) (hx : Xa < Xb) (hy : Xb < Xc) :
    Calls Try.prog 6 #[.slice aa na ca, .slice ab nb cb, .slice ac nc cc] w (Ret w (Val (.bool true))) := by
  have Ha := Lib.hid ha
  have Hb := Lib.hid hb
  have Hc := Lib.hid hc
  clear ha hb hc
  go_enter Try.func6, Try.ntmps6
  have hc : decide ((12 : Int) < nc) = false := by simpa using (show (nc : Int) ≤ 12 by omega)
  go_wp2_with fail
  refine (awake_any _).mono ?_
  rintro e w1 ⟨v1, rfl, rfl, hb⟩
  have HB1 := Lib.hid hb
  have Ha := Lib.hid (Is.below Ha.out hb)
  have Hb := Lib.hid (Is.below Hb.out hb)
  have Hc := Lib.hid (Is.below Hc.out hb)
  clear hb
  go_wp2_with fail
  refine (few_yes la lb).mono ?_
  rintro e w2 ⟨v2, rfl, rfl, hb⟩
  have HB2 := Lib.hid (HB1.out.trans (hb.mono HB1.out.size))
  have Ha := Lib.hid (Is.below Ha.out hb)
  have Hb := Lib.hid (Is.below Hb.out hb)
  have Hc := Lib.hid (Is.below Hc.out hb)
  clear hb
  go_wp2_with fail
  refine (cmp_is (-1) Ha.out Hb.out (cmpN_lt (by omega))).mono ?_
  rintro e w3 ⟨v3, rfl, rfl, hb⟩
  have HB3 := Lib.hid (HB2.out.trans (hb.mono HB2.out.size))
  have Ha := Lib.hid (Is.below Ha.out hb)
  have Hb := Lib.hid (Is.below Hb.out hb)
  have Hc := Lib.hid (Is.below Hc.out hb)
  clear hb
  go_wp2_with fail
  refine (cmp_is (-1) Hb.out Hc.out (cmpN_lt (by omega))).mono ?_
  rintro e w4 ⟨v4, rfl, rfl, hb⟩
  have HB4 := Lib.hid (HB3.out.trans (hb.mono HB3.out.size))
  have Ha := Lib.hid (Is.below Ha.out hb)
  have Hb := Lib.hid (Is.below Hb.out hb)
  have Hc := Lib.hid (Is.below Hc.out hb)
  clear hb
  go_wp2_with fail
  refine (rcmp_is (-1) Ha.out Hb.out (cmpN_lt (by omega))).mono ?_
  rintro e w5 ⟨v5, rfl, rfl, hb⟩
  have HB5 := Lib.hid (HB4.out.trans (hb.mono HB4.out.size))
  have Ha := Lib.hid (Is.below Ha.out hb)
  have Hb := Lib.hid (Is.below Hb.out hb)
  have Hc := Lib.hid (Is.below Hc.out hb)
  clear hb
  go_wp2_with fail
  refine (cmp_is 1 Hb.out Ha.out (cmpN_gt (by omega))).mono ?_
  rintro e w6 ⟨v6, rfl, rfl, hb⟩
  have HB6 := Lib.hid (HB5.out.trans (hb.mono HB5.out.size))
  have Ha := Lib.hid (Is.below Ha.out hb)
  have Hb := Lib.hid (Is.below Hb.out hb)
  have Hc := Lib.hid (Is.below Hc.out hb)
  clear hb
  go_wp2_with fail
  refine (cmp_is 0 Ha.out Ha.out (cmpN_eq rfl)).mono ?_
  rintro e w7 ⟨v7, rfl, rfl, hb⟩
  have HB7 := Lib.hid (HB6.out.trans (hb.mono HB6.out.size))
  have Ha := Lib.hid (Is.below Ha.out hb)
  have Hb := Lib.hid (Is.below Hb.out hb)
  have Hc := Lib.hid (Is.below Hc.out hb)
  clear hb
  go_wp2_with fail
  refine (cmp_is (-1) Ha.out Hc.out (cmpN_lt (by omega))).mono ?_
  rintro e w8 ⟨v8, rfl, rfl, hb⟩
  have HB8 := Lib.hid (HB7.out.trans (hb.mono HB7.out.size))
  have Ha := Lib.hid (Is.below Ha.out hb)
  have Hb := Lib.hid (Is.below Hb.out hb)
  have Hc := Lib.hid (Is.below Hc.out hb)
  clear hb
  go_wp2_with fail
  refine (add_is Ha.out Hc.out (by decide) (by decide)).mono ?_
  rintro e w9 ⟨v9, rfl, hp, hb⟩
  have HB9 := Lib.hid (HB8.out.trans (hb.mono HB8.out.size))
  have Hb := Lib.hid (Is.below Hb.out hb)
  have Hc := Lib.hid (Is.below Hc.out hb)
  have Hp := Lib.hid hp
  clear hb hp
  go_wp2_with fail
  refine (add_is Hb.out Hc.out (by decide) (by decide)).mono ?_
  rintro e w10 ⟨v10, rfl, hq, hb⟩
  have HB10 := Lib.hid (HB9.out.trans (hb.mono HB9.out.size))
  have Hp := Lib.hid (Can.below Hp.out hb)
  have Hq := Lib.hid hq
  clear hb hq
  go_wp2_with fail
  refine (cmp_is (-1) Hp.out.is Hq.out.is (cmpN_lt (by omega))).mono ?_
  rintro e w11 ⟨v11, rfl, rfl, hb⟩
  have HB11 := Lib.hid (HB10.out.trans (hb.mono HB10.out.size))
  clear hb
  go_wp2
  go_ret
  exact ⟨_, rfl, rfl, HB11.out⟩

set_option maxRecDepth 100000 in
theorem NaturalCompare_nearmz (aa : Option Addr) (na ca : Nat) (ab : Option Addr) (nb cb : Nat) (ac : Option Addr) (nc cc : Nat) (w : World) (Xa : Nat) (ha : Is Xa 12 w (.slice aa na ca)) (la : na ≤ 12) (Xb : Nat) (hb : Is Xb 12 w (.slice ab nb cb)) (lb : nb ≤ 12) (Xc : Nat) (hc : Is Xc 12 w (.slice ac nc cc)) (lc : nc ≤ 12) (hx : Xa < Xb) (hy : Xb = Xc) :
    Calls Try.prog 6 #[.slice aa na ca, .slice ab nb cb, .slice ac nc cc] w (Ret w (Val (.bool true))) := by
  have Ha := Lib.hid ha
  have Hb := Lib.hid hb
  have Hc := Lib.hid hc
  clear ha hb hc
  go_enter Try.func6, Try.ntmps6
  have hc : decide ((12 : Int) < nc) = false := by simpa using (show (nc : Int) ≤ 12 by omega)
  go_wp2_with fail
  refine (awake_any _).mono ?_
  rintro e w1 ⟨v1, rfl, rfl, hb⟩
  have HB1 := Lib.hid hb
  have Ha := Lib.hid (Is.below Ha.out hb)
  have Hb := Lib.hid (Is.below Hb.out hb)
  have Hc := Lib.hid (Is.below Hc.out hb)
  clear hb
  go_wp2_with fail
  refine (few_yes la lb).mono ?_
  rintro e w2 ⟨v2, rfl, rfl, hb⟩
  have HB2 := Lib.hid (HB1.out.trans (hb.mono HB1.out.size))
  have Ha := Lib.hid (Is.below Ha.out hb)
  have Hb := Lib.hid (Is.below Hb.out hb)
  have Hc := Lib.hid (Is.below Hc.out hb)
  clear hb
  go_wp2_with fail
  refine (cmp_is (-1) Ha.out Hb.out (cmpN_lt (by omega))).mono ?_
  rintro e w3 ⟨v3, rfl, rfl, hb⟩
  have HB3 := Lib.hid (HB2.out.trans (hb.mono HB2.out.size))
  have Ha := Lib.hid (Is.below Ha.out hb)
  have Hb := Lib.hid (Is.below Hb.out hb)
  have Hc := Lib.hid (Is.below Hc.out hb)
  clear hb
  go_wp2_with fail
  refine (cmp_is 0 Hb.out Hc.out (cmpN_eq (by omega))).mono ?_
  rintro e w4 ⟨v4, rfl, rfl, hb⟩
  have HB4 := Lib.hid (HB3.out.trans (hb.mono HB3.out.size))
  have Ha := Lib.hid (Is.below Ha.out hb)
  have Hb := Lib.hid (Is.below Hb.out hb)
  have Hc := Lib.hid (Is.below Hc.out hb)
  clear hb
  go_wp2_with fail
  refine (rcmp_is (-1) Ha.out Hb.out (cmpN_lt (by omega))).mono ?_
  rintro e w5 ⟨v5, rfl, rfl, hb⟩
  have HB5 := Lib.hid (HB4.out.trans (hb.mono HB4.out.size))
  have Ha := Lib.hid (Is.below Ha.out hb)
  have Hb := Lib.hid (Is.below Hb.out hb)
  have Hc := Lib.hid (Is.below Hc.out hb)
  clear hb
  go_wp2_with fail
  refine (cmp_is 1 Hb.out Ha.out (cmpN_gt (by omega))).mono ?_
  rintro e w6 ⟨v6, rfl, rfl, hb⟩
  have HB6 := Lib.hid (HB5.out.trans (hb.mono HB5.out.size))
  have Ha := Lib.hid (Is.below Ha.out hb)
  have Hb := Lib.hid (Is.below Hb.out hb)
  have Hc := Lib.hid (Is.below Hc.out hb)
  clear hb
  go_wp2_with fail
  refine (cmp_is 0 Ha.out Ha.out (cmpN_eq rfl)).mono ?_
  rintro e w7 ⟨v7, rfl, rfl, hb⟩
  have HB7 := Lib.hid (HB6.out.trans (hb.mono HB6.out.size))
  have Ha := Lib.hid (Is.below Ha.out hb)
  have Hb := Lib.hid (Is.below Hb.out hb)
  have Hc := Lib.hid (Is.below Hc.out hb)
  clear hb
  go_wp2_with fail
  refine (cmp_is (-1) Ha.out Hc.out (cmpN_lt (by omega))).mono ?_
  rintro e w8 ⟨v8, rfl, rfl, hb⟩
  have HB8 := Lib.hid (HB7.out.trans (hb.mono HB7.out.size))
  have Ha := Lib.hid (Is.below Ha.out hb)
  have Hb := Lib.hid (Is.below Hb.out hb)
  have Hc := Lib.hid (Is.below Hc.out hb)
  clear hb
  go_wp2_with fail
  refine (add_is Ha.out Hc.out (by decide) (by decide)).mono ?_
  rintro e w9 ⟨v9, rfl, hp, hb⟩
  have HB9 := Lib.hid (HB8.out.trans (hb.mono HB8.out.size))
  have Hb := Lib.hid (Is.below Hb.out hb)
  have Hc := Lib.hid (Is.below Hc.out hb)
  have Hp := Lib.hid hp
  clear hb hp
  go_wp2_with fail
  refine (add_is Hb.out Hc.out (by decide) (by decide)).mono ?_
  rintro e w10 ⟨v10, rfl, hq, hb⟩
  have HB10 := Lib.hid (HB9.out.trans (hb.mono HB9.out.size))
  have Hp := Lib.hid (Can.below Hp.out hb)
  have Hq := Lib.hid hq
  clear hb hq
  go_wp2_with fail
  refine (cmp_is (-1) Hp.out.is Hq.out.is (cmpN_lt (by omega))).mono ?_
  rintro e w11 ⟨v11, rfl, rfl, hb⟩
  have HB11 := Lib.hid (HB10.out.trans (hb.mono HB10.out.size))
  clear hb
  go_wp2
  go_ret
  exact ⟨_, rfl, rfl, HB11.out⟩

set_option maxRecDepth 100000 in
theorem NaturalCompare_nearmp (aa : Option Addr) (na ca : Nat) (ab : Option Addr) (nb cb : Nat) (ac : Option Addr) (nc cc : Nat) (w : World) (Xa : Nat) (ha : Is Xa 12 w (.slice aa na ca)) (la : na ≤ 12) (Xb : Nat) (hb : Is Xb 12 w (.slice ab nb cb)) (lb : nb ≤ 12) (Xc : Nat) (hc : Is Xc 12 w (.slice ac nc cc)) (lc : nc ≤ 12) (hx : Xa < Xb) (hy : Xc < Xb) :
    Calls Try.prog 6 #[.slice aa na ca, .slice ab nb cb, .slice ac nc cc] w (Ret w (Val (.bool true))) := by
  have Ha := Lib.hid ha
  have Hb := Lib.hid hb
  have Hc := Lib.hid hc
  clear ha hb hc
  go_enter Try.func6, Try.ntmps6
  have hc : decide ((12 : Int) < nc) = false := by simpa using (show (nc : Int) ≤ 12 by omega)
  go_wp2_with fail
  refine (awake_any _).mono ?_
  rintro e w1 ⟨v1, rfl, rfl, hb⟩
  have HB1 := Lib.hid hb
  have Ha := Lib.hid (Is.below Ha.out hb)
  have Hb := Lib.hid (Is.below Hb.out hb)
  have Hc := Lib.hid (Is.below Hc.out hb)
  clear hb
  go_wp2_with fail
  refine (few_yes la lb).mono ?_
  rintro e w2 ⟨v2, rfl, rfl, hb⟩
  have HB2 := Lib.hid (HB1.out.trans (hb.mono HB1.out.size))
  have Ha := Lib.hid (Is.below Ha.out hb)
  have Hb := Lib.hid (Is.below Hb.out hb)
  have Hc := Lib.hid (Is.below Hc.out hb)
  clear hb
  go_wp2_with fail
  refine (cmp_is (-1) Ha.out Hb.out (cmpN_lt (by omega))).mono ?_
  rintro e w3 ⟨v3, rfl, rfl, hb⟩
  have HB3 := Lib.hid (HB2.out.trans (hb.mono HB2.out.size))
  have Ha := Lib.hid (Is.below Ha.out hb)
  have Hb := Lib.hid (Is.below Hb.out hb)
  have Hc := Lib.hid (Is.below Hc.out hb)
  clear hb
  go_wp2_with fail
  refine (cmp_is 1 Hb.out Hc.out (cmpN_gt (by omega))).mono ?_
  rintro e w4 ⟨v4, rfl, rfl, hb⟩
  have HB4 := Lib.hid (HB3.out.trans (hb.mono HB3.out.size))
  have Ha := Lib.hid (Is.below Ha.out hb)
  have Hb := Lib.hid (Is.below Hb.out hb)
  have Hc := Lib.hid (Is.below Hc.out hb)
  clear hb
  go_wp2_with fail
  refine (rcmp_is (-1) Ha.out Hb.out (cmpN_lt (by omega))).mono ?_
  rintro e w5 ⟨v5, rfl, rfl, hb⟩
  have HB5 := Lib.hid (HB4.out.trans (hb.mono HB4.out.size))
  have Ha := Lib.hid (Is.below Ha.out hb)
  have Hb := Lib.hid (Is.below Hb.out hb)
  have Hc := Lib.hid (Is.below Hc.out hb)
  clear hb
  go_wp2_with fail
  refine (cmp_is 1 Hb.out Ha.out (cmpN_gt (by omega))).mono ?_
  rintro e w6 ⟨v6, rfl, rfl, hb⟩
  have HB6 := Lib.hid (HB5.out.trans (hb.mono HB5.out.size))
  have Ha := Lib.hid (Is.below Ha.out hb)
  have Hb := Lib.hid (Is.below Hb.out hb)
  have Hc := Lib.hid (Is.below Hc.out hb)
  clear hb
  go_wp2_with fail
  refine (cmp_is 0 Ha.out Ha.out (cmpN_eq rfl)).mono ?_
  rintro e w7 ⟨v7, rfl, rfl, hb⟩
  have HB7 := Lib.hid (HB6.out.trans (hb.mono HB6.out.size))
  have Ha := Lib.hid (Is.below Ha.out hb)
  have Hb := Lib.hid (Is.below Hb.out hb)
  have Hc := Lib.hid (Is.below Hc.out hb)
  clear hb
  go_wp2_with fail
  refine (add_is Ha.out Hc.out (by decide) (by decide)).mono ?_
  rintro e w8 ⟨v8, rfl, hp, hb⟩
  have HB8 := Lib.hid (HB7.out.trans (hb.mono HB7.out.size))
  have Hb := Lib.hid (Is.below Hb.out hb)
  have Hc := Lib.hid (Is.below Hc.out hb)
  have Hp := Lib.hid hp
  clear hb hp
  go_wp2_with fail
  refine (add_is Hb.out Hc.out (by decide) (by decide)).mono ?_
  rintro e w9 ⟨v9, rfl, hq, hb⟩
  have HB9 := Lib.hid (HB8.out.trans (hb.mono HB8.out.size))
  have Hp := Lib.hid (Can.below Hp.out hb)
  have Hq := Lib.hid hq
  clear hb hq
  go_wp2_with fail
  refine (cmp_is (-1) Hp.out.is Hq.out.is (cmpN_lt (by omega))).mono ?_
  rintro e w10 ⟨v10, rfl, rfl, hb⟩
  have HB10 := Lib.hid (HB9.out.trans (hb.mono HB9.out.size))
  clear hb
  go_wp2
  go_ret
  exact ⟨_, rfl, rfl, HB10.out⟩

set_option maxRecDepth 100000 in
theorem NaturalCompare_nearzm (aa : Option Addr) (na ca : Nat) (ab : Option Addr) (nb cb : Nat) (ac : Option Addr) (nc cc : Nat) (w : World) (Xa : Nat) (ha : Is Xa 12 w (.slice aa na ca)) (la : na ≤ 12) (Xb : Nat) (hb : Is Xb 12 w (.slice ab nb cb)) (lb : nb ≤ 12) (Xc : Nat) (hc : Is Xc 12 w (.slice ac nc cc)) (lc : nc ≤ 12) (hx : Xa = Xb) (hy : Xb < Xc) :
    Calls Try.prog 6 #[.slice aa na ca, .slice ab nb cb, .slice ac nc cc] w (Ret w (Val (.bool true))) := by
  have Ha := Lib.hid ha
  have Hb := Lib.hid hb
  have Hc := Lib.hid hc
  clear ha hb hc
  go_enter Try.func6, Try.ntmps6
  have hc : decide ((12 : Int) < nc) = false := by simpa using (show (nc : Int) ≤ 12 by omega)
  go_wp2_with fail
  refine (awake_any _).mono ?_
  rintro e w1 ⟨v1, rfl, rfl, hb⟩
  have HB1 := Lib.hid hb
  have Ha := Lib.hid (Is.below Ha.out hb)
  have Hb := Lib.hid (Is.below Hb.out hb)
  have Hc := Lib.hid (Is.below Hc.out hb)
  clear hb
  go_wp2_with fail
  refine (few_yes la lb).mono ?_
  rintro e w2 ⟨v2, rfl, rfl, hb⟩
  have HB2 := Lib.hid (HB1.out.trans (hb.mono HB1.out.size))
  have Ha := Lib.hid (Is.below Ha.out hb)
  have Hb := Lib.hid (Is.below Hb.out hb)
  have Hc := Lib.hid (Is.below Hc.out hb)
  clear hb
  go_wp2_with fail
  refine (cmp_is 0 Ha.out Hb.out (cmpN_eq (by omega))).mono ?_
  rintro e w3 ⟨v3, rfl, rfl, hb⟩
  have HB3 := Lib.hid (HB2.out.trans (hb.mono HB2.out.size))
  have Ha := Lib.hid (Is.below Ha.out hb)
  have Hb := Lib.hid (Is.below Hb.out hb)
  have Hc := Lib.hid (Is.below Hc.out hb)
  clear hb
  go_wp2_with fail
  refine (cmp_is (-1) Hb.out Hc.out (cmpN_lt (by omega))).mono ?_
  rintro e w4 ⟨v4, rfl, rfl, hb⟩
  have HB4 := Lib.hid (HB3.out.trans (hb.mono HB3.out.size))
  have Ha := Lib.hid (Is.below Ha.out hb)
  have Hb := Lib.hid (Is.below Hb.out hb)
  have Hc := Lib.hid (Is.below Hc.out hb)
  clear hb
  go_wp2_with fail
  refine (rcmp_is 0 Ha.out Hb.out (cmpN_eq (by omega))).mono ?_
  rintro e w5 ⟨v5, rfl, rfl, hb⟩
  have HB5 := Lib.hid (HB4.out.trans (hb.mono HB4.out.size))
  have Ha := Lib.hid (Is.below Ha.out hb)
  have Hb := Lib.hid (Is.below Hb.out hb)
  have Hc := Lib.hid (Is.below Hc.out hb)
  clear hb
  go_wp2_with fail
  refine (cmp_is 0 Hb.out Ha.out (cmpN_eq (by omega))).mono ?_
  rintro e w6 ⟨v6, rfl, rfl, hb⟩
  have HB6 := Lib.hid (HB5.out.trans (hb.mono HB5.out.size))
  have Ha := Lib.hid (Is.below Ha.out hb)
  have Hb := Lib.hid (Is.below Hb.out hb)
  have Hc := Lib.hid (Is.below Hc.out hb)
  clear hb
  go_wp2_with fail
  refine (cmp_is 0 Ha.out Ha.out (cmpN_eq rfl)).mono ?_
  rintro e w7 ⟨v7, rfl, rfl, hb⟩
  have HB7 := Lib.hid (HB6.out.trans (hb.mono HB6.out.size))
  have Ha := Lib.hid (Is.below Ha.out hb)
  have Hb := Lib.hid (Is.below Hb.out hb)
  have Hc := Lib.hid (Is.below Hc.out hb)
  clear hb
  go_wp2_with fail
  refine (cmp_is (-1) Ha.out Hc.out (cmpN_lt (by omega))).mono ?_
  rintro e w8 ⟨v8, rfl, rfl, hb⟩
  have HB8 := Lib.hid (HB7.out.trans (hb.mono HB7.out.size))
  have Ha := Lib.hid (Is.below Ha.out hb)
  have Hb := Lib.hid (Is.below Hb.out hb)
  have Hc := Lib.hid (Is.below Hc.out hb)
  clear hb
  go_wp2_with fail
  refine (add_is Ha.out Hc.out (by decide) (by decide)).mono ?_
  rintro e w9 ⟨v9, rfl, hp, hb⟩
  have HB9 := Lib.hid (HB8.out.trans (hb.mono HB8.out.size))
  have Hb := Lib.hid (Is.below Hb.out hb)
  have Hc := Lib.hid (Is.below Hc.out hb)
  have Hp := Lib.hid hp
  clear hb hp
  go_wp2_with fail
  refine (add_is Hb.out Hc.out (by decide) (by decide)).mono ?_
  rintro e w10 ⟨v10, rfl, hq, hb⟩
  have HB10 := Lib.hid (HB9.out.trans (hb.mono HB9.out.size))
  have Hp := Lib.hid (Can.below Hp.out hb)
  have Hq := Lib.hid hq
  clear hb hq
  go_wp2_with fail
  refine (cmp_is 0 Hp.out.is Hq.out.is (cmpN_eq (by omega))).mono ?_
  rintro e w11 ⟨v11, rfl, rfl, hb⟩
  have HB11 := Lib.hid (HB10.out.trans (hb.mono HB10.out.size))
  clear hb
  go_wp2
  go_ret
  exact ⟨_, rfl, rfl, HB11.out⟩

set_option maxRecDepth 100000 in
theorem NaturalCompare_nearzz (aa : Option Addr) (na ca : Nat) (ab : Option Addr) (nb cb : Nat) (ac : Option Addr) (nc cc : Nat) (w : World) (Xa : Nat) (ha : Is Xa 12 w (.slice aa na ca)) (la : na ≤ 12) (Xb : Nat) (hb : Is Xb 12 w (.slice ab nb cb)) (lb : nb ≤ 12) (Xc : Nat) (hc : Is Xc 12 w (.slice ac nc cc)) (lc : nc ≤ 12) (hx : Xa = Xb) (hy : Xb = Xc) :
    Calls Try.prog 6 #[.slice aa na ca, .slice ab nb cb, .slice ac nc cc] w (Ret w (Val (.bool true))) := by
  have Ha := Lib.hid ha
  have Hb := Lib.hid hb
  have Hc := Lib.hid hc
  clear ha hb hc
  go_enter Try.func6, Try.ntmps6
  have hc : decide ((12 : Int) < nc) = false := by simpa using (show (nc : Int) ≤ 12 by omega)
  go_wp2_with fail
  refine (awake_any _).mono ?_
  rintro e w1 ⟨v1, rfl, rfl, hb⟩
  have HB1 := Lib.hid hb
  have Ha := Lib.hid (Is.below Ha.out hb)
  have Hb := Lib.hid (Is.below Hb.out hb)
  have Hc := Lib.hid (Is.below Hc.out hb)
  clear hb
  go_wp2_with fail
  refine (few_yes la lb).mono ?_
  rintro e w2 ⟨v2, rfl, rfl, hb⟩
  have HB2 := Lib.hid (HB1.out.trans (hb.mono HB1.out.size))
  have Ha := Lib.hid (Is.below Ha.out hb)
  have Hb := Lib.hid (Is.below Hb.out hb)
  have Hc := Lib.hid (Is.below Hc.out hb)
  clear hb
  go_wp2_with fail
  refine (cmp_is 0 Ha.out Hb.out (cmpN_eq (by omega))).mono ?_
  rintro e w3 ⟨v3, rfl, rfl, hb⟩
  have HB3 := Lib.hid (HB2.out.trans (hb.mono HB2.out.size))
  have Ha := Lib.hid (Is.below Ha.out hb)
  have Hb := Lib.hid (Is.below Hb.out hb)
  have Hc := Lib.hid (Is.below Hc.out hb)
  clear hb
  go_wp2_with fail
  refine (cmp_is 0 Hb.out Hc.out (cmpN_eq (by omega))).mono ?_
  rintro e w4 ⟨v4, rfl, rfl, hb⟩
  have HB4 := Lib.hid (HB3.out.trans (hb.mono HB3.out.size))
  have Ha := Lib.hid (Is.below Ha.out hb)
  have Hb := Lib.hid (Is.below Hb.out hb)
  have Hc := Lib.hid (Is.below Hc.out hb)
  clear hb
  go_wp2_with fail
  refine (rcmp_is 0 Ha.out Hb.out (cmpN_eq (by omega))).mono ?_
  rintro e w5 ⟨v5, rfl, rfl, hb⟩
  have HB5 := Lib.hid (HB4.out.trans (hb.mono HB4.out.size))
  have Ha := Lib.hid (Is.below Ha.out hb)
  have Hb := Lib.hid (Is.below Hb.out hb)
  have Hc := Lib.hid (Is.below Hc.out hb)
  clear hb
  go_wp2_with fail
  refine (cmp_is 0 Hb.out Ha.out (cmpN_eq (by omega))).mono ?_
  rintro e w6 ⟨v6, rfl, rfl, hb⟩
  have HB6 := Lib.hid (HB5.out.trans (hb.mono HB5.out.size))
  have Ha := Lib.hid (Is.below Ha.out hb)
  have Hb := Lib.hid (Is.below Hb.out hb)
  have Hc := Lib.hid (Is.below Hc.out hb)
  clear hb
  go_wp2_with fail
  refine (cmp_is 0 Ha.out Ha.out (cmpN_eq rfl)).mono ?_
  rintro e w7 ⟨v7, rfl, rfl, hb⟩
  have HB7 := Lib.hid (HB6.out.trans (hb.mono HB6.out.size))
  have Ha := Lib.hid (Is.below Ha.out hb)
  have Hb := Lib.hid (Is.below Hb.out hb)
  have Hc := Lib.hid (Is.below Hc.out hb)
  clear hb
  go_wp2_with fail
  refine (cmp_is 0 Ha.out Hc.out (cmpN_eq (by omega))).mono ?_
  rintro e w8 ⟨v8, rfl, rfl, hb⟩
  have HB8 := Lib.hid (HB7.out.trans (hb.mono HB7.out.size))
  have Ha := Lib.hid (Is.below Ha.out hb)
  have Hb := Lib.hid (Is.below Hb.out hb)
  have Hc := Lib.hid (Is.below Hc.out hb)
  clear hb
  go_wp2_with fail
  refine (add_is Ha.out Hc.out (by decide) (by decide)).mono ?_
  rintro e w9 ⟨v9, rfl, hp, hb⟩
  have HB9 := Lib.hid (HB8.out.trans (hb.mono HB8.out.size))
  have Hb := Lib.hid (Is.below Hb.out hb)
  have Hc := Lib.hid (Is.below Hc.out hb)
  have Hp := Lib.hid hp
  clear hb hp
  go_wp2_with fail
  refine (add_is Hb.out Hc.out (by decide) (by decide)).mono ?_
  rintro e w10 ⟨v10, rfl, hq, hb⟩
  have HB10 := Lib.hid (HB9.out.trans (hb.mono HB9.out.size))
  have Hp := Lib.hid (Can.below Hp.out hb)
  have Hq := Lib.hid hq
  clear hb hq
  go_wp2_with fail
  refine (cmp_is 0 Hp.out.is Hq.out.is (cmpN_eq (by omega))).mono ?_
  rintro e w11 ⟨v11, rfl, rfl, hb⟩
  have HB11 := Lib.hid (HB10.out.trans (hb.mono HB10.out.size))
  clear hb
  go_wp2
  go_ret
  exact ⟨_, rfl, rfl, HB11.out⟩

set_option maxRecDepth 100000 in
theorem NaturalCompare_nearzp (aa : Option Addr) (na ca : Nat) (ab : Option Addr) (nb cb : Nat) (ac : Option Addr) (nc cc : Nat) (w : World) (Xa : Nat) (ha : Is Xa 12 w (.slice aa na ca)) (la : na ≤ 12) (Xb : Nat) (hb : Is Xb 12 w (.slice ab nb cb)) (lb : nb ≤ 12) (Xc : Nat) (hc : Is Xc 12 w (.slice ac nc cc)) (lc : nc ≤ 12) (hx : Xa = Xb) (hy : Xc < Xb) :
    Calls Try.prog 6 #[.slice aa na ca, .slice ab nb cb, .slice ac nc cc] w (Ret w (Val (.bool true))) := by
  have Ha := Lib.hid ha
  have Hb := Lib.hid hb
  have Hc := Lib.hid hc
  clear ha hb hc
  go_enter Try.func6, Try.ntmps6
  have hc : decide ((12 : Int) < nc) = false := by simpa using (show (nc : Int) ≤ 12 by omega)
  go_wp2_with fail
  refine (awake_any _).mono ?_
  rintro e w1 ⟨v1, rfl, rfl, hb⟩
  have HB1 := Lib.hid hb
  have Ha := Lib.hid (Is.below Ha.out hb)
  have Hb := Lib.hid (Is.below Hb.out hb)
  have Hc := Lib.hid (Is.below Hc.out hb)
  clear hb
  go_wp2_with fail
  refine (few_yes la lb).mono ?_
  rintro e w2 ⟨v2, rfl, rfl, hb⟩
  have HB2 := Lib.hid (HB1.out.trans (hb.mono HB1.out.size))
  have Ha := Lib.hid (Is.below Ha.out hb)
  have Hb := Lib.hid (Is.below Hb.out hb)
  have Hc := Lib.hid (Is.below Hc.out hb)
  clear hb
  go_wp2_with fail
  refine (cmp_is 0 Ha.out Hb.out (cmpN_eq (by omega))).mono ?_
  rintro e w3 ⟨v3, rfl, rfl, hb⟩
  have HB3 := Lib.hid (HB2.out.trans (hb.mono HB2.out.size))
  have Ha := Lib.hid (Is.below Ha.out hb)
  have Hb := Lib.hid (Is.below Hb.out hb)
  have Hc := Lib.hid (Is.below Hc.out hb)
  clear hb
  go_wp2_with fail
  refine (cmp_is 1 Hb.out Hc.out (cmpN_gt (by omega))).mono ?_
  rintro e w4 ⟨v4, rfl, rfl, hb⟩
  have HB4 := Lib.hid (HB3.out.trans (hb.mono HB3.out.size))
  have Ha := Lib.hid (Is.below Ha.out hb)
  have Hb := Lib.hid (Is.below Hb.out hb)
  have Hc := Lib.hid (Is.below Hc.out hb)
  clear hb
  go_wp2_with fail
  refine (rcmp_is 0 Ha.out Hb.out (cmpN_eq (by omega))).mono ?_
  rintro e w5 ⟨v5, rfl, rfl, hb⟩
  have HB5 := Lib.hid (HB4.out.trans (hb.mono HB4.out.size))
  have Ha := Lib.hid (Is.below Ha.out hb)
  have Hb := Lib.hid (Is.below Hb.out hb)
  have Hc := Lib.hid (Is.below Hc.out hb)
  clear hb
  go_wp2_with fail
  refine (cmp_is 0 Hb.out Ha.out (cmpN_eq (by omega))).mono ?_
  rintro e w6 ⟨v6, rfl, rfl, hb⟩
  have HB6 := Lib.hid (HB5.out.trans (hb.mono HB5.out.size))
  have Ha := Lib.hid (Is.below Ha.out hb)
  have Hb := Lib.hid (Is.below Hb.out hb)
  have Hc := Lib.hid (Is.below Hc.out hb)
  clear hb
  go_wp2_with fail
  refine (cmp_is 0 Ha.out Ha.out (cmpN_eq rfl)).mono ?_
  rintro e w7 ⟨v7, rfl, rfl, hb⟩
  have HB7 := Lib.hid (HB6.out.trans (hb.mono HB6.out.size))
  have Ha := Lib.hid (Is.below Ha.out hb)
  have Hb := Lib.hid (Is.below Hb.out hb)
  have Hc := Lib.hid (Is.below Hc.out hb)
  clear hb
  go_wp2_with fail
  refine (add_is Ha.out Hc.out (by decide) (by decide)).mono ?_
  rintro e w8 ⟨v8, rfl, hp, hb⟩
  have HB8 := Lib.hid (HB7.out.trans (hb.mono HB7.out.size))
  have Hb := Lib.hid (Is.below Hb.out hb)
  have Hc := Lib.hid (Is.below Hc.out hb)
  have Hp := Lib.hid hp
  clear hb hp
  go_wp2_with fail
  refine (add_is Hb.out Hc.out (by decide) (by decide)).mono ?_
  rintro e w9 ⟨v9, rfl, hq, hb⟩
  have HB9 := Lib.hid (HB8.out.trans (hb.mono HB8.out.size))
  have Hp := Lib.hid (Can.below Hp.out hb)
  have Hq := Lib.hid hq
  clear hb hq
  go_wp2_with fail
  refine (cmp_is 0 Hp.out.is Hq.out.is (cmpN_eq (by omega))).mono ?_
  rintro e w10 ⟨v10, rfl, rfl, hb⟩
  have HB10 := Lib.hid (HB9.out.trans (hb.mono HB9.out.size))
  clear hb
  go_wp2
  go_ret
  exact ⟨_, rfl, rfl, HB10.out⟩

set_option maxRecDepth 100000 in
theorem NaturalCompare_nearpm (aa : Option Addr) (na ca : Nat) (ab : Option Addr) (nb cb : Nat) (ac : Option Addr) (nc cc : Nat) (w : World) (Xa : Nat) (ha : Is Xa 12 w (.slice aa na ca)) (la : na ≤ 12) (Xb : Nat) (hb : Is Xb 12 w (.slice ab nb cb)) (lb : nb ≤ 12) (Xc : Nat) (hc : Is Xc 12 w (.slice ac nc cc)) (lc : nc ≤ 12) (hx : Xb < Xa) (hy : Xb < Xc) :
    Calls Try.prog 6 #[.slice aa na ca, .slice ab nb cb, .slice ac nc cc] w (Ret w (Val (.bool true))) := by
  have Ha := Lib.hid ha
  have Hb := Lib.hid hb
  have Hc := Lib.hid hc
  clear ha hb hc
  go_enter Try.func6, Try.ntmps6
  have hc : decide ((12 : Int) < nc) = false := by simpa using (show (nc : Int) ≤ 12 by omega)
  go_wp2_with fail
  refine (awake_any _).mono ?_
  rintro e w1 ⟨v1, rfl, rfl, hb⟩
  have HB1 := Lib.hid hb
  have Ha := Lib.hid (Is.below Ha.out hb)
  have Hb := Lib.hid (Is.below Hb.out hb)
  have Hc := Lib.hid (Is.below Hc.out hb)
  clear hb
  go_wp2_with fail
  refine (few_yes la lb).mono ?_
  rintro e w2 ⟨v2, rfl, rfl, hb⟩
  have HB2 := Lib.hid (HB1.out.trans (hb.mono HB1.out.size))
  have Ha := Lib.hid (Is.below Ha.out hb)
  have Hb := Lib.hid (Is.below Hb.out hb)
  have Hc := Lib.hid (Is.below Hc.out hb)
  clear hb
  go_wp2_with fail
  refine (cmp_is 1 Ha.out Hb.out (cmpN_gt (by omega))).mono ?_
  rintro e w3 ⟨v3, rfl, rfl, hb⟩
  have HB3 := Lib.hid (HB2.out.trans (hb.mono HB2.out.size))
  have Ha := Lib.hid (Is.below Ha.out hb)
  have Hb := Lib.hid (Is.below Hb.out hb)
  have Hc := Lib.hid (Is.below Hc.out hb)
  clear hb
  go_wp2_with fail
  refine (cmp_is (-1) Hb.out Hc.out (cmpN_lt (by omega))).mono ?_
  rintro e w4 ⟨v4, rfl, rfl, hb⟩
  have HB4 := Lib.hid (HB3.out.trans (hb.mono HB3.out.size))
  have Ha := Lib.hid (Is.below Ha.out hb)
  have Hb := Lib.hid (Is.below Hb.out hb)
  have Hc := Lib.hid (Is.below Hc.out hb)
  clear hb
  go_wp2_with fail
  refine (rcmp_is 1 Ha.out Hb.out (cmpN_gt (by omega))).mono ?_
  rintro e w5 ⟨v5, rfl, rfl, hb⟩
  have HB5 := Lib.hid (HB4.out.trans (hb.mono HB4.out.size))
  have Ha := Lib.hid (Is.below Ha.out hb)
  have Hb := Lib.hid (Is.below Hb.out hb)
  have Hc := Lib.hid (Is.below Hc.out hb)
  clear hb
  go_wp2_with fail
  refine (cmp_is (-1) Hb.out Ha.out (cmpN_lt (by omega))).mono ?_
  rintro e w6 ⟨v6, rfl, rfl, hb⟩
  have HB6 := Lib.hid (HB5.out.trans (hb.mono HB5.out.size))
  have Ha := Lib.hid (Is.below Ha.out hb)
  have Hb := Lib.hid (Is.below Hb.out hb)
  have Hc := Lib.hid (Is.below Hc.out hb)
  clear hb
  go_wp2_with fail
  refine (cmp_is 0 Ha.out Ha.out (cmpN_eq rfl)).mono ?_
  rintro e w7 ⟨v7, rfl, rfl, hb⟩
  have HB7 := Lib.hid (HB6.out.trans (hb.mono HB6.out.size))
  have Ha := Lib.hid (Is.below Ha.out hb)
  have Hb := Lib.hid (Is.below Hb.out hb)
  have Hc := Lib.hid (Is.below Hc.out hb)
  clear hb
  go_wp2_with fail
  refine (add_is Ha.out Hc.out (by decide) (by decide)).mono ?_
  rintro e w8 ⟨v8, rfl, hp, hb⟩
  have HB8 := Lib.hid (HB7.out.trans (hb.mono HB7.out.size))
  have Hb := Lib.hid (Is.below Hb.out hb)
  have Hc := Lib.hid (Is.below Hc.out hb)
  have Hp := Lib.hid hp
  clear hb hp
  go_wp2_with fail
  refine (add_is Hb.out Hc.out (by decide) (by decide)).mono ?_
  rintro e w9 ⟨v9, rfl, hq, hb⟩
  have HB9 := Lib.hid (HB8.out.trans (hb.mono HB8.out.size))
  have Hp := Lib.hid (Can.below Hp.out hb)
  have Hq := Lib.hid hq
  clear hb hq
  go_wp2_with fail
  refine (cmp_is 1 Hp.out.is Hq.out.is (cmpN_gt (by omega))).mono ?_
  rintro e w10 ⟨v10, rfl, rfl, hb⟩
  have HB10 := Lib.hid (HB9.out.trans (hb.mono HB9.out.size))
  clear hb
  go_wp2
  go_ret
  exact ⟨_, rfl, rfl, HB10.out⟩

set_option maxRecDepth 100000 in
theorem NaturalCompare_nearpz (aa : Option Addr) (na ca : Nat) (ab : Option Addr) (nb cb : Nat) (ac : Option Addr) (nc cc : Nat) (w : World) (Xa : Nat) (ha : Is Xa 12 w (.slice aa na ca)) (la : na ≤ 12) (Xb : Nat) (hb : Is Xb 12 w (.slice ab nb cb)) (lb : nb ≤ 12) (Xc : Nat) (hc : Is Xc 12 w (.slice ac nc cc)) (lc : nc ≤ 12) (hx : Xb < Xa) (hy : Xb = Xc) :
    Calls Try.prog 6 #[.slice aa na ca, .slice ab nb cb, .slice ac nc cc] w (Ret w (Val (.bool true))) := by
  have Ha := Lib.hid ha
  have Hb := Lib.hid hb
  have Hc := Lib.hid hc
  clear ha hb hc
  go_enter Try.func6, Try.ntmps6
  have hc : decide ((12 : Int) < nc) = false := by simpa using (show (nc : Int) ≤ 12 by omega)
  go_wp2_with fail
  refine (awake_any _).mono ?_
  rintro e w1 ⟨v1, rfl, rfl, hb⟩
  have HB1 := Lib.hid hb
  have Ha := Lib.hid (Is.below Ha.out hb)
  have Hb := Lib.hid (Is.below Hb.out hb)
  have Hc := Lib.hid (Is.below Hc.out hb)
  clear hb
  go_wp2_with fail
  refine (few_yes la lb).mono ?_
  rintro e w2 ⟨v2, rfl, rfl, hb⟩
  have HB2 := Lib.hid (HB1.out.trans (hb.mono HB1.out.size))
  have Ha := Lib.hid (Is.below Ha.out hb)
  have Hb := Lib.hid (Is.below Hb.out hb)
  have Hc := Lib.hid (Is.below Hc.out hb)
  clear hb
  go_wp2_with fail
  refine (cmp_is 1 Ha.out Hb.out (cmpN_gt (by omega))).mono ?_
  rintro e w3 ⟨v3, rfl, rfl, hb⟩
  have HB3 := Lib.hid (HB2.out.trans (hb.mono HB2.out.size))
  have Ha := Lib.hid (Is.below Ha.out hb)
  have Hb := Lib.hid (Is.below Hb.out hb)
  have Hc := Lib.hid (Is.below Hc.out hb)
  clear hb
  go_wp2_with fail
  refine (cmp_is 0 Hb.out Hc.out (cmpN_eq (by omega))).mono ?_
  rintro e w4 ⟨v4, rfl, rfl, hb⟩
  have HB4 := Lib.hid (HB3.out.trans (hb.mono HB3.out.size))
  have Ha := Lib.hid (Is.below Ha.out hb)
  have Hb := Lib.hid (Is.below Hb.out hb)
  have Hc := Lib.hid (Is.below Hc.out hb)
  clear hb
  go_wp2_with fail
  refine (rcmp_is 1 Ha.out Hb.out (cmpN_gt (by omega))).mono ?_
  rintro e w5 ⟨v5, rfl, rfl, hb⟩
  have HB5 := Lib.hid (HB4.out.trans (hb.mono HB4.out.size))
  have Ha := Lib.hid (Is.below Ha.out hb)
  have Hb := Lib.hid (Is.below Hb.out hb)
  have Hc := Lib.hid (Is.below Hc.out hb)
  clear hb
  go_wp2_with fail
  refine (cmp_is (-1) Hb.out Ha.out (cmpN_lt (by omega))).mono ?_
  rintro e w6 ⟨v6, rfl, rfl, hb⟩
  have HB6 := Lib.hid (HB5.out.trans (hb.mono HB5.out.size))
  have Ha := Lib.hid (Is.below Ha.out hb)
  have Hb := Lib.hid (Is.below Hb.out hb)
  have Hc := Lib.hid (Is.below Hc.out hb)
  clear hb
  go_wp2_with fail
  refine (cmp_is 0 Ha.out Ha.out (cmpN_eq rfl)).mono ?_
  rintro e w7 ⟨v7, rfl, rfl, hb⟩
  have HB7 := Lib.hid (HB6.out.trans (hb.mono HB6.out.size))
  have Ha := Lib.hid (Is.below Ha.out hb)
  have Hb := Lib.hid (Is.below Hb.out hb)
  have Hc := Lib.hid (Is.below Hc.out hb)
  clear hb
  go_wp2_with fail
  refine (add_is Ha.out Hc.out (by decide) (by decide)).mono ?_
  rintro e w8 ⟨v8, rfl, hp, hb⟩
  have HB8 := Lib.hid (HB7.out.trans (hb.mono HB7.out.size))
  have Hb := Lib.hid (Is.below Hb.out hb)
  have Hc := Lib.hid (Is.below Hc.out hb)
  have Hp := Lib.hid hp
  clear hb hp
  go_wp2_with fail
  refine (add_is Hb.out Hc.out (by decide) (by decide)).mono ?_
  rintro e w9 ⟨v9, rfl, hq, hb⟩
  have HB9 := Lib.hid (HB8.out.trans (hb.mono HB8.out.size))
  have Hp := Lib.hid (Can.below Hp.out hb)
  have Hq := Lib.hid hq
  clear hb hq
  go_wp2_with fail
  refine (cmp_is 1 Hp.out.is Hq.out.is (cmpN_gt (by omega))).mono ?_
  rintro e w10 ⟨v10, rfl, rfl, hb⟩
  have HB10 := Lib.hid (HB9.out.trans (hb.mono HB9.out.size))
  clear hb
  go_wp2
  go_ret
  exact ⟨_, rfl, rfl, HB10.out⟩

set_option maxRecDepth 100000 in
theorem NaturalCompare_nearpp (aa : Option Addr) (na ca : Nat) (ab : Option Addr) (nb cb : Nat) (ac : Option Addr) (nc cc : Nat) (w : World) (Xa : Nat) (ha : Is Xa 12 w (.slice aa na ca)) (la : na ≤ 12) (Xb : Nat) (hb : Is Xb 12 w (.slice ab nb cb)) (lb : nb ≤ 12) (Xc : Nat) (hc : Is Xc 12 w (.slice ac nc cc)) (lc : nc ≤ 12) (hx : Xb < Xa) (hy : Xc < Xb) :
    Calls Try.prog 6 #[.slice aa na ca, .slice ab nb cb, .slice ac nc cc] w (Ret w (Val (.bool true))) := by
  have Ha := Lib.hid ha
  have Hb := Lib.hid hb
  have Hc := Lib.hid hc
  clear ha hb hc
  go_enter Try.func6, Try.ntmps6
  have hc : decide ((12 : Int) < nc) = false := by simpa using (show (nc : Int) ≤ 12 by omega)
  go_wp2_with fail
  refine (awake_any _).mono ?_
  rintro e w1 ⟨v1, rfl, rfl, hb⟩
  have HB1 := Lib.hid hb
  have Ha := Lib.hid (Is.below Ha.out hb)
  have Hb := Lib.hid (Is.below Hb.out hb)
  have Hc := Lib.hid (Is.below Hc.out hb)
  clear hb
  go_wp2_with fail
  refine (few_yes la lb).mono ?_
  rintro e w2 ⟨v2, rfl, rfl, hb⟩
  have HB2 := Lib.hid (HB1.out.trans (hb.mono HB1.out.size))
  have Ha := Lib.hid (Is.below Ha.out hb)
  have Hb := Lib.hid (Is.below Hb.out hb)
  have Hc := Lib.hid (Is.below Hc.out hb)
  clear hb
  go_wp2_with fail
  refine (cmp_is 1 Ha.out Hb.out (cmpN_gt (by omega))).mono ?_
  rintro e w3 ⟨v3, rfl, rfl, hb⟩
  have HB3 := Lib.hid (HB2.out.trans (hb.mono HB2.out.size))
  have Ha := Lib.hid (Is.below Ha.out hb)
  have Hb := Lib.hid (Is.below Hb.out hb)
  have Hc := Lib.hid (Is.below Hc.out hb)
  clear hb
  go_wp2_with fail
  refine (cmp_is 1 Hb.out Hc.out (cmpN_gt (by omega))).mono ?_
  rintro e w4 ⟨v4, rfl, rfl, hb⟩
  have HB4 := Lib.hid (HB3.out.trans (hb.mono HB3.out.size))
  have Ha := Lib.hid (Is.below Ha.out hb)
  have Hb := Lib.hid (Is.below Hb.out hb)
  have Hc := Lib.hid (Is.below Hc.out hb)
  clear hb
  go_wp2_with fail
  refine (rcmp_is 1 Ha.out Hb.out (cmpN_gt (by omega))).mono ?_
  rintro e w5 ⟨v5, rfl, rfl, hb⟩
  have HB5 := Lib.hid (HB4.out.trans (hb.mono HB4.out.size))
  have Ha := Lib.hid (Is.below Ha.out hb)
  have Hb := Lib.hid (Is.below Hb.out hb)
  have Hc := Lib.hid (Is.below Hc.out hb)
  clear hb
  go_wp2_with fail
  refine (cmp_is (-1) Hb.out Ha.out (cmpN_lt (by omega))).mono ?_
  rintro e w6 ⟨v6, rfl, rfl, hb⟩
  have HB6 := Lib.hid (HB5.out.trans (hb.mono HB5.out.size))
  have Ha := Lib.hid (Is.below Ha.out hb)
  have Hb := Lib.hid (Is.below Hb.out hb)
  have Hc := Lib.hid (Is.below Hc.out hb)
  clear hb
  go_wp2_with fail
  refine (cmp_is 0 Ha.out Ha.out (cmpN_eq rfl)).mono ?_
  rintro e w7 ⟨v7, rfl, rfl, hb⟩
  have HB7 := Lib.hid (HB6.out.trans (hb.mono HB6.out.size))
  have Ha := Lib.hid (Is.below Ha.out hb)
  have Hb := Lib.hid (Is.below Hb.out hb)
  have Hc := Lib.hid (Is.below Hc.out hb)
  clear hb
  go_wp2_with fail
  refine (add_is Ha.out Hc.out (by decide) (by decide)).mono ?_
  rintro e w8 ⟨v8, rfl, hp, hb⟩
  have HB8 := Lib.hid (HB7.out.trans (hb.mono HB7.out.size))
  have Hb := Lib.hid (Is.below Hb.out hb)
  have Hc := Lib.hid (Is.below Hc.out hb)
  have Hp := Lib.hid hp
  clear hb hp
  go_wp2_with fail
  refine (add_is Hb.out Hc.out (by decide) (by decide)).mono ?_
  rintro e w9 ⟨v9, rfl, hq, hb⟩
  have HB9 := Lib.hid (HB8.out.trans (hb.mono HB8.out.size))
  have Hp := Lib.hid (Can.below Hp.out hb)
  have Hq := Lib.hid hq
  clear hb hq
  go_wp2_with fail
  refine (cmp_is 1 Hp.out.is Hq.out.is (cmpN_gt (by omega))).mono ?_
  rintro e w10 ⟨v10, rfl, rfl, hb⟩
  have HB10 := Lib.hid (HB9.out.trans (hb.mono HB9.out.size))
  clear hb
  go_wp2
  go_ret
  exact ⟨_, rfl, rfl, HB10.out⟩

set_option maxRecDepth 100000 in
theorem NaturalCompare_all (aa : Option Addr) (na ca : Nat) (ab : Option Addr) (nb cb : Nat) (ac : Option Addr) (nc cc : Nat) (w : World) (ra : Row w (.slice aa na ca) na) (rb : Row w (.slice ab nb cb) nb) (rc : Row w (.slice ac nc cc) nc) :
    Calls Try.prog 6 #[.slice aa na ca, .slice ab nb cb, .slice ac nc cc] w (Ret w (Val (.bool true))) := by
  by_cases h : 12 < na ∨ 12 < nb
  · exact NaturalCompare_far1 _ _ _ _ _ _ _ _ _ _ h
  by_cases hc : 12 < nc
  · exact NaturalCompare_far2 _ _ _ _ _ _ _ _ _ _ (by omega) (by omega) hc
  obtain ⟨Xa, ha⟩ := ra.is 12 (by omega) (by decide)
  obtain ⟨Xb, hb⟩ := rb.is 12 (by omega) (by decide)
  obtain ⟨Xc, hc⟩ := rc.is 12 (by omega) (by decide)
  rcases Nat.lt_trichotomy Xa Xb with hx | hx | hx
  · rcases Nat.lt_trichotomy Xb Xc with hy | hy | hy
    · exact NaturalCompare_nearmm _ _ _ _ _ _ _ _ _ _ Xa ha (by omega) Xb hb (by omega) Xc hc (by omega) hx hy
    · exact NaturalCompare_nearmz _ _ _ _ _ _ _ _ _ _ Xa ha (by omega) Xb hb (by omega) Xc hc (by omega) hx hy
    · exact NaturalCompare_nearmp _ _ _ _ _ _ _ _ _ _ Xa ha (by omega) Xb hb (by omega) Xc hc (by omega) hx hy
  · rcases Nat.lt_trichotomy Xb Xc with hy | hy | hy
    · exact NaturalCompare_nearzm _ _ _ _ _ _ _ _ _ _ Xa ha (by omega) Xb hb (by omega) Xc hc (by omega) hx hy
    · exact NaturalCompare_nearzz _ _ _ _ _ _ _ _ _ _ Xa ha (by omega) Xb hb (by omega) Xc hc (by omega) hx hy
    · exact NaturalCompare_nearzp _ _ _ _ _ _ _ _ _ _ Xa ha (by omega) Xb hb (by omega) Xc hc (by omega) hx hy
  · rcases Nat.lt_trichotomy Xb Xc with hy | hy | hy
    · exact NaturalCompare_nearpm _ _ _ _ _ _ _ _ _ _ Xa ha (by omega) Xb hb (by omega) Xc hc (by omega) hx hy
    · exact NaturalCompare_nearpz _ _ _ _ _ _ _ _ _ _ Xa ha (by omega) Xb hb (by omega) Xc hc (by omega) hx hy
    · exact NaturalCompare_nearpp _ _ _ _ _ _ _ _ _ _ Xa ha (by omega) Xb hb (by omega) Xc hc (by omega) hx hy

set_option maxRecDepth 100000 in
theorem NaturalDivide_far1 (aa : Option Addr) (na ca : Nat) (ab : Option Addr) (nb cb : Nat) (w : World)  (la : 8 < na) :
    Calls Try.prog 5 #[.slice aa na ca, .slice ab nb cb] w (Ret w (Val (.bool true))) := by
  go_enter Try.func5, Try.ntmps5
  have ha : decide ((8 : Int) < na) = true := by simpa using (show (8 : Int) < na by omega)
  go_wp2_with fail
  refine (awake_any _).mono ?_
  rintro e w1 ⟨v1, rfl, rfl, hb⟩
  have HB1 := Lib.hid hb
  clear hb
  go_wp2
  go_ret
  exact ⟨_, rfl, rfl, HB1.out⟩

set_option maxRecDepth 100000 in
theorem NaturalDivide_far2 (aa : Option Addr) (na ca : Nat) (ab : Option Addr) (nb cb : Nat) (w : World) (la : na ≤ 8) (lb : 8 < nb) :
    Calls Try.prog 5 #[.slice aa na ca, .slice ab nb cb] w (Ret w (Val (.bool true))) := by
  go_enter Try.func5, Try.ntmps5
  have ha : decide ((8 : Int) < na) = false := by simpa using (show (na : Int) ≤ 8 by omega)
  have hb : decide ((8 : Int) < nb) = true := by simpa using (show (8 : Int) < nb by omega)
  go_wp2_with fail
  refine (awake_any _).mono ?_
  rintro e w1 ⟨v1, rfl, rfl, hb⟩
  have HB1 := Lib.hid hb
  clear hb
  go_wp2
  go_ret
  exact ⟨_, rfl, rfl, HB1.out⟩

set_option maxRecDepth 100000 in
theorem NaturalDivide_zero (aa : Option Addr) (na ca : Nat) (ab : Option Addr) (nb cb : Nat) (w : World) (Xa : Nat) (ha : Is Xa 8 w (.slice aa na ca)) (la : na ≤ 8) (Xb : Nat) (hb : Is Xb 8 w (.slice ab nb cb)) (lb : nb ≤ 8) (h0 : Xb = 0) :
    Calls Try.prog 5 #[.slice aa na ca, .slice ab nb cb] w (Ret w (Val (.bool true))) := by
  have Ha := Lib.hid ha
  have Hb := Lib.hid hb
  clear ha hb
  go_enter Try.func5, Try.ntmps5
  have ha : decide ((8 : Int) < na) = false := by simpa using (show (na : Int) ≤ 8 by omega)
  have hb : decide ((8 : Int) < nb) = false := by simpa using (show (nb : Int) ≤ 8 by omega)
  go_wp2_with fail
  refine (awake_any _).mono ?_
  rintro e w1 ⟨v1, rfl, rfl, hb⟩
  have HB1 := Lib.hid hb
  have Ha := Lib.hid (Is.below Ha.out hb)
  have Hb := Lib.hid (Is.below Hb.out hb)
  clear hb
  go_wp2_with fail
  refine (copied_is Ha.out).mono ?_
  rintro e w2 ⟨v2, rfl, ht, hb⟩
  have HB2 := Lib.hid (HB1.out.trans (hb.mono HB1.out.size))
  have Hb := Lib.hid (Is.below Hb.out hb)
  have Ht := Lib.hid ht
  clear hb ht
  go_wp2_with fail
  refine (copied_is Hb.out).mono ?_
  rintro e w3 ⟨v3, rfl, hu, hb⟩
  have HB3 := Lib.hid (HB2.out.trans (hb.mono HB2.out.size))
  have Hb := Lib.hid (Is.below Hb.out hb)
  have Ht := Lib.hid (Is.below Ht.out hb)
  have Hu := Lib.hid hu
  clear hb hu
  go_wp2_with fail
  refine (divmod_zero h0 Ht.out Hu.out (by decide)).mono ?_
  rintro e w4 ⟨v4, rfl, ⟨ad1, ct1, ad2, ct2, rfl⟩, hb⟩
  have HB4 := Lib.hid (HB3.out.trans (hb.mono HB3.out.size))
  have Hb := Lib.hid (Is.below Hb.out hb)
  clear hb
  go_wp2_with fail
  refine (rmake_nil h0 Hb.out).mono ?_
  rintro e w5 ⟨v5, rfl, ⟨ad3, ct3, rfl⟩, hb⟩
  have HB5 := Lib.hid (HB4.out.trans (hb.mono HB4.out.size))
  clear hb
  go_wp2
  go_ret
  exact ⟨_, rfl, rfl, HB5.out⟩

set_option maxRecDepth 100000 in
theorem NaturalDivide_pos (aa : Option Addr) (na ca : Nat) (ab : Option Addr) (nb cb : Nat) (w : World) (Xa : Nat) (ha : Is Xa 8 w (.slice aa na ca)) (la : na ≤ 8) (Xb : Nat) (hb : Is Xb 8 w (.slice ab nb cb)) (lb : nb ≤ 8) (h0 : 0 < Xb) :
    Calls Try.prog 5 #[.slice aa na ca, .slice ab nb cb] w (Ret w (Val (.bool true))) := by
  have Ha := Lib.hid ha
  have Hb := Lib.hid hb
  clear ha hb
  go_enter Try.func5, Try.ntmps5
  have ha : decide ((8 : Int) < na) = false := by simpa using (show (na : Int) ≤ 8 by omega)
  have hb : decide ((8 : Int) < nb) = false := by simpa using (show (nb : Int) ≤ 8 by omega)
  go_wp2_with fail
  refine (awake_any _).mono ?_
  rintro e w1 ⟨v1, rfl, rfl, hb⟩
  have HB1 := Lib.hid hb
  have Ha := Lib.hid (Is.below Ha.out hb)
  have Hb := Lib.hid (Is.below Hb.out hb)
  clear hb
  go_wp2_with fail
  refine (copied_is Ha.out).mono ?_
  rintro e w2 ⟨v2, rfl, ht, hb⟩
  have HB2 := Lib.hid (HB1.out.trans (hb.mono HB1.out.size))
  have Ha := Lib.hid (Is.below Ha.out hb)
  have Hb := Lib.hid (Is.below Hb.out hb)
  have Ht := Lib.hid ht
  clear hb ht
  go_wp2_with fail
  refine (copied_is Hb.out).mono ?_
  rintro e w3 ⟨v3, rfl, hu, hb⟩
  have HB3 := Lib.hid (HB2.out.trans (hb.mono HB2.out.size))
  have Ha := Lib.hid (Is.below Ha.out hb)
  have Hb := Lib.hid (Is.below Hb.out hb)
  have Ht := Lib.hid (Is.below Ht.out hb)
  have Hu := Lib.hid hu
  clear hb hu
  go_wp2_with fail
  refine (divmod_pos h0 Ht.out Hu.out (by decide)).mono ?_
  rintro e w4 ⟨t4, rfl, ⟨v4, u4, rfl, hq, hr⟩, hb⟩
  have HB4 := Lib.hid (HB3.out.trans (hb.mono HB3.out.size))
  have Ha := Lib.hid (Is.below Ha.out hb)
  have Hb := Lib.hid (Is.below Hb.out hb)
  have Hq := Lib.hid hq
  have Hr := Lib.hid hr
  clear hb hq hr
  go_wp2_with fail
  refine (rmake_pos h0 Hb.out).mono ?_
  rintro e w5 ⟨v5, rfl, ⟨ad3, n3, ct3, rfl, hn3⟩, hb⟩
  have hn4 : ((n3 : Int) == 0) = false := by simpa using (show n3 ≠ 0 by omega)
  clear hn3
  have HB5 := Lib.hid (HB4.out.trans (hb.mono HB4.out.size))
  have Ha := Lib.hid (Is.below Ha.out hb)
  have Hb := Lib.hid (Is.below Hb.out hb)
  have Hq := Lib.hid (Can.below Hq.out hb)
  have Hr := Lib.hid (Can.below Hr.out hb)
  clear hb
  go_wp2_with fail
  refine (valid_can Hq.out).mono ?_
  rintro e w6 ⟨v6, rfl, rfl, hb⟩
  have HB6 := Lib.hid (HB5.out.trans (hb.mono HB5.out.size))
  have Ha := Lib.hid (Is.below Ha.out hb)
  have Hb := Lib.hid (Is.below Hb.out hb)
  have Hq := Lib.hid (Can.below Hq.out hb)
  have Hr := Lib.hid (Can.below Hr.out hb)
  clear hb
  go_wp2_with fail
  refine (valid_can Hr.out).mono ?_
  rintro e w7 ⟨v7, rfl, rfl, hb⟩
  have HB7 := Lib.hid (HB6.out.trans (hb.mono HB6.out.size))
  have Ha := Lib.hid (Is.below Ha.out hb)
  have Hb := Lib.hid (Is.below Hb.out hb)
  have Hq := Lib.hid (Can.below Hq.out hb)
  have Hr := Lib.hid (Can.below Hr.out hb)
  clear hb
  go_wp2_with fail
  refine (rcmp_is (-1) Hr.out.is Hb.out (cmpN_lt (Nat.mod_lt _ h0))).mono ?_
  rintro e w8 ⟨v8, rfl, rfl, hb⟩
  have HB8 := Lib.hid (HB7.out.trans (hb.mono HB7.out.size))
  have Ha := Lib.hid (Is.below Ha.out hb)
  have Hb := Lib.hid (Is.below Hb.out hb)
  have Hq := Lib.hid (Can.below Hq.out hb)
  have Hr := Lib.hid (Can.below Hr.out hb)
  clear hb
  go_wp2_with fail
  refine (rmul_is Hq.out.is Hb.out (by decide) (by decide)).mono ?_
  rintro e w9 ⟨v9, rfl, hm, hb⟩
  have HB9 := Lib.hid (HB8.out.trans (hb.mono HB8.out.size))
  have Ha := Lib.hid (Is.below Ha.out hb)
  have Hr := Lib.hid (Can.below Hr.out hb)
  have Hm := Lib.hid hm
  clear hb hm
  go_wp2_with fail
  refine (radd_is Hm.out.is Hr.out.is (by decide) (by decide)).mono ?_
  rintro e w10 ⟨v10, rfl, hs, hb⟩
  have HB10 := Lib.hid (HB9.out.trans (hb.mono HB9.out.size))
  have Ha := Lib.hid (Is.below Ha.out hb)
  have Hs := Lib.hid hs
  clear hb hs
  go_wp2_with fail
  refine (rcmp_is 0 Hs.out.is Ha.out (cmpN_eq (by rw [Nat.mul_comm]; exact Nat.div_add_mod _ _))).mono ?_
  rintro e w11 ⟨v11, rfl, rfl, hb⟩
  have HB11 := Lib.hid (HB10.out.trans (hb.mono HB10.out.size))
  clear hb
  go_wp2
  go_ret
  exact ⟨_, rfl, rfl, HB11.out⟩

set_option maxRecDepth 100000 in
theorem NaturalDivide_all (aa : Option Addr) (na ca : Nat) (ab : Option Addr) (nb cb : Nat) (w : World) (ra : Row w (.slice aa na ca) na) (rb : Row w (.slice ab nb cb) nb) :
    Calls Try.prog 5 #[.slice aa na ca, .slice ab nb cb] w (Ret w (Val (.bool true))) := by
  by_cases ha0 : 8 < na
  · exact NaturalDivide_far1 _ _ _ _ _ _ _  ha0
  by_cases hb0 : 8 < nb
  · exact NaturalDivide_far2 _ _ _ _ _ _ _ (by omega) hb0
  obtain ⟨Xa, ha⟩ := ra.is 8 (by omega) (by decide)
  obtain ⟨Xb, hb⟩ := rb.is 8 (by omega) (by decide)
  rcases Nat.eq_zero_or_pos Xb with h0 | h0
  · exact NaturalDivide_zero _ _ _ _ _ _ _ Xa ha (by omega) Xb hb (by omega) h0
  · exact NaturalDivide_pos _ _ _ _ _ _ _ Xa ha (by omega) Xb hb (by omega) h0

set_option maxRecDepth 100000 in
theorem NaturalDivides_far1 (aa : Option Addr) (na ca : Nat) (ab : Option Addr) (nb cb : Nat) (ac : Option Addr) (nc cc : Nat) (w : World)  (la : 6 < na) :
    Calls Try.prog 11 #[.slice aa na ca, .slice ab nb cb, .slice ac nc cc] w (Ret w (Val (.bool true))) := by
  go_enter Try.func11, Try.ntmps11
  have ha : decide ((6 : Int) < na) = true := by simpa using (show (6 : Int) < na by omega)
  go_wp2_with fail
  refine (awake_any _).mono ?_
  rintro e w1 ⟨v1, rfl, rfl, hb⟩
  have HB1 := Lib.hid hb
  clear hb
  go_wp2
  go_ret
  exact ⟨_, rfl, rfl, HB1.out⟩

set_option maxRecDepth 100000 in
theorem NaturalDivides_far2 (aa : Option Addr) (na ca : Nat) (ab : Option Addr) (nb cb : Nat) (ac : Option Addr) (nc cc : Nat) (w : World) (la : na ≤ 6) (lb : 6 < nb) :
    Calls Try.prog 11 #[.slice aa na ca, .slice ab nb cb, .slice ac nc cc] w (Ret w (Val (.bool true))) := by
  go_enter Try.func11, Try.ntmps11
  have ha : decide ((6 : Int) < na) = false := by simpa using (show (na : Int) ≤ 6 by omega)
  have hb : decide ((6 : Int) < nb) = true := by simpa using (show (6 : Int) < nb by omega)
  go_wp2_with fail
  refine (awake_any _).mono ?_
  rintro e w1 ⟨v1, rfl, rfl, hb⟩
  have HB1 := Lib.hid hb
  clear hb
  go_wp2
  go_ret
  exact ⟨_, rfl, rfl, HB1.out⟩

set_option maxRecDepth 100000 in
theorem NaturalDivides_far3 (aa : Option Addr) (na ca : Nat) (ab : Option Addr) (nb cb : Nat) (ac : Option Addr) (nc cc : Nat) (w : World) (la : na ≤ 6) (lb : nb ≤ 6) (lc : 6 < nc) :
    Calls Try.prog 11 #[.slice aa na ca, .slice ab nb cb, .slice ac nc cc] w (Ret w (Val (.bool true))) := by
  go_enter Try.func11, Try.ntmps11
  have ha : decide ((6 : Int) < na) = false := by simpa using (show (na : Int) ≤ 6 by omega)
  have hb : decide ((6 : Int) < nb) = false := by simpa using (show (nb : Int) ≤ 6 by omega)
  have hc : decide ((6 : Int) < nc) = true := by simpa using (show (6 : Int) < nc by omega)
  go_wp2_with fail
  refine (awake_any _).mono ?_
  rintro e w1 ⟨v1, rfl, rfl, hb⟩
  have HB1 := Lib.hid hb
  clear hb
  go_wp2
  go_ret
  exact ⟨_, rfl, rfl, HB1.out⟩

set_option maxRecDepth 100000 in
theorem NaturalDivides_eq (aa : Option Addr) (na ca : Nat) (ab : Option Addr) (nb cb : Nat) (ac : Option Addr) (nc cc : Nat) (w : World) (Xa : Nat) (ha : Is Xa 6 w (.slice aa na ca)) (la : na ≤ 6) (Xb : Nat) (hb : Is Xb 6 w (.slice ab nb cb)) (lb : nb ≤ 6) (Xc : Nat) (hc : Is Xc 6 w (.slice ac nc cc)) (lc : nc ≤ 6) (h0 : Xc = Xb) :
    Calls Try.prog 11 #[.slice aa na ca, .slice ab nb cb, .slice ac nc cc] w (Ret w (Val (.bool true))) := by
  have Ha := Lib.hid ha
  have Hb := Lib.hid hb
  have Hc := Lib.hid hc
  clear ha hb hc
  go_enter Try.func11, Try.ntmps11
  have ha : decide ((6 : Int) < na) = false := by simpa using (show (na : Int) ≤ 6 by omega)
  have hb : decide ((6 : Int) < nb) = false := by simpa using (show (nb : Int) ≤ 6 by omega)
  have hc : decide ((6 : Int) < nc) = false := by simpa using (show (nc : Int) ≤ 6 by omega)
  go_wp2_with fail
  refine (awake_any _).mono ?_
  rintro e w1 ⟨v1, rfl, rfl, hb⟩
  have HB1 := Lib.hid hb
  have Hb := Lib.hid (Is.below Hb.out hb)
  have Hc := Lib.hid (Is.below Hc.out hb)
  clear hb
  go_wp2_with fail
  refine (rcmp_is 0 Hc.out Hb.out (cmpN_eq h0)).mono ?_
  rintro e w2 ⟨v2, rfl, rfl, hb⟩
  have HB2 := Lib.hid (HB1.out.trans (hb.mono HB1.out.size))
  clear hb
  go_wp2
  go_ret
  exact ⟨_, rfl, rfl, HB2.out⟩

set_option maxRecDepth 100000 in
theorem NaturalDivides_gt (aa : Option Addr) (na ca : Nat) (ab : Option Addr) (nb cb : Nat) (ac : Option Addr) (nc cc : Nat) (w : World) (Xa : Nat) (ha : Is Xa 6 w (.slice aa na ca)) (la : na ≤ 6) (Xb : Nat) (hb : Is Xb 6 w (.slice ab nb cb)) (lb : nb ≤ 6) (Xc : Nat) (hc : Is Xc 6 w (.slice ac nc cc)) (lc : nc ≤ 6) (h0 : Xb < Xc) :
    Calls Try.prog 11 #[.slice aa na ca, .slice ab nb cb, .slice ac nc cc] w (Ret w (Val (.bool true))) := by
  have Ha := Lib.hid ha
  have Hb := Lib.hid hb
  have Hc := Lib.hid hc
  clear ha hb hc
  go_enter Try.func11, Try.ntmps11
  have ha : decide ((6 : Int) < na) = false := by simpa using (show (na : Int) ≤ 6 by omega)
  have hb : decide ((6 : Int) < nb) = false := by simpa using (show (nb : Int) ≤ 6 by omega)
  have hc : decide ((6 : Int) < nc) = false := by simpa using (show (nc : Int) ≤ 6 by omega)
  go_wp2_with fail
  refine (awake_any _).mono ?_
  rintro e w1 ⟨v1, rfl, rfl, hb⟩
  have HB1 := Lib.hid hb
  have Hb := Lib.hid (Is.below Hb.out hb)
  have Hc := Lib.hid (Is.below Hc.out hb)
  clear hb
  go_wp2_with fail
  refine (rcmp_is 1 Hc.out Hb.out (cmpN_gt h0)).mono ?_
  rintro e w2 ⟨v2, rfl, rfl, hb⟩
  have HB2 := Lib.hid (HB1.out.trans (hb.mono HB1.out.size))
  clear hb
  go_wp2
  go_ret
  exact ⟨_, rfl, rfl, HB2.out⟩

set_option maxRecDepth 100000 in
theorem NaturalDivides_near (aa : Option Addr) (na ca : Nat) (ab : Option Addr) (nb cb : Nat) (ac : Option Addr) (nc cc : Nat) (w : World) (Xa : Nat) (ha : Is Xa 6 w (.slice aa na ca)) (la : na ≤ 6) (Xb : Nat) (hb : Is Xb 6 w (.slice ab nb cb)) (lb : nb ≤ 6) (Xc : Nat) (hc : Is Xc 6 w (.slice ac nc cc)) (lc : nc ≤ 6) (h0 : Xc < Xb) :
    Calls Try.prog 11 #[.slice aa na ca, .slice ab nb cb, .slice ac nc cc] w (Ret w (Val (.bool true))) := by
  have Ha := Lib.hid ha
  have Hb := Lib.hid hb
  have Hc := Lib.hid hc
  clear ha hb hc
  have hq : (Xa * Xb + Xc) / Xb = Xa := by rw [Nat.mul_comm, Nat.mul_add_div (by omega), Nat.div_eq_of_lt h0, Nat.add_zero]
  have hr : (Xa * Xb + Xc) % Xb = Xc := by rw [Nat.mul_comm, Nat.mul_add_mod, Nat.mod_eq_of_lt h0]
  have Hhq := Lib.hid hq
  have Hhr := Lib.hid hr
  clear hq hr
  go_enter Try.func11, Try.ntmps11
  have ha : decide ((6 : Int) < na) = false := by simpa using (show (na : Int) ≤ 6 by omega)
  have hb : decide ((6 : Int) < nb) = false := by simpa using (show (nb : Int) ≤ 6 by omega)
  have hc : decide ((6 : Int) < nc) = false := by simpa using (show (nc : Int) ≤ 6 by omega)
  go_wp2_with fail
  refine (awake_any _).mono ?_
  rintro e w1 ⟨v1, rfl, rfl, hb⟩
  have HB1 := Lib.hid hb
  have Ha := Lib.hid (Is.below Ha.out hb)
  have Hb := Lib.hid (Is.below Hb.out hb)
  have Hc := Lib.hid (Is.below Hc.out hb)
  clear hb
  go_wp2_with fail
  refine (rcmp_is (-1) Hc.out Hb.out (cmpN_lt h0)).mono ?_
  rintro e w2 ⟨v2, rfl, rfl, hb⟩
  have HB2 := Lib.hid (HB1.out.trans (hb.mono HB1.out.size))
  have Ha := Lib.hid (Is.below Ha.out hb)
  have Hb := Lib.hid (Is.below Hb.out hb)
  have Hc := Lib.hid (Is.below Hc.out hb)
  clear hb
  go_wp2_with fail
  refine (mul_is Ha.out Hb.out (by decide) (by decide)).mono ?_
  rintro e w3 ⟨v3, rfl, hp, hb⟩
  have HB3 := Lib.hid (HB2.out.trans (hb.mono HB2.out.size))
  have Ha := Lib.hid (Is.below Ha.out hb)
  have Hb := Lib.hid (Is.below Hb.out hb)
  have Hc := Lib.hid (Is.below Hc.out hb)
  have Hp := Lib.hid hp
  clear hb hp
  go_wp2_with fail
  refine (add_is Hp.out.is Hc.out (by decide) (by decide)).mono ?_
  rintro e w4 ⟨v4, rfl, hs, hb⟩
  have HB4 := Lib.hid (HB3.out.trans (hb.mono HB3.out.size))
  have Ha := Lib.hid (Is.below Ha.out hb)
  have Hb := Lib.hid (Is.below Hb.out hb)
  have Hc := Lib.hid (Is.below Hc.out hb)
  have Hs := Lib.hid hs
  clear hb hs
  go_wp2_with fail
  refine (divmod_pos (by omega) Hs.out.is Hb.out (by decide)).mono ?_
  rintro e w5 ⟨t5, rfl, ⟨v5, u5, rfl, hq, hr⟩, hb⟩
  have HB5 := Lib.hid (HB4.out.trans (hb.mono HB4.out.size))
  have Ha := Lib.hid (Is.below Ha.out hb)
  have Hc := Lib.hid (Is.below Hc.out hb)
  have Hq := Lib.hid hq
  have Hr := Lib.hid hr
  clear hb hq hr
  go_wp2_with fail
  refine (rmake_is Ha.out).mono ?_
  rintro e w6 ⟨v6, rfl, hm, hb⟩
  have HB6 := Lib.hid (HB5.out.trans (hb.mono HB5.out.size))
  have Hc := Lib.hid (Is.below Hc.out hb)
  have Hq := Lib.hid (Can.below Hq.out hb)
  have Hr := Lib.hid (Can.below Hr.out hb)
  have Hm := Lib.hid hm
  clear hb hm
  go_wp2_with fail
  refine (same_can Hq.out Hm.out Hhq.out).mono ?_
  rintro e w7 ⟨v7, rfl, rfl, hb⟩
  have HB7 := Lib.hid (HB6.out.trans (hb.mono HB6.out.size))
  have Hc := Lib.hid (Is.below Hc.out hb)
  have Hr := Lib.hid (Can.below Hr.out hb)
  clear hb
  go_wp2_with fail
  refine (rmake_is Hc.out).mono ?_
  rintro e w8 ⟨v8, rfl, hn, hb⟩
  have HB8 := Lib.hid (HB7.out.trans (hb.mono HB7.out.size))
  have Hr := Lib.hid (Can.below Hr.out hb)
  have Hn := Lib.hid hn
  clear hb hn
  go_wp2_with fail
  refine (same_can Hr.out Hn.out Hhr.out).mono ?_
  rintro e w9 ⟨v9, rfl, rfl, hb⟩
  have HB9 := Lib.hid (HB8.out.trans (hb.mono HB8.out.size))
  clear hb
  go_wp2
  go_ret
  exact ⟨_, rfl, rfl, HB9.out⟩

set_option maxRecDepth 100000 in
theorem NaturalDivides_all (aa : Option Addr) (na ca : Nat) (ab : Option Addr) (nb cb : Nat) (ac : Option Addr) (nc cc : Nat) (w : World) (ra : Row w (.slice aa na ca) na) (rb : Row w (.slice ab nb cb) nb) (rc : Row w (.slice ac nc cc) nc) :
    Calls Try.prog 11 #[.slice aa na ca, .slice ab nb cb, .slice ac nc cc] w (Ret w (Val (.bool true))) := by
  by_cases ha0 : 6 < na
  · exact NaturalDivides_far1 _ _ _ _ _ _ _ _ _ _  ha0
  by_cases hb0 : 6 < nb
  · exact NaturalDivides_far2 _ _ _ _ _ _ _ _ _ _ (by omega) hb0
  by_cases hc0 : 6 < nc
  · exact NaturalDivides_far3 _ _ _ _ _ _ _ _ _ _ (by omega) (by omega) hc0
  obtain ⟨Xa, ha⟩ := ra.is 6 (by omega) (by decide)
  obtain ⟨Xb, hb⟩ := rb.is 6 (by omega) (by decide)
  obtain ⟨Xc, hc⟩ := rc.is 6 (by omega) (by decide)
  rcases Nat.lt_trichotomy Xc Xb with h0 | h0 | h0
  · exact NaturalDivides_near _ _ _ _ _ _ _ _ _ _ Xa ha (by omega) Xb hb (by omega) Xc hc (by omega) h0
  · exact NaturalDivides_eq _ _ _ _ _ _ _ _ _ _ Xa ha (by omega) Xb hb (by omega) Xc hc (by omega) h0
  · exact NaturalDivides_gt _ _ _ _ _ _ _ _ _ _ Xa ha (by omega) Xb hb (by omega) Xc hc (by omega) h0

end Go.Proofs.Ytenncidmkcfebaa
