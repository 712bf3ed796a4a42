/- Walks over the laws of package natural: the laws that add, subtract and multiply. Printed by laws01.py. -/
import Derived.Test.YtenncidmkcfebaaLawB
namespace Go.Proofs.Ytenncidmkcfebaa
open Go.RowKit Nt

theorem sub_is2 {a b L M : Nat} {u v : Value} {w : World} {e : Int} (he : subErr a b = e) (h : Is a L w u) (h' : Is b M w v) (hL : L ≤ 4294967296) :
    Calls Try.prog 34 #[u, v] w (Ret w (CanE (a - b) L e)) := by rw [← he]; exact sub_is h h' hL
theorem rsub_is2 {a b L M : Nat} {u v : Value} {w : World} {e : Int} (he : subErr a b = e) (h : Is a L w u) (h' : Is b M w v) (hL : L ≤ 4294967296) :
    Calls Try.prog 35 #[u, v] w (Ret w (CanE (a - b) L e)) := by rw [← he]; exact rsub_is h h' hL

set_option maxRecDepth 100000 in
theorem NaturalAdd_far1 (aa : Option Addr) (na ca : Nat) (ab : Option Addr) (nb cb : Nat) (ac : Option Addr) (nc cc : Nat) (w : World) (h : 12 < na ∨ 12 < nb) :
    Calls Try.prog 7 #[.slice aa na ca, .slice ab nb cb, .slice ac nc cc] w (Ret w (Val (.bool true))) := by
  go_enter Try.func7, Try.ntmps7
  go_wp2_with fail
  refine (awake_any _).mono ?_
  rintro e w1 ⟨v1, rfl, rfl, hb⟩
  have HB1 := Lib.hid hb
  clear hb
  go_wp2_with fail
  refine (few_no h).mono ?_
  rintro e w2 ⟨v2, rfl, rfl, hb⟩
  have HB2 := Lib.hid (HB1.out.trans (hb.mono HB1.out.size))
  clear hb
  go_wp2
  go_ret
  exact ⟨_, rfl, rfl, HB2.out⟩

set_option maxRecDepth 100000 in
theorem NaturalAdd_far2 (aa : Option Addr) (na ca : Nat) (ab : Option Addr) (nb cb : Nat) (ac : Option Addr) (nc cc : Nat) (w : World) (la : na ≤ 12) (lb : nb ≤ 12) (lc : 12 < nc) :
    Calls Try.prog 7 #[.slice aa na ca, .slice ab nb cb, .slice ac nc cc] w (Ret w (Val (.bool true))) := by
  go_enter Try.func7, Try.ntmps7
  have hc : decide ((12 : Int) < nc) = true := by simpa using (show (12 : Int) < nc by omega)
  go_wp2_with fail
  refine (awake_any _).mono ?_
  rintro e w1 ⟨v1, rfl, rfl, hb⟩
  have HB1 := Lib.hid hb
  clear hb
  go_wp2_with fail
  refine (few_yes la lb).mono ?_
  rintro e w2 ⟨v2, rfl, rfl, hb⟩
  have HB2 := Lib.hid (HB1.out.trans (hb.mono HB1.out.size))
  clear hb
  go_wp2
  go_ret
  exact ⟨_, rfl, rfl, HB2.out⟩

set_option maxRecDepth 100000 in
theorem NaturalAdd_near (aa : Option Addr) (na ca : Nat) (ab : Option Addr) (nb cb : Nat) (ac : Option Addr) (nc cc : Nat) (w : World) (Xa : Nat) (ha : Is Xa 12 w (.slice aa na ca)) (la : na ≤ 12) (Xb : Nat) (hb : Is Xb 12 w (.slice ab nb cb)) (lb : nb ≤ 12) (Xc : Nat) (hc : Is Xc 12 w (.slice ac nc cc)) (lc : nc ≤ 12) :
    Calls Try.prog 7 #[.slice aa na ca, .slice ab nb cb, .slice ac nc cc] w (Ret w (Val (.bool true))) := by
  have Ha := Lib.hid ha
  have Hb := Lib.hid hb
  have Hc := Lib.hid hc
  clear ha hb hc
  go_enter Try.func7, Try.ntmps7
  have hc : decide ((12 : Int) < nc) = false := by simpa using (show (nc : Int) ≤ 12 by omega)
  go_wp2_with fail
  refine (awake_any _).mono ?_
  rintro e w1 ⟨v1, rfl, rfl, hb⟩
  have HB1 := Lib.hid hb
  have Ha := Lib.hid (Is.below Ha.out hb)
  have Hb := Lib.hid (Is.below Hb.out hb)
  have Hc := Lib.hid (Is.below Hc.out hb)
  clear hb
  go_wp2_with fail
  refine (few_yes la lb).mono ?_
  rintro e w2 ⟨v2, rfl, rfl, hb⟩
  have HB2 := Lib.hid (HB1.out.trans (hb.mono HB1.out.size))
  have Ha := Lib.hid (Is.below Ha.out hb)
  have Hb := Lib.hid (Is.below Hb.out hb)
  have Hc := Lib.hid (Is.below Hc.out hb)
  clear hb
  go_wp2_with fail
  refine (copied_is Ha.out).mono ?_
  rintro e w3 ⟨v3, rfl, ht, hb⟩
  have HB3 := Lib.hid (HB2.out.trans (hb.mono HB2.out.size))
  have Ha := Lib.hid (Is.below Ha.out hb)
  have Hb := Lib.hid (Is.below Hb.out hb)
  have Hc := Lib.hid (Is.below Hc.out hb)
  have Ht := Lib.hid ht
  clear hb ht
  go_wp2_with fail
  refine (copied_is Hb.out).mono ?_
  rintro e w4 ⟨v4, rfl, hu, hb⟩
  have HB4 := Lib.hid (HB3.out.trans (hb.mono HB3.out.size))
  have Ha := Lib.hid (Is.below Ha.out hb)
  have Hb := Lib.hid (Is.below Hb.out hb)
  have Hc := Lib.hid (Is.below Hc.out hb)
  have Ht := Lib.hid (Is.below Ht.out hb)
  have Hu := Lib.hid hu
  clear hb hu
  go_wp2_with fail
  refine (add_is Ht.out Hu.out (by decide) (by decide)).mono ?_
  rintro e w5 ⟨v5, rfl, hs, hb⟩
  have HB5 := Lib.hid (HB4.out.trans (hb.mono HB4.out.size))
  have Ha := Lib.hid (Is.below Ha.out hb)
  have Hb := Lib.hid (Is.below Hb.out hb)
  have Hc := Lib.hid (Is.below Hc.out hb)
  have Hs := Lib.hid hs
  clear hb hs
  go_wp2_with fail
  refine (radd_is Ha.out Hb.out (by decide) (by decide)).mono ?_
  rintro e w6 ⟨v6, rfl, hx, hb⟩
  have HB6 := Lib.hid (HB5.out.trans (hb.mono HB5.out.size))
  have Ha := Lib.hid (Is.below Ha.out hb)
  have Hb := Lib.hid (Is.below Hb.out hb)
  have Hc := Lib.hid (Is.below Hc.out hb)
  have Hs := Lib.hid (Can.below Hs.out hb)
  have Hx := Lib.hid hx
  clear hb hx
  go_wp2_with fail
  refine (same_can Hs.out Hx.out rfl).mono ?_
  rintro e w7 ⟨v7, rfl, rfl, hb⟩
  have HB7 := Lib.hid (HB6.out.trans (hb.mono HB6.out.size))
  have Ha := Lib.hid (Is.below Ha.out hb)
  have Hb := Lib.hid (Is.below Hb.out hb)
  have Hc := Lib.hid (Is.below Hc.out hb)
  have Hs := Lib.hid (Can.below Hs.out hb)
  clear hb
  go_wp2_with fail
  refine (add_is Hb.out Ha.out (by decide) (by decide)).mono ?_
  rintro e w8 ⟨v8, rfl, hy, hb⟩
  have HB8 := Lib.hid (HB7.out.trans (hb.mono HB7.out.size))
  have Ha := Lib.hid (Is.below Ha.out hb)
  have Hb := Lib.hid (Is.below Hb.out hb)
  have Hc := Lib.hid (Is.below Hc.out hb)
  have Hs := Lib.hid (Can.below Hs.out hb)
  have Hy := Lib.hid hy
  clear hb hy
  go_wp2_with fail
  refine (same_can Hs.out Hy.out (Nat.add_comm _ _)).mono ?_
  rintro e w9 ⟨v9, rfl, rfl, hb⟩
  have HB9 := Lib.hid (HB8.out.trans (hb.mono HB8.out.size))
  have Ha := Lib.hid (Is.below Ha.out hb)
  have Hb := Lib.hid (Is.below Hb.out hb)
  have Hc := Lib.hid (Is.below Hc.out hb)
  have Hs := Lib.hid (Can.below Hs.out hb)
  clear hb
  go_wp2_with fail
  refine (add_is Hs.out.is Hc.out (by decide) (by decide)).mono ?_
  rintro e w10 ⟨v10, rfl, hp, hb⟩
  have HB10 := Lib.hid (HB9.out.trans (hb.mono HB9.out.size))
  have Ha := Lib.hid (Is.below Ha.out hb)
  have Hb := Lib.hid (Is.below Hb.out hb)
  have Hc := Lib.hid (Is.below Hc.out hb)
  have Hp := Lib.hid hp
  clear hb hp
  go_wp2_with fail
  refine (add_is Hb.out Hc.out (by decide) (by decide)).mono ?_
  rintro e w11 ⟨v11, rfl, hq, hb⟩
  have HB11 := Lib.hid (HB10.out.trans (hb.mono HB10.out.size))
  have Ha := Lib.hid (Is.below Ha.out hb)
  have Hp := Lib.hid (Can.below Hp.out hb)
  have Hq := Lib.hid hq
  clear hb hq
  go_wp2_with fail
  refine (add_is Ha.out Hq.out.is (by decide) (by decide)).mono ?_
  rintro e w12 ⟨v12, rfl, hr, hb⟩
  have HB12 := Lib.hid (HB11.out.trans (hb.mono HB11.out.size))
  have Hp := Lib.hid (Can.below Hp.out hb)
  have Hr := Lib.hid hr
  clear hb hr
  go_wp2_with fail
  refine (same_can Hp.out Hr.out (Nat.add_assoc _ _ _)).mono ?_
  rintro e w13 ⟨v13, rfl, rfl, hb⟩
  have HB13 := Lib.hid (HB12.out.trans (hb.mono HB12.out.size))
  clear hb
  go_wp2
  go_ret
  exact ⟨_, rfl, rfl, HB13.out⟩

set_option maxRecDepth 100000 in
theorem NaturalAdd_all (aa : Option Addr) (na ca : Nat) (ab : Option Addr) (nb cb : Nat) (ac : Option Addr) (nc cc : Nat) (w : World) (ra : Row w (.slice aa na ca) na) (rb : Row w (.slice ab nb cb) nb) (rc : Row w (.slice ac nc cc) nc) :
    Calls Try.prog 7 #[.slice aa na ca, .slice ab nb cb, .slice ac nc cc] w (Ret w (Val (.bool true))) := by
  by_cases h : 12 < na ∨ 12 < nb
  · exact NaturalAdd_far1 _ _ _ _ _ _ _ _ _ _ h
  by_cases hc : 12 < nc
  · exact NaturalAdd_far2 _ _ _ _ _ _ _ _ _ _ (by omega) (by omega) hc
  obtain ⟨Xa, ha⟩ := ra.is 12 (by omega) (by decide)
  obtain ⟨Xb, hb⟩ := rb.is 12 (by omega) (by decide)
  obtain ⟨Xc, hc⟩ := rc.is 12 (by omega) (by decide)
  exact NaturalAdd_near _ _ _ _ _ _ _ _ _ _ Xa ha (by omega) Xb hb (by omega) Xc hc (by omega)

set_option maxRecDepth 100000 in
theorem NaturalSub_far1 (aa : Option Addr) (na ca : Nat) (ab : Option Addr) (nb cb : Nat) (w : World) (h : 12 < na ∨ 12 < nb) :
    Calls Try.prog 8 #[.slice aa na ca, .slice ab nb cb] w (Ret w (Val (.bool true))) := by
  go_enter Try.func8, Try.ntmps8
  go_wp2_with fail
  refine (awake_any _).mono ?_
  rintro e w1 ⟨v1, rfl, rfl, hb⟩
  have HB1 := Lib.hid hb
  clear hb
  go_wp2_with fail
  refine (few_no h).mono ?_
  rintro e w2 ⟨v2, rfl, rfl, hb⟩
  have HB2 := Lib.hid (HB1.out.trans (hb.mono HB1.out.size))
  clear hb
  go_wp2
  go_ret
  exact ⟨_, rfl, rfl, HB2.out⟩

set_option maxRecDepth 100000 in
theorem NaturalSub_near (aa : Option Addr) (na ca : Nat) (ab : Option Addr) (nb cb : Nat) (w : World) (Xa : Nat) (ha : Is Xa 12 w (.slice aa na ca)) (la : na ≤ 12) (Xb : Nat) (hb : Is Xb 12 w (.slice ab nb cb)) (lb : nb ≤ 12) (e : Int) (he : subErr Xa Xb = e) (hs : e = 0 ∨ e = 2) :
    Calls Try.prog 8 #[.slice aa na ca, .slice ab nb cb] w (Ret w (Val (.bool true))) := by
  have Ha := Lib.hid ha
  have Hb := Lib.hid hb
  clear ha hb
  rcases hs with rfl | rfl
  · go_enter Try.func8, Try.ntmps8
    go_wp2_with fail
    refine (awake_any _).mono ?_
    rintro e w1 ⟨v1, rfl, rfl, hb⟩
    have HB1 := Lib.hid hb
    have Ha := Lib.hid (Is.below Ha.out hb)
    have Hb := Lib.hid (Is.below Hb.out hb)
    clear hb
    go_wp2_with fail
    refine (few_yes la lb).mono ?_
    rintro e w2 ⟨v2, rfl, rfl, hb⟩
    have HB2 := Lib.hid (HB1.out.trans (hb.mono HB1.out.size))
    have Ha := Lib.hid (Is.below Ha.out hb)
    have Hb := Lib.hid (Is.below Hb.out hb)
    clear hb
    go_wp2_with fail
    refine (sub_is2 he Ha.out Hb.out (by decide)).mono ?_
    rintro e w3 ⟨t3, rfl, ⟨v3, rfl, hd⟩, hb⟩
    have HB3 := Lib.hid (HB2.out.trans (hb.mono HB2.out.size))
    have Ha := Lib.hid (Is.below Ha.out hb)
    have Hb := Lib.hid (Is.below Hb.out hb)
    have Hd := Lib.hid hd
    clear hb hd
    go_wp2_with fail
    refine (rsub_is2 he Ha.out Hb.out (by decide)).mono ?_
    rintro e w4 ⟨t4, rfl, ⟨v4, rfl, hx⟩, hb⟩
    have HB4 := Lib.hid (HB3.out.trans (hb.mono HB3.out.size))
    have Ha := Lib.hid (Is.below Ha.out hb)
    have Hb := Lib.hid (Is.below Hb.out hb)
    have Hd := Lib.hid (Can.below Hd.out hb)
    have Hx := Lib.hid hx
    clear hb hx
    go_wp2_with fail
    refine (add_is Ha.out Hb.out (by decide) (by decide)).mono ?_
    rintro e w5 ⟨v5, rfl, hs, hb⟩
    have HB5 := Lib.hid (HB4.out.trans (hb.mono HB4.out.size))
    have Ha := Lib.hid (Is.below Ha.out hb)
    have Hb := Lib.hid (Is.below Hb.out hb)
    have Hd := Lib.hid (Can.below Hd.out hb)
    have Hx := Lib.hid (Can.below Hx.out hb)
    have Hs := Lib.hid hs
    clear hb hs
    go_wp2_with fail
    refine (sub_is2 (subErr_le (Nat.le_add_left _ _)) Hs.out.is Hb.out (by decide)).mono ?_
    rintro e w6 ⟨t6, rfl, ⟨v6, rfl, hr⟩, hb⟩
    have HB6 := Lib.hid (HB5.out.trans (hb.mono HB5.out.size))
    have Ha := Lib.hid (Is.below Ha.out hb)
    have Hd := Lib.hid (Can.below Hd.out hb)
    have Hx := Lib.hid (Can.below Hx.out hb)
    have Hr := Lib.hid hr
    clear hb hr
    go_wp2_with fail
    refine (same_can Hd.out Hx.out rfl).mono ?_
    rintro e w7 ⟨v7, rfl, rfl, hb⟩
    have HB7 := Lib.hid (HB6.out.trans (hb.mono HB6.out.size))
    have Ha := Lib.hid (Is.below Ha.out hb)
    have Hr := Lib.hid (Can.below Hr.out hb)
    clear hb
    go_wp2_with fail
    refine (rmake_is Ha.out).mono ?_
    rintro e w8 ⟨v8, rfl, hm, hb⟩
    have HB8 := Lib.hid (HB7.out.trans (hb.mono HB7.out.size))
    have Hr := Lib.hid (Can.below Hr.out hb)
    have Hm := Lib.hid hm
    clear hb hm
    go_wp2_with fail
    refine (same_can Hr.out Hm.out (Nat.add_sub_cancel _ _)).mono ?_
    rintro e w9 ⟨v9, rfl, rfl, hb⟩
    have HB9 := Lib.hid (HB8.out.trans (hb.mono HB8.out.size))
    clear hb
    go_wp2
    go_ret
    exact ⟨_, rfl, rfl, HB9.out⟩
  · go_enter Try.func8, Try.ntmps8
    go_wp2_with fail
    refine (awake_any _).mono ?_
    rintro e w1 ⟨v1, rfl, rfl, hb⟩
    have HB1 := Lib.hid hb
    have Ha := Lib.hid (Is.below Ha.out hb)
    have Hb := Lib.hid (Is.below Hb.out hb)
    clear hb
    go_wp2_with fail
    refine (few_yes la lb).mono ?_
    rintro e w2 ⟨v2, rfl, rfl, hb⟩
    have HB2 := Lib.hid (HB1.out.trans (hb.mono HB1.out.size))
    have Ha := Lib.hid (Is.below Ha.out hb)
    have Hb := Lib.hid (Is.below Hb.out hb)
    clear hb
    go_wp2_with fail
    refine (sub_is2 he Ha.out Hb.out (by decide)).mono ?_
    rintro e w3 ⟨t3, rfl, ⟨v3, rfl, hd⟩, hb⟩
    have HB3 := Lib.hid (HB2.out.trans (hb.mono HB2.out.size))
    have Ha := Lib.hid (Is.below Ha.out hb)
    have Hb := Lib.hid (Is.below Hb.out hb)
    have Hd := Lib.hid hd
    clear hb hd
    go_wp2_with fail
    refine (rsub_is2 he Ha.out Hb.out (by decide)).mono ?_
    rintro e w4 ⟨t4, rfl, ⟨v4, rfl, hx⟩, hb⟩
    have HB4 := Lib.hid (HB3.out.trans (hb.mono HB3.out.size))
    have Ha := Lib.hid (Is.below Ha.out hb)
    have Hb := Lib.hid (Is.below Hb.out hb)
    have Hd := Lib.hid (Can.below Hd.out hb)
    have Hx := Lib.hid hx
    clear hb hx
    go_wp2_with fail
    refine (add_is Ha.out Hb.out (by decide) (by decide)).mono ?_
    rintro e w5 ⟨v5, rfl, hs, hb⟩
    have HB5 := Lib.hid (HB4.out.trans (hb.mono HB4.out.size))
    have Ha := Lib.hid (Is.below Ha.out hb)
    have Hb := Lib.hid (Is.below Hb.out hb)
    have Hd := Lib.hid (Can.below Hd.out hb)
    have Hx := Lib.hid (Can.below Hx.out hb)
    have Hs := Lib.hid hs
    clear hb hs
    go_wp2_with fail
    refine (sub_is2 (subErr_le (Nat.le_add_left _ _)) Hs.out.is Hb.out (by decide)).mono ?_
    rintro e w6 ⟨t6, rfl, ⟨v6, rfl, hr⟩, hb⟩
    have HB6 := Lib.hid (HB5.out.trans (hb.mono HB5.out.size))
    have Ha := Lib.hid (Is.below Ha.out hb)
    have Hd := Lib.hid (Can.below Hd.out hb)
    have Hx := Lib.hid (Can.below Hx.out hb)
    have Hr := Lib.hid hr
    clear hb hr
    go_wp2_with fail
    refine (same_can Hd.out Hx.out rfl).mono ?_
    rintro e w7 ⟨v7, rfl, rfl, hb⟩
    have HB7 := Lib.hid (HB6.out.trans (hb.mono HB6.out.size))
    have Ha := Lib.hid (Is.below Ha.out hb)
    have Hr := Lib.hid (Can.below Hr.out hb)
    clear hb
    go_wp2_with fail
    refine (rmake_is Ha.out).mono ?_
    rintro e w8 ⟨v8, rfl, hm, hb⟩
    have HB8 := Lib.hid (HB7.out.trans (hb.mono HB7.out.size))
    have Hr := Lib.hid (Can.below Hr.out hb)
    have Hm := Lib.hid hm
    clear hb hm
    go_wp2_with fail
    refine (same_can Hr.out Hm.out (Nat.add_sub_cancel _ _)).mono ?_
    rintro e w9 ⟨v9, rfl, rfl, hb⟩
    have HB9 := Lib.hid (HB8.out.trans (hb.mono HB8.out.size))
    clear hb
    go_wp2
    go_ret
    exact ⟨_, rfl, rfl, HB9.out⟩

set_option maxRecDepth 100000 in
theorem NaturalSub_all (aa : Option Addr) (na ca : Nat) (ab : Option Addr) (nb cb : Nat) (w : World) (ra : Row w (.slice aa na ca) na) (rb : Row w (.slice ab nb cb) nb) :
    Calls Try.prog 8 #[.slice aa na ca, .slice ab nb cb] w (Ret w (Val (.bool true))) := by
  by_cases h : 12 < na ∨ 12 < nb
  · exact NaturalSub_far1 _ _ _ _ _ _ _ h
  obtain ⟨Xa, ha⟩ := ra.is 12 (by omega) (by decide)
  obtain ⟨Xb, hb⟩ := rb.is 12 (by omega) (by decide)
  exact NaturalSub_near _ _ _ _ _ _ _ Xa ha (by omega) Xb hb (by omega) _ rfl (by unfold subErr; split; exact Or.inr rfl; exact Or.inl rfl)

set_option maxRecDepth 100000 in
theorem NaturalMul_far1 (aa : Option Addr) (na ca : Nat) (ab : Option Addr) (nb cb : Nat) (ac : Option Addr) (nc cc : Nat) (w : World)  (la : 8 < na) :
    Calls Try.prog 10 #[.slice aa na ca, .slice ab nb cb, .slice ac nc cc] w (Ret w (Val (.bool true))) := by
  go_enter Try.func10, Try.ntmps10
  have ha : decide ((8 : Int) < na) = true := by simpa using (show (8 : Int) < na by omega)
  go_wp2_with fail
  refine (awake_any _).mono ?_
  rintro e w1 ⟨v1, rfl, rfl, hb⟩
  have HB1 := Lib.hid hb
  clear hb
  go_wp2
  go_ret
  exact ⟨_, rfl, rfl, HB1.out⟩

set_option maxRecDepth 100000 in
theorem NaturalMul_far2 (aa : Option Addr) (na ca : Nat) (ab : Option Addr) (nb cb : Nat) (ac : Option Addr) (nc cc : Nat) (w : World) (la : na ≤ 8) (lb : 8 < nb) :
    Calls Try.prog 10 #[.slice aa na ca, .slice ab nb cb, .slice ac nc cc] w (Ret w (Val (.bool true))) := by
  go_enter Try.func10, Try.ntmps10
  have ha : decide ((8 : Int) < na) = false := by simpa using (show (na : Int) ≤ 8 by omega)
  have hb : decide ((8 : Int) < nb) = true := by simpa using (show (8 : Int) < nb by omega)
  go_wp2_with fail
  refine (awake_any _).mono ?_
  rintro e w1 ⟨v1, rfl, rfl, hb⟩
  have HB1 := Lib.hid hb
  clear hb
  go_wp2
  go_ret
  exact ⟨_, rfl, rfl, HB1.out⟩

set_option maxRecDepth 100000 in
theorem NaturalMul_far3 (aa : Option Addr) (na ca : Nat) (ab : Option Addr) (nb cb : Nat) (ac : Option Addr) (nc cc : Nat) (w : World) (la : na ≤ 8) (lb : nb ≤ 8) (lc : 8 < nc) :
    Calls Try.prog 10 #[.slice aa na ca, .slice ab nb cb, .slice ac nc cc] w (Ret w (Val (.bool true))) := by
  go_enter Try.func10, Try.ntmps10
  have ha : decide ((8 : Int) < na) = false := by simpa using (show (na : Int) ≤ 8 by omega)
  have hb : decide ((8 : Int) < nb) = false := by simpa using (show (nb : Int) ≤ 8 by omega)
  have hc : decide ((8 : Int) < nc) = true := by simpa using (show (8 : Int) < nc by omega)
  go_wp2_with fail
  refine (awake_any _).mono ?_
  rintro e w1 ⟨v1, rfl, rfl, hb⟩
  have HB1 := Lib.hid hb
  clear hb
  go_wp2
  go_ret
  exact ⟨_, rfl, rfl, HB1.out⟩

set_option maxRecDepth 100000 in
theorem NaturalMul_near (aa : Option Addr) (na ca : Nat) (ab : Option Addr) (nb cb : Nat) (ac : Option Addr) (nc cc : Nat) (w : World) (Xa : Nat) (ha : Is Xa 8 w (.slice aa na ca)) (la : na ≤ 8) (Xb : Nat) (hb : Is Xb 8 w (.slice ab nb cb)) (lb : nb ≤ 8) (Xc : Nat) (hc : Is Xc 8 w (.slice ac nc cc)) (lc : nc ≤ 8) :
    Calls Try.prog 10 #[.slice aa na ca, .slice ab nb cb, .slice ac nc cc] w (Ret w (Val (.bool true))) := by
  have Ha := Lib.hid ha
  have Hb := Lib.hid hb
  have Hc := Lib.hid hc
  clear ha hb hc
  go_enter Try.func10, Try.ntmps10
  have ha : decide ((8 : Int) < na) = false := by simpa using (show (na : Int) ≤ 8 by omega)
  have hb : decide ((8 : Int) < nb) = false := by simpa using (show (nb : Int) ≤ 8 by omega)
  have hc : decide ((8 : Int) < nc) = false := by simpa using (show (nc : Int) ≤ 8 by omega)
  go_wp2_with fail
  refine (awake_any _).mono ?_
  rintro e w1 ⟨v1, rfl, rfl, hb⟩
  have HB1 := Lib.hid hb
  have Ha := Lib.hid (Is.below Ha.out hb)
  have Hb := Lib.hid (Is.below Hb.out hb)
  have Hc := Lib.hid (Is.below Hc.out hb)
  clear hb
  go_wp2_with fail
  refine (copied_is Ha.out).mono ?_
  rintro e w2 ⟨v2, rfl, ht, hb⟩
  have HB2 := Lib.hid (HB1.out.trans (hb.mono HB1.out.size))
  have Ha := Lib.hid (Is.below Ha.out hb)
  have Hb := Lib.hid (Is.below Hb.out hb)
  have Hc := Lib.hid (Is.below Hc.out hb)
  have Ht := Lib.hid ht
  clear hb ht
  go_wp2_with fail
  refine (copied_is Hb.out).mono ?_
  rintro e w3 ⟨v3, rfl, hu, hb⟩
  have HB3 := Lib.hid (HB2.out.trans (hb.mono HB2.out.size))
  have Ha := Lib.hid (Is.below Ha.out hb)
  have Hb := Lib.hid (Is.below Hb.out hb)
  have Hc := Lib.hid (Is.below Hc.out hb)
  have Ht := Lib.hid (Is.below Ht.out hb)
  have Hu := Lib.hid hu
  clear hb hu
  go_wp2_with fail
  refine (mul_is Ht.out Hu.out (by decide) (by decide)).mono ?_
  rintro e w4 ⟨v4, rfl, hp, hb⟩
  have HB4 := Lib.hid (HB3.out.trans (hb.mono HB3.out.size))
  have Ha := Lib.hid (Is.below Ha.out hb)
  have Hb := Lib.hid (Is.below Hb.out hb)
  have Hc := Lib.hid (Is.below Hc.out hb)
  have Hp := Lib.hid hp
  clear hb hp
  go_wp2_with fail
  refine (rmul_is Ha.out Hb.out (by decide) (by decide)).mono ?_
  rintro e w5 ⟨v5, rfl, hx, hb⟩
  have HB5 := Lib.hid (HB4.out.trans (hb.mono HB4.out.size))
  have Ha := Lib.hid (Is.below Ha.out hb)
  have Hb := Lib.hid (Is.below Hb.out hb)
  have Hc := Lib.hid (Is.below Hc.out hb)
  have Hp := Lib.hid (Can.below Hp.out hb)
  have Hx := Lib.hid hx
  clear hb hx
  go_wp2_with fail
  refine (same_can Hp.out Hx.out rfl).mono ?_
  rintro e w6 ⟨v6, rfl, rfl, hb⟩
  have HB6 := Lib.hid (HB5.out.trans (hb.mono HB5.out.size))
  have Ha := Lib.hid (Is.below Ha.out hb)
  have Hb := Lib.hid (Is.below Hb.out hb)
  have Hc := Lib.hid (Is.below Hc.out hb)
  have Hp := Lib.hid (Can.below Hp.out hb)
  clear hb
  go_wp2_with fail
  refine (mul_is Hb.out Ha.out (by decide) (by decide)).mono ?_
  rintro e w7 ⟨v7, rfl, hy, hb⟩
  have HB7 := Lib.hid (HB6.out.trans (hb.mono HB6.out.size))
  have Ha := Lib.hid (Is.below Ha.out hb)
  have Hb := Lib.hid (Is.below Hb.out hb)
  have Hc := Lib.hid (Is.below Hc.out hb)
  have Hp := Lib.hid (Can.below Hp.out hb)
  have Hy := Lib.hid hy
  clear hb hy
  go_wp2_with fail
  refine (same_can Hp.out Hy.out (Nat.mul_comm _ _)).mono ?_
  rintro e w8 ⟨v8, rfl, rfl, hb⟩
  have HB8 := Lib.hid (HB7.out.trans (hb.mono HB7.out.size))
  have Ha := Lib.hid (Is.below Ha.out hb)
  have Hb := Lib.hid (Is.below Hb.out hb)
  have Hc := Lib.hid (Is.below Hc.out hb)
  have Hp := Lib.hid (Can.below Hp.out hb)
  clear hb
  go_wp2_with fail
  refine (mul_is Hp.out.is Hc.out (by decide) (by decide)).mono ?_
  rintro e w9 ⟨v9, rfl, hq, hb⟩
  have HB9 := Lib.hid (HB8.out.trans (hb.mono HB8.out.size))
  have Ha := Lib.hid (Is.below Ha.out hb)
  have Hb := Lib.hid (Is.below Hb.out hb)
  have Hc := Lib.hid (Is.below Hc.out hb)
  have Hp := Lib.hid (Can.below Hp.out hb)
  have Hq := Lib.hid hq
  clear hb hq
  go_wp2_with fail
  refine (mul_is Hb.out Hc.out (by decide) (by decide)).mono ?_
  rintro e w10 ⟨v10, rfl, hr, hb⟩
  have HB10 := Lib.hid (HB9.out.trans (hb.mono HB9.out.size))
  have Ha := Lib.hid (Is.below Ha.out hb)
  have Hb := Lib.hid (Is.below Hb.out hb)
  have Hc := Lib.hid (Is.below Hc.out hb)
  have Hp := Lib.hid (Can.below Hp.out hb)
  have Hq := Lib.hid (Can.below Hq.out hb)
  have Hr := Lib.hid hr
  clear hb hr
  go_wp2_with fail
  refine (mul_is Ha.out Hr.out.is (by decide) (by decide)).mono ?_
  rintro e w11 ⟨v11, rfl, hs, hb⟩
  have HB11 := Lib.hid (HB10.out.trans (hb.mono HB10.out.size))
  have Ha := Lib.hid (Is.below Ha.out hb)
  have Hb := Lib.hid (Is.below Hb.out hb)
  have Hc := Lib.hid (Is.below Hc.out hb)
  have Hp := Lib.hid (Can.below Hp.out hb)
  have Hq := Lib.hid (Can.below Hq.out hb)
  have Hs := Lib.hid hs
  clear hb hs
  go_wp2_with fail
  refine (same_can Hq.out Hs.out (Nat.mul_assoc _ _ _)).mono ?_
  rintro e w12 ⟨v12, rfl, rfl, hb⟩
  have HB12 := Lib.hid (HB11.out.trans (hb.mono HB11.out.size))
  have Ha := Lib.hid (Is.below Ha.out hb)
  have Hb := Lib.hid (Is.below Hb.out hb)
  have Hc := Lib.hid (Is.below Hc.out hb)
  have Hp := Lib.hid (Can.below Hp.out hb)
  clear hb
  go_wp2_with fail
  refine (add_is Hb.out Hc.out (by decide) (by decide)).mono ?_
  rintro e w13 ⟨v13, rfl, hf, hb⟩
  have HB13 := Lib.hid (HB12.out.trans (hb.mono HB12.out.size))
  have Ha := Lib.hid (Is.below Ha.out hb)
  have Hc := Lib.hid (Is.below Hc.out hb)
  have Hp := Lib.hid (Can.below Hp.out hb)
  have Hf := Lib.hid hf
  clear hb hf
  go_wp2_with fail
  refine (mul_is Ha.out Hf.out.is (by decide) (by decide)).mono ?_
  rintro e w14 ⟨v14, rfl, hg, hb⟩
  have HB14 := Lib.hid (HB13.out.trans (hb.mono HB13.out.size))
  have Ha := Lib.hid (Is.below Ha.out hb)
  have Hc := Lib.hid (Is.below Hc.out hb)
  have Hp := Lib.hid (Can.below Hp.out hb)
  have Hg := Lib.hid hg
  clear hb hg
  go_wp2_with fail
  refine (mul_is Ha.out Hc.out (by decide) (by decide)).mono ?_
  rintro e w15 ⟨v15, rfl, hi, hb⟩
  have HB15 := Lib.hid (HB14.out.trans (hb.mono HB14.out.size))
  have Hp := Lib.hid (Can.below Hp.out hb)
  have Hg := Lib.hid (Can.below Hg.out hb)
  have Hi := Lib.hid hi
  clear hb hi
  go_wp2_with fail
  refine (add_is Hp.out.is Hi.out.is (by decide) (by decide)).mono ?_
  rintro e w16 ⟨v16, rfl, hj, hb⟩
  have HB16 := Lib.hid (HB15.out.trans (hb.mono HB15.out.size))
  have Hg := Lib.hid (Can.below Hg.out hb)
  have Hj := Lib.hid hj
  clear hb hj
  go_wp2_with fail
  refine (same_can Hg.out Hj.out (Nat.mul_add _ _ _)).mono ?_
  rintro e w17 ⟨v17, rfl, rfl, hb⟩
  have HB17 := Lib.hid (HB16.out.trans (hb.mono HB16.out.size))
  clear hb
  go_wp2
  go_ret
  exact ⟨_, rfl, rfl, HB17.out⟩

set_option maxRecDepth 100000 in
theorem NaturalMul_all (aa : Option Addr) (na ca : Nat) (ab : Option Addr) (nb cb : Nat) (ac : Option Addr) (nc cc : Nat) (w : World) (ra : Row w (.slice aa na ca) na) (rb : Row w (.slice ab nb cb) nb) (rc : Row w (.slice ac nc cc) nc) :
    Calls Try.prog 10 #[.slice aa na ca, .slice ab nb cb, .slice ac nc cc] w (Ret w (Val (.bool true))) := by
  by_cases ha0 : 8 < na
  · exact NaturalMul_far1 _ _ _ _ _ _ _ _ _ _  ha0
  by_cases hb0 : 8 < nb
  · exact NaturalMul_far2 _ _ _ _ _ _ _ _ _ _ (by omega) hb0
  by_cases hc0 : 8 < nc
  · exact NaturalMul_far3 _ _ _ _ _ _ _ _ _ _ (by omega) (by omega) hc0
  obtain ⟨Xa, ha⟩ := ra.is 8 (by omega) (by decide)
  obtain ⟨Xb, hb⟩ := rb.is 8 (by omega) (by decide)
  obtain ⟨Xc, hc⟩ := rc.is 8 (by omega) (by decide)
  exact NaturalMul_near _ _ _ _ _ _ _ _ _ _ Xa ha (by omega) Xb hb (by omega) Xc hc (by omega)

end Go.Proofs.Ytenncidmkcfebaa
