/- Walks over the laws of package natural: NaturalShift, NaturalGcd, NaturalMake. Printed by laws02.py. -/
import Derived.Test.YtenncidmkcfebaaLawD
namespace Go.Proofs.Ytenncidmkcfebaa
open Go.RowKit Nt

set_option maxRecDepth 100000 in
theorem NaturalShift_far1 (aa : Option Addr) (na ca : Nat) (k : Int) (w : World) (la : 12 < na) :
    Calls Try.prog 9 #[.slice aa na ca, .int .i64 k] w (Ret w (Val (.bool true))) := by
  go_enter Try.func9, Try.ntmps9
  have ha : decide ((12 : Int) < na) = true := by simpa using (show (12 : Int) < na by omega)
  go_wp2_with fail
  refine (awake_any _).mono ?_
  rintro e w1 ⟨v1, rfl, rfl, hb⟩
  have HB1 := Lib.hid hb
  clear hb
  go_wp2
  go_ret
  exact ⟨_, rfl, rfl, HB1.out⟩

set_option maxRecDepth 100000 in
theorem NaturalShift_far2 (aa : Option Addr) (na ca : Nat) (k : Int) (w : World) (la : na ≤ 12) (l3 : 300 < k) (lM : k ≤ 1048576) :
    Calls Try.prog 9 #[.slice aa na ca, .int .i64 k] w (Ret w (Val (.bool true))) := by
  go_enter Try.func9, Try.ntmps9
  have ha : decide ((12 : Int) < na) = false := by simpa using (show (na : Int) ≤ 12 by omega)
  have hk3 : decide ((300 : Int) < k) = true := by simpa using (show (300 : Int) < k by omega)
  have hk4 : decide (k ≤ 1048576) = true := by simpa using (show k ≤ 1048576 by omega)
  go_wp2_with fail
  refine (awake_any _).mono ?_
  rintro e w1 ⟨v1, rfl, rfl, hb⟩
  have HB1 := Lib.hid hb
  clear hb
  go_wp2
  go_ret
  exact ⟨_, rfl, rfl, HB1.out⟩

set_option maxRecDepth 100000 in
theorem NaturalShift_low (aa : Option Addr) (na ca : Nat) (k : Int) (w : World) (Xa : Nat) (ha : Is Xa 12 w (.slice aa na ca)) (la : na ≤ 12) (hk : k < 0) :
    Calls Try.prog 9 #[.slice aa na ca, .int .i64 k] w (Ret w (Val (.bool true))) := by
  have Ha := Lib.hid ha
  clear ha
  go_enter Try.func9, Try.ntmps9
  have ha : decide ((12 : Int) < na) = false := by simpa using (show (na : Int) ≤ 12 by omega)
  have hk3 : decide ((300 : Int) < k) = false := by simpa using (show k ≤ 300 by omega)
  go_wp2_with fail
  refine (awake_any _).mono ?_
  rintro e w1 ⟨v1, rfl, rfl, hb⟩
  have HB1 := Lib.hid hb
  have Ha := Lib.hid (Is.below Ha.out hb)
  clear hb
  go_wp2_with fail
  refine (shl_bad (Or.inl hk) Ha.out (by decide)).mono ?_
  rintro e w2 ⟨t2, rfl, ⟨v2, rfl, hl⟩, hb⟩
  have HB2 := Lib.hid (HB1.out.trans (hb.mono HB1.out.size))
  have Ha := Lib.hid (Is.below Ha.out hb)
  have Hl := Lib.hid hl
  clear hb hl
  go_wp2_with fail
  refine (shr_bad (Or.inl hk) Ha.out (by decide)).mono ?_
  rintro e w3 ⟨t3, rfl, ⟨v3, rfl, hr⟩, hb⟩
  have HB3 := Lib.hid (HB2.out.trans (hb.mono HB2.out.size))
  have Ha := Lib.hid (Is.below Ha.out hb)
  have Hl := Lib.hid (Can.below Hl.out hb)
  have Hr := Lib.hid hr
  clear hb hr
  go_wp2_with fail
  refine (rShl_bad (Or.inl hk) Ha.out (by decide)).mono ?_
  rintro e w4 ⟨t4, rfl, ⟨v4, rfl, hx⟩, hb⟩
  have HB4 := Lib.hid (HB3.out.trans (hb.mono HB3.out.size))
  have Ha := Lib.hid (Is.below Ha.out hb)
  have Hl := Lib.hid (Can.below Hl.out hb)
  have Hr := Lib.hid (Can.below Hr.out hb)
  have Hx := Lib.hid hx
  clear hb hx
  go_wp2_with fail
  refine (rShr_bad (Or.inl hk) Ha.out (by decide)).mono ?_
  rintro e w5 ⟨t5, rfl, ⟨v5, rfl, hy⟩, hb⟩
  have HB5 := Lib.hid (HB4.out.trans (hb.mono HB4.out.size))
  have Hl := Lib.hid (Can.below Hl.out hb)
  have Hr := Lib.hid (Can.below Hr.out hb)
  have Hx := Lib.hid (Can.below Hx.out hb)
  have Hy := Lib.hid hy
  clear hb hy
  go_wp2_with fail
  refine (same_can Hl.out Hx.out rfl).mono ?_
  rintro e w6 ⟨v6, rfl, rfl, hb⟩
  have HB6 := Lib.hid (HB5.out.trans (hb.mono HB5.out.size))
  have Hr := Lib.hid (Can.below Hr.out hb)
  have Hy := Lib.hid (Can.below Hy.out hb)
  clear hb
  go_wp2_with fail
  refine (same_can Hr.out Hy.out rfl).mono ?_
  rintro e w7 ⟨v7, rfl, rfl, hb⟩
  have HB7 := Lib.hid (HB6.out.trans (hb.mono HB6.out.size))
  clear hb
  go_wp2
  go_ret
  exact ⟨_, rfl, rfl, HB7.out⟩

set_option maxRecDepth 100000 in
theorem NaturalShift_high (aa : Option Addr) (na ca : Nat) (k : Int) (w : World) (Xa : Nat) (ha : Is Xa 12 w (.slice aa na ca)) (la : na ≤ 12) (hk : 1048576 < k) :
    Calls Try.prog 9 #[.slice aa na ca, .int .i64 k] w (Ret w (Val (.bool true))) := by
  have Ha := Lib.hid ha
  clear ha
  go_enter Try.func9, Try.ntmps9
  have ha : decide ((12 : Int) < na) = false := by simpa using (show (na : Int) ≤ 12 by omega)
  have hk3 : decide ((300 : Int) < k) = true := by simpa using (show (300 : Int) < k by omega)
  have hk4 : decide (k ≤ 1048576) = false := by simpa using (show (1048576 : Int) < k by omega)
  go_wp2_with fail
  refine (awake_any _).mono ?_
  rintro e w1 ⟨v1, rfl, rfl, hb⟩
  have HB1 := Lib.hid hb
  have Ha := Lib.hid (Is.below Ha.out hb)
  clear hb
  go_wp2_with fail
  refine (shl_bad (Or.inr hk) Ha.out (by decide)).mono ?_
  rintro e w2 ⟨t2, rfl, ⟨v2, rfl, hl⟩, hb⟩
  have HB2 := Lib.hid (HB1.out.trans (hb.mono HB1.out.size))
  have Ha := Lib.hid (Is.below Ha.out hb)
  have Hl := Lib.hid hl
  clear hb hl
  go_wp2_with fail
  refine (shr_bad (Or.inr hk) Ha.out (by decide)).mono ?_
  rintro e w3 ⟨t3, rfl, ⟨v3, rfl, hr⟩, hb⟩
  have HB3 := Lib.hid (HB2.out.trans (hb.mono HB2.out.size))
  have Ha := Lib.hid (Is.below Ha.out hb)
  have Hl := Lib.hid (Can.below Hl.out hb)
  have Hr := Lib.hid hr
  clear hb hr
  go_wp2_with fail
  refine (rShl_bad (Or.inr hk) Ha.out (by decide)).mono ?_
  rintro e w4 ⟨t4, rfl, ⟨v4, rfl, hx⟩, hb⟩
  have HB4 := Lib.hid (HB3.out.trans (hb.mono HB3.out.size))
  have Ha := Lib.hid (Is.below Ha.out hb)
  have Hl := Lib.hid (Can.below Hl.out hb)
  have Hr := Lib.hid (Can.below Hr.out hb)
  have Hx := Lib.hid hx
  clear hb hx
  go_wp2_with fail
  refine (rShr_bad (Or.inr hk) Ha.out (by decide)).mono ?_
  rintro e w5 ⟨t5, rfl, ⟨v5, rfl, hy⟩, hb⟩
  have HB5 := Lib.hid (HB4.out.trans (hb.mono HB4.out.size))
  have Hl := Lib.hid (Can.below Hl.out hb)
  have Hr := Lib.hid (Can.below Hr.out hb)
  have Hx := Lib.hid (Can.below Hx.out hb)
  have Hy := Lib.hid hy
  clear hb hy
  go_wp2_with fail
  refine (same_can Hl.out Hx.out rfl).mono ?_
  rintro e w6 ⟨v6, rfl, rfl, hb⟩
  have HB6 := Lib.hid (HB5.out.trans (hb.mono HB5.out.size))
  have Hr := Lib.hid (Can.below Hr.out hb)
  have Hy := Lib.hid (Can.below Hy.out hb)
  clear hb
  go_wp2_with fail
  refine (same_can Hr.out Hy.out rfl).mono ?_
  rintro e w7 ⟨v7, rfl, rfl, hb⟩
  have HB7 := Lib.hid (HB6.out.trans (hb.mono HB6.out.size))
  clear hb
  go_wp2
  go_ret
  exact ⟨_, rfl, rfl, HB7.out⟩

set_option maxRecDepth 100000 in
theorem NaturalShift_good (aa : Option Addr) (na ca : Nat) (m : Nat) (w : World) (Xa : Nat) (ha : Is Xa 12 w (.slice aa na ca)) (la : na ≤ 12) (hm : m ≤ 300) :
    Calls Try.prog 9 #[.slice aa na ca, .int .i64 (m : Int)] w (Ret w (Val (.bool true))) := by
  have Ha := Lib.hid ha
  clear ha
  go_enter Try.func9, Try.ntmps9
  have ha : decide ((12 : Int) < na) = false := by simpa using (show (na : Int) ≤ 12 by omega)
  have hk3 : decide ((300 : Int) < (m : Int)) = false := by simpa using (show (m : Int) ≤ 300 by omega)
  go_wp2_with fail
  refine (awake_any _).mono ?_
  rintro e w1 ⟨v1, rfl, rfl, hb⟩
  have HB1 := Lib.hid hb
  have Ha := Lib.hid (Is.below Ha.out hb)
  clear hb
  go_wp2_with fail
  refine (shl_good hm Ha.out (by decide)).mono ?_
  rintro e w2 ⟨t2, rfl, ⟨v2, rfl, hl⟩, hb⟩
  have HB2 := Lib.hid (HB1.out.trans (hb.mono HB1.out.size))
  have Ha := Lib.hid (Is.below Ha.out hb)
  have Hl := Lib.hid hl
  clear hb hl
  go_wp2_with fail
  refine (shr_good hm Ha.out (by decide)).mono ?_
  rintro e w3 ⟨t3, rfl, ⟨v3, rfl, hr⟩, hb⟩
  have HB3 := Lib.hid (HB2.out.trans (hb.mono HB2.out.size))
  have Ha := Lib.hid (Is.below Ha.out hb)
  have Hl := Lib.hid (Can.below Hl.out hb)
  have Hr := Lib.hid hr
  clear hb hr
  go_wp2_with fail
  refine (rShl_good hm Ha.out (by decide)).mono ?_
  rintro e w4 ⟨t4, rfl, ⟨v4, rfl, hx⟩, hb⟩
  have HB4 := Lib.hid (HB3.out.trans (hb.mono HB3.out.size))
  have Ha := Lib.hid (Is.below Ha.out hb)
  have Hl := Lib.hid (Can.below Hl.out hb)
  have Hr := Lib.hid (Can.below Hr.out hb)
  have Hx := Lib.hid hx
  clear hb hx
  go_wp2_with fail
  refine (rShr_good hm Ha.out (by decide)).mono ?_
  rintro e w5 ⟨t5, rfl, ⟨v5, rfl, hy⟩, hb⟩
  have HB5 := Lib.hid (HB4.out.trans (hb.mono HB4.out.size))
  have Ha := Lib.hid (Is.below Ha.out hb)
  have Hl := Lib.hid (Can.below Hl.out hb)
  have Hr := Lib.hid (Can.below Hr.out hb)
  have Hx := Lib.hid (Can.below Hx.out hb)
  have Hy := Lib.hid hy
  clear hb hy
  go_wp2_with fail
  refine (same_can Hl.out Hx.out rfl).mono ?_
  rintro e w6 ⟨v6, rfl, rfl, hb⟩
  have HB6 := Lib.hid (HB5.out.trans (hb.mono HB5.out.size))
  have Ha := Lib.hid (Is.below Ha.out hb)
  have Hl := Lib.hid (Can.below Hl.out hb)
  have Hr := Lib.hid (Can.below Hr.out hb)
  have Hy := Lib.hid (Can.below Hy.out hb)
  clear hb
  go_wp2_with fail
  refine (same_can Hr.out Hy.out rfl).mono ?_
  rintro e w7 ⟨v7, rfl, rfl, hb⟩
  have HB7 := Lib.hid (HB6.out.trans (hb.mono HB6.out.size))
  have Ha := Lib.hid (Is.below Ha.out hb)
  have Hl := Lib.hid (Can.below Hl.out hb)
  clear hb
  go_wp2_with fail
  refine (shr_good hm Hl.out.is (by decide)).mono ?_
  rintro e w8 ⟨t8, rfl, ⟨v8, rfl, hd⟩, hb⟩
  have HB8 := Lib.hid (HB7.out.trans (hb.mono HB7.out.size))
  have Ha := Lib.hid (Is.below Ha.out hb)
  have Hl := Lib.hid (Can.below Hl.out hb)
  have Hd := Lib.hid hd
  clear hb hd
  go_wp2_with fail
  refine (shl_one m hm _).mono ?_
  rintro e w9 ⟨t9, rfl, ⟨v9, rfl, hp⟩, hb⟩
  have HB9 := Lib.hid (HB8.out.trans (hb.mono HB8.out.size))
  have Ha := Lib.hid (Is.below Ha.out hb)
  have Hl := Lib.hid (Can.below Hl.out hb)
  have Hd := Lib.hid (Can.below Hd.out hb)
  have Hp := Lib.hid hp
  clear hb hp
  go_wp2_with fail
  refine (rmake_is Ha.out).mono ?_
  rintro e w10 ⟨v10, rfl, hn, hb⟩
  have HB10 := Lib.hid (HB9.out.trans (hb.mono HB9.out.size))
  have Ha := Lib.hid (Is.below Ha.out hb)
  have Hl := Lib.hid (Can.below Hl.out hb)
  have Hd := Lib.hid (Can.below Hd.out hb)
  have Hp := Lib.hid (Can.below Hp.out hb)
  have Hn := Lib.hid hn
  clear hb hn
  go_wp2_with fail
  refine (same_can Hd.out Hn.out (Nat.mul_div_cancel _ (Nat.two_pow_pos m))).mono ?_
  rintro e w11 ⟨v11, rfl, rfl, hb⟩
  have HB11 := Lib.hid (HB10.out.trans (hb.mono HB10.out.size))
  have Ha := Lib.hid (Is.below Ha.out hb)
  have Hl := Lib.hid (Can.below Hl.out hb)
  have Hp := Lib.hid (Can.below Hp.out hb)
  clear hb
  go_wp2_with fail
  refine (mul_is Ha.out Hp.out.is (by decide) (by decide)).mono ?_
  rintro e w12 ⟨v12, rfl, hq, hb⟩
  have HB12 := Lib.hid (HB11.out.trans (hb.mono HB11.out.size))
  have Hl := Lib.hid (Can.below Hl.out hb)
  have Hq := Lib.hid hq
  clear hb hq
  go_wp2_with fail
  refine (same_can Hl.out Hq.out (by rw [Nat.one_mul])).mono ?_
  rintro e w13 ⟨v13, rfl, rfl, hb⟩
  have HB13 := Lib.hid (HB12.out.trans (hb.mono HB12.out.size))
  clear hb
  go_wp2
  go_ret
  exact ⟨_, rfl, rfl, HB13.out⟩

set_option maxRecDepth 100000 in
theorem NaturalShift_all (aa : Option Addr) (na ca : Nat) (k : Int) (w : World) (ra : Row w (.slice aa na ca) na) :
    Calls Try.prog 9 #[.slice aa na ca, .int .i64 k] w (Ret w (Val (.bool true))) := by
  by_cases la0 : 12 < na
  · exact NaturalShift_far1 _ _ _ _ _ la0
  by_cases h3 : 300 < k ∧ k ≤ 1048576
  · exact NaturalShift_far2 _ _ _ _ _ (by omega) h3.1 h3.2
  obtain ⟨Xa, ha⟩ := ra.is 12 (by omega) (by decide)
  by_cases hlow : k < 0
  · exact NaturalShift_low _ _ _ _ _ Xa ha (by omega) hlow
  by_cases hhigh : 1048576 < k
  · exact NaturalShift_high _ _ _ _ _ Xa ha (by omega) hhigh
  obtain ⟨m, rfl⟩ : ∃ m : Nat, k = m := ⟨k.toNat, by omega⟩
  exact NaturalShift_good _ _ _ m _ Xa ha (by omega) (by omega)

set_option maxRecDepth 100000 in
theorem NaturalGcd_far1 (aa : Option Addr) (na ca : Nat) (ab : Option Addr) (nb cb : Nat) (k : Int) (w : World)  (la : 3 < na) :
    Calls Try.prog 3 #[.slice aa na ca, .slice ab nb cb, .int .u32 k] w (Ret w (Val (.bool true))) := by
  go_enter Try.func3, Try.ntmps3
  have ha : decide ((3 : Int) < na) = true := by simpa using (show (3 : Int) < na by omega)
  go_wp2_with fail
  refine (awake_any _).mono ?_
  rintro e w1 ⟨v1, rfl, rfl, hb⟩
  have HB1 := Lib.hid hb
  clear hb
  go_wp2
  go_ret
  exact ⟨_, rfl, rfl, HB1.out⟩

set_option maxRecDepth 100000 in
theorem NaturalGcd_far2 (aa : Option Addr) (na ca : Nat) (ab : Option Addr) (nb cb : Nat) (k : Int) (w : World) (la : na ≤ 3) (lb : 3 < nb) :
    Calls Try.prog 3 #[.slice aa na ca, .slice ab nb cb, .int .u32 k] w (Ret w (Val (.bool true))) := by
  go_enter Try.func3, Try.ntmps3
  have ha : decide ((3 : Int) < na) = false := by simpa using (show (na : Int) ≤ 3 by omega)
  have hb : decide ((3 : Int) < nb) = true := by simpa using (show (3 : Int) < nb by omega)
  go_wp2_with fail
  refine (awake_any _).mono ?_
  rintro e w1 ⟨v1, rfl, rfl, hb⟩
  have HB1 := Lib.hid hb
  clear hb
  go_wp2
  go_ret
  exact ⟨_, rfl, rfl, HB1.out⟩

set_option maxRecDepth 100000 in
theorem NaturalGcd_near (aa : Option Addr) (na ca : Nat) (ab : Option Addr) (nb cb : Nat) (k : Int) (w : World) (Xa : Nat) (ha : Is Xa 3 w (.slice aa na ca)) (la : na ≤ 3) (Xb : Nat) (hb : Is Xb 3 w (.slice ab nb cb)) (lb : nb ≤ 3) (hk : 0 ≤ k ∧ k < 4294967296) :
    Calls Try.prog 3 #[.slice aa na ca, .slice ab nb cb, .int .u32 k] w (Ret w (Val (.bool true))) := by
  have Ha := Lib.hid ha
  have Hb := Lib.hid hb
  clear ha hb
  have Hk := Lib.hid hk
  clear hk
  go_enter Try.func3, Try.ntmps3
  have ha : decide ((3 : Int) < na) = false := by simpa using (show (na : Int) ≤ 3 by omega)
  have hb : decide ((3 : Int) < nb) = false := by simpa using (show (nb : Int) ≤ 3 by omega)
  go_wp2_with fail
  refine (awake_any _).mono ?_
  rintro e w1 ⟨v1, rfl, rfl, hb⟩
  have HB1 := Lib.hid hb
  have Ha := Lib.hid (Is.below Ha.out hb)
  have Hb := Lib.hid (Is.below Hb.out hb)
  clear hb
  go_wp2_with fail
  refine (copied_is Ha.out).mono ?_
  rintro e w2 ⟨v2, rfl, ht, hb⟩
  have HB2 := Lib.hid (HB1.out.trans (hb.mono HB1.out.size))
  have Ha := Lib.hid (Is.below Ha.out hb)
  have Hb := Lib.hid (Is.below Hb.out hb)
  have Ht := Lib.hid ht
  clear hb ht
  go_wp2_with fail
  refine (copied_is Hb.out).mono ?_
  rintro e w3 ⟨v3, rfl, hu, hb⟩
  have HB3 := Lib.hid (HB2.out.trans (hb.mono HB2.out.size))
  have Ha := Lib.hid (Is.below Ha.out hb)
  have Hb := Lib.hid (Is.below Hb.out hb)
  have Ht := Lib.hid (Is.below Ht.out hb)
  have Hu := Lib.hid hu
  clear hb hu
  go_wp2_with fail
  refine (gcd_can Ht.out Hu.out (by decide) (by decide)).mono ?_
  rintro e w4 ⟨v4, rfl, hg, hb⟩
  have HB4 := Lib.hid (HB3.out.trans (hb.mono HB3.out.size))
  have Ha := Lib.hid (Is.below Ha.out hb)
  have Hb := Lib.hid (Is.below Hb.out hb)
  have Hg := Lib.hid hg
  clear hb hg
  go_wp2_with fail
  refine (rgcd_can Ha.out Hb.out (by decide) (by decide)).mono ?_
  rintro e w5 ⟨v5, rfl, hx, hb⟩
  have HB5 := Lib.hid (HB4.out.trans (hb.mono HB4.out.size))
  have Ha := Lib.hid (Is.below Ha.out hb)
  have Hb := Lib.hid (Is.below Hb.out hb)
  have Hg := Lib.hid (Can.below Hg.out hb)
  have Hx := Lib.hid hx
  clear hb hx
  go_wp2_with fail
  refine (same_can Hg.out Hx.out rfl).mono ?_
  rintro e w6 ⟨v6, rfl, rfl, hb⟩
  have HB6 := Lib.hid (HB5.out.trans (hb.mono HB5.out.size))
  have Ha := Lib.hid (Is.below Ha.out hb)
  have Hb := Lib.hid (Is.below Hb.out hb)
  have Hg := Lib.hid (Can.below Hg.out hb)
  clear hb
  go_wp2_with fail
  refine (gcd_can Hb.out Ha.out (by decide) (by decide)).mono ?_
  rintro e w7 ⟨v7, rfl, hy, hb⟩
  have HB7 := Lib.hid (HB6.out.trans (hb.mono HB6.out.size))
  have Ha := Lib.hid (Is.below Ha.out hb)
  have Hb := Lib.hid (Is.below Hb.out hb)
  have Hg := Lib.hid (Can.below Hg.out hb)
  have Hy := Lib.hid hy
  clear hb hy
  go_wp2_with fail
  refine (same_can Hg.out Hy.out (Nat.gcd_comm _ _)).mono ?_
  rintro e w8 ⟨v8, rfl, rfl, hb⟩
  have HB8 := Lib.hid (HB7.out.trans (hb.mono HB7.out.size))
  have Ha := Lib.hid (Is.below Ha.out hb)
  have Hb := Lib.hid (Is.below Hb.out hb)
  have Hg := Lib.hid (Can.below Hg.out hb)
  clear hb
  go_wp2_with fail
  refine (rmake_one k Hk.out _).mono ?_
  rintro e w9 ⟨v9, rfl, hf, hb⟩
  have HB9 := Lib.hid (HB8.out.trans (hb.mono HB8.out.size))
  have Ha := Lib.hid (Is.below Ha.out hb)
  have Hb := Lib.hid (Is.below Hb.out hb)
  have Hg := Lib.hid (Can.below Hg.out hb)
  have Hf := Lib.hid hf
  clear hb hf
  go_wp2_with fail
  refine (rmul_is Ha.out Hf.out.is (by decide) (by decide)).mono ?_
  rintro e w10 ⟨v10, rfl, hp, hb⟩
  have HB10 := Lib.hid (HB9.out.trans (hb.mono HB9.out.size))
  have Hb := Lib.hid (Is.below Hb.out hb)
  have Hg := Lib.hid (Can.below Hg.out hb)
  have Hf := Lib.hid (Can.below Hf.out hb)
  have Hp := Lib.hid hp
  clear hb hp
  go_wp2_with fail
  refine (rmul_is Hb.out Hf.out.is (by decide) (by decide)).mono ?_
  rintro e w11 ⟨v11, rfl, hq, hb⟩
  have HB11 := Lib.hid (HB10.out.trans (hb.mono HB10.out.size))
  have Hg := Lib.hid (Can.below Hg.out hb)
  have Hf := Lib.hid (Can.below Hf.out hb)
  have Hp := Lib.hid (Can.below Hp.out hb)
  have Hq := Lib.hid hq
  clear hb hq
  go_wp2_with fail
  refine (gcd_can Hp.out.is Hq.out.is (by decide) (by decide)).mono ?_
  rintro e w12 ⟨v12, rfl, hr, hb⟩
  have HB12 := Lib.hid (HB11.out.trans (hb.mono HB11.out.size))
  have Hg := Lib.hid (Can.below Hg.out hb)
  have Hf := Lib.hid (Can.below Hf.out hb)
  have Hr := Lib.hid hr
  clear hb hr
  go_wp2_with fail
  refine (rmul_is Hg.out.is Hf.out.is (by decide) (by decide)).mono ?_
  rintro e w13 ⟨v13, rfl, hs, hb⟩
  have HB13 := Lib.hid (HB12.out.trans (hb.mono HB12.out.size))
  have Hr := Lib.hid (Can.below Hr.out hb)
  have Hs := Lib.hid hs
  clear hb hs
  go_wp2_with fail
  refine (same_can Hr.out Hs.out (Nat.gcd_mul_right _ _ _)).mono ?_
  rintro e w14 ⟨v14, rfl, rfl, hb⟩
  have HB14 := Lib.hid (HB13.out.trans (hb.mono HB13.out.size))
  clear hb
  go_wp2
  go_ret
  exact ⟨_, rfl, rfl, HB14.out⟩

set_option maxRecDepth 100000 in
theorem NaturalGcd_all (aa : Option Addr) (na ca : Nat) (ab : Option Addr) (nb cb : Nat) (k : Int) (w : World) (ra : Row w (.slice aa na ca) na) (rb : Row w (.slice ab nb cb) nb) (hk : 0 ≤ k ∧ k < 4294967296) :
    Calls Try.prog 3 #[.slice aa na ca, .slice ab nb cb, .int .u32 k] w (Ret w (Val (.bool true))) := by
  by_cases ha0 : 3 < na
  · exact NaturalGcd_far1 _ _ _ _ _ _ _ _ ha0
  by_cases hb0 : 3 < nb
  · exact NaturalGcd_far2 _ _ _ _ _ _ _ _ (by omega) hb0
  obtain ⟨Xa, ha⟩ := ra.is 3 (by omega) (by decide)
  obtain ⟨Xb, hb⟩ := rb.is 3 (by omega) (by decide)
  exact NaturalGcd_near _ _ _ _ _ _ _ _ Xa ha (by omega) Xb hb (by omega) hk

set_option maxRecDepth 100000 in
theorem NaturalMake_far1 (aa : Option Addr) (na ca : Nat) (x : Nat) (w : World) (la : 40 < na) :
    Calls Try.prog 4 #[.slice aa na ca, .int .u64 (x : Int)] w (Ret w (Val (.bool true))) := by
  go_enter Try.func4, Try.ntmps4
  have ha : decide ((40 : Int) < na) = true := by simpa using (show (40 : Int) < na by omega)
  go_wp2_with fail
  refine (awake_any _).mono ?_
  rintro e w1 ⟨v1, rfl, rfl, hb⟩
  have HB1 := Lib.hid hb
  clear hb
  go_wp2
  go_ret
  exact ⟨_, rfl, rfl, HB1.out⟩

set_option maxRecDepth 100000 in
theorem NaturalMake_near (aa : Option Addr) (na ca : Nat) (x : Nat) (w : World) (xs : List Nat) (ha : Sl w (.slice aa na ca) xs) (hl : xs.length ≤ 40) (la : na ≤ 40) (hx : x < 18446744073709551616) (B K : Bool) (U V : Int) (hB : canon xs = B) (hU : ((uintN (val xs) : Nat) : Int) = U) (hK : uintB (val xs) = K) (hV : ((blen (val xs) : Nat) : Int) = V) :
    Calls Try.prog 4 #[.slice aa na ca, .int .u64 (x : Int)] w (Ret w (Val (.bool true))) := by
  have Ha := Lib.hid ha
  have Hx0 := Lib.hid hx
  clear ha hx
  cases B <;> cases K
  · go_enter Try.func4, Try.ntmps4
    have ha : decide ((40 : Int) < na) = false := by simpa using (show (na : Int) ≤ 40 by omega)
    go_wp2_with fail
    refine (awake_any _).mono ?_
    rintro e w1 ⟨v1, rfl, rfl, hb⟩
    have HB1 := Lib.hid hb
    have Ha := Lib.hid (Sl.below Ha.out hb)
    clear hb
    go_wp2_with fail
    refine (copied_any _ _ _ Ha.out).mono ?_
    rintro e w2 ⟨v2, rfl, ht, hb⟩
    change Sl _ _ _ at ht
    have HB2 := Lib.hid (HB1.out.trans (hb.mono HB1.out.size))
    have Ha := Lib.hid (Sl.below Ha.out hb)
    clear hb
    go_wp2_with fail
    refine (make_sl ht hl).mono ?_
    rintro e w3 ⟨v3, rfl, hn, hb⟩
    have HB3 := Lib.hid (HB2.out.trans (hb.mono HB2.out.size))
    have Ha := Lib.hid (Sl.below Ha.out hb)
    have Hn := Lib.hid hn
    clear hb hn
    go_wp2_with fail
    refine (uint_sl hU hK Ha.out).mono ?_
    rintro e w4 ⟨v4, rfl, rfl, hb⟩
    have HB4 := Lib.hid (HB3.out.trans (hb.mono HB3.out.size))
    have Ha := Lib.hid (Sl.below Ha.out hb)
    have Hn := Lib.hid (Can.below Hn.out hb)
    clear hb
    go_wp2_with fail
    refine (ruint_sl hU hK Ha.out).mono ?_
    rintro e w5 ⟨v5, rfl, rfl, hb⟩
    have HB5 := Lib.hid (HB4.out.trans (hb.mono HB4.out.size))
    have Ha := Lib.hid (Sl.below Ha.out hb)
    have Hn := Lib.hid (Can.below Hn.out hb)
    clear hb
    go_wp2_with fail
    refine (rmake_sl Ha.out hl).mono ?_
    rintro e w6 ⟨v6, rfl, hr, hb⟩
    have HB6 := Lib.hid (HB5.out.trans (hb.mono HB5.out.size))
    have Ha := Lib.hid (Sl.below Ha.out hb)
    have Hn := Lib.hid (Can.below Hn.out hb)
    have Hr := Lib.hid hr
    clear hb hr
    go_wp2_with fail
    refine (same_can Hn.out Hr.out rfl).mono ?_
    rintro e w7 ⟨v7, rfl, rfl, hb⟩
    have HB7 := Lib.hid (HB6.out.trans (hb.mono HB6.out.size))
    have Ha := Lib.hid (Sl.below Ha.out hb)
    have Hn := Lib.hid (Can.below Hn.out hb)
    clear hb
    go_wp2_with fail
    refine (valid_sl hB Ha.out).mono ?_
    rintro e w8 ⟨v8, rfl, rfl, hb⟩
    have HB8 := Lib.hid (HB7.out.trans (hb.mono HB7.out.size))
    have Ha := Lib.hid (Sl.below Ha.out hb)
    have Hn := Lib.hid (Can.below Hn.out hb)
    clear hb
    go_wp2_with fail
    refine (rvalid_sl hB Ha.out).mono ?_
    rintro e w9 ⟨v9, rfl, rfl, hb⟩
    have HB9 := Lib.hid (HB8.out.trans (hb.mono HB8.out.size))
    have Ha := Lib.hid (Sl.below Ha.out hb)
    have Hn := Lib.hid (Can.below Hn.out hb)
    clear hb
    go_wp2_with fail
    refine (valid_can Hn.out).mono ?_
    rintro e w10 ⟨v10, rfl, rfl, hb⟩
    have HB10 := Lib.hid (HB9.out.trans (hb.mono HB9.out.size))
    have Ha := Lib.hid (Sl.below Ha.out hb)
    clear hb
    go_wp2_with fail
    refine (bits_sl hV Ha.out hl).mono ?_
    rintro e w11 ⟨v11, rfl, rfl, hb⟩
    have HB11 := Lib.hid (HB10.out.trans (hb.mono HB10.out.size))
    have Ha := Lib.hid (Sl.below Ha.out hb)
    clear hb
    go_wp2_with fail
    refine (rbits_sl hV Ha.out hl).mono ?_
    rintro e w12 ⟨v12, rfl, rfl, hb⟩
    have HB12 := Lib.hid (HB11.out.trans (hb.mono HB11.out.size))
    clear hb
    go_wp2_with fail
    refine (of_can Hx0.out).mono ?_
    rintro e w13 ⟨v13, rfl, ho, hb⟩
    have HB13 := Lib.hid (HB12.out.trans (hb.mono HB12.out.size))
    have Ho := Lib.hid ho
    clear hb ho
    go_wp2_with fail
    refine (uint_can Hx0.out Ho.out).mono ?_
    rintro e w14 ⟨v14, rfl, rfl, hb⟩
    have HB14 := Lib.hid (HB13.out.trans (hb.mono HB13.out.size))
    clear hb
    go_wp2_with fail
    refine (of_can Hx0.out).mono ?_
    rintro e w15 ⟨v15, rfl, hp, hb⟩
    have HB15 := Lib.hid (HB14.out.trans (hb.mono HB14.out.size))
    have Hp := Lib.hid hp
    clear hb hp
    go_wp2_with fail
    refine (rof_can Hx0.out).mono ?_
    rintro e w16 ⟨v16, rfl, hq, hb⟩
    have HB16 := Lib.hid (HB15.out.trans (hb.mono HB15.out.size))
    have Hp := Lib.hid (Can.below Hp.out hb)
    have Hq := Lib.hid hq
    clear hb hq
    go_wp2_with fail
    refine (same_can Hp.out Hq.out rfl).mono ?_
    rintro e w17 ⟨v17, rfl, rfl, hb⟩
    have HB17 := Lib.hid (HB16.out.trans (hb.mono HB16.out.size))
    clear hb
    go_wp2
    go_ret
    exact ⟨_, rfl, rfl, HB17.out⟩
  · go_enter Try.func4, Try.ntmps4
    have ha : decide ((40 : Int) < na) = false := by simpa using (show (na : Int) ≤ 40 by omega)
    go_wp2_with fail
    refine (awake_any _).mono ?_
    rintro e w1 ⟨v1, rfl, rfl, hb⟩
    have HB1 := Lib.hid hb
    have Ha := Lib.hid (Sl.below Ha.out hb)
    clear hb
    go_wp2_with fail
    refine (copied_any _ _ _ Ha.out).mono ?_
    rintro e w2 ⟨v2, rfl, ht, hb⟩
    change Sl _ _ _ at ht
    have HB2 := Lib.hid (HB1.out.trans (hb.mono HB1.out.size))
    have Ha := Lib.hid (Sl.below Ha.out hb)
    clear hb
    go_wp2_with fail
    refine (make_sl ht hl).mono ?_
    rintro e w3 ⟨v3, rfl, hn, hb⟩
    have HB3 := Lib.hid (HB2.out.trans (hb.mono HB2.out.size))
    have Ha := Lib.hid (Sl.below Ha.out hb)
    have Hn := Lib.hid hn
    clear hb hn
    go_wp2_with fail
    refine (uint_sl hU hK Ha.out).mono ?_
    rintro e w4 ⟨v4, rfl, rfl, hb⟩
    have HB4 := Lib.hid (HB3.out.trans (hb.mono HB3.out.size))
    have Ha := Lib.hid (Sl.below Ha.out hb)
    have Hn := Lib.hid (Can.below Hn.out hb)
    clear hb
    go_wp2_with fail
    refine (ruint_sl hU hK Ha.out).mono ?_
    rintro e w5 ⟨v5, rfl, rfl, hb⟩
    have HB5 := Lib.hid (HB4.out.trans (hb.mono HB4.out.size))
    have Ha := Lib.hid (Sl.below Ha.out hb)
    have Hn := Lib.hid (Can.below Hn.out hb)
    clear hb
    go_wp2_with fail
    refine (rmake_sl Ha.out hl).mono ?_
    rintro e w6 ⟨v6, rfl, hr, hb⟩
    have HB6 := Lib.hid (HB5.out.trans (hb.mono HB5.out.size))
    have Ha := Lib.hid (Sl.below Ha.out hb)
    have Hn := Lib.hid (Can.below Hn.out hb)
    have Hr := Lib.hid hr
    clear hb hr
    go_wp2_with fail
    refine (same_can Hn.out Hr.out rfl).mono ?_
    rintro e w7 ⟨v7, rfl, rfl, hb⟩
    have HB7 := Lib.hid (HB6.out.trans (hb.mono HB6.out.size))
    have Ha := Lib.hid (Sl.below Ha.out hb)
    have Hn := Lib.hid (Can.below Hn.out hb)
    clear hb
    go_wp2_with fail
    refine (valid_sl hB Ha.out).mono ?_
    rintro e w8 ⟨v8, rfl, rfl, hb⟩
    have HB8 := Lib.hid (HB7.out.trans (hb.mono HB7.out.size))
    have Ha := Lib.hid (Sl.below Ha.out hb)
    have Hn := Lib.hid (Can.below Hn.out hb)
    clear hb
    go_wp2_with fail
    refine (rvalid_sl hB Ha.out).mono ?_
    rintro e w9 ⟨v9, rfl, rfl, hb⟩
    have HB9 := Lib.hid (HB8.out.trans (hb.mono HB8.out.size))
    have Ha := Lib.hid (Sl.below Ha.out hb)
    have Hn := Lib.hid (Can.below Hn.out hb)
    clear hb
    go_wp2_with fail
    refine (valid_can Hn.out).mono ?_
    rintro e w10 ⟨v10, rfl, rfl, hb⟩
    have HB10 := Lib.hid (HB9.out.trans (hb.mono HB9.out.size))
    have Ha := Lib.hid (Sl.below Ha.out hb)
    clear hb
    go_wp2_with fail
    refine (bits_sl hV Ha.out hl).mono ?_
    rintro e w11 ⟨v11, rfl, rfl, hb⟩
    have HB11 := Lib.hid (HB10.out.trans (hb.mono HB10.out.size))
    have Ha := Lib.hid (Sl.below Ha.out hb)
    clear hb
    go_wp2_with fail
    refine (rbits_sl hV Ha.out hl).mono ?_
    rintro e w12 ⟨v12, rfl, rfl, hb⟩
    have HB12 := Lib.hid (HB11.out.trans (hb.mono HB11.out.size))
    clear hb
    go_wp2_with fail
    refine (of_can Hx0.out).mono ?_
    rintro e w13 ⟨v13, rfl, ho, hb⟩
    have HB13 := Lib.hid (HB12.out.trans (hb.mono HB12.out.size))
    have Ho := Lib.hid ho
    clear hb ho
    go_wp2_with fail
    refine (uint_can Hx0.out Ho.out).mono ?_
    rintro e w14 ⟨v14, rfl, rfl, hb⟩
    have HB14 := Lib.hid (HB13.out.trans (hb.mono HB13.out.size))
    clear hb
    go_wp2_with fail
    refine (of_can Hx0.out).mono ?_
    rintro e w15 ⟨v15, rfl, hp, hb⟩
    have HB15 := Lib.hid (HB14.out.trans (hb.mono HB14.out.size))
    have Hp := Lib.hid hp
    clear hb hp
    go_wp2_with fail
    refine (rof_can Hx0.out).mono ?_
    rintro e w16 ⟨v16, rfl, hq, hb⟩
    have HB16 := Lib.hid (HB15.out.trans (hb.mono HB15.out.size))
    have Hp := Lib.hid (Can.below Hp.out hb)
    have Hq := Lib.hid hq
    clear hb hq
    go_wp2_with fail
    refine (same_can Hp.out Hq.out rfl).mono ?_
    rintro e w17 ⟨v17, rfl, rfl, hb⟩
    have HB17 := Lib.hid (HB16.out.trans (hb.mono HB16.out.size))
    clear hb
    go_wp2
    go_ret
    exact ⟨_, rfl, rfl, HB17.out⟩
  · go_enter Try.func4, Try.ntmps4
    have ha : decide ((40 : Int) < na) = false := by simpa using (show (na : Int) ≤ 40 by omega)
    go_wp2_with fail
    refine (awake_any _).mono ?_
    rintro e w1 ⟨v1, rfl, rfl, hb⟩
    have HB1 := Lib.hid hb
    have Ha := Lib.hid (Sl.below Ha.out hb)
    clear hb
    go_wp2_with fail
    refine (copied_any _ _ _ Ha.out).mono ?_
    rintro e w2 ⟨v2, rfl, ht, hb⟩
    change Sl _ _ _ at ht
    have HB2 := Lib.hid (HB1.out.trans (hb.mono HB1.out.size))
    have Ha := Lib.hid (Sl.below Ha.out hb)
    clear hb
    go_wp2_with fail
    refine (make_sl ht hl).mono ?_
    rintro e w3 ⟨v3, rfl, hn, hb⟩
    have HB3 := Lib.hid (HB2.out.trans (hb.mono HB2.out.size))
    have Ha := Lib.hid (Sl.below Ha.out hb)
    have Hn := Lib.hid hn
    clear hb hn
    go_wp2_with fail
    refine (uint_sl hU hK Ha.out).mono ?_
    rintro e w4 ⟨v4, rfl, rfl, hb⟩
    have HB4 := Lib.hid (HB3.out.trans (hb.mono HB3.out.size))
    have Ha := Lib.hid (Sl.below Ha.out hb)
    have Hn := Lib.hid (Can.below Hn.out hb)
    clear hb
    go_wp2_with fail
    refine (ruint_sl hU hK Ha.out).mono ?_
    rintro e w5 ⟨v5, rfl, rfl, hb⟩
    have HB5 := Lib.hid (HB4.out.trans (hb.mono HB4.out.size))
    have Ha := Lib.hid (Sl.below Ha.out hb)
    have Hn := Lib.hid (Can.below Hn.out hb)
    clear hb
    go_wp2_with fail
    refine (rmake_sl Ha.out hl).mono ?_
    rintro e w6 ⟨v6, rfl, hr, hb⟩
    have HB6 := Lib.hid (HB5.out.trans (hb.mono HB5.out.size))
    have Ha := Lib.hid (Sl.below Ha.out hb)
    have Hn := Lib.hid (Can.below Hn.out hb)
    have Hr := Lib.hid hr
    clear hb hr
    go_wp2_with fail
    refine (same_can Hn.out Hr.out rfl).mono ?_
    rintro e w7 ⟨v7, rfl, rfl, hb⟩
    have HB7 := Lib.hid (HB6.out.trans (hb.mono HB6.out.size))
    have Ha := Lib.hid (Sl.below Ha.out hb)
    have Hn := Lib.hid (Can.below Hn.out hb)
    clear hb
    go_wp2_with fail
    refine (valid_sl hB Ha.out).mono ?_
    rintro e w8 ⟨v8, rfl, rfl, hb⟩
    have HB8 := Lib.hid (HB7.out.trans (hb.mono HB7.out.size))
    have Ha := Lib.hid (Sl.below Ha.out hb)
    have Hn := Lib.hid (Can.below Hn.out hb)
    clear hb
    go_wp2_with fail
    refine (rvalid_sl hB Ha.out).mono ?_
    rintro e w9 ⟨v9, rfl, rfl, hb⟩
    have HB9 := Lib.hid (HB8.out.trans (hb.mono HB8.out.size))
    have Ha := Lib.hid (Sl.below Ha.out hb)
    have Hn := Lib.hid (Can.below Hn.out hb)
    clear hb
    go_wp2_with fail
    refine (valid_can Hn.out).mono ?_
    rintro e w10 ⟨v10, rfl, rfl, hb⟩
    have HB10 := Lib.hid (HB9.out.trans (hb.mono HB9.out.size))
    have Ha := Lib.hid (Sl.below Ha.out hb)
    clear hb
    go_wp2_with fail
    refine (bits_sl hV Ha.out hl).mono ?_
    rintro e w11 ⟨v11, rfl, rfl, hb⟩
    have HB11 := Lib.hid (HB10.out.trans (hb.mono HB10.out.size))
    have Ha := Lib.hid (Sl.below Ha.out hb)
    clear hb
    go_wp2_with fail
    refine (rbits_sl hV Ha.out hl).mono ?_
    rintro e w12 ⟨v12, rfl, rfl, hb⟩
    have HB12 := Lib.hid (HB11.out.trans (hb.mono HB11.out.size))
    clear hb
    go_wp2_with fail
    refine (of_can Hx0.out).mono ?_
    rintro e w13 ⟨v13, rfl, ho, hb⟩
    have HB13 := Lib.hid (HB12.out.trans (hb.mono HB12.out.size))
    have Ho := Lib.hid ho
    clear hb ho
    go_wp2_with fail
    refine (uint_can Hx0.out Ho.out).mono ?_
    rintro e w14 ⟨v14, rfl, rfl, hb⟩
    have HB14 := Lib.hid (HB13.out.trans (hb.mono HB13.out.size))
    clear hb
    go_wp2_with fail
    refine (of_can Hx0.out).mono ?_
    rintro e w15 ⟨v15, rfl, hp, hb⟩
    have HB15 := Lib.hid (HB14.out.trans (hb.mono HB14.out.size))
    have Hp := Lib.hid hp
    clear hb hp
    go_wp2_with fail
    refine (rof_can Hx0.out).mono ?_
    rintro e w16 ⟨v16, rfl, hq, hb⟩
    have HB16 := Lib.hid (HB15.out.trans (hb.mono HB15.out.size))
    have Hp := Lib.hid (Can.below Hp.out hb)
    have Hq := Lib.hid hq
    clear hb hq
    go_wp2_with fail
    refine (same_can Hp.out Hq.out rfl).mono ?_
    rintro e w17 ⟨v17, rfl, rfl, hb⟩
    have HB17 := Lib.hid (HB16.out.trans (hb.mono HB16.out.size))
    clear hb
    go_wp2
    go_ret
    exact ⟨_, rfl, rfl, HB17.out⟩
  · go_enter Try.func4, Try.ntmps4
    have ha : decide ((40 : Int) < na) = false := by simpa using (show (na : Int) ≤ 40 by omega)
    go_wp2_with fail
    refine (awake_any _).mono ?_
    rintro e w1 ⟨v1, rfl, rfl, hb⟩
    have HB1 := Lib.hid hb
    have Ha := Lib.hid (Sl.below Ha.out hb)
    clear hb
    go_wp2_with fail
    refine (copied_any _ _ _ Ha.out).mono ?_
    rintro e w2 ⟨v2, rfl, ht, hb⟩
    change Sl _ _ _ at ht
    have HB2 := Lib.hid (HB1.out.trans (hb.mono HB1.out.size))
    have Ha := Lib.hid (Sl.below Ha.out hb)
    clear hb
    go_wp2_with fail
    refine (make_sl ht hl).mono ?_
    rintro e w3 ⟨v3, rfl, hn, hb⟩
    have HB3 := Lib.hid (HB2.out.trans (hb.mono HB2.out.size))
    have Ha := Lib.hid (Sl.below Ha.out hb)
    have Hn := Lib.hid hn
    clear hb hn
    go_wp2_with fail
    refine (uint_sl hU hK Ha.out).mono ?_
    rintro e w4 ⟨v4, rfl, rfl, hb⟩
    have HB4 := Lib.hid (HB3.out.trans (hb.mono HB3.out.size))
    have Ha := Lib.hid (Sl.below Ha.out hb)
    have Hn := Lib.hid (Can.below Hn.out hb)
    clear hb
    go_wp2_with fail
    refine (ruint_sl hU hK Ha.out).mono ?_
    rintro e w5 ⟨v5, rfl, rfl, hb⟩
    have HB5 := Lib.hid (HB4.out.trans (hb.mono HB4.out.size))
    have Ha := Lib.hid (Sl.below Ha.out hb)
    have Hn := Lib.hid (Can.below Hn.out hb)
    clear hb
    go_wp2_with fail
    refine (rmake_sl Ha.out hl).mono ?_
    rintro e w6 ⟨v6, rfl, hr, hb⟩
    have HB6 := Lib.hid (HB5.out.trans (hb.mono HB5.out.size))
    have Ha := Lib.hid (Sl.below Ha.out hb)
    have Hn := Lib.hid (Can.below Hn.out hb)
    have Hr := Lib.hid hr
    clear hb hr
    go_wp2_with fail
    refine (same_can Hn.out Hr.out rfl).mono ?_
    rintro e w7 ⟨v7, rfl, rfl, hb⟩
    have HB7 := Lib.hid (HB6.out.trans (hb.mono HB6.out.size))
    have Ha := Lib.hid (Sl.below Ha.out hb)
    have Hn := Lib.hid (Can.below Hn.out hb)
    clear hb
    go_wp2_with fail
    refine (valid_sl hB Ha.out).mono ?_
    rintro e w8 ⟨v8, rfl, rfl, hb⟩
    have HB8 := Lib.hid (HB7.out.trans (hb.mono HB7.out.size))
    have Ha := Lib.hid (Sl.below Ha.out hb)
    have Hn := Lib.hid (Can.below Hn.out hb)
    clear hb
    go_wp2_with fail
    refine (rvalid_sl hB Ha.out).mono ?_
    rintro e w9 ⟨v9, rfl, rfl, hb⟩
    have HB9 := Lib.hid (HB8.out.trans (hb.mono HB8.out.size))
    have Ha := Lib.hid (Sl.below Ha.out hb)
    have Hn := Lib.hid (Can.below Hn.out hb)
    clear hb
    go_wp2_with fail
    refine (valid_can Hn.out).mono ?_
    rintro e w10 ⟨v10, rfl, rfl, hb⟩
    have HB10 := Lib.hid (HB9.out.trans (hb.mono HB9.out.size))
    have Ha := Lib.hid (Sl.below Ha.out hb)
    clear hb
    go_wp2_with fail
    refine (bits_sl hV Ha.out hl).mono ?_
    rintro e w11 ⟨v11, rfl, rfl, hb⟩
    have HB11 := Lib.hid (HB10.out.trans (hb.mono HB10.out.size))
    have Ha := Lib.hid (Sl.below Ha.out hb)
    clear hb
    go_wp2_with fail
    refine (rbits_sl hV Ha.out hl).mono ?_
    rintro e w12 ⟨v12, rfl, rfl, hb⟩
    have HB12 := Lib.hid (HB11.out.trans (hb.mono HB11.out.size))
    clear hb
    go_wp2_with fail
    refine (of_can Hx0.out).mono ?_
    rintro e w13 ⟨v13, rfl, ho, hb⟩
    have HB13 := Lib.hid (HB12.out.trans (hb.mono HB12.out.size))
    have Ho := Lib.hid ho
    clear hb ho
    go_wp2_with fail
    refine (uint_can Hx0.out Ho.out).mono ?_
    rintro e w14 ⟨v14, rfl, rfl, hb⟩
    have HB14 := Lib.hid (HB13.out.trans (hb.mono HB13.out.size))
    clear hb
    go_wp2_with fail
    refine (of_can Hx0.out).mono ?_
    rintro e w15 ⟨v15, rfl, hp, hb⟩
    have HB15 := Lib.hid (HB14.out.trans (hb.mono HB14.out.size))
    have Hp := Lib.hid hp
    clear hb hp
    go_wp2_with fail
    refine (rof_can Hx0.out).mono ?_
    rintro e w16 ⟨v16, rfl, hq, hb⟩
    have HB16 := Lib.hid (HB15.out.trans (hb.mono HB15.out.size))
    have Hp := Lib.hid (Can.below Hp.out hb)
    have Hq := Lib.hid hq
    clear hb hq
    go_wp2_with fail
    refine (same_can Hp.out Hq.out rfl).mono ?_
    rintro e w17 ⟨v17, rfl, rfl, hb⟩
    have HB17 := Lib.hid (HB16.out.trans (hb.mono HB16.out.size))
    clear hb
    go_wp2
    go_ret
    exact ⟨_, rfl, rfl, HB17.out⟩

set_option maxRecDepth 100000 in
theorem NaturalMake_all (aa : Option Addr) (na ca : Nat) (x : Nat) (w : World) (ra : Row w (.slice aa na ca) na) (hx : x < 18446744073709551616) :
    Calls Try.prog 4 #[.slice aa na ca, .int .u64 (x : Int)] w (Ret w (Val (.bool true))) := by
  by_cases ha0 : 40 < na
  · exact NaturalMake_far1 _ _ _ _ _ ha0
  obtain ⟨xs, h1, h2⟩ := ra (by omega)
  exact NaturalMake_near _ _ _ _ _ xs h1 (by omega) (by omega) hx _ _ _ _ rfl rfl rfl rfl

end Go.Proofs.Ytenncidmkcfebaa
