/- Texts Cc Cd Ce Ea LfR LgD LgA of this proof, in this order. -/
import Derived.Test.YtikglhmabidjoaaGreatU05
import Derived.ProofKit
import Derived.OpenShut
import Derived.ShutString
import Derived.ChangeOld
import Derived.Lib.SmallJoins
import Derived.Test.YtikglhmabidjoaaGreatU02
import Derived.KernelRfl
set_option linter.unusedVariables false
set_option linter.unusedSimpArgs false
set_option maxRecDepth 100000
set_option maxHeartbeats 4000000
namespace Go.Proofs.YtikglhmabidjoaaGreat
open Go.RowKit Nt
theorem r3one_is {d L : Nat} {t : Value} {w : World} (h : Is d L w t) : Calls Tryz.prog 78 #[t] w (Ret w (Is (un d) (max L 1))) := by
 rcases eP_ d with h0 | h0
 ·
  go_enter Tryz.func78, Tryz.ntmps78
  go_wp2_with fail
  refine cM (rmake_is h) ?_
  rintro e w1 ⟨v1, rfl, hn, hb⟩
  obtain ⟨a, n, c, rfl⟩ := hn.is.lit
  have dx : ((n : Int) == 0) = true := hn.len0 true (by rw [h0]; rfl)
  have HB := lH hb
  have H0 := lH h0
  clear hb hn h0
  go_wp2
  go_ret
  exact ⟨_, rfl, Is.cast (un_zero H0.out) (Is.mono (Is.one _ _) (Nat.le_max_right _ _)), HB.out.alloc HB.out.size _⟩
 ·
  go_enter Tryz.func78, Tryz.ntmps78
  go_wp2_with fail
  refine cM (rmake_is h) ?_
  rintro e w1 ⟨v1, rfl, hn, hb⟩
  obtain ⟨a, n, c, rfl⟩ := hn.is.lit
  have dx : ((n : Int) == 0) = false := hn.len0 false (beq_eq_false_iff_ne.2 (Nat.ne_of_gt h0))
  have HB := lH hb
  have Hn := lH hn
  clear hb hn
  go_wp2
  go_ret
  exact ⟨_, rfl, Is.cast (un_of h0) (Is.mono Hn.out.is (Nat.le_max_left _ _)), HB.out⟩
theorem rdivmod_pos {a b L M : Nat} {u v : Value} {w : World} (hb : 0 < b) (h : Is a L w u) (h' : Is b M w v) (hL : L ≤ 2147483648) (hM : M ≤ 2147483648) :
  Calls Tryz.prog 127 #[u, v] w (Ret w (Can2E (a / b) (a % b) L L 0)) := by
 have hs := h.sz_le
 obtain ⟨xs, h, rfl, hl⟩ := h
 obtain ⟨ys, h', rfl, hl'⟩ := h'
 have := rdivmod_any _ _ _ _ _ h h' (by omega) (by omega)
 rw [dmR_pos hb, dmE_pos hb] at this
 refine this.mono ?_
 rintro e w' ⟨v, rfl, ⟨q, r, rfl, h1, h2⟩, hB⟩
 exact ⟨_, rfl, ⟨_, _, rfl, ⟨h1, tL_ (sz_div _ _) hs⟩, ⟨h2, tL_ (sz_mono (Nat.mod_le _ _)) hs⟩⟩, hB⟩
def PU1 (q L : Nat) (w : World) (v : Value) : Prop := ∃ b o c r, v = .tuple #[.slice (some ⟨b, o, none⟩) 1 c, r, .int .i64 0] ∧ Can q L w (.slice (some ⟨b, o, none⟩) 1 c) ∧ w.cell? ⟨b, o, none⟩ = some (.int .u32 1)
def PUN (q L : Nat) (w : World) (v : Value) : Prop := ∃ a n c r, v = .tuple #[.slice a n c, r, .int .i64 0] ∧ Can q L w (.slice a n c) ∧ ((n : Int) == 1) = false
def PUK (q L : Nat) (w : World) (v : Value) : Prop := ∃ b o c r, ∃ k : Int, v = .tuple #[.slice (some ⟨b, o, none⟩) 1 c, r, .int .i64 0] ∧ Can q L w (.slice (some ⟨b, o, none⟩) 1 c) ∧ w.cell? ⟨b, o, none⟩ = some (.int .u32 k) ∧ (k == 1) = false
theorem one_limb {q L : Nat} {w : World} {v : Value} (hl : ((sz q : Nat) : Int) = 1) (h : Can q L w v) : ∃ b o c, v = .slice (some ⟨b, o, none⟩) 1 c ∧ w.cell? ⟨b, o, none⟩ = some (.int .u32 (q : Int)) := by
 obtain ⟨⟨ad, n, cap, rfl, hn, hnc, hm, hx, hs⟩, -⟩ := h
 have hz : sz q = 1 := by omega
 obtain rfl : n = 1 := by unfold sz at hz; omega
 obtain ⟨b, off, rfl, hb, hc⟩ := hs (by decide)
 have h0 : 0 < q := by
  rcases eP_ q with rfl | h0
  ·
   rw [sz_zero] at hz; omega
  ·
   exact h0
 have h1 : q < 4294967296 := by
  have := val_lt (xs := limbs q) hx
  rw [val_limbs, hn] at this
  simpa using this
 have := hc 0 (by decide)
 rw [limbs_single h0 h1] at this
 exact ⟨b, off, cap, rfl, this⟩
theorem rdivmod_u1 {a b L M : Nat} {u v : Value} {w : World} (hb : 0 < b) (he : (a / b == 1) = true) (h : Is a L w u) (h' : Is b M w v) (hL : L ≤ 2147483648) (hM : M ≤ 2147483648) :
  Calls Tryz.prog 127 #[u, v] w (Ret w (PU1 (a / b) L)) := by
 have e1 : a / b = 1 := by simpa using he
 refine (rdivmod_pos hb h h' hL hM).mono fun _ _ k => k.imp fun w' x hx => ?_
 obtain ⟨q, r, rfl, h1, h2⟩ := hx
 rw [e1] at h1 ⊢
 obtain ⟨bb, o, c, rfl, hc⟩ := one_limb (by rw [show sz 1 = 1 by unfold sz; rw [limbs_single (by decide) (by decide)]; rfl]; rfl) h1
 exact ⟨_, _, _, _, rfl, h1, hc⟩
theorem rdivmod_un {a b L M : Nat} {u v : Value} {w : World} (hb : 0 < b) (he : ((sz (a / b) : Nat) : Int) ≠ 1) (h : Is a L w u) (h' : Is b M w v) (hL : L ≤ 2147483648) (hM : M ≤ 2147483648) :
  Calls Tryz.prog 127 #[u, v] w (Ret w (PUN (a / b) L)) := by
 refine (rdivmod_pos hb h h' hL hM).mono fun _ _ k => k.imp fun w' x hx => ?_
 obtain ⟨q, r, rfl, h1, h2⟩ := hx
 obtain ⟨bb, n, c, rfl⟩ := h1.is.lit
 exact ⟨_, _, _, _, rfl, h1, by rw [h1.len]; simpa using he⟩
theorem rdivmod_uk {a b L M : Nat} {u v : Value} {w : World} (hb : 0 < b) (he : (a / b == 1) = false) (hl : ((sz (a / b) : Nat) : Int) = 1) (h : Is a L w u) (h' : Is b M w v) (hL : L ≤ 2147483648) (hM : M ≤ 2147483648) :
  Calls Tryz.prog 127 #[u, v] w (Ret w (PUK (a / b) L)) := by
 refine (rdivmod_pos hb h h' hL hM).mono fun _ _ k => k.imp fun w' x hx => ?_
 obtain ⟨q, r, rfl, h1, h2⟩ := hx
 obtain ⟨bb, o, c, rfl, hc⟩ := one_limb hl h1
 refine ⟨_, _, _, _, _, rfl, h1, hc, ?_⟩
 rw [beq_eq_false_iff_ne]
 have : a / b ≠ 1 := by simpa using he
 omega
theorem Can.pos {m L : Nat} {w : World} {a : Option Addr} {n c : Nat} (h : Can m L w (.slice a n c)) (hm : 0 < m) : decide (0 < n) = true := by
 rw [h.len]; simpa using sz_pos hm
theorem Can.posF {m L : Nat} {w : World} {a : Option Addr} {n c : Nat} (h : Can m L w (.slice a n c)) (hm : m = 0) : decide (0 < n) = false := by
 rw [h.len, hm, sz_zero]; rfl
theorem num_pos {n d : Nat} (h : 0 < n) : 0 < n / Nat.gcd n d := Nat.div_pos (Nat.le_of_dvd h (Nat.gcd_dvd_left n d)) (Nat.gcd_pos_of_pos_left d h)
theorem den_zero {n d : Nat} (hz : n = 0) (hd : 0 < d) : (d / Nat.gcd n d == 1) = true := by
 rw [hz, Nat.gcd_zero_left, Nat.div_self hd]; rfl
theorem rquot_zero {neg : Bool} {n d L M : Nat} {w W : World} {s t : Value} (hz : n = 0) (hd : 0 < d) (hs : Can (n / Nat.gcd n d) L W s) (h : Is d M w t) : CR (mkRat (iv neg n) d) (max L M) W (.agg #[.bool false, s, .slice none 0 0]) := by
 have h1 := one_le_of_is hd h
 rw [hz, Nat.zero_div] at hs
 rw [hz, show iv neg 0 = 0 by cases neg <;> rfl, Rat.zero_mkRat]
 refine ⟨⟨s, _, rfl, hs.1, ?_⟩, ?_, ?_⟩
 ·
  show Sl W _ (limbs 0); rw [limbs_zero]; exact Sl.nil W
 ·
  exact sz_zero_le _
 ·
  exact tL_ (sz_le (by decide) : sz 1 ≤ 1) (by omega)
theorem r3quot_0t {n d L M : Nat} {s t : Value}  {w : World} (hz : n = 0) (hn : Is n L w s) (hm : Is d M w t) (hd : 0 < d) (hL : L ≤ 1000000000) (hM : M ≤ 1000000000) :
  Calls Tryz.prog 77 #[.bool true, s, t] w (Ret w (CR (mkRat (iv true n) d) (max L M))) := by
 have Hn := lH hn
 have Hm := lH hm
 have Hd := lH hd
 have Hz := lH hz
 clear hn hm hd hz
 go_enter Tryz.func77, Tryz.ntmps77
 have HB := lH (bR_ w.heap.size w)
 go_wp2_with fail
 obtain ⟨W1, hW⟩ : ∃ W1, W1 = (World.alloc w (.cells #[.bool false, .slice none 0 0, .slice none 0 0] 37)) := ⟨_, rfl⟩
 rw [← hW]
 obtain ⟨xa0, hk, hb⟩ := boxes_1 _ _ _ hW
 clear hW
 have Hn := lH (iK Hn.out hk)
 have Hm := lH (iK Hm.out hk)
 have Ga0 := lH (show w.heap.size ≤ w.heap.size from tL_ HB.out.size (by omega))
 have Xa0 := lH xa0
 have HB := lH (bC HB.out hb)
 clear hk hb xa0
 (first | (have hcall := rgcd_can Hn.out Hm.out (by omega) (by omega); refine cM hcall ?_; clear hcall) | refine cM (rgcd_can Hn.out Hm.out (by omega) (by omega)) ?_)
 rintro e w2 ⟨v2, rfl, hg, hb⟩
 obtain ⟨g_a, g_n, g_c, rfl⟩ := hg.is.lit
 have Hn := lH (iK Hn.out (kC hb))
 have Hm := lH (iK Hm.out (kC hb))
 have Xa0 := lH (xP hb Xa0.out)
 have HB := lH (bC HB.out hb)
 have Hg := lH hg
 clear hb hg
 obtain ⟨ca00, ca01, ca02, fa00, fa01, fa02⟩ := Xa0.out.c3
 have la0 := Xa0.out.lt
 go_wp2_with fail
 clear ca00 ca01 ca02 fa00 fa01 fa02 la0
 (first | (have hcall := rdivmod_pos (gcd_pos Hd.out) Hn.out Hg.out.is (by omega) (by omega); refine cM hcall ?_; clear hcall) | refine cM (rdivmod_pos (gcd_pos Hd.out) Hn.out Hg.out.is (by omega) (by omega)) ?_)
 rintro e w3 ⟨t3, rfl, ⟨v3, u3, rfl, hqa, hra⟩, hb⟩
 obtain ⟨qa_a, qa_n, qa_c, rfl⟩ := hqa.is.lit
 obtain ⟨ra_a, ra_n, ra_c, rfl⟩ := hra.is.lit
 have Hm := lH (iK Hm.out (kC hb))
 have Hg := lH (Can.keep Hg.out (kC hb))
 have Xa0 := lH (xP hb Xa0.out)
 have HB := lH (bC HB.out hb)
 have Hqa := lH hqa
 have Hra := lH hra
 clear hb hqa hra
 have hp0 : decide (0 < qa_n) = false := Hqa.out.posF (by rw [Hz.out, Nat.zero_div])
 obtain ⟨ca00, ca01, ca02, fa00, fa01, fa02⟩ := Xa0.out.c3
 have la0 := Xa0.out.lt
 go_wp2_with fail
 clear ca00 ca01 ca02 fa00 fa01 fa02 la0
 (first | (have hcall := rdivmod_u1 (gcd_pos Hd.out) (den_zero Hz.out Hd.out) Hm.out Hg.out.is (by omega) (by omega); refine cM hcall ?_; clear hcall) | refine cM (rdivmod_u1 (gcd_pos Hd.out) (den_zero Hz.out Hd.out) Hm.out Hg.out.is (by omega) (by omega)) ?_)
 rintro e w4 ⟨t4, rfl, ⟨qb_b, qb_o, qb_c, u4, rfl, hqb, hcell⟩, hb⟩
 have Hm := lH (iK Hm.out (kC hb))
 have Hqa := lH (Can.keep Hqa.out (kC hb))
 have Xa0 := lH (xP hb Xa0.out)
 have HB := lH (bC HB.out hb)
 have Hqb := lH hqb
 clear hb hqb
 obtain ⟨ca00, ca01, ca02, fa00, fa01, fa02⟩ := Xa0.out.c3
 have la0 := Xa0.out.lt
 go_wp2
 clear ca00 ca01 ca02 fa00 fa01 fa02 la0
 obtain ⟨W5, hW⟩ : ∃ W5, W5 = (World.setCell (World.setCell (World.setCell w4 ⟨w.heap.size, 0, none⟩ (.bool false)) ⟨w.heap.size, 1, none⟩ (.slice qa_a qa_n qa_c)) ⟨w.heap.size, 2, none⟩ (.slice none 0 0)) := ⟨_, rfl⟩
 rw [← hW]
 obtain ⟨xa0, hk, hf, hbb, hz⟩ := stored3s hW Xa0.out (by first | exact nB_ _ | exact nS_ _ _ _) (by first | exact nB_ _ | exact nS_ _ _ _) (by first | exact nB_ _ | exact nS_ _ _ _)
 have Hm := lH (iK Hm.out hk)
 have Hqa := lH (Can.keep Hqa.out hk)
 have Xa0 := lH xa0
 have HB := lH (hbb _ HB.out Ga0.out)
 clear hW hk hf hbb xa0
 clear hz
 exact ret_rat1 rfl rfl rfl Xa0.out (rquot_zero (neg := true) Hz.out Hd.out Hqa.out Hm.out) HB.out
theorem r3quot_1t {n d L M : Nat} {s t : Value}  {w : World} (hz : 0 < n) (he : (d / Nat.gcd n d == 1) = true) (hn : Is n L w s) (hm : Is d M w t) (hd : 0 < d) (hL : L ≤ 1000000000) (hM : M ≤ 1000000000) :
  Calls Tryz.prog 77 #[.bool true, s, t] w (Ret w (CR (mkRat (iv true n) d) (max L M))) := by
 have Hn := lH hn
 have Hm := lH hm
 have Hd := lH hd
 have Hz := lH hz
 have He := lH he
 clear hn hm hd hz he
 go_enter Tryz.func77, Tryz.ntmps77
 have HB := lH (bR_ w.heap.size w)
 go_wp2_with fail
 obtain ⟨W1, hW⟩ : ∃ W1, W1 = (World.alloc w (.cells #[.bool false, .slice none 0 0, .slice none 0 0] 37)) := ⟨_, rfl⟩
 rw [← hW]
 obtain ⟨xa0, hk, hb⟩ := boxes_1 _ _ _ hW
 clear hW
 have Hn := lH (iK Hn.out hk)
 have Hm := lH (iK Hm.out hk)
 have Ga0 := lH (show w.heap.size ≤ w.heap.size from tL_ HB.out.size (by omega))
 have Xa0 := lH xa0
 have HB := lH (bC HB.out hb)
 clear hk hb xa0
 (first | (have hcall := rgcd_can Hn.out Hm.out (by omega) (by omega); refine cM hcall ?_; clear hcall) | refine cM (rgcd_can Hn.out Hm.out (by omega) (by omega)) ?_)
 rintro e w2 ⟨v2, rfl, hg, hb⟩
 obtain ⟨g_a, g_n, g_c, rfl⟩ := hg.is.lit
 have Hn := lH (iK Hn.out (kC hb))
 have Hm := lH (iK Hm.out (kC hb))
 have Xa0 := lH (xP hb Xa0.out)
 have HB := lH (bC HB.out hb)
 have Hg := lH hg
 clear hb hg
 obtain ⟨ca00, ca01, ca02, fa00, fa01, fa02⟩ := Xa0.out.c3
 have la0 := Xa0.out.lt
 go_wp2_with fail
 clear ca00 ca01 ca02 fa00 fa01 fa02 la0
 (first | (have hcall := rdivmod_pos (gcd_pos Hd.out) Hn.out Hg.out.is (by omega) (by omega); refine cM hcall ?_; clear hcall) | refine cM (rdivmod_pos (gcd_pos Hd.out) Hn.out Hg.out.is (by omega) (by omega)) ?_)
 rintro e w3 ⟨t3, rfl, ⟨v3, u3, rfl, hqa, hra⟩, hb⟩
 obtain ⟨qa_a, qa_n, qa_c, rfl⟩ := hqa.is.lit
 obtain ⟨ra_a, ra_n, ra_c, rfl⟩ := hra.is.lit
 have Hm := lH (iK Hm.out (kC hb))
 have Hg := lH (Can.keep Hg.out (kC hb))
 have Xa0 := lH (xP hb Xa0.out)
 have HB := lH (bC HB.out hb)
 have Hqa := lH hqa
 have Hra := lH hra
 clear hb hqa hra
 have hp0 : decide (0 < qa_n) = true := Hqa.out.pos (num_pos Hz.out)
 obtain ⟨ca00, ca01, ca02, fa00, fa01, fa02⟩ := Xa0.out.c3
 have la0 := Xa0.out.lt
 go_wp2_with fail
 clear ca00 ca01 ca02 fa00 fa01 fa02 la0
 (first | (have hcall := rdivmod_u1 (gcd_pos Hd.out) He.out Hm.out Hg.out.is (by omega) (by omega); refine cM hcall ?_; clear hcall) | refine cM (rdivmod_u1 (gcd_pos Hd.out) He.out Hm.out Hg.out.is (by omega) (by omega)) ?_)
 rintro e w4 ⟨t4, rfl, ⟨qb_b, qb_o, qb_c, u4, rfl, hqb, hcell⟩, hb⟩
 have Hm := lH (iK Hm.out (kC hb))
 have Hqa := lH (Can.keep Hqa.out (kC hb))
 have Xa0 := lH (xP hb Xa0.out)
 have HB := lH (bC HB.out hb)
 have Hqb := lH hqb
 clear hb hqb
 obtain ⟨ca00, ca01, ca02, fa00, fa01, fa02⟩ := Xa0.out.c3
 have la0 := Xa0.out.lt
 go_wp2
 clear ca00 ca01 ca02 fa00 fa01 fa02 la0
 obtain ⟨W5, hW⟩ : ∃ W5, W5 = (World.setCell (World.setCell (World.setCell w4 ⟨w.heap.size, 0, none⟩ (.bool true)) ⟨w.heap.size, 1, none⟩ (.slice qa_a qa_n qa_c)) ⟨w.heap.size, 2, none⟩ (.slice none 0 0)) := ⟨_, rfl⟩
 rw [← hW]
 obtain ⟨xa0, hk, hf, hbb, hz⟩ := stored3s hW Xa0.out (by first | exact nB_ _ | exact nS_ _ _ _) (by first | exact nB_ _ | exact nS_ _ _ _) (by first | exact nB_ _ | exact nS_ _ _ _)
 have Hm := lH (iK Hm.out hk)
 have Hqa := lH (Can.keep Hqa.out hk)
 have Xa0 := lH xa0
 have HB := lH (hbb _ HB.out Ga0.out)
 clear hW hk hf hbb xa0
 clear hz
 exact ret_rat1 rfl rfl rfl Xa0.out (quot_three Hz.out Hd.out He.out Hqa.out Hm.out) HB.out
theorem r3quot_2t {n d L M : Nat} {s t : Value}  {w : World} (hz : 0 < n) (he : (d / Nat.gcd n d == 1) = false) (hl : ((sz (d / Nat.gcd n d) : Nat) : Int) ≠ 1) (hn : Is n L w s) (hm : Is d M w t) (hd : 0 < d) (hL : L ≤ 1000000000) (hM : M ≤ 1000000000) :
  Calls Tryz.prog 77 #[.bool true, s, t] w (Ret w (CR (mkRat (iv true n) d) (max L M))) := by
 have Hn := lH hn
 have Hm := lH hm
 have Hd := lH hd
 have Hz := lH hz
 have He := lH he
 have Hl := lH hl
 clear hn hm hd hz he hl
 go_enter Tryz.func77, Tryz.ntmps77
 have HB := lH (bR_ w.heap.size w)
 go_wp2_with fail
 obtain ⟨W1, hW⟩ : ∃ W1, W1 = (World.alloc w (.cells #[.bool false, .slice none 0 0, .slice none 0 0] 37)) := ⟨_, rfl⟩
 rw [← hW]
 obtain ⟨xa0, hk, hb⟩ := boxes_1 _ _ _ hW
 clear hW
 have Hn := lH (iK Hn.out hk)
 have Hm := lH (iK Hm.out hk)
 have Ga0 := lH (show w.heap.size ≤ w.heap.size from tL_ HB.out.size (by omega))
 have Xa0 := lH xa0
 have HB := lH (bC HB.out hb)
 clear hk hb xa0
 (first | (have hcall := rgcd_can Hn.out Hm.out (by omega) (by omega); refine cM hcall ?_; clear hcall) | refine cM (rgcd_can Hn.out Hm.out (by omega) (by omega)) ?_)
 rintro e w2 ⟨v2, rfl, hg, hb⟩
 obtain ⟨g_a, g_n, g_c, rfl⟩ := hg.is.lit
 have Hn := lH (iK Hn.out (kC hb))
 have Hm := lH (iK Hm.out (kC hb))
 have Xa0 := lH (xP hb Xa0.out)
 have HB := lH (bC HB.out hb)
 have Hg := lH hg
 clear hb hg
 obtain ⟨ca00, ca01, ca02, fa00, fa01, fa02⟩ := Xa0.out.c3
 have la0 := Xa0.out.lt
 go_wp2_with fail
 clear ca00 ca01 ca02 fa00 fa01 fa02 la0
 (first | (have hcall := rdivmod_pos (gcd_pos Hd.out) Hn.out Hg.out.is (by omega) (by omega); refine cM hcall ?_; clear hcall) | refine cM (rdivmod_pos (gcd_pos Hd.out) Hn.out Hg.out.is (by omega) (by omega)) ?_)
 rintro e w3 ⟨t3, rfl, ⟨v3, u3, rfl, hqa, hra⟩, hb⟩
 obtain ⟨qa_a, qa_n, qa_c, rfl⟩ := hqa.is.lit
 obtain ⟨ra_a, ra_n, ra_c, rfl⟩ := hra.is.lit
 have Hm := lH (iK Hm.out (kC hb))
 have Hg := lH (Can.keep Hg.out (kC hb))
 have Xa0 := lH (xP hb Xa0.out)
 have HB := lH (bC HB.out hb)
 have Hqa := lH hqa
 have Hra := lH hra
 clear hb hqa hra
 have hp0 : decide (0 < qa_n) = true := Hqa.out.pos (num_pos Hz.out)
 obtain ⟨ca00, ca01, ca02, fa00, fa01, fa02⟩ := Xa0.out.c3
 have la0 := Xa0.out.lt
 go_wp2_with fail
 clear ca00 ca01 ca02 fa00 fa01 fa02 la0
 (first | (have hcall := rdivmod_un (gcd_pos Hd.out) Hl.out Hm.out Hg.out.is (by omega) (by omega); refine cM hcall ?_; clear hcall) | refine cM (rdivmod_un (gcd_pos Hd.out) Hl.out Hm.out Hg.out.is (by omega) (by omega)) ?_)
 rintro e w4 ⟨t4, rfl, ⟨qb_a, qb_n, qb_c, u4, rfl, hqb, hlen⟩, hb⟩
 have Hqa := lH (Can.keep Hqa.out (kC hb))
 have Xa0 := lH (xP hb Xa0.out)
 have HB := lH (bC HB.out hb)
 have Hqb := lH hqb
 clear hb hqb
 obtain ⟨ca00, ca01, ca02, fa00, fa01, fa02⟩ := Xa0.out.c3
 have la0 := Xa0.out.lt
 go_wp2
 clear ca00 ca01 ca02 fa00 fa01 fa02 la0
 obtain ⟨W5, hW⟩ : ∃ W5, W5 = (World.setCell (World.setCell (World.setCell w4 ⟨w.heap.size, 0, none⟩ (.bool true)) ⟨w.heap.size, 1, none⟩ (.slice qa_a qa_n qa_c)) ⟨w.heap.size, 2, none⟩ (.slice qb_a qb_n qb_c)) := ⟨_, rfl⟩
 rw [← hW]
 obtain ⟨xa0, hk, hf, hbb, hz⟩ := stored3s hW Xa0.out (by first | exact nB_ _ | exact nS_ _ _ _) (by first | exact nB_ _ | exact nS_ _ _ _) (by first | exact nB_ _ | exact nS_ _ _ _)
 have Hqa := lH (Can.keep Hqa.out hk)
 have Hqb := lH (Can.keep Hqb.out hk)
 have Xa0 := lH xa0
 have HB := lH (hbb _ HB.out Ga0.out)
 clear hW hk hf hbb xa0
 clear hz
 exact ret_rat1 rfl rfl rfl Xa0.out (quot_four Hz.out Hd.out He.out Hqa.out Hqb.out) HB.out
theorem r3quot_3t {n d L M : Nat} {s t : Value}  {w : World} (hz : 0 < n) (he : (d / Nat.gcd n d == 1) = false) (hl : ((sz (d / Nat.gcd n d) : Nat) : Int) = 1) (hn : Is n L w s) (hm : Is d M w t) (hd : 0 < d) (hL : L ≤ 1000000000) (hM : M ≤ 1000000000) :
  Calls Tryz.prog 77 #[.bool true, s, t] w (Ret w (CR (mkRat (iv true n) d) (max L M))) := by
 have Hn := lH hn
 have Hm := lH hm
 have Hd := lH hd
 have Hz := lH hz
 have He := lH he
 have Hl := lH hl
 clear hn hm hd hz he hl
 go_enter Tryz.func77, Tryz.ntmps77
 have HB := lH (bR_ w.heap.size w)
 go_wp2_with fail
 obtain ⟨W1, hW⟩ : ∃ W1, W1 = (World.alloc w (.cells #[.bool false, .slice none 0 0, .slice none 0 0] 37)) := ⟨_, rfl⟩
 rw [← hW]
 obtain ⟨xa0, hk, hb⟩ := boxes_1 _ _ _ hW
 clear hW
 have Hn := lH (iK Hn.out hk)
 have Hm := lH (iK Hm.out hk)
 have Ga0 := lH (show w.heap.size ≤ w.heap.size from tL_ HB.out.size (by omega))
 have Xa0 := lH xa0
 have HB := lH (bC HB.out hb)
 clear hk hb xa0
 (first | (have hcall := rgcd_can Hn.out Hm.out (by omega) (by omega); refine cM hcall ?_; clear hcall) | refine cM (rgcd_can Hn.out Hm.out (by omega) (by omega)) ?_)
 rintro e w2 ⟨v2, rfl, hg, hb⟩
 obtain ⟨g_a, g_n, g_c, rfl⟩ := hg.is.lit
 have Hn := lH (iK Hn.out (kC hb))
 have Hm := lH (iK Hm.out (kC hb))
 have Xa0 := lH (xP hb Xa0.out)
 have HB := lH (bC HB.out hb)
 have Hg := lH hg
 clear hb hg
 obtain ⟨ca00, ca01, ca02, fa00, fa01, fa02⟩ := Xa0.out.c3
 have la0 := Xa0.out.lt
 go_wp2_with fail
 clear ca00 ca01 ca02 fa00 fa01 fa02 la0
 (first | (have hcall := rdivmod_pos (gcd_pos Hd.out) Hn.out Hg.out.is (by omega) (by omega); refine cM hcall ?_; clear hcall) | refine cM (rdivmod_pos (gcd_pos Hd.out) Hn.out Hg.out.is (by omega) (by omega)) ?_)
 rintro e w3 ⟨t3, rfl, ⟨v3, u3, rfl, hqa, hra⟩, hb⟩
 obtain ⟨qa_a, qa_n, qa_c, rfl⟩ := hqa.is.lit
 obtain ⟨ra_a, ra_n, ra_c, rfl⟩ := hra.is.lit
 have Hm := lH (iK Hm.out (kC hb))
 have Hg := lH (Can.keep Hg.out (kC hb))
 have Xa0 := lH (xP hb Xa0.out)
 have HB := lH (bC HB.out hb)
 have Hqa := lH hqa
 have Hra := lH hra
 clear hb hqa hra
 have hp0 : decide (0 < qa_n) = true := Hqa.out.pos (num_pos Hz.out)
 obtain ⟨ca00, ca01, ca02, fa00, fa01, fa02⟩ := Xa0.out.c3
 have la0 := Xa0.out.lt
 go_wp2_with fail
 clear ca00 ca01 ca02 fa00 fa01 fa02 la0
 (first | (have hcall := rdivmod_uk (gcd_pos Hd.out) He.out Hl.out Hm.out Hg.out.is (by omega) (by omega); refine cM hcall ?_; clear hcall) | refine cM (rdivmod_uk (gcd_pos Hd.out) He.out Hl.out Hm.out Hg.out.is (by omega) (by omega)) ?_)
 rintro e w4 ⟨t4, rfl, ⟨qb_b, qb_o, qb_c, u4, qb_k, rfl, hqb, hcell, hk1⟩, hb⟩
 have Hqa := lH (Can.keep Hqa.out (kC hb))
 have Xa0 := lH (xP hb Xa0.out)
 have HB := lH (bC HB.out hb)
 have Hqb := lH hqb
 clear hb hqb
 obtain ⟨ca00, ca01, ca02, fa00, fa01, fa02⟩ := Xa0.out.c3
 have la0 := Xa0.out.lt
 go_wp2
 clear ca00 ca01 ca02 fa00 fa01 fa02 la0
 obtain ⟨W5, hW⟩ : ∃ W5, W5 = (World.setCell (World.setCell (World.setCell w4 ⟨w.heap.size, 0, none⟩ (.bool true)) ⟨w.heap.size, 1, none⟩ (.slice qa_a qa_n qa_c)) ⟨w.heap.size, 2, none⟩ (.slice (some ⟨qb_b, qb_o, none⟩) 1 qb_c)) := ⟨_, rfl⟩
 rw [← hW]
 obtain ⟨xa0, hk, hf, hbb, hz⟩ := stored3s hW Xa0.out (by first | exact nB_ _ | exact nS_ _ _ _) (by first | exact nB_ _ | exact nS_ _ _ _) (by first | exact nB_ _ | exact nS_ _ _ _)
 have Hqa := lH (Can.keep Hqa.out hk)
 have Hqb := lH (Can.keep Hqb.out hk)
 have Xa0 := lH xa0
 have HB := lH (hbb _ HB.out Ga0.out)
 clear hW hk hf hbb xa0
 clear hz
 exact ret_rat1 rfl rfl rfl Xa0.out (quot_four Hz.out Hd.out He.out Hqa.out Hqb.out) HB.out
theorem r3quot_0f {n d L M : Nat} {s t : Value}  {w : World} (hz : n = 0) (hn : Is n L w s) (hm : Is d M w t) (hd : 0 < d) (hL : L ≤ 1000000000) (hM : M ≤ 1000000000) :
  Calls Tryz.prog 77 #[.bool false, s, t] w (Ret w (CR (mkRat (iv false n) d) (max L M))) := by
 have Hn := lH hn
 have Hm := lH hm
 have Hd := lH hd
 have Hz := lH hz
 clear hn hm hd hz
 go_enter Tryz.func77, Tryz.ntmps77
 have HB := lH (bR_ w.heap.size w)
 go_wp2_with fail
 obtain ⟨W1, hW⟩ : ∃ W1, W1 = (World.alloc w (.cells #[.bool false, .slice none 0 0, .slice none 0 0] 37)) := ⟨_, rfl⟩
 rw [← hW]
 obtain ⟨xa0, hk, hb⟩ := boxes_1 _ _ _ hW
 clear hW
 have Hn := lH (iK Hn.out hk)
 have Hm := lH (iK Hm.out hk)
 have Ga0 := lH (show w.heap.size ≤ w.heap.size from tL_ HB.out.size (by omega))
 have Xa0 := lH xa0
 have HB := lH (bC HB.out hb)
 clear hk hb xa0
 (first | (have hcall := rgcd_can Hn.out Hm.out (by omega) (by omega); refine cM hcall ?_; clear hcall) | refine cM (rgcd_can Hn.out Hm.out (by omega) (by omega)) ?_)
 rintro e w2 ⟨v2, rfl, hg, hb⟩
 obtain ⟨g_a, g_n, g_c, rfl⟩ := hg.is.lit
 have Hn := lH (iK Hn.out (kC hb))
 have Hm := lH (iK Hm.out (kC hb))
 have Xa0 := lH (xP hb Xa0.out)
 have HB := lH (bC HB.out hb)
 have Hg := lH hg
 clear hb hg
 obtain ⟨ca00, ca01, ca02, fa00, fa01, fa02⟩ := Xa0.out.c3
 have la0 := Xa0.out.lt
 go_wp2_with fail
 clear ca00 ca01 ca02 fa00 fa01 fa02 la0
 (first | (have hcall := rdivmod_pos (gcd_pos Hd.out) Hn.out Hg.out.is (by omega) (by omega); refine cM hcall ?_; clear hcall) | refine cM (rdivmod_pos (gcd_pos Hd.out) Hn.out Hg.out.is (by omega) (by omega)) ?_)
 rintro e w3 ⟨t3, rfl, ⟨v3, u3, rfl, hqa, hra⟩, hb⟩
 obtain ⟨qa_a, qa_n, qa_c, rfl⟩ := hqa.is.lit
 obtain ⟨ra_a, ra_n, ra_c, rfl⟩ := hra.is.lit
 have Hm := lH (iK Hm.out (kC hb))
 have Hg := lH (Can.keep Hg.out (kC hb))
 have Xa0 := lH (xP hb Xa0.out)
 have HB := lH (bC HB.out hb)
 have Hqa := lH hqa
 have Hra := lH hra
 clear hb hqa hra
 have hp0 : decide (0 < qa_n) = false := Hqa.out.posF (by rw [Hz.out, Nat.zero_div])
 obtain ⟨ca00, ca01, ca02, fa00, fa01, fa02⟩ := Xa0.out.c3
 have la0 := Xa0.out.lt
 go_wp2_with fail
 clear ca00 ca01 ca02 fa00 fa01 fa02 la0
 (first | (have hcall := rdivmod_u1 (gcd_pos Hd.out) (den_zero Hz.out Hd.out) Hm.out Hg.out.is (by omega) (by omega); refine cM hcall ?_; clear hcall) | refine cM (rdivmod_u1 (gcd_pos Hd.out) (den_zero Hz.out Hd.out) Hm.out Hg.out.is (by omega) (by omega)) ?_)
 rintro e w4 ⟨t4, rfl, ⟨qb_b, qb_o, qb_c, u4, rfl, hqb, hcell⟩, hb⟩
 have Hm := lH (iK Hm.out (kC hb))
 have Hqa := lH (Can.keep Hqa.out (kC hb))
 have Xa0 := lH (xP hb Xa0.out)
 have HB := lH (bC HB.out hb)
 have Hqb := lH hqb
 clear hb hqb
 obtain ⟨ca00, ca01, ca02, fa00, fa01, fa02⟩ := Xa0.out.c3
 have la0 := Xa0.out.lt
 go_wp2
 clear ca00 ca01 ca02 fa00 fa01 fa02 la0
 obtain ⟨W5, hW⟩ : ∃ W5, W5 = (World.setCell (World.setCell (World.setCell w4 ⟨w.heap.size, 0, none⟩ (.bool false)) ⟨w.heap.size, 1, none⟩ (.slice qa_a qa_n qa_c)) ⟨w.heap.size, 2, none⟩ (.slice none 0 0)) := ⟨_, rfl⟩
 rw [← hW]
 obtain ⟨xa0, hk, hf, hbb, hz⟩ := stored3s hW Xa0.out (by first | exact nB_ _ | exact nS_ _ _ _) (by first | exact nB_ _ | exact nS_ _ _ _) (by first | exact nB_ _ | exact nS_ _ _ _)
 have Hm := lH (iK Hm.out hk)
 have Hqa := lH (Can.keep Hqa.out hk)
 have Xa0 := lH xa0
 have HB := lH (hbb _ HB.out Ga0.out)
 clear hW hk hf hbb xa0
 clear hz
 exact ret_rat1 rfl rfl rfl Xa0.out (rquot_zero (neg := false) Hz.out Hd.out Hqa.out Hm.out) HB.out
theorem r3quot_1f {n d L M : Nat} {s t : Value}  {w : World} (hz : 0 < n) (he : (d / Nat.gcd n d == 1) = true) (hn : Is n L w s) (hm : Is d M w t) (hd : 0 < d) (hL : L ≤ 1000000000) (hM : M ≤ 1000000000) :
  Calls Tryz.prog 77 #[.bool false, s, t] w (Ret w (CR (mkRat (iv false n) d) (max L M))) := by
 have Hn := lH hn
 have Hm := lH hm
 have Hd := lH hd
 have Hz := lH hz
 have He := lH he
 clear hn hm hd hz he
 go_enter Tryz.func77, Tryz.ntmps77
 have HB := lH (bR_ w.heap.size w)
 go_wp2_with fail
 obtain ⟨W1, hW⟩ : ∃ W1, W1 = (World.alloc w (.cells #[.bool false, .slice none 0 0, .slice none 0 0] 37)) := ⟨_, rfl⟩
 rw [← hW]
 obtain ⟨xa0, hk, hb⟩ := boxes_1 _ _ _ hW
 clear hW
 have Hn := lH (iK Hn.out hk)
 have Hm := lH (iK Hm.out hk)
 have Ga0 := lH (show w.heap.size ≤ w.heap.size from tL_ HB.out.size (by omega))
 have Xa0 := lH xa0
 have HB := lH (bC HB.out hb)
 clear hk hb xa0
 (first | (have hcall := rgcd_can Hn.out Hm.out (by omega) (by omega); refine cM hcall ?_; clear hcall) | refine cM (rgcd_can Hn.out Hm.out (by omega) (by omega)) ?_)
 rintro e w2 ⟨v2, rfl, hg, hb⟩
 obtain ⟨g_a, g_n, g_c, rfl⟩ := hg.is.lit
 have Hn := lH (iK Hn.out (kC hb))
 have Hm := lH (iK Hm.out (kC hb))
 have Xa0 := lH (xP hb Xa0.out)
 have HB := lH (bC HB.out hb)
 have Hg := lH hg
 clear hb hg
 obtain ⟨ca00, ca01, ca02, fa00, fa01, fa02⟩ := Xa0.out.c3
 have la0 := Xa0.out.lt
 go_wp2_with fail
 clear ca00 ca01 ca02 fa00 fa01 fa02 la0
 (first | (have hcall := rdivmod_pos (gcd_pos Hd.out) Hn.out Hg.out.is (by omega) (by omega); refine cM hcall ?_; clear hcall) | refine cM (rdivmod_pos (gcd_pos Hd.out) Hn.out Hg.out.is (by omega) (by omega)) ?_)
 rintro e w3 ⟨t3, rfl, ⟨v3, u3, rfl, hqa, hra⟩, hb⟩
 obtain ⟨qa_a, qa_n, qa_c, rfl⟩ := hqa.is.lit
 obtain ⟨ra_a, ra_n, ra_c, rfl⟩ := hra.is.lit
 have Hm := lH (iK Hm.out (kC hb))
 have Hg := lH (Can.keep Hg.out (kC hb))
 have Xa0 := lH (xP hb Xa0.out)
 have HB := lH (bC HB.out hb)
 have Hqa := lH hqa
 have Hra := lH hra
 clear hb hqa hra
 have hp0 : decide (0 < qa_n) = true := Hqa.out.pos (num_pos Hz.out)
 obtain ⟨ca00, ca01, ca02, fa00, fa01, fa02⟩ := Xa0.out.c3
 have la0 := Xa0.out.lt
 go_wp2_with fail
 clear ca00 ca01 ca02 fa00 fa01 fa02 la0
 (first | (have hcall := rdivmod_u1 (gcd_pos Hd.out) He.out Hm.out Hg.out.is (by omega) (by omega); refine cM hcall ?_; clear hcall) | refine cM (rdivmod_u1 (gcd_pos Hd.out) He.out Hm.out Hg.out.is (by omega) (by omega)) ?_)
 rintro e w4 ⟨t4, rfl, ⟨qb_b, qb_o, qb_c, u4, rfl, hqb, hcell⟩, hb⟩
 have Hm := lH (iK Hm.out (kC hb))
 have Hqa := lH (Can.keep Hqa.out (kC hb))
 have Xa0 := lH (xP hb Xa0.out)
 have HB := lH (bC HB.out hb)
 have Hqb := lH hqb
 clear hb hqb
 obtain ⟨ca00, ca01, ca02, fa00, fa01, fa02⟩ := Xa0.out.c3
 have la0 := Xa0.out.lt
 go_wp2
 clear ca00 ca01 ca02 fa00 fa01 fa02 la0
 obtain ⟨W5, hW⟩ : ∃ W5, W5 = (World.setCell (World.setCell (World.setCell w4 ⟨w.heap.size, 0, none⟩ (.bool false)) ⟨w.heap.size, 1, none⟩ (.slice qa_a qa_n qa_c)) ⟨w.heap.size, 2, none⟩ (.slice none 0 0)) := ⟨_, rfl⟩
 rw [← hW]
 obtain ⟨xa0, hk, hf, hbb, hz⟩ := stored3s hW Xa0.out (by first | exact nB_ _ | exact nS_ _ _ _) (by first | exact nB_ _ | exact nS_ _ _ _) (by first | exact nB_ _ | exact nS_ _ _ _)
 have Hm := lH (iK Hm.out hk)
 have Hqa := lH (Can.keep Hqa.out hk)
 have Xa0 := lH xa0
 have HB := lH (hbb _ HB.out Ga0.out)
 clear hW hk hf hbb xa0
 clear hz
 exact ret_rat1 rfl rfl rfl Xa0.out (quot_three Hz.out Hd.out He.out Hqa.out Hm.out) HB.out
theorem r3quot_2f {n d L M : Nat} {s t : Value}  {w : World} (hz : 0 < n) (he : (d / Nat.gcd n d == 1) = false) (hl : ((sz (d / Nat.gcd n d) : Nat) : Int) ≠ 1) (hn : Is n L w s) (hm : Is d M w t) (hd : 0 < d) (hL : L ≤ 1000000000) (hM : M ≤ 1000000000) :
  Calls Tryz.prog 77 #[.bool false, s, t] w (Ret w (CR (mkRat (iv false n) d) (max L M))) := by
 have Hn := lH hn
 have Hm := lH hm
 have Hd := lH hd
 have Hz := lH hz
 have He := lH he
 have Hl := lH hl
 clear hn hm hd hz he hl
 go_enter Tryz.func77, Tryz.ntmps77
 have HB := lH (bR_ w.heap.size w)
 go_wp2_with fail
 obtain ⟨W1, hW⟩ : ∃ W1, W1 = (World.alloc w (.cells #[.bool false, .slice none 0 0, .slice none 0 0] 37)) := ⟨_, rfl⟩
 rw [← hW]
 obtain ⟨xa0, hk, hb⟩ := boxes_1 _ _ _ hW
 clear hW
 have Hn := lH (iK Hn.out hk)
 have Hm := lH (iK Hm.out hk)
 have Ga0 := lH (show w.heap.size ≤ w.heap.size from tL_ HB.out.size (by omega))
 have Xa0 := lH xa0
 have HB := lH (bC HB.out hb)
 clear hk hb xa0
 (first | (have hcall := rgcd_can Hn.out Hm.out (by omega) (by omega); refine cM hcall ?_; clear hcall) | refine cM (rgcd_can Hn.out Hm.out (by omega) (by omega)) ?_)
 rintro e w2 ⟨v2, rfl, hg, hb⟩
 obtain ⟨g_a, g_n, g_c, rfl⟩ := hg.is.lit
 have Hn := lH (iK Hn.out (kC hb))
 have Hm := lH (iK Hm.out (kC hb))
 have Xa0 := lH (xP hb Xa0.out)
 have HB := lH (bC HB.out hb)
 have Hg := lH hg
 clear hb hg
 obtain ⟨ca00, ca01, ca02, fa00, fa01, fa02⟩ := Xa0.out.c3
 have la0 := Xa0.out.lt
 go_wp2_with fail
 clear ca00 ca01 ca02 fa00 fa01 fa02 la0
 (first | (have hcall := rdivmod_pos (gcd_pos Hd.out) Hn.out Hg.out.is (by omega) (by omega); refine cM hcall ?_; clear hcall) | refine cM (rdivmod_pos (gcd_pos Hd.out) Hn.out Hg.out.is (by omega) (by omega)) ?_)
 rintro e w3 ⟨t3, rfl, ⟨v3, u3, rfl, hqa, hra⟩, hb⟩
 obtain ⟨qa_a, qa_n, qa_c, rfl⟩ := hqa.is.lit
 obtain ⟨ra_a, ra_n, ra_c, rfl⟩ := hra.is.lit
 have Hm := lH (iK Hm.out (kC hb))
 have Hg := lH (Can.keep Hg.out (kC hb))
 have Xa0 := lH (xP hb Xa0.out)
 have HB := lH (bC HB.out hb)
 have Hqa := lH hqa
 have Hra := lH hra
 clear hb hqa hra
 have hp0 : decide (0 < qa_n) = true := Hqa.out.pos (num_pos Hz.out)
 obtain ⟨ca00, ca01, ca02, fa00, fa01, fa02⟩ := Xa0.out.c3
 have la0 := Xa0.out.lt
 go_wp2_with fail
 clear ca00 ca01 ca02 fa00 fa01 fa02 la0
 (first | (have hcall := rdivmod_un (gcd_pos Hd.out) Hl.out Hm.out Hg.out.is (by omega) (by omega); refine cM hcall ?_; clear hcall) | refine cM (rdivmod_un (gcd_pos Hd.out) Hl.out Hm.out Hg.out.is (by omega) (by omega)) ?_)
 rintro e w4 ⟨t4, rfl, ⟨qb_a, qb_n, qb_c, u4, rfl, hqb, hlen⟩, hb⟩
 have Hqa := lH (Can.keep Hqa.out (kC hb))
 have Xa0 := lH (xP hb Xa0.out)
 have HB := lH (bC HB.out hb)
 have Hqb := lH hqb
 clear hb hqb
 obtain ⟨ca00, ca01, ca02, fa00, fa01, fa02⟩ := Xa0.out.c3
 have la0 := Xa0.out.lt
 go_wp2
 clear ca00 ca01 ca02 fa00 fa01 fa02 la0
 obtain ⟨W5, hW⟩ : ∃ W5, W5 = (World.setCell (World.setCell (World.setCell w4 ⟨w.heap.size, 0, none⟩ (.bool false)) ⟨w.heap.size, 1, none⟩ (.slice qa_a qa_n qa_c)) ⟨w.heap.size, 2, none⟩ (.slice qb_a qb_n qb_c)) := ⟨_, rfl⟩
 rw [← hW]
 obtain ⟨xa0, hk, hf, hbb, hz⟩ := stored3s hW Xa0.out (by first | exact nB_ _ | exact nS_ _ _ _) (by first | exact nB_ _ | exact nS_ _ _ _) (by first | exact nB_ _ | exact nS_ _ _ _)
 have Hqa := lH (Can.keep Hqa.out hk)
 have Hqb := lH (Can.keep Hqb.out hk)
 have Xa0 := lH xa0
 have HB := lH (hbb _ HB.out Ga0.out)
 clear hW hk hf hbb xa0
 clear hz
 exact ret_rat1 rfl rfl rfl Xa0.out (quot_four Hz.out Hd.out He.out Hqa.out Hqb.out) HB.out
theorem r3quot_3f {n d L M : Nat} {s t : Value}  {w : World} (hz : 0 < n) (he : (d / Nat.gcd n d == 1) = false) (hl : ((sz (d / Nat.gcd n d) : Nat) : Int) = 1) (hn : Is n L w s) (hm : Is d M w t) (hd : 0 < d) (hL : L ≤ 1000000000) (hM : M ≤ 1000000000) :
  Calls Tryz.prog 77 #[.bool false, s, t] w (Ret w (CR (mkRat (iv false n) d) (max L M))) := by
 have Hn := lH hn
 have Hm := lH hm
 have Hd := lH hd
 have Hz := lH hz
 have He := lH he
 have Hl := lH hl
 clear hn hm hd hz he hl
 go_enter Tryz.func77, Tryz.ntmps77
 have HB := lH (bR_ w.heap.size w)
 go_wp2_with fail
 obtain ⟨W1, hW⟩ : ∃ W1, W1 = (World.alloc w (.cells #[.bool false, .slice none 0 0, .slice none 0 0] 37)) := ⟨_, rfl⟩
 rw [← hW]
 obtain ⟨xa0, hk, hb⟩ := boxes_1 _ _ _ hW
 clear hW
 have Hn := lH (iK Hn.out hk)
 have Hm := lH (iK Hm.out hk)
 have Ga0 := lH (show w.heap.size ≤ w.heap.size from tL_ HB.out.size (by omega))
 have Xa0 := lH xa0
 have HB := lH (bC HB.out hb)
 clear hk hb xa0
 (first | (have hcall := rgcd_can Hn.out Hm.out (by omega) (by omega); refine cM hcall ?_; clear hcall) | refine cM (rgcd_can Hn.out Hm.out (by omega) (by omega)) ?_)
 rintro e w2 ⟨v2, rfl, hg, hb⟩
 obtain ⟨g_a, g_n, g_c, rfl⟩ := hg.is.lit
 have Hn := lH (iK Hn.out (kC hb))
 have Hm := lH (iK Hm.out (kC hb))
 have Xa0 := lH (xP hb Xa0.out)
 have HB := lH (bC HB.out hb)
 have Hg := lH hg
 clear hb hg
 obtain ⟨ca00, ca01, ca02, fa00, fa01, fa02⟩ := Xa0.out.c3
 have la0 := Xa0.out.lt
 go_wp2_with fail
 clear ca00 ca01 ca02 fa00 fa01 fa02 la0
 (first | (have hcall := rdivmod_pos (gcd_pos Hd.out) Hn.out Hg.out.is (by omega) (by omega); refine cM hcall ?_; clear hcall) | refine cM (rdivmod_pos (gcd_pos Hd.out) Hn.out Hg.out.is (by omega) (by omega)) ?_)
 rintro e w3 ⟨t3, rfl, ⟨v3, u3, rfl, hqa, hra⟩, hb⟩
 obtain ⟨qa_a, qa_n, qa_c, rfl⟩ := hqa.is.lit
 obtain ⟨ra_a, ra_n, ra_c, rfl⟩ := hra.is.lit
 have Hm := lH (iK Hm.out (kC hb))
 have Hg := lH (Can.keep Hg.out (kC hb))
 have Xa0 := lH (xP hb Xa0.out)
 have HB := lH (bC HB.out hb)
 have Hqa := lH hqa
 have Hra := lH hra
 clear hb hqa hra
 have hp0 : decide (0 < qa_n) = true := Hqa.out.pos (num_pos Hz.out)
 obtain ⟨ca00, ca01, ca02, fa00, fa01, fa02⟩ := Xa0.out.c3
 have la0 := Xa0.out.lt
 go_wp2_with fail
 clear ca00 ca01 ca02 fa00 fa01 fa02 la0
 (first | (have hcall := rdivmod_uk (gcd_pos Hd.out) He.out Hl.out Hm.out Hg.out.is (by omega) (by omega); refine cM hcall ?_; clear hcall) | refine cM (rdivmod_uk (gcd_pos Hd.out) He.out Hl.out Hm.out Hg.out.is (by omega) (by omega)) ?_)
 rintro e w4 ⟨t4, rfl, ⟨qb_b, qb_o, qb_c, u4, qb_k, rfl, hqb, hcell, hk1⟩, hb⟩
 have Hqa := lH (Can.keep Hqa.out (kC hb))
 have Xa0 := lH (xP hb Xa0.out)
 have HB := lH (bC HB.out hb)
 have Hqb := lH hqb
 clear hb hqb
 obtain ⟨ca00, ca01, ca02, fa00, fa01, fa02⟩ := Xa0.out.c3
 have la0 := Xa0.out.lt
 go_wp2
 clear ca00 ca01 ca02 fa00 fa01 fa02 la0
 obtain ⟨W5, hW⟩ : ∃ W5, W5 = (World.setCell (World.setCell (World.setCell w4 ⟨w.heap.size, 0, none⟩ (.bool false)) ⟨w.heap.size, 1, none⟩ (.slice qa_a qa_n qa_c)) ⟨w.heap.size, 2, none⟩ (.slice (some ⟨qb_b, qb_o, none⟩) 1 qb_c)) := ⟨_, rfl⟩
 rw [← hW]
 obtain ⟨xa0, hk, hf, hbb, hz⟩ := stored3s hW Xa0.out (by first | exact nB_ _ | exact nS_ _ _ _) (by first | exact nB_ _ | exact nS_ _ _ _) (by first | exact nB_ _ | exact nS_ _ _ _)
 have Hqa := lH (Can.keep Hqa.out hk)
 have Hqb := lH (Can.keep Hqb.out hk)
 have Xa0 := lH xa0
 have HB := lH (hbb _ HB.out Ga0.out)
 clear hW hk hf hbb xa0
 clear hz
 exact ret_rat1 rfl rfl rfl Xa0.out (quot_four Hz.out Hd.out He.out Hqa.out Hqb.out) HB.out
theorem r3quot_is {neg : Bool} {n d L M : Nat} {s t : Value} {w : World} (hd : 0 < d) (hn : Is n L w s) (hm : Is d M w t) (hL : L ≤ 1000000000) (hM : M ≤ 1000000000) :
  Calls Tryz.prog 77 #[.bool neg, s, t] w (Ret w (CR (mkRat (iv neg n) d) (max L M))) := by
 rcases eP_ n with h0 | h0
 ·
  cases neg
  ·
   exact r3quot_0f h0 hn hm hd hL hM
  ·
   exact r3quot_0t h0 hn hm hd hL hM
 ·
  cases h1 : d / Nat.gcd n d == 1
  ·
   by_cases h2 : ((sz (d / Nat.gcd n d) : Nat) : Int) = 1
   ·
    cases neg
    ·
     exact r3quot_3f h0 h1 h2 hn hm hd hL hM
    ·
     exact r3quot_3t h0 h1 h2 hn hm hd hL hM
   ·
    cases neg
    ·
     exact r3quot_2f h0 h1 h2 hn hm hd hL hM
    ·
     exact r3quot_2t h0 h1 h2 hn hm hd hL hM
  ·
   cases neg
   ·
    exact r3quot_1f h0 h1 hn hm hd hL hM
   ·
    exact r3quot_1t h0 h1 hn hm hd hL hM
theorem CR.of_int {z : Int} {L : Nat} {w : World} {b : Bool} {s : Value} (h : CL z L w (.agg #[.bool b, s])) : CR (z : Rat) (max L 1) w (.agg #[.bool b, s, .slice none 0 0]) := by
 obtain ⟨⟨s', he, h2⟩, h3⟩ := h
 injection he with he; injection he with he; injection he with e1 he; injection he with e2 _; injection e1 with e1
 subst e1 e2
 refine ⟨⟨s, .slice none 0 0, ?_, h2, ?_⟩, tL_ h3 (Nat.le_max_left _ _), tL_ (sz_le (by decide) : sz 1 ≤ 1) (Nat.le_max_right _ _)⟩
 ·
  congr 4
  rw [Bool.eq_iff_iff]
  simp only [decide_eq_true_eq]
  exact Rat.intCast_neg_iff.symm
 ·
  show Sl w _ (limbs 0); rw [limbs_zero]; exact Sl.nil w
theorem zadd_parts {ba bb bs : Bool} {na da nb db : Nat} (h : iv bs (iv ba (na * un db) + iv bb (nb * un da)).natAbs = iv ba (na * un db) + iv bb (nb * un da)) :
  mkRat (iv bs (iv ba (na * un db) + iv bb (nb * un da)).natAbs) (un da * un db) = rv ba na da + rv bb nb db := by
 rw [h]; unfold rv
 rw [Rat.mkRat_add_mkRat _ _ (un_ne _) (un_ne _)]
 congr 1
 cases ba <;> cases bb <;> simp [iv, Int.natCast_mul, Int.neg_mul]
theorem zcanon_p {L : Nat} {ba : Bool} {na da : Nat} {sa ta : Value} {w : World} (hna : Is na L w sa) (hda : Is da L w ta) (hL : L ≤ 100000000) :
  Calls Tryz.prog 39 #[.agg #[.bool ba, sa, ta]] w (Ret w (CR (rv ba na da) (max L 1))) := by
 have Hna := lH hna
 have Hda := lH hda
 clear hna hda
 go_enter Tryz.func39, Tryz.ntmps39
 have HB := lH (bR_ w.heap.size w)
 go_wp2_with fail
 obtain ⟨W1, hW⟩ : ∃ W1, W1 = (World.alloc (World.alloc w (.cells #[.bool ba, sa, ta] 37)) (.cells #[.bool false, .slice none 0 0, .slice none 0 0] 37)) := ⟨_, rfl⟩
 rw [← hW]
 obtain ⟨xa0, xb0, hk, hb⟩ := boxes_2 _ _ _ _ _ hW
 clear hW
 have Hna := lH (iK Hna.out hk)
 have Hda := lH (iK Hda.out hk)
 have Ga0 := lH (show w.heap.size ≤ w.heap.size from tL_ HB.out.size (by omega))
 have Gb0 := lH (show w.heap.size ≤ w.heap.size + 1 from tL_ HB.out.size (by omega))
 have Xa0 := lH xa0
 have Xb0 := lH xb0
 have HB := lH (bC HB.out hb)
 clear hk hb xa0 xb0
 have Hna := lH (iK Hna.out (Keep.drew W1))
 have Hda := lH (iK Hda.out (Keep.drew W1))
 have Xa0 := lH (Box.drew Xa0.out)
 have Xb0 := lH (Box.drew Xb0.out)
 have HB := lH (Below.drew HB.out)
 refine wp_region_float [w.heap.size + 1] [] (by kernel_rfl) (by kernel_rfl) 11 (by kernel_rfl) Flok.nil ?_
 intro ok
 have Hok := lH ok
 clear ok
 have HG := lH (bR_ (W1.drew).heap.size (W1.drew))
 refine good_pureX 0 (some 3) (Go.Op.fieldAddr 37 (Go.Operand.tmp 1) 0) (none) (.pointer (some ⟨w.heap.size, 0, none⟩)) (by kernel_rfl) (by kernel_rfl) (by kernel_rfl) (fun _ _ _ h => h) (fun w' hw' => ?_) ?_
 ·
  first | (go_simp; done) | (go_simp; simp_all; done) | (go_simp; rfl)
 simp only [Act.put, sI, sZ, sS]
 refine good_pureX 1 (some 4) (Go.Op.load 4 (Go.Operand.tmp 3)) (none) (.bool ba) (by kernel_rfl) (by kernel_rfl) (by kernel_rfl) (fun _ _ _ h => h) (fun w' hw' => ?_) ?_
 ·
  obtain ⟨ca00, ca01, ca02, fa00, fa01, fa02⟩ := (Box.se hw' Xa0.out (notin1 (by omega))).c3
  first | (go_simp; done) | (go_simp; simp_all; done) | (go_simp; rfl)
 simp only [Act.put, sI, sZ, sS]
 refine good_pureX 2 (some 5) (Go.Op.fieldAddr 37 (Go.Operand.tmp 1) 1) (none) (.pointer (some ⟨w.heap.size, 1, none⟩)) (by kernel_rfl) (by kernel_rfl) (by kernel_rfl) (fun _ _ _ h => h) (fun w' hw' => ?_) ?_
 ·
  first | (go_simp; done) | (go_simp; simp_all; done) | (go_simp; rfl)
 simp only [Act.put, sI, sZ, sS]
 refine good_pureX 3 (some 6) (Go.Op.load 35 (Go.Operand.tmp 5)) (none) (sa) (by kernel_rfl) (by kernel_rfl) (by kernel_rfl) (fun _ _ _ h => h) (fun w' hw' => ?_) ?_
 ·
  obtain ⟨ca00, ca01, ca02, fa00, fa01, fa02⟩ := (Box.se hw' Xa0.out (notin1 (by omega))).c3
  first | (go_simp; done) | (go_simp; simp_all; done) | (go_simp; rfl)
 simp only [Act.put, sI, sZ, sS]
 refine good_pureX 4 (some 7) (Go.Op.fieldAddr 37 (Go.Operand.tmp 1) 2) (none) (.pointer (some ⟨w.heap.size, 2, none⟩)) (by kernel_rfl) (by kernel_rfl) (by kernel_rfl) (fun _ _ _ h => h) (fun w' hw' => ?_) ?_
 ·
  first | (go_simp; done) | (go_simp; simp_all; done) | (go_simp; rfl)
 simp only [Act.put, sI, sZ, sS]
 refine good_pureX 5 (some 8) (Go.Op.load 35 (Go.Operand.tmp 7)) (none) (ta) (by kernel_rfl) (by kernel_rfl) (by kernel_rfl) (fun _ _ _ h => h) (fun w' hw' => ?_) ?_
 ·
  obtain ⟨ca00, ca01, ca02, fa00, fa01, fa02⟩ := (Box.se hw' Xa0.out (notin1 (by omega))).c3
  first | (go_simp; done) | (go_simp; simp_all; done) | (go_simp; rfl)
 simp only [Act.put, sI, sZ, sS]
 refine good_callX 6 78 (some 9) #[Go.Operand.tmp 8] #[35] (none) #[ta] (by kernel_rfl) Hok.out (by kernel_rfl) (by kernel_rfl) (by kernel_rfl) (by kernel_rfl) rfl rfl rfl (by kernel_rfl) (fun w2 hb => ?_)
 have HG := lH (bC HG.out hb)
 clear hb
 (first | (have hcall := r3one_is (iK Hda.out (kC HG.out)); refine cM hcall ?_; clear hcall) | refine cM (r3one_is (iK Hda.out (kC HG.out))) ?_)
 rintro e w3 ⟨v3, rfl, hu, hb⟩
 obtain ⟨u_a, u_n, u_c, rfl⟩ := hu.lit
 refine ⟨_, rfl, ?_, hb⟩
 have HG := lH (bC HG.out hb)
 have Hu := lH hu
 clear hb hu
 simp only [Act.put, sI, sZ, sS]
 refine good_callX 7 77 (some 10) #[Go.Operand.tmp 4, Go.Operand.tmp 6, Go.Operand.tmp 9] #[4, 35, 35] (none) #[.bool ba, sa, .slice u_a u_n u_c] (by kernel_rfl) Hok.out (by kernel_rfl) (by kernel_rfl) (by kernel_rfl) (by kernel_rfl) rfl rfl rfl (by kernel_rfl) (fun w4 hb => ?_)
 have Hu := lH (iK Hu.out (kC hb))
 have HG := lH (bC HG.out hb)
 clear hb
 refine cM (r3quot_is (neg := ba) (un_pos _) (iK Hna.out (kC HG.out)) Hu.out (by omega) (by omega)) ?_
 rintro e w5 ⟨v5, rfl, hz, hb⟩
 obtain ⟨z_b, z_a, z_n, z_c, z_d, z_m, z_e, rfl⟩ := hz.litb
 refine ⟨_, rfl, ?_, hb⟩
 have HG := lH (bC HG.out hb)
 have Hz := lH hz
 clear hb hz
 simp only [Act.put, sI, sZ, sS]
 refine good_end0 1 (by kernel_rfl) (fun _ w6 hb => ?_)
 have Hz := lH (CR.keep Hz.out (kC hb))
 have HG := lH (bC HG.out hb)
 clear hb
 have Xa0 := lH (xP HG.out Xa0.out)
 have Xb0 := lH (xP HG.out Xb0.out)
 have HB := lH (bC HB.out HG.out)
 have HS := lH (SE.of (E := [w.heap.size + 1]) HG.out)
 refine held_oneX 8 (Go.Op.store 37 (Go.Operand.tmp 2) (Go.Operand.tmp 10)) (none) (World.setCell (World.setCell (World.setCell w6 ⟨w.heap.size + 1, 0, none⟩ (.bool z_b)) ⟨w.heap.size + 1, 1, none⟩ (.slice z_a z_n z_c)) ⟨w.heap.size + 1, 2, none⟩ (.slice z_d z_m z_e)) (by kernel_rfl) (by kernel_rfl) (by kernel_rfl) (by kernel_rfl) ?_ (HS.out.store3 in1) ?_
 ·
  obtain ⟨cb00, cb01, cb02, fb00, fb01, fb02⟩ := Xb0.out.c3
  first | (go_simp; done) | (go_simp; simp_all; done) | (go_simp; rfl)
 obtain ⟨W7, hW⟩ : ∃ W7, W7 = (World.setCell (World.setCell (World.setCell w6 ⟨w.heap.size + 1, 0, none⟩ (.bool z_b)) ⟨w.heap.size + 1, 1, none⟩ (.slice z_a z_n z_c)) ⟨w.heap.size + 1, 2, none⟩ (.slice z_d z_m z_e)) := ⟨_, rfl⟩
 rw [← hW]
 obtain ⟨xb0, hk, hf, hbb, hz⟩ := stored3s hW Xb0.out (by first | exact nB_ _ | exact nS_ _ _ _) (by first | exact nB_ _ | exact nS_ _ _ _) (by first | exact nB_ _ | exact nS_ _ _ _)
 have Hz := lH (CR.keep Hz.out hk)
 have Xa0 := lH (hf _ _ _ Xa0.out (by omega))
 have Xb0 := lH xb0
 have HB := lH (hbb _ HB.out Gb0.out)
 have HS := lH (show SE (W1.drew) [w.heap.size + 1] W7 from by rw [hW]; exact HS.out.store3 in1)
 clear hW hk hf hbb xb0
 clear hz
 refine wpAnyH_done (by kernel_rfl) ?_ _
 clear HG HS Hok 
 obtain ⟨ca00, ca01, ca02, fa00, fa01, fa02⟩ := Xa0.out.c3
 have la0 := Xa0.out.lt
 obtain ⟨cb00, cb01, cb02, fb00, fb01, fb02⟩ := Xb0.out.c3
 have lb0 := Xb0.out.lt
 go_wp2
 clear ca00 ca01 ca02 fa00 fa01 fa02 la0 cb00 cb01 cb02 fb00 fb01 fb02 lb0
 exact ret_rat1 rfl rfl rfl Xb0.out (CR.mono Hz.out (by omega)) HB.out
theorem zcanon_ar {q : Rat} {L : Nat} {v : Value} {w : World} (h : AR q L w v) (hL : L ≤ 100000000) : Calls Tryz.prog 39 #[v] w (Ret w (CR q (max L 1))) := by
 obtain ⟨b, s, t, n, d, rfl, h1, h2, rfl⟩ := h
 exact zcanon_p h1 h2 hL
theorem zof {x : Int}  {w : World} (h1 : -9223372036854775808 ≤ x) (h2 : x < 9223372036854775808) :
  Calls Tryz.prog 19 #[.int .i64 x] w (Ret w (CR (x : Rat) 2)) := by
 go_enter Tryz.func19, Tryz.ntmps19
 have HB := lH (bR_ w.heap.size w)
 go_wp2_with fail
 obtain ⟨W1, hW⟩ : ∃ W1, W1 = (World.alloc w (.cells #[.bool false, .slice none 0 0, .slice none 0 0] 37)) := ⟨_, rfl⟩
 rw [← hW]
 obtain ⟨xa0, hk, hb⟩ := boxes_1 _ _ _ hW
 clear hW
 have Ga0 := lH (show w.heap.size ≤ w.heap.size from tL_ HB.out.size (by omega))
 have Xa0 := lH xa0
 have HB := lH (bC HB.out hb)
 clear hk hb xa0
 refine cM (riof_any h1 h2) ?_
 rintro e w2 ⟨v2, rfl, ho, hb⟩
 obtain ⟨o_b, o_a, o_n, o_c, rfl⟩ := ho.litb
 have Xa0 := lH (xP hb Xa0.out)
 have HB := lH (bC HB.out hb)
 have Ho := lH ho
 clear hb ho
 obtain ⟨ca00, ca01, ca02, fa00, fa01, fa02⟩ := Xa0.out.c3
 have la0 := Xa0.out.lt
 go_wp2
 clear ca00 ca01 ca02 fa00 fa01 fa02 la0
 obtain ⟨W3, hW⟩ : ∃ W3, W3 = (World.setCell (World.setCell (World.setCell w2 ⟨w.heap.size, 0, none⟩ (.bool o_b)) ⟨w.heap.size, 1, none⟩ (.slice o_a o_n o_c)) ⟨w.heap.size, 2, none⟩ (.slice none 0 0)) := ⟨_, rfl⟩
 rw [← hW]
 obtain ⟨xa0, hk, hf, hbb, hz⟩ := stored3s hW Xa0.out (by first | exact nB_ _ | exact nS_ _ _ _) (by first | exact nB_ _ | exact nS_ _ _ _) (by first | exact nB_ _ | exact nS_ _ _ _)
 have Ho := lH (CL.keep Ho.out hk)
 have Xa0 := lH xa0
 have HB := lH (hbb _ HB.out Ga0.out)
 clear hW hk hf hbb xa0
 have hz3 := hz
 clear hz
 obtain ⟨W4, hW⟩ : ∃ W4, W4 = (World.alloc W3 (.cells #[.bool o_b, .slice o_a o_n o_c] 103)) := ⟨_, rfl⟩
 rw [← hW]
 obtain ⟨xb0, hk, hb⟩ := boxes_1 _ _ _ hW
 clear hW
 rw [hz3] at xb0
 have Ho := lH (CL.keep Ho.out hk)
 have Na0b0 := lH (show w.heap.size ≠ w2.heap.size from Nat.ne_of_lt (Nat.lt_of_lt_of_le Xa0.out.lt (by omega)))
 have Gb0 := lH (show w.heap.size ≤ w2.heap.size from tL_ HB.out.size (by omega))
 clear hz3
 have Xa0 := lH (xP hb Xa0.out)
 have Xb0 := lH xb0
 have HB := lH (bC HB.out hb)
 clear hk hb xb0
 exact ret_rat1 rfl rfl rfl Xa0.out (CR.mono (CR.of_int Ho.out) (by omega)) HB.out
theorem zmk_1 {L M : Nat} {ba : Bool} {na : Nat} {sa : Value} {bb : Bool} {nb : Nat} {sb : Value} {w : World} (k : Int) (hk : (iv bb nb).sign = k) (hk0 : (k == 0) = false) (hp : 0 < nb) (hna : Is na L w sa) (hnb : Is nb M w sb) (hL : L ≤ 100000000) (hM : M ≤ 100000000) :
  Calls Tryz.prog 50 #[.agg #[.bool ba, sa], .agg #[.bool bb, sb]] w (Ret w (CRE ((iv ba na : Int) / (iv bb nb : Int)) (max L M) 0)) := by
 have Hna := lH hna
 have Hnb := lH hnb
 have Hk := lH hk
 have Hk0 := lH hk0
 have Hp := lH hp
 clear hna hnb hk hk0 hp
 go_enter Tryz.func50, Tryz.ntmps50
 have HB := lH (bR_ w.heap.size w)
 go_wp2_with fail
 obtain ⟨W1, hW⟩ : ∃ W1, W1 = (World.alloc (World.alloc (World.alloc w (.cells #[.bool ba, sa] 103)) (.cells #[.bool bb, sb] 103)) (.cells #[.bool false, .slice none 0 0, .slice none 0 0] 37)) := ⟨_, rfl⟩
 rw [← hW]
 obtain ⟨xa0, xb0, xc0, hk, hb⟩ := boxes_3 _ _ _ _ _ _ _ hW
 clear hW
 have Hna := lH (iK Hna.out hk)
 have Hnb := lH (iK Hnb.out hk)
 have Ga0 := lH (show w.heap.size ≤ w.heap.size from tL_ HB.out.size (by omega))
 have Gb0 := lH (show w.heap.size ≤ w.heap.size + 1 from tL_ HB.out.size (by omega))
 have Gc0 := lH (show w.heap.size ≤ w.heap.size + 1 + 1 from tL_ HB.out.size (by omega))
 have Xa0 := lH xa0
 have Xb0 := lH xb0
 have Xc0 := lH xc0
 have HB := lH (bC HB.out hb)
 clear hk hb xa0 xb0 xc0
 (first | (have hcall := risign_ai k (AI.mk (n := bb) Hnb.out) Hk.out; refine cM hcall ?_; clear hcall) | refine cM (risign_ai k (AI.mk (n := bb) Hnb.out) Hk.out) ?_)
 rintro e w2 ⟨v2, rfl, rfl, hb⟩
 have Hna := lH (iK Hna.out (kC hb))
 have Hnb := lH (iK Hnb.out (kC hb))
 have Xa0 := lH (xP hb Xa0.out)
 have Xb0 := lH (xP hb Xb0.out)
 have Xc0 := lH (xP hb Xc0.out)
 have HB := lH (bC HB.out hb)
 clear hb
 have hk0 : (k == 0) = false := Hk0.out
 obtain ⟨ca00, ca01, fa00, fa01⟩ := Xa0.out.c2
 have la0 := Xa0.out.lt
 obtain ⟨cb00, cb01, fb00, fb01⟩ := Xb0.out.c2
 have lb0 := Xb0.out.lt
 obtain ⟨cc00, cc01, cc02, fc00, fc01, fc02⟩ := Xc0.out.c3
 have lc0 := Xc0.out.lt
 go_wp2_with fail
 clear ca00 ca01 fa00 fa01 la0 cb00 cb01 fb00 fb01 lb0 cc00 cc01 cc02 fc00 fc01 fc02 lc0
 (first | (have hcall := r3quot_is (neg := (!ba == bb)) (Hp.out) Hna.out Hnb.out (by omega) (by omega); refine cM hcall ?_; clear hcall) | refine cM (r3quot_is (neg := (!ba == bb)) (Hp.out) Hna.out Hnb.out (by omega) (by omega)) ?_)
 rintro e w3 ⟨v3, rfl, hz, hb⟩
 obtain ⟨z_b, z_a, z_n, z_c, z_d, z_m, z_e, rfl⟩ := hz.litb
 have Xa0 := lH (xP hb Xa0.out)
 have Xb0 := lH (xP hb Xb0.out)
 have Xc0 := lH (xP hb Xc0.out)
 have HB := lH (bC HB.out hb)
 have Hz := lH hz
 clear hb hz
 obtain ⟨ca00, ca01, fa00, fa01⟩ := Xa0.out.c2
 have la0 := Xa0.out.lt
 obtain ⟨cb00, cb01, fb00, fb01⟩ := Xb0.out.c2
 have lb0 := Xb0.out.lt
 obtain ⟨cc00, cc01, cc02, fc00, fc01, fc02⟩ := Xc0.out.c3
 have lc0 := Xc0.out.lt
 go_wp2
 clear ca00 ca01 fa00 fa01 la0 cb00 cb01 fb00 fb01 lb0 cc00 cc01 cc02 fc00 fc01 fc02 lc0
 obtain ⟨W4, hW⟩ : ∃ W4, W4 = (World.setCell (World.setCell (World.setCell w3 ⟨w.heap.size + 1 + 1, 0, none⟩ (.bool z_b)) ⟨w.heap.size + 1 + 1, 1, none⟩ (.slice z_a z_n z_c)) ⟨w.heap.size + 1 + 1, 2, none⟩ (.slice z_d z_m z_e)) := ⟨_, rfl⟩
 rw [← hW]
 obtain ⟨xc0, hk, hf, hbb, hz⟩ := stored3s hW Xc0.out (by first | exact nB_ _ | exact nS_ _ _ _) (by first | exact nB_ _ | exact nS_ _ _ _) (by first | exact nB_ _ | exact nS_ _ _ _)
 have Hz := lH (CR.keep Hz.out hk)
 have Xa0 := lH (hf _ _ _ Xa0.out (by omega))
 have Xb0 := lH (hf _ _ _ Xb0.out (by omega))
 have Xc0 := lH xc0
 have HB := lH (hbb _ HB.out Gc0.out)
 clear hW hk hf hbb xc0
 clear hz
 exact ret_re rfl rfl rfl rfl Xc0.out ⟨_, rfl, CR.cast (div_sign _ _ _ _ Hp.out) Hz.out⟩ HB.out
theorem zmk_ai {y z : Int} {L M : Nat} {u v : Value} {w : World} (hz : z ≠ 0) (h : AI y L w u) (h' : AI z M w v) (hL : L ≤ 100000000) (hM : M ≤ 100000000) :
  Calls Tryz.prog 50 #[u, v] w (Ret w (CRE ((y : Rat) / (z : Rat)) (max L M) 0)) := by
 obtain ⟨ba, sa, na, rfl, h1, rfl⟩ := h
 obtain ⟨bb, sb, nb, rfl, h2, rfl⟩ := h'
 have hp : 0 < nb := by
  rcases eP_ nb with rfl | h0
  ·
   exact absurd (by cases bb <;> rfl) hz
  ·
   exact h0
 exact zmk_1 _ rfl (by simpa [Int.sign_eq_zero_iff_zero] using hz) hp h1 h2 hL hM
theorem zfrac_1 {x y : Int}  {w : World} (h1 : -9223372036854775808 ≤ x) (h2 : x < 9223372036854775808) (h3 : -9223372036854775808 ≤ y) (h4 : y < 9223372036854775808) (hz : y ≠ 0) :
  Calls Tryz.prog 20 #[.int .i64 x, .int .i64 y] w (Ret w (CRE ((x : Rat) / (y : Rat)) 2 0)) := by
 have Hz := lH hz
 clear hz
 go_enter Tryz.func20, Tryz.ntmps20
 have HB := lH (bR_ w.heap.size w)
 go_wp2_with fail
 obtain ⟨W1, hW⟩ : ∃ W1, W1 = (World.alloc w (.cells #[.bool false, .slice none 0 0, .slice none 0 0] 37)) := ⟨_, rfl⟩
 rw [← hW]
 obtain ⟨xa0, hk, hb⟩ := boxes_1 _ _ _ hW
 clear hW
 have Ga0 := lH (show w.heap.size ≤ w.heap.size from tL_ HB.out.size (by omega))
 have Xa0 := lH xa0
 have HB := lH (bC HB.out hb)
 clear hk hb xa0
 refine cM (riof_any h1 h2) ?_
 rintro e w2 ⟨v2, rfl, ho, hb⟩
 obtain ⟨o_b, o_a, o_n, o_c, rfl⟩ := ho.litb
 have Xa0 := lH (xP hb Xa0.out)
 have HB := lH (bC HB.out hb)
 have Ho := lH ho
 clear hb ho
 obtain ⟨ca00, ca01, ca02, fa00, fa01, fa02⟩ := Xa0.out.c3
 have la0 := Xa0.out.lt
 go_wp2_with fail
 clear ca00 ca01 ca02 fa00 fa01 fa02 la0
 refine cM (riof_any h3 h4) ?_
 rintro e w3 ⟨v3, rfl, hp, hb⟩
 obtain ⟨p_b, p_a, p_n, p_c, rfl⟩ := hp.litb
 have Ho := lH (CL.keep Ho.out (kC hb))
 have Xa0 := lH (xP hb Xa0.out)
 have HB := lH (bC HB.out hb)
 have Hp := lH hp
 clear hb hp
 obtain ⟨ca00, ca01, ca02, fa00, fa01, fa02⟩ := Xa0.out.c3
 have la0 := Xa0.out.lt
 go_wp2_with fail
 clear ca00 ca01 ca02 fa00 fa01 fa02 la0
 (first | (have hcall := zmk_ai Hz.out Ho.out.ai Hp.out.ai (by decide) (by decide); refine cM hcall ?_; clear hcall) | refine cM (zmk_ai Hz.out Ho.out.ai Hp.out.ai (by decide) (by decide)) ?_)
 rintro e w4 ⟨t4, rfl, ⟨v4, rfl, hz⟩, hb⟩
 obtain ⟨z_b, z_a, z_n, z_c, z_d, z_m, z_e, rfl⟩ := hz.litb
 have Xa0 := lH (xP hb Xa0.out)
 have HB := lH (bC HB.out hb)
 have Hz := lH hz
 clear hb hz
 obtain ⟨ca00, ca01, ca02, fa00, fa01, fa02⟩ := Xa0.out.c3
 have la0 := Xa0.out.lt
 go_wp2
 clear ca00 ca01 ca02 fa00 fa01 fa02 la0
 obtain ⟨W5, hW⟩ : ∃ W5, W5 = (World.setCell (World.setCell (World.setCell w4 ⟨w.heap.size, 0, none⟩ (.bool z_b)) ⟨w.heap.size, 1, none⟩ (.slice z_a z_n z_c)) ⟨w.heap.size, 2, none⟩ (.slice z_d z_m z_e)) := ⟨_, rfl⟩
 rw [← hW]
 obtain ⟨xa0, hk, hf, hbb, hz⟩ := stored3s hW Xa0.out (by first | exact nB_ _ | exact nS_ _ _ _) (by first | exact nB_ _ | exact nS_ _ _ _) (by first | exact nB_ _ | exact nS_ _ _ _)
 have Hz := lH (CR.keep Hz.out hk)
 have Xa0 := lH xa0
 have HB := lH (hbb _ HB.out Ga0.out)
 clear hW hk hf hbb xa0
 clear hz
 exact ret_re rfl rfl rfl rfl Xa0.out ⟨_, rfl, Hz.out⟩ HB.out
theorem zneg_p {L : Nat} {qa : Rat} {ba : Bool} {sa ta : Value} {w : World} (ha : AR qa L w (.agg #[.bool ba, sa, ta])) (hL : L ≤ 100000000) :
  Calls Tryz.prog 105 #[.agg #[.bool ba, sa, ta]] w (Ret w (CR (-qa) (max L 1))) := by
 have Ha := lH ha
 clear ha
 go_enter Tryz.func105, Tryz.ntmps105
 have HB := lH (bR_ w.heap.size w)
 go_wp2_with fail
 obtain ⟨W1, hW⟩ : ∃ W1, W1 = (World.alloc (World.alloc w (.cells #[.bool (!ba), sa, ta] 37)) (.cells #[.bool false, .slice none 0 0, .slice none 0 0] 37)) := ⟨_, rfl⟩
 rw [← hW]
 obtain ⟨xa0, xb0, hk, hb⟩ := boxes_2 _ _ _ _ _ hW
 clear hW
 have Ha := lH (AR.keep Ha.out hk)
 have Ga0 := lH (show w.heap.size ≤ w.heap.size from tL_ HB.out.size (by omega))
 have Gb0 := lH (show w.heap.size ≤ w.heap.size + 1 from tL_ HB.out.size (by omega))
 have Xa0 := lH xa0
 have Xb0 := lH xb0
 have HB := lH (bC HB.out hb)
 clear hk hb xa0 xb0
 (first | (have hcall := zcanon_ar (AR.neg Ha.out) (by omega); refine cM hcall ?_; clear hcall) | refine cM (zcanon_ar (AR.neg Ha.out) (by omega)) ?_)
 rintro e w2 ⟨v2, rfl, hz, hb⟩
 obtain ⟨z_b, z_a, z_n, z_c, z_d, z_m, z_e, rfl⟩ := hz.litb
 have Xa0 := lH (xP hb Xa0.out)
 have Xb0 := lH (xP hb Xb0.out)
 have HB := lH (bC HB.out hb)
 have Hz := lH hz
 clear hb hz
 obtain ⟨ca00, ca01, ca02, fa00, fa01, fa02⟩ := Xa0.out.c3
 have la0 := Xa0.out.lt
 obtain ⟨cb00, cb01, cb02, fb00, fb01, fb02⟩ := Xb0.out.c3
 have lb0 := Xb0.out.lt
 go_wp2
 clear ca00 ca01 ca02 fa00 fa01 fa02 la0 cb00 cb01 cb02 fb00 fb01 fb02 lb0
 obtain ⟨W3, hW⟩ : ∃ W3, W3 = (World.setCell (World.setCell (World.setCell w2 ⟨w.heap.size + 1, 0, none⟩ (.bool z_b)) ⟨w.heap.size + 1, 1, none⟩ (.slice z_a z_n z_c)) ⟨w.heap.size + 1, 2, none⟩ (.slice z_d z_m z_e)) := ⟨_, rfl⟩
 rw [← hW]
 obtain ⟨xb0, hk, hf, hbb, hz⟩ := stored3s hW Xb0.out (by first | exact nB_ _ | exact nS_ _ _ _) (by first | exact nB_ _ | exact nS_ _ _ _) (by first | exact nB_ _ | exact nS_ _ _ _)
 have Hz := lH (CR.keep Hz.out hk)
 have Xa0 := lH (hf _ _ _ Xa0.out (by omega))
 have Xb0 := lH xb0
 have HB := lH (hbb _ HB.out Gb0.out)
 clear hW hk hf hbb xb0
 clear hz
 exact ret_rat1 rfl rfl rfl Xb0.out Hz.out HB.out
theorem zneg_ar {q : Rat} {L : Nat} {v : Value} {w : World} (h : AR q L w v) (hL : L ≤ 100000000) : Calls Tryz.prog 105 #[v] w (Ret w (CR (-q) (max L 1))) := by
 obtain ⟨b, s, t, rfl⟩ := h.agg
 exact zneg_p h hL
theorem zsign_p {L : Nat} {ba : Bool} {na da : Nat} {a1 : Option Addr} {a2 a3 : Nat} {ta : Value}  {w : World} (k : Int) (hk : (iv ba na).sign = k) (hna : Is na L w (.slice a1 a2 a3)) (hda : Is da L w ta) :
  Calls Tryz.prog 75 #[.agg #[.bool ba, .slice a1 a2 a3, ta]] w (Ret w (Val (.int .i64 k))) := by
 have Hna := lH hna
 have Hda := lH hda
 have Hk := lH hk
 clear hna hda hk
 go_enter Tryz.func75, Tryz.ntmps75
 have HB := lH (bR_ w.heap.size w)
 go_wp2_with fail
 obtain ⟨W1, hW⟩ : ∃ W1, W1 = (World.alloc w (.cells #[.bool ba, .slice a1 a2 a3, ta] 37)) := ⟨_, rfl⟩
 rw [← hW]
 obtain ⟨xa0, hk, hb⟩ := boxes_1 _ _ _ hW
 clear hW
 have Hna := lH (iK Hna.out hk)
 have Ga0 := lH (show w.heap.size ≤ w.heap.size from tL_ HB.out.size (by omega))
 have Xa0 := lH xa0
 have HB := lH (bC HB.out hb)
 clear hk hb xa0
 (first | (have hcall := risign_ai k (AI.mk (n := ba) Hna.out) Hk.out; refine cM hcall ?_; clear hcall) | refine cM (risign_ai k (AI.mk (n := ba) Hna.out) Hk.out) ?_)
 rintro e w2 ⟨v2, rfl, rfl, hb⟩
 have Xa0 := lH (xP hb Xa0.out)
 have HB := lH (bC HB.out hb)
 clear hb
 obtain ⟨ca00, ca01, ca02, fa00, fa01, fa02⟩ := Xa0.out.c3
 have la0 := Xa0.out.lt
 go_wp2
 clear ca00 ca01 ca02 fa00 fa01 fa02 la0
 go_ret
 exact ⟨_, rfl, rfl, HB.out⟩
theorem zsign_ar {q : Rat} {L : Nat} {v : Value} {w : World} (k : Int) (h : AR q L w v) (hk : q.num.sign = k) : Calls Tryz.prog 75 #[v] w (Ret w (Val (.int .i64 k))) := by
 obtain ⟨b, s, t, n, d, rfl, h1, h2, rfl⟩ := h
 obtain ⟨a1, a2, a3, rfl⟩ := h1.lit
 exact zsign_p k (by rw [← hk, rv_sign]) h1 h2
theorem zsign_rv {ba : Bool} {n d L : Nat} {s t : Value} {w : World} (k : Int) (hk : (iv ba n).sign = k) (h1 : Is n L w s) (h2 : Is d L w t) : Calls Tryz.prog 75 #[.agg #[.bool ba, s, t]] w (Ret w (Val (.int .i64 k))) := zsign_ar k (AR.mk h1 h2) (by rw [← rv_sign]; exact hk)
theorem zadd_p {L M : Nat} {ba : Bool} {na da : Nat} {sa ta : Value} {bb : Bool} {nb db : Nat} {sb tb : Value} {w : World} (hna : Is na L w sa) (hda : Is da L w ta) (hnb : Is nb M w sb) (hdb : Is db M w tb) (hL : L ≤ 100000000) (hM : M ≤ 100000000) :
  Calls Tryz.prog 95 #[.agg #[.bool ba, sa, ta], .agg #[.bool bb, sb, tb]] w (Ret w (CR (rv ba na da + rv bb nb db) (L + M + 3))) := by
 have Hna := lH hna
 have Hda := lH hda
 have Hnb := lH hnb
 have Hdb := lH hdb
 clear hna hda hnb hdb
 go_enter Tryz.func95, Tryz.ntmps95
 have HB := lH (bR_ w.heap.size w)
 go_wp2_with fail
 obtain ⟨W1, hW⟩ : ∃ W1, W1 = (World.alloc (World.alloc (World.alloc w (.cells #[.bool ba, sa, ta] 37)) (.cells #[.bool bb, sb, tb] 37)) (.cells #[.bool false, .slice none 0 0, .slice none 0 0] 37)) := ⟨_, rfl⟩
 rw [← hW]
 obtain ⟨xa0, xb0, xc0, hk, hb⟩ := boxes_3 _ _ _ _ _ _ _ hW
 clear hW
 have Hna := lH (iK Hna.out hk)
 have Hda := lH (iK Hda.out hk)
 have Hnb := lH (iK Hnb.out hk)
 have Hdb := lH (iK Hdb.out hk)
 have Ga0 := lH (show w.heap.size ≤ w.heap.size from tL_ HB.out.size (by omega))
 have Gb0 := lH (show w.heap.size ≤ w.heap.size + 1 from tL_ HB.out.size (by omega))
 have Gc0 := lH (show w.heap.size ≤ w.heap.size + 1 + 1 from tL_ HB.out.size (by omega))
 have Xa0 := lH xa0
 have Xb0 := lH xb0
 have Xc0 := lH xc0
 have HB := lH (bC HB.out hb)
 clear hk hb xa0 xb0 xc0
 have Hna := lH (iK Hna.out (Keep.drew W1))
 have Hda := lH (iK Hda.out (Keep.drew W1))
 have Hnb := lH (iK Hnb.out (Keep.drew W1))
 have Hdb := lH (iK Hdb.out (Keep.drew W1))
 have Xa0 := lH (Box.drew Xa0.out)
 have Xb0 := lH (Box.drew Xb0.out)
 have Xc0 := lH (Box.drew Xc0.out)
 have HB := lH (Below.drew HB.out)
 refine wp_region_float [] [⟨9, 5, 103, #[.bool false, .slice none 0 0]⟩] (by kernel_rfl) (by kernel_rfl) 41 (by kernel_rfl) (Flok.one (by kernel_rfl) (by kernel_rfl) (by kernel_rfl) (by intro w; go_simp)) ?_
 intro ok
 have Hok := lH ok
 clear ok
 have HG := lH (bR_ (W1.drew).heap.size (W1.drew))
 refine good_pureX 0 (some 8) (Go.Op.fieldAddr 37 (Go.Operand.tmp 2) 0) (none) (.pointer (some ⟨w.heap.size, 0, none⟩)) (by kernel_rfl) (by kernel_rfl) (by kernel_rfl) (fun _ _ _ h => h) (fun w' hw' => ?_) ?_
 ·
  first | (go_simp; done) | (go_simp; simp_all; done) | (go_simp; rfl)
 simp only [Act.put, sI, sZ, sS]
 refine good_pureX 1 (some 9) (Go.Op.load 4 (Go.Operand.tmp 8)) (none) (.bool ba) (by kernel_rfl) (by kernel_rfl) (by kernel_rfl) (fun _ _ _ h => h) (fun w' hw' => ?_) ?_
 ·
  obtain ⟨ca00, ca01, ca02, fa00, fa01, fa02⟩ := (Box.se hw' Xa0.out notin0).c3
  first | (go_simp; done) | (go_simp; simp_all; done) | (go_simp; rfl)
 simp only [Act.put, sI, sZ, sS]
 refine good_pureX 2 (some 10) (Go.Op.fieldAddr 37 (Go.Operand.tmp 2) 1) (none) (.pointer (some ⟨w.heap.size, 1, none⟩)) (by kernel_rfl) (by kernel_rfl) (by kernel_rfl) (fun _ _ _ h => h) (fun w' hw' => ?_) ?_
 ·
  first | (go_simp; done) | (go_simp; simp_all; done) | (go_simp; rfl)
 simp only [Act.put, sI, sZ, sS]
 refine good_pureX 3 (some 11) (Go.Op.load 35 (Go.Operand.tmp 10)) (none) (sa) (by kernel_rfl) (by kernel_rfl) (by kernel_rfl) (fun _ _ _ h => h) (fun w' hw' => ?_) ?_
 ·
  obtain ⟨ca00, ca01, ca02, fa00, fa01, fa02⟩ := (Box.se hw' Xa0.out notin0).c3
  first | (go_simp; done) | (go_simp; simp_all; done) | (go_simp; rfl)
 simp only [Act.put, sI, sZ, sS]
 refine good_pureX 4 (some 12) (Go.Op.fieldAddr 37 (Go.Operand.tmp 3) 2) (none) (.pointer (some ⟨w.heap.size + 1, 2, none⟩)) (by kernel_rfl) (by kernel_rfl) (by kernel_rfl) (fun _ _ _ h => h) (fun w' hw' => ?_) ?_
 ·
  first | (go_simp; done) | (go_simp; simp_all; done) | (go_simp; rfl)
 simp only [Act.put, sI, sZ, sS]
 refine good_pureX 5 (some 13) (Go.Op.load 35 (Go.Operand.tmp 12)) (none) (tb) (by kernel_rfl) (by kernel_rfl) (by kernel_rfl) (fun _ _ _ h => h) (fun w' hw' => ?_) ?_
 ·
  obtain ⟨cb00, cb01, cb02, fb00, fb01, fb02⟩ := (Box.se hw' Xb0.out notin0).c3
  first | (go_simp; done) | (go_simp; simp_all; done) | (go_simp; rfl)
 simp only [Act.put, sI, sZ, sS]
 refine good_callX 6 78 (some 14) #[Go.Operand.tmp 13] #[35] (none) #[tb] (by kernel_rfl) Hok.out (by kernel_rfl) (by kernel_rfl) (by kernel_rfl) (by kernel_rfl) rfl rfl rfl (by kernel_rfl) (fun w2 hb => ?_)
 have HG := lH (bC HG.out hb)
 clear hb
 (first | (have hcall := r3one_is (iK Hdb.out (kC HG.out)); refine cM hcall ?_; clear hcall) | refine cM (r3one_is (iK Hdb.out (kC HG.out))) ?_)
 rintro e w3 ⟨v3, rfl, ho, hb⟩
 obtain ⟨o_a, o_n, o_c, rfl⟩ := ho.lit
 refine ⟨_, rfl, ?_, hb⟩
 have HG := lH (bC HG.out hb)
 have Ho := lH ho
 clear hb ho
 simp only [Act.put, sI, sZ, sS]
 refine good_callX 7 138 (some 15) #[Go.Operand.tmp 11, Go.Operand.tmp 14] #[35, 35] (none) #[sa, .slice o_a o_n o_c] (by kernel_rfl) Hok.out (by kernel_rfl) (by kernel_rfl) (by kernel_rfl) (by kernel_rfl) rfl rfl rfl (by kernel_rfl) (fun w4 hb => ?_)
 have Ho := lH (iK Ho.out (kC hb))
 have HG := lH (bC HG.out hb)
 clear hb
 (first | (have hcall := rmul_is (iK Hna.out (kC HG.out)) Ho.out (by omega) (by omega); refine cM hcall ?_; clear hcall) | refine cM (rmul_is (iK Hna.out (kC HG.out)) Ho.out (by omega) (by omega)) ?_)
 rintro e w5 ⟨v5, rfl, hx, hb⟩
 obtain ⟨x_a, x_n, x_c, rfl⟩ := hx.is.lit
 refine ⟨_, rfl, ?_, hb⟩
 have HG := lH (bC HG.out hb)
 have Hx := lH hx
 clear hb hx
 simp only [Act.put, sI, sZ, sS]
 refine good_pureX 8 (some 16) (Go.Op.build 103 #[(0, Go.Operand.tmp 9), (1, Go.Operand.tmp 15)]) (none) (.agg #[.bool ba, .slice x_a x_n x_c]) (by kernel_rfl) (by kernel_rfl) (by kernel_rfl) (fun _ _ _ h => h) (fun w' hw' => ?_) ?_
 ·
  first | (go_simp; done) | (go_simp; simp_all; done) | (go_simp; rfl)
 simp only [Act.put, sI, sZ, sS]
 refine good_end1 1 Hok.out (by kernel_rfl) (by kernel_rfl) (by kernel_rfl) (fun _ gd0 w6 hb ed0 xd0 => ?_)
 have Hx := lH (Can.keep Hx.out (kC hb))
 have HG := lH (bC HG.out hb)
 clear hb
 have Na0d0 := lH (show w.heap.size ≠ gd0 from Nat.ne_of_lt (Nat.lt_of_lt_of_le Xa0.out.lt ed0))
 have Nb0d0 := lH (show w.heap.size + 1 ≠ gd0 from Nat.ne_of_lt (Nat.lt_of_lt_of_le Xb0.out.lt ed0))
 have Nc0d0 := lH (show w.heap.size + 1 + 1 ≠ gd0 from Nat.ne_of_lt (Nat.lt_of_lt_of_le Xc0.out.lt ed0))
 have Gd0 := lH (show w.heap.size ≤ gd0 from tL_ HB.out.size ed0)
 have Ed0 := lH ed0
 clear ed0
 have Hda := lH (iK Hda.out (kC HG.out))
 have Hnb := lH (iK Hnb.out (kC HG.out))
 have Hdb := lH (iK Hdb.out (kC HG.out))
 have Xa0 := lH (xP HG.out Xa0.out)
 have Xb0 := lH (xP HG.out Xb0.out)
 have Xc0 := lH (xP HG.out Xc0.out)
 have HB := lH (bC HB.out HG.out)
 have HS := lH (SE.of (E := []) HG.out)
 have Xd0 := lH xd0
 clear xd0
 simp only [Act.put, sI, sZ, sS]
 refine held_oneX 10 (Go.Op.store 103 (Go.Operand.tmp 5) (Go.Operand.tmp 16)) (none) (World.setCell (World.setCell w6 ⟨gd0, 0, none⟩ (.bool ba)) ⟨gd0, 1, none⟩ (.slice x_a x_n x_c)) (by kernel_rfl) (by kernel_rfl) (by kernel_rfl) (by kernel_rfl) ?_ (HS.out.store2 (.inr Ed0.out)) ?_
 ·
  obtain ⟨cd00, cd01, fd00, fd01⟩ := Xd0.out.c2
  first | (go_simp; done) | (go_simp; simp_all; done) | (go_simp; rfl)
 obtain ⟨W7, hW⟩ : ∃ W7, W7 = (World.setCell (World.setCell w6 ⟨gd0, 0, none⟩ (.bool ba)) ⟨gd0, 1, none⟩ (.slice x_a x_n x_c)) := ⟨_, rfl⟩
 rw [← hW]
 obtain ⟨xd0, hk, hf, hbb, hz⟩ := stored2s hW Xd0.out (by first | exact nB_ _ | exact nS_ _ _ _) (by first | exact nB_ _ | exact nS_ _ _ _)
 have Hda := lH (iK Hda.out hk)
 have Hnb := lH (iK Hnb.out hk)
 have Hdb := lH (iK Hdb.out hk)
 have Hx := lH (Can.keep Hx.out hk)
 have Xa0 := lH (hf _ _ _ Xa0.out Na0d0.out)
 have Xb0 := lH (hf _ _ _ Xb0.out Nb0d0.out)
 have Xc0 := lH (hf _ _ _ Xc0.out Nc0d0.out)
 have Xd0 := lH xd0
 have HB := lH (hbb _ HB.out Gd0.out)
 have HS := lH (show SE (W1.drew) [] W7 from by rw [hW]; exact HS.out.store2 (.inr Ed0.out))
 clear hW hk hf hbb xd0
 clear hz
 refine wpAnyH_done (by kernel_rfl) ?_ _
 clear HG HS Hok Ed0
 obtain ⟨ca00, ca01, ca02, fa00, fa01, fa02⟩ := Xa0.out.c3
 have la0 := Xa0.out.lt
 obtain ⟨cb00, cb01, cb02, fb00, fb01, fb02⟩ := Xb0.out.c3
 have lb0 := Xb0.out.lt
 obtain ⟨cc00, cc01, cc02, fc00, fc01, fc02⟩ := Xc0.out.c3
 have lc0 := Xc0.out.lt
 obtain ⟨cd00, cd01, fd00, fd01⟩ := Xd0.out.c2
 have ld0 := Xd0.out.lt
 go_wp2_with fail
 clear ca00 ca01 ca02 fa00 fa01 fa02 la0 cb00 cb01 cb02 fb00 fb01 fb02 lb0 cc00 cc01 cc02 fc00 fc01 fc02 lc0 cd00 cd01 fd00 fd01 ld0
 have Hda := lH (iK Hda.out (Keep.drew W7))
 have Hnb := lH (iK Hnb.out (Keep.drew W7))
 have Hdb := lH (iK Hdb.out (Keep.drew W7))
 have Hx := lH (Can.keep Hx.out (Keep.drew W7))
 have Xa0 := lH (Box.drew Xa0.out)
 have Xb0 := lH (Box.drew Xb0.out)
 have Xc0 := lH (Box.drew Xc0.out)
 have Xd0 := lH (Box.drew Xd0.out)
 have HB := lH (Below.drew HB.out)
 refine wp_region_float [] [⟨9, 6, 103, #[.bool false, .slice none 0 0]⟩] (by kernel_rfl) (by kernel_rfl) 41 (by kernel_rfl) (Flok.one (by kernel_rfl) (by kernel_rfl) (by kernel_rfl) (by intro w; go_simp)) ?_
 intro ok
 have Hok := lH ok
 clear ok
 have HG := lH (bR_ (W7.drew).heap.size (W7.drew))
 refine good_pureX 0 (some 17) (Go.Op.fieldAddr 37 (Go.Operand.tmp 3) 0) (none) (.pointer (some ⟨w.heap.size + 1, 0, none⟩)) (by kernel_rfl) (by kernel_rfl) (by kernel_rfl) (fun _ _ _ h => h) (fun w' hw' => ?_) ?_
 ·
  first | (go_simp; done) | (go_simp; simp_all; done) | (go_simp; rfl)
 simp only [Act.put, sI, sZ, sS]
 refine good_pureX 1 (some 18) (Go.Op.load 4 (Go.Operand.tmp 17)) (none) (.bool bb) (by kernel_rfl) (by kernel_rfl) (by kernel_rfl) (fun _ _ _ h => h) (fun w' hw' => ?_) ?_
 ·
  obtain ⟨cb00, cb01, cb02, fb00, fb01, fb02⟩ := (Box.se hw' Xb0.out notin0).c3
  first | (go_simp; done) | (go_simp; simp_all; done) | (go_simp; rfl)
 simp only [Act.put, sI, sZ, sS]
 refine good_pureX 2 (some 19) (Go.Op.fieldAddr 37 (Go.Operand.tmp 3) 1) (none) (.pointer (some ⟨w.heap.size + 1, 1, none⟩)) (by kernel_rfl) (by kernel_rfl) (by kernel_rfl) (fun _ _ _ h => h) (fun w' hw' => ?_) ?_
 ·
  first | (go_simp; done) | (go_simp; simp_all; done) | (go_simp; rfl)
 simp only [Act.put, sI, sZ, sS]
 refine good_pureX 3 (some 20) (Go.Op.load 35 (Go.Operand.tmp 19)) (none) (sb) (by kernel_rfl) (by kernel_rfl) (by kernel_rfl) (fun _ _ _ h => h) (fun w' hw' => ?_) ?_
 ·
  obtain ⟨cb00, cb01, cb02, fb00, fb01, fb02⟩ := (Box.se hw' Xb0.out notin0).c3
  first | (go_simp; done) | (go_simp; simp_all; done) | (go_simp; rfl)
 simp only [Act.put, sI, sZ, sS]
 refine good_pureX 4 (some 21) (Go.Op.fieldAddr 37 (Go.Operand.tmp 2) 2) (none) (.pointer (some ⟨w.heap.size, 2, none⟩)) (by kernel_rfl) (by kernel_rfl) (by kernel_rfl) (fun _ _ _ h => h) (fun w' hw' => ?_) ?_
 ·
  first | (go_simp; done) | (go_simp; simp_all; done) | (go_simp; rfl)
 simp only [Act.put, sI, sZ, sS]
 refine good_pureX 5 (some 22) (Go.Op.load 35 (Go.Operand.tmp 21)) (none) (ta) (by kernel_rfl) (by kernel_rfl) (by kernel_rfl) (fun _ _ _ h => h) (fun w' hw' => ?_) ?_
 ·
  obtain ⟨ca00, ca01, ca02, fa00, fa01, fa02⟩ := (Box.se hw' Xa0.out notin0).c3
  first | (go_simp; done) | (go_simp; simp_all; done) | (go_simp; rfl)
 simp only [Act.put, sI, sZ, sS]
 refine good_callX 6 78 (some 23) #[Go.Operand.tmp 22] #[35] (none) #[ta] (by kernel_rfl) Hok.out (by kernel_rfl) (by kernel_rfl) (by kernel_rfl) (by kernel_rfl) rfl rfl rfl (by kernel_rfl) (fun w8 hb => ?_)
 have HG := lH (bC HG.out hb)
 clear hb
 (first | (have hcall := r3one_is (iK Hda.out (kC HG.out)); refine cM hcall ?_; clear hcall) | refine cM (r3one_is (iK Hda.out (kC HG.out))) ?_)
 rintro e w9 ⟨v9, rfl, hp, hb⟩
 obtain ⟨p_a, p_n, p_c, rfl⟩ := hp.lit
 refine ⟨_, rfl, ?_, hb⟩
 have HG := lH (bC HG.out hb)
 have Hp := lH hp
 clear hb hp
 simp only [Act.put, sI, sZ, sS]
 refine good_callX 7 138 (some 24) #[Go.Operand.tmp 20, Go.Operand.tmp 23] #[35, 35] (none) #[sb, .slice p_a p_n p_c] (by kernel_rfl) Hok.out (by kernel_rfl) (by kernel_rfl) (by kernel_rfl) (by kernel_rfl) rfl rfl rfl (by kernel_rfl) (fun w10 hb => ?_)
 have Hp := lH (iK Hp.out (kC hb))
 have HG := lH (bC HG.out hb)
 clear hb
 (first | (have hcall := rmul_is (iK Hnb.out (kC HG.out)) Hp.out (by omega) (by omega); refine cM hcall ?_; clear hcall) | refine cM (rmul_is (iK Hnb.out (kC HG.out)) Hp.out (by omega) (by omega)) ?_)
 rintro e w11 ⟨v11, rfl, hv, hb⟩
 obtain ⟨v_a, v_n, v_c, rfl⟩ := hv.is.lit
 refine ⟨_, rfl, ?_, hb⟩
 have HG := lH (bC HG.out hb)
 have Hv := lH hv
 clear hb hv
 simp only [Act.put, sI, sZ, sS]
 refine good_pureX 8 (some 25) (Go.Op.build 103 #[(0, Go.Operand.tmp 18), (1, Go.Operand.tmp 24)]) (none) (.agg #[.bool bb, .slice v_a v_n v_c]) (by kernel_rfl) (by kernel_rfl) (by kernel_rfl) (fun _ _ _ h => h) (fun w' hw' => ?_) ?_
 ·
  first | (go_simp; done) | (go_simp; simp_all; done) | (go_simp; rfl)
 simp only [Act.put, sI, sZ, sS]
 refine good_end1 1 Hok.out (by kernel_rfl) (by kernel_rfl) (by kernel_rfl) (fun _ ge0 w12 hb ee0 xe0 => ?_)
 have Hv := lH (Can.keep Hv.out (kC hb))
 have HG := lH (bC HG.out hb)
 clear hb
 have Na0e0 := lH (show w.heap.size ≠ ge0 from Nat.ne_of_lt (Nat.lt_of_lt_of_le Xa0.out.lt ee0))
 have Nb0e0 := lH (show w.heap.size + 1 ≠ ge0 from Nat.ne_of_lt (Nat.lt_of_lt_of_le Xb0.out.lt ee0))
 have Nc0e0 := lH (show w.heap.size + 1 + 1 ≠ ge0 from Nat.ne_of_lt (Nat.lt_of_lt_of_le Xc0.out.lt ee0))
 have Nd0e0 := lH (show gd0 ≠ ge0 from Nat.ne_of_lt (Nat.lt_of_lt_of_le Xd0.out.lt ee0))
 have Ge0 := lH (show w.heap.size ≤ ge0 from tL_ HB.out.size ee0)
 have Ee0 := lH ee0
 clear ee0
 have Hda := lH (iK Hda.out (kC HG.out))
 have Hdb := lH (iK Hdb.out (kC HG.out))
 have Hx := lH (Can.keep Hx.out (kC HG.out))
 have Xa0 := lH (xP HG.out Xa0.out)
 have Xb0 := lH (xP HG.out Xb0.out)
 have Xc0 := lH (xP HG.out Xc0.out)
 have Xd0 := lH (xP HG.out Xd0.out)
 have HB := lH (bC HB.out HG.out)
 have HS := lH (SE.of (E := []) HG.out)
 have Xe0 := lH xe0
 clear xe0
 simp only [Act.put, sI, sZ, sS]
 refine held_oneX 10 (Go.Op.store 103 (Go.Operand.tmp 6) (Go.Operand.tmp 25)) (none) (World.setCell (World.setCell w12 ⟨ge0, 0, none⟩ (.bool bb)) ⟨ge0, 1, none⟩ (.slice v_a v_n v_c)) (by kernel_rfl) (by kernel_rfl) (by kernel_rfl) (by kernel_rfl) ?_ (HS.out.store2 (.inr Ee0.out)) ?_
 ·
  obtain ⟨ce00, ce01, fe00, fe01⟩ := Xe0.out.c2
  first | (go_simp; done) | (go_simp; simp_all; done) | (go_simp; rfl)
 obtain ⟨W13, hW⟩ : ∃ W13, W13 = (World.setCell (World.setCell w12 ⟨ge0, 0, none⟩ (.bool bb)) ⟨ge0, 1, none⟩ (.slice v_a v_n v_c)) := ⟨_, rfl⟩
 rw [← hW]
 obtain ⟨xe0, hk, hf, hbb, hz⟩ := stored2s hW Xe0.out (by first | exact nB_ _ | exact nS_ _ _ _) (by first | exact nB_ _ | exact nS_ _ _ _)
 have Hda := lH (iK Hda.out hk)
 have Hdb := lH (iK Hdb.out hk)
 have Hx := lH (Can.keep Hx.out hk)
 have Hv := lH (Can.keep Hv.out hk)
 have Xa0 := lH (hf _ _ _ Xa0.out Na0e0.out)
 have Xb0 := lH (hf _ _ _ Xb0.out Nb0e0.out)
 have Xc0 := lH (hf _ _ _ Xc0.out Nc0e0.out)
 have Xd0 := lH (hf _ _ _ Xd0.out Nd0e0.out)
 have Xe0 := lH xe0
 have HB := lH (hbb _ HB.out Ge0.out)
 have HS := lH (show SE (W7.drew) [] W13 from by rw [hW]; exact HS.out.store2 (.inr Ee0.out))
 clear hW hk hf hbb xe0
 clear hz
 refine wpAnyH_done (by kernel_rfl) ?_ _
 clear HG HS Hok Ee0
 obtain ⟨ca00, ca01, ca02, fa00, fa01, fa02⟩ := Xa0.out.c3
 have la0 := Xa0.out.lt
 obtain ⟨cb00, cb01, cb02, fb00, fb01, fb02⟩ := Xb0.out.c3
 have lb0 := Xb0.out.lt
 obtain ⟨cc00, cc01, cc02, fc00, fc01, fc02⟩ := Xc0.out.c3
 have lc0 := Xc0.out.lt
 obtain ⟨cd00, cd01, fd00, fd01⟩ := Xd0.out.c2
 have ld0 := Xd0.out.lt
 obtain ⟨ce00, ce01, fe00, fe01⟩ := Xe0.out.c2
 have le0 := Xe0.out.lt
 go_wp2_with fail
 clear ca00 ca01 ca02 fa00 fa01 fa02 la0 cb00 cb01 cb02 fb00 fb01 fb02 lb0 cc00 cc01 cc02 fc00 fc01 fc02 lc0 cd00 cd01 fd00 fd01 ld0 ce00 ce01 fe00 fe01 le0
 (first | (have hcall := riadd_ai (AI.mk (n := ba) Hx.out.is) (AI.mk (n := bb) Hv.out.is) (by omega) (by omega); refine cM hcall ?_; clear hcall) | refine cM (riadd_ai (AI.mk (n := ba) Hx.out.is) (AI.mk (n := bb) Hv.out.is) (by omega) (by omega)) ?_)
 rintro e w14 ⟨v14, rfl, hs, hb⟩
 obtain ⟨s_b, s_a, s_n, s_c, rfl⟩ := hs.litb
 have Hda := lH (iK Hda.out (kC hb))
 have Hdb := lH (iK Hdb.out (kC hb))
 have Xa0 := lH (xP hb Xa0.out)
 have Xb0 := lH (xP hb Xb0.out)
 have Xc0 := lH (xP hb Xc0.out)
 have Xd0 := lH (xP hb Xd0.out)
 have Xe0 := lH (xP hb Xe0.out)
 have HB := lH (bC HB.out hb)
 have Hs := lH hs
 clear hb hs
 obtain ⟨ca00, ca01, ca02, fa00, fa01, fa02⟩ := Xa0.out.c3
 have la0 := Xa0.out.lt
 obtain ⟨cb00, cb01, cb02, fb00, fb01, fb02⟩ := Xb0.out.c3
 have lb0 := Xb0.out.lt
 obtain ⟨cc00, cc01, cc02, fc00, fc01, fc02⟩ := Xc0.out.c3
 have lc0 := Xc0.out.lt
 obtain ⟨cd00, cd01, fd00, fd01⟩ := Xd0.out.c2
 have ld0 := Xd0.out.lt
 obtain ⟨ce00, ce01, fe00, fe01⟩ := Xe0.out.c2
 have le0 := Xe0.out.lt
 go_wp2_with fail
 clear ca00 ca01 ca02 fa00 fa01 fa02 la0 cb00 cb01 cb02 fb00 fb01 fb02 lb0 cc00 cc01 cc02 fc00 fc01 fc02 lc0 cd00 cd01 fd00 fd01 ld0 ce00 ce01 fe00 fe01 le0
 obtain ⟨W15, hW⟩ : ∃ W15, W15 = (World.alloc w14 (.cells #[.bool s_b, .slice s_a s_n s_c] 103)) := ⟨_, rfl⟩
 rw [← hW]
 obtain ⟨xf0, hk, hb⟩ := boxes_1 _ _ _ hW
 clear hW
 have Hda := lH (iK Hda.out hk)
 have Hdb := lH (iK Hdb.out hk)
 have Hs := lH (CL.keep Hs.out hk)
 have Na0f0 := lH (show w.heap.size ≠ w14.heap.size from Nat.ne_of_lt (Nat.lt_of_lt_of_le Xa0.out.lt (by omega)))
 have Nb0f0 := lH (show w.heap.size + 1 ≠ w14.heap.size from Nat.ne_of_lt (Nat.lt_of_lt_of_le Xb0.out.lt (by omega)))
 have Nc0f0 := lH (show w.heap.size + 1 + 1 ≠ w14.heap.size from Nat.ne_of_lt (Nat.lt_of_lt_of_le Xc0.out.lt (by omega)))
 have Nd0f0 := lH (show gd0 ≠ w14.heap.size from Nat.ne_of_lt (Nat.lt_of_lt_of_le Xd0.out.lt (by omega)))
 have Ne0f0 := lH (show ge0 ≠ w14.heap.size from Nat.ne_of_lt (Nat.lt_of_lt_of_le Xe0.out.lt (by omega)))
 have Gf0 := lH (show w.heap.size ≤ w14.heap.size from tL_ HB.out.size (by omega))
 have Xa0 := lH (xP hb Xa0.out)
 have Xb0 := lH (xP hb Xb0.out)
 have Xc0 := lH (xP hb Xc0.out)
 have Xd0 := lH (xP hb Xd0.out)
 have Xe0 := lH (xP hb Xe0.out)
 have Xf0 := lH xf0
 have HB := lH (bC HB.out hb)
 clear hk hb xf0
 have Hda := lH (iK Hda.out (Keep.drew W15))
 have Hdb := lH (iK Hdb.out (Keep.drew W15))
 have Hs := lH (CL.keep Hs.out (Keep.drew W15))
 have Xa0 := lH (Box.drew Xa0.out)
 have Xb0 := lH (Box.drew Xb0.out)
 have Xc0 := lH (Box.drew Xc0.out)
 have Xd0 := lH (Box.drew Xd0.out)
 have Xe0 := lH (Box.drew Xe0.out)
 have Xf0 := lH (Box.drew Xf0.out)
 have HB := lH (Below.drew HB.out)
 refine wp_region_float [w.heap.size + 1 + 1] [] (by kernel_rfl) (by kernel_rfl) 41 (by kernel_rfl) Flok.nil ?_
 intro ok
 have Hok := lH ok
 clear ok
 have HG := lH (bR_ (W15.drew).heap.size (W15.drew))
 refine good_pureX 0 (some 29) (Go.Op.fieldAddr 103 (Go.Operand.tmp 7) 0) (none) (.pointer (some ⟨w14.heap.size, 0, none⟩)) (by kernel_rfl) (by kernel_rfl) (by kernel_rfl) (fun _ _ _ h => h) (fun w' hw' => ?_) ?_
 ·
  first | (go_simp; done) | (go_simp; simp_all; done) | (go_simp; rfl)
 simp only [Act.put, sI, sZ, sS]
 refine good_pureX 1 (some 30) (Go.Op.load 4 (Go.Operand.tmp 29)) (none) (.bool s_b) (by kernel_rfl) (by kernel_rfl) (by kernel_rfl) (fun _ _ _ h => h) (fun w' hw' => ?_) ?_
 ·
  obtain ⟨cf00, cf01, ff00, ff01⟩ := (Box.se hw' Xf0.out (notin1 Nc0f0.out.symm)).c2
  first | (go_simp; done) | (go_simp; simp_all; done) | (go_simp; rfl)
 simp only [Act.put, sI, sZ, sS]
 refine good_pureX 2 (some 31) (Go.Op.fieldAddr 103 (Go.Operand.tmp 7) 1) (none) (.pointer (some ⟨w14.heap.size, 1, none⟩)) (by kernel_rfl) (by kernel_rfl) (by kernel_rfl) (fun _ _ _ h => h) (fun w' hw' => ?_) ?_
 ·
  first | (go_simp; done) | (go_simp; simp_all; done) | (go_simp; rfl)
 simp only [Act.put, sI, sZ, sS]
 refine good_pureX 3 (some 32) (Go.Op.load 35 (Go.Operand.tmp 31)) (none) (.slice s_a s_n s_c) (by kernel_rfl) (by kernel_rfl) (by kernel_rfl) (fun _ _ _ h => h) (fun w' hw' => ?_) ?_
 ·
  obtain ⟨cf00, cf01, ff00, ff01⟩ := (Box.se hw' Xf0.out (notin1 Nc0f0.out.symm)).c2
  first | (go_simp; done) | (go_simp; simp_all; done) | (go_simp; rfl)
 simp only [Act.put, sI, sZ, sS]
 refine good_pureX 4 (some 33) (Go.Op.fieldAddr 37 (Go.Operand.tmp 2) 2) (none) (.pointer (some ⟨w.heap.size, 2, none⟩)) (by kernel_rfl) (by kernel_rfl) (by kernel_rfl) (fun _ _ _ h => h) (fun w' hw' => ?_) ?_
 ·
  first | (go_simp; done) | (go_simp; simp_all; done) | (go_simp; rfl)
 simp only [Act.put, sI, sZ, sS]
 refine good_pureX 5 (some 34) (Go.Op.load 35 (Go.Operand.tmp 33)) (none) (ta) (by kernel_rfl) (by kernel_rfl) (by kernel_rfl) (fun _ _ _ h => h) (fun w' hw' => ?_) ?_
 ·
  obtain ⟨ca00, ca01, ca02, fa00, fa01, fa02⟩ := (Box.se hw' Xa0.out (notin1 (by omega))).c3
  first | (go_simp; done) | (go_simp; simp_all; done) | (go_simp; rfl)
 simp only [Act.put, sI, sZ, sS]
 refine good_pureX 7 (some 36) (Go.Op.fieldAddr 37 (Go.Operand.tmp 3) 2) (none) (.pointer (some ⟨w.heap.size + 1, 2, none⟩)) (by kernel_rfl) (by kernel_rfl) (by kernel_rfl) (fun _ _ _ h => h) (fun w' hw' => ?_) ?_
 ·
  first | (go_simp; done) | (go_simp; simp_all; done) | (go_simp; rfl)
 simp only [Act.put, sI, sZ, sS]
 refine good_pureX 8 (some 37) (Go.Op.load 35 (Go.Operand.tmp 36)) (none) (tb) (by kernel_rfl) (by kernel_rfl) (by kernel_rfl) (fun _ _ _ h => h) (fun w' hw' => ?_) ?_
 ·
  obtain ⟨cb00, cb01, cb02, fb00, fb01, fb02⟩ := (Box.se hw' Xb0.out (notin1 (by omega))).c3
  first | (go_simp; done) | (go_simp; simp_all; done) | (go_simp; rfl)
 simp only [Act.put, sI, sZ, sS]
 refine good_callX 6 78 (some 35) #[Go.Operand.tmp 34] #[35] (none) #[ta] (by kernel_rfl) Hok.out (by kernel_rfl) (by kernel_rfl) (by kernel_rfl) (by kernel_rfl) rfl rfl rfl (by kernel_rfl) (fun w16 hb => ?_)
 have HG := lH (bC HG.out hb)
 clear hb
 (first | (have hcall := r3one_is (iK Hda.out (kC HG.out)); refine cM hcall ?_; clear hcall) | refine cM (r3one_is (iK Hda.out (kC HG.out))) ?_)
 rintro e w17 ⟨v17, rfl, hq, hb⟩
 obtain ⟨q_a, q_n, q_c, rfl⟩ := hq.lit
 refine ⟨_, rfl, ?_, hb⟩
 have HG := lH (bC HG.out hb)
 have Hq := lH hq
 clear hb hq
 simp only [Act.put, sI, sZ, sS]
 refine good_callX 9 78 (some 38) #[Go.Operand.tmp 37] #[35] (none) #[tb] (by kernel_rfl) Hok.out (by kernel_rfl) (by kernel_rfl) (by kernel_rfl) (by kernel_rfl) rfl rfl rfl (by kernel_rfl) (fun w18 hb => ?_)
 have Hq := lH (iK Hq.out (kC hb))
 have HG := lH (bC HG.out hb)
 clear hb
 (first | (have hcall := r3one_is (iK Hdb.out (kC HG.out)); refine cM hcall ?_; clear hcall) | refine cM (r3one_is (iK Hdb.out (kC HG.out))) ?_)
 rintro e w19 ⟨v19, rfl, hr, hb⟩
 obtain ⟨r_a, r_n, r_c, rfl⟩ := hr.lit
 refine ⟨_, rfl, ?_, hb⟩
 have Hq := lH (iK Hq.out (kC hb))
 have HG := lH (bC HG.out hb)
 have Hr := lH hr
 clear hb hr
 simp only [Act.put, sI, sZ, sS]
 refine good_callX 10 138 (some 39) #[Go.Operand.tmp 35, Go.Operand.tmp 38] #[35, 35] (none) #[.slice q_a q_n q_c, .slice r_a r_n r_c] (by kernel_rfl) Hok.out (by kernel_rfl) (by kernel_rfl) (by kernel_rfl) (by kernel_rfl) rfl rfl rfl (by kernel_rfl) (fun w20 hb => ?_)
 have Hq := lH (iK Hq.out (kC hb))
 have Hr := lH (iK Hr.out (kC hb))
 have HG := lH (bC HG.out hb)
 clear hb
 (first | (have hcall := rmul_is Hq.out Hr.out (by omega) (by omega); refine cM hcall ?_; clear hcall) | refine cM (rmul_is Hq.out Hr.out (by omega) (by omega)) ?_)
 rintro e w21 ⟨v21, rfl, hm, hb⟩
 obtain ⟨m_a, m_n, m_c, rfl⟩ := hm.is.lit
 refine ⟨_, rfl, ?_, hb⟩
 have HG := lH (bC HG.out hb)
 have Hm := lH hm
 clear hb hm
 simp only [Act.put, sI, sZ, sS]
 refine good_callX 11 77 (some 40) #[Go.Operand.tmp 30, Go.Operand.tmp 32, Go.Operand.tmp 39] #[4, 35, 35] (none) #[.bool s_b, .slice s_a s_n s_c, .slice m_a m_n m_c] (by kernel_rfl) Hok.out (by kernel_rfl) (by kernel_rfl) (by kernel_rfl) (by kernel_rfl) rfl rfl rfl (by kernel_rfl) (fun w22 hb => ?_)
 have Hm := lH (Can.keep Hm.out (kC hb))
 have HG := lH (bC HG.out hb)
 clear hb
 refine cM (r3quot_is (neg := s_b) (Nat.mul_pos (un_pos _) (un_pos _)) (CL.keep Hs.out (kC HG.out)).mag.is Hm.out.is (by omega) (by omega)) ?_
 rintro e w23 ⟨v23, rfl, hz, hb⟩
 obtain ⟨z_b, z_a, z_n, z_c, z_d, z_m, z_e, rfl⟩ := hz.litb
 refine ⟨_, rfl, ?_, hb⟩
 have HG := lH (bC HG.out hb)
 have Hz := lH hz
 clear hb hz
 simp only [Act.put, sI, sZ, sS]
 refine good_end0 1 (by kernel_rfl) (fun _ w24 hb => ?_)
 have Hz := lH (CR.keep Hz.out (kC hb))
 have HG := lH (bC HG.out hb)
 clear hb
 have Hs := lH (CL.keep Hs.out (kC HG.out))
 have Xa0 := lH (xP HG.out Xa0.out)
 have Xb0 := lH (xP HG.out Xb0.out)
 have Xc0 := lH (xP HG.out Xc0.out)
 have Xd0 := lH (xP HG.out Xd0.out)
 have Xe0 := lH (xP HG.out Xe0.out)
 have Xf0 := lH (xP HG.out Xf0.out)
 have HB := lH (bC HB.out HG.out)
 have HS := lH (SE.of (E := [w.heap.size + 1 + 1]) HG.out)
 refine held_oneX 12 (Go.Op.store 37 (Go.Operand.tmp 4) (Go.Operand.tmp 40)) (none) (World.setCell (World.setCell (World.setCell w24 ⟨w.heap.size + 1 + 1, 0, none⟩ (.bool z_b)) ⟨w.heap.size + 1 + 1, 1, none⟩ (.slice z_a z_n z_c)) ⟨w.heap.size + 1 + 1, 2, none⟩ (.slice z_d z_m z_e)) (by kernel_rfl) (by kernel_rfl) (by kernel_rfl) (by kernel_rfl) ?_ (HS.out.store3 in1) ?_
 ·
  obtain ⟨cc00, cc01, cc02, fc00, fc01, fc02⟩ := Xc0.out.c3
  first | (go_simp; done) | (go_simp; simp_all; done) | (go_simp; rfl)
 obtain ⟨W25, hW⟩ : ∃ W25, W25 = (World.setCell (World.setCell (World.setCell w24 ⟨w.heap.size + 1 + 1, 0, none⟩ (.bool z_b)) ⟨w.heap.size + 1 + 1, 1, none⟩ (.slice z_a z_n z_c)) ⟨w.heap.size + 1 + 1, 2, none⟩ (.slice z_d z_m z_e)) := ⟨_, rfl⟩
 rw [← hW]
 obtain ⟨xc0, hk, hf, hbb, hz⟩ := stored3s hW Xc0.out (by first | exact nB_ _ | exact nS_ _ _ _) (by first | exact nB_ _ | exact nS_ _ _ _) (by first | exact nB_ _ | exact nS_ _ _ _)
 have Hs := lH (CL.keep Hs.out hk)
 have Hz := lH (CR.keep Hz.out hk)
 have Xa0 := lH (hf _ _ _ Xa0.out (by omega))
 have Xb0 := lH (hf _ _ _ Xb0.out (by omega))
 have Xc0 := lH xc0
 have Xd0 := lH (hf _ _ _ Xd0.out Nc0d0.out.symm)
 have Xe0 := lH (hf _ _ _ Xe0.out Nc0e0.out.symm)
 have Xf0 := lH (hf _ _ _ Xf0.out Nc0f0.out.symm)
 have HB := lH (hbb _ HB.out Gc0.out)
 have HS := lH (show SE (W15.drew) [w.heap.size + 1 + 1] W25 from by rw [hW]; exact HS.out.store3 in1)
 clear hW hk hf hbb xc0
 clear hz
 refine wpAnyH_done (by kernel_rfl) ?_ _
 clear HG HS Hok 
 obtain ⟨ca00, ca01, ca02, fa00, fa01, fa02⟩ := Xa0.out.c3
 have la0 := Xa0.out.lt
 obtain ⟨cb00, cb01, cb02, fb00, fb01, fb02⟩ := Xb0.out.c3
 have lb0 := Xb0.out.lt
 obtain ⟨cc00, cc01, cc02, fc00, fc01, fc02⟩ := Xc0.out.c3
 have lc0 := Xc0.out.lt
 obtain ⟨cd00, cd01, fd00, fd01⟩ := Xd0.out.c2
 have ld0 := Xd0.out.lt
 obtain ⟨ce00, ce01, fe00, fe01⟩ := Xe0.out.c2
 have le0 := Xe0.out.lt
 obtain ⟨cf00, cf01, ff00, ff01⟩ := Xf0.out.c2
 have lf0 := Xf0.out.lt
 go_wp2
 clear ca00 ca01 ca02 fa00 fa01 fa02 la0 cb00 cb01 cb02 fb00 fb01 fb02 lb0 cc00 cc01 cc02 fc00 fc01 fc02 lc0 cd00 cd01 fd00 fd01 ld0 ce00 ce01 fe00 fe01 le0 cf00 cf01 ff00 ff01 lf0
 exact ret_rat1 rfl rfl rfl Xc0.out (CR.mono (CR.cast (zadd_parts (CL.iv Hs.out)) Hz.out) (by omega)) HB.out
theorem zadd_ar {a b : Rat} {L M : Nat} {u v : Value} {w : World} (h : AR a L w u) (h' : AR b M w v) (hL : L ≤ 100000000) (hM : M ≤ 100000000) : Calls Tryz.prog 95 #[u, v] w (Ret w (CR (a + b) (L + M + 3))) := by
 obtain ⟨ba, sa, ta, na, da, rfl, h1, h2, rfl⟩ := h
 obtain ⟨bb, sb, tb, nb, db, rfl, h3, h4, rfl⟩ := h'
 exact zadd_p h1 h2 h3 h4 hL hM
theorem zsub_p {L M : Nat} {qa : Rat} {ba : Bool} {sa ta : Value} {qb : Rat} {bb : Bool} {sb tb : Value} {w : World} (ha : AR qa L w (.agg #[.bool ba, sa, ta])) (hb : AR qb M w (.agg #[.bool bb, sb, tb])) (hL : L ≤ 100000000) (hM : M ≤ 100000000) :
  Calls Tryz.prog 76 #[.agg #[.bool ba, sa, ta], .agg #[.bool bb, sb, tb]] w (Ret w (CR (qa - qb) (L + max M 1 + 3))) := by
 have Ha := lH ha
 have Hb := lH hb
 clear ha hb
 go_enter Tryz.func76, Tryz.ntmps76
 have HB := lH (bR_ w.heap.size w)
 go_wp2_with fail
 obtain ⟨W1, hW⟩ : ∃ W1, W1 = (World.alloc (World.alloc (World.alloc w (.cells #[.bool ba, sa, ta] 37)) (.cells #[.bool bb, sb, tb] 37)) (.cells #[.bool false, .slice none 0 0, .slice none 0 0] 37)) := ⟨_, rfl⟩
 rw [← hW]
 obtain ⟨xa0, xb0, xc0, hk, hb⟩ := boxes_3 _ _ _ _ _ _ _ hW
 clear hW
 have Ha := lH (AR.keep Ha.out hk)
 have Hb := lH (AR.keep Hb.out hk)
 have Ga0 := lH (show w.heap.size ≤ w.heap.size from tL_ HB.out.size (by omega))
 have Gb0 := lH (show w.heap.size ≤ w.heap.size + 1 from tL_ HB.out.size (by omega))
 have Gc0 := lH (show w.heap.size ≤ w.heap.size + 1 + 1 from tL_ HB.out.size (by omega))
 have Xa0 := lH xa0
 have Xb0 := lH xb0
 have Xc0 := lH xc0
 have HB := lH (bC HB.out hb)
 clear hk hb xa0 xb0 xc0
 have Ha := lH (AR.keep Ha.out (Keep.drew W1))
 have Hb := lH (AR.keep Hb.out (Keep.drew W1))
 have Xa0 := lH (Box.drew Xa0.out)
 have Xb0 := lH (Box.drew Xb0.out)
 have Xc0 := lH (Box.drew Xc0.out)
 have HB := lH (Below.drew HB.out)
 refine wp_region_float [w.heap.size + 1 + 1] [] (by kernel_rfl) (by kernel_rfl) 9 (by kernel_rfl) Flok.nil ?_
 intro ok
 have Hok := lH ok
 clear ok
 have HG := lH (bR_ (W1.drew).heap.size (W1.drew))
 refine good_pureX 0 (some 5) (Go.Op.load 37 (Go.Operand.tmp 2)) (none) (.agg #[.bool ba, sa, ta]) (by kernel_rfl) (by kernel_rfl) (by kernel_rfl) (fun _ _ _ h => h) (fun w' hw' => ?_) ?_
 ·
  obtain ⟨ca00, ca01, ca02, fa00, fa01, fa02⟩ := (Box.se hw' Xa0.out (notin1 (by omega))).c3
  first | (go_simp; done) | (go_simp; simp_all; done) | (go_simp; rfl)
 simp only [Act.put, sI, sZ, sS]
 refine good_pureX 1 (some 6) (Go.Op.load 37 (Go.Operand.tmp 3)) (none) (.agg #[.bool bb, sb, tb]) (by kernel_rfl) (by kernel_rfl) (by kernel_rfl) (fun _ _ _ h => h) (fun w' hw' => ?_) ?_
 ·
  obtain ⟨cb00, cb01, cb02, fb00, fb01, fb02⟩ := (Box.se hw' Xb0.out (notin1 (by omega))).c3
  first | (go_simp; done) | (go_simp; simp_all; done) | (go_simp; rfl)
 simp only [Act.put, sI, sZ, sS]
 refine good_callX 2 105 (some 7) #[Go.Operand.tmp 6] #[37] (none) #[.agg #[.bool bb, sb, tb]] (by kernel_rfl) Hok.out (by kernel_rfl) (by kernel_rfl) (by kernel_rfl) (by kernel_rfl) rfl rfl rfl (by kernel_rfl) (fun w2 hb => ?_)
 have HG := lH (bC HG.out hb)
 clear hb
 (first | (have hcall := zneg_ar (AR.keep Hb.out (kC HG.out)) (by omega); refine cM hcall ?_; clear hcall) | refine cM (zneg_ar (AR.keep Hb.out (kC HG.out)) (by omega)) ?_)
 rintro e w3 ⟨v3, rfl, hn, hb⟩
 obtain ⟨n_b, n_a, n_n, n_c, n_d, n_m, n_e, rfl⟩ := hn.litb
 refine ⟨_, rfl, ?_, hb⟩
 have HG := lH (bC HG.out hb)
 have Hn := lH hn
 clear hb hn
 simp only [Act.put, sI, sZ, sS]
 refine good_callX 3 95 (some 8) #[Go.Operand.tmp 5, Go.Operand.tmp 7] #[37, 37] (none) #[.agg #[.bool ba, sa, ta], .agg #[.bool n_b, .slice n_a n_n n_c, .slice n_d n_m n_e]] (by kernel_rfl) Hok.out (by kernel_rfl) (by kernel_rfl) (by kernel_rfl) (by kernel_rfl) rfl rfl rfl (by kernel_rfl) (fun w4 hb => ?_)
 have Hn := lH (CR.keep Hn.out (kC hb))
 have HG := lH (bC HG.out hb)
 clear hb
 (first | (have hcall := zadd_ar (AR.keep Ha.out (kC HG.out)) Hn.out.ar (by omega) (by omega); refine cM hcall ?_; clear hcall) | refine cM (zadd_ar (AR.keep Ha.out (kC HG.out)) Hn.out.ar (by omega) (by omega)) ?_)
 rintro e w5 ⟨v5, rfl, hz, hb⟩
 obtain ⟨z_b, z_a, z_n, z_c, z_d, z_m, z_e, rfl⟩ := hz.litb
 refine ⟨_, rfl, ?_, hb⟩
 have HG := lH (bC HG.out hb)
 have Hz := lH hz
 clear hb hz
 simp only [Act.put, sI, sZ, sS]
 refine good_end0 1 (by kernel_rfl) (fun _ w6 hb => ?_)
 have Hz := lH (CR.keep Hz.out (kC hb))
 have HG := lH (bC HG.out hb)
 clear hb
 have Xa0 := lH (xP HG.out Xa0.out)
 have Xb0 := lH (xP HG.out Xb0.out)
 have Xc0 := lH (xP HG.out Xc0.out)
 have HB := lH (bC HB.out HG.out)
 have HS := lH (SE.of (E := [w.heap.size + 1 + 1]) HG.out)
 refine held_oneX 4 (Go.Op.store 37 (Go.Operand.tmp 4) (Go.Operand.tmp 8)) (none) (World.setCell (World.setCell (World.setCell w6 ⟨w.heap.size + 1 + 1, 0, none⟩ (.bool z_b)) ⟨w.heap.size + 1 + 1, 1, none⟩ (.slice z_a z_n z_c)) ⟨w.heap.size + 1 + 1, 2, none⟩ (.slice z_d z_m z_e)) (by kernel_rfl) (by kernel_rfl) (by kernel_rfl) (by kernel_rfl) ?_ (HS.out.store3 in1) ?_
 ·
  obtain ⟨cc00, cc01, cc02, fc00, fc01, fc02⟩ := Xc0.out.c3
  first | (go_simp; done) | (go_simp; simp_all; done) | (go_simp; rfl)
 obtain ⟨W7, hW⟩ : ∃ W7, W7 = (World.setCell (World.setCell (World.setCell w6 ⟨w.heap.size + 1 + 1, 0, none⟩ (.bool z_b)) ⟨w.heap.size + 1 + 1, 1, none⟩ (.slice z_a z_n z_c)) ⟨w.heap.size + 1 + 1, 2, none⟩ (.slice z_d z_m z_e)) := ⟨_, rfl⟩
 rw [← hW]
 obtain ⟨xc0, hk, hf, hbb, hz⟩ := stored3s hW Xc0.out (by first | exact nB_ _ | exact nS_ _ _ _) (by first | exact nB_ _ | exact nS_ _ _ _) (by first | exact nB_ _ | exact nS_ _ _ _)
 have Hz := lH (CR.keep Hz.out hk)
 have Xa0 := lH (hf _ _ _ Xa0.out (by omega))
 have Xb0 := lH (hf _ _ _ Xb0.out (by omega))
 have Xc0 := lH xc0
 have HB := lH (hbb _ HB.out Gc0.out)
 have HS := lH (show SE (W1.drew) [w.heap.size + 1 + 1] W7 from by rw [hW]; exact HS.out.store3 in1)
 clear hW hk hf hbb xc0
 clear hz
 refine wpAnyH_done (by kernel_rfl) ?_ _
 clear HG HS Hok 
 obtain ⟨ca00, ca01, ca02, fa00, fa01, fa02⟩ := Xa0.out.c3
 have la0 := Xa0.out.lt
 obtain ⟨cb00, cb01, cb02, fb00, fb01, fb02⟩ := Xb0.out.c3
 have lb0 := Xb0.out.lt
 obtain ⟨cc00, cc01, cc02, fc00, fc01, fc02⟩ := Xc0.out.c3
 have lc0 := Xc0.out.lt
 go_wp2
 clear ca00 ca01 ca02 fa00 fa01 fa02 la0 cb00 cb01 cb02 fb00 fb01 fb02 lb0 cc00 cc01 cc02 fc00 fc01 fc02 lc0
 exact ret_rat1 rfl rfl rfl Xc0.out (CR.cast (Rat.sub_eq_add_neg _ _).symm Hz.out) HB.out
theorem zsub_ar {a b : Rat} {L M : Nat} {u v : Value} {w : World} (h : AR a L w u) (h' : AR b M w v) (hL : L ≤ 100000000) (hM : M ≤ 100000000) : Calls Tryz.prog 76 #[u, v] w (Ret w (CR (a - b) (L + max M 1 + 3))) := by
 obtain ⟨ba, sa, ta, rfl⟩ := h.agg
 obtain ⟨bb, sb, tb, rfl⟩ := h'.agg
 exact zsub_p h h' hL hM
theorem zmul_p {L M : Nat} {ba : Bool} {na da : Nat} {sa ta : Value} {bb : Bool} {nb db : Nat} {sb tb : Value} {w : World} (hna : Is na L w sa) (hda : Is da L w ta) (hnb : Is nb M w sb) (hdb : Is db M w tb) (hL : L ≤ 100000000) (hM : M ≤ 100000000) :
  Calls Tryz.prog 94 #[.agg #[.bool ba, sa, ta], .agg #[.bool bb, sb, tb]] w (Ret w (CR (rv ba na da * rv bb nb db) (L + M + 2))) := by
 have Hna := lH hna
 have Hda := lH hda
 have Hnb := lH hnb
 have Hdb := lH hdb
 clear hna hda hnb hdb
 go_enter Tryz.func94, Tryz.ntmps94
 have HB := lH (bR_ w.heap.size w)
 go_wp2_with fail
 obtain ⟨W1, hW⟩ : ∃ W1, W1 = (World.alloc (World.alloc (World.alloc w (.cells #[.bool ba, sa, ta] 37)) (.cells #[.bool bb, sb, tb] 37)) (.cells #[.bool false, .slice none 0 0, .slice none 0 0] 37)) := ⟨_, rfl⟩
 rw [← hW]
 obtain ⟨xa0, xb0, xc0, hk, hb⟩ := boxes_3 _ _ _ _ _ _ _ hW
 clear hW
 have Hna := lH (iK Hna.out hk)
 have Hda := lH (iK Hda.out hk)
 have Hnb := lH (iK Hnb.out hk)
 have Hdb := lH (iK Hdb.out hk)
 have Ga0 := lH (show w.heap.size ≤ w.heap.size from tL_ HB.out.size (by omega))
 have Gb0 := lH (show w.heap.size ≤ w.heap.size + 1 from tL_ HB.out.size (by omega))
 have Gc0 := lH (show w.heap.size ≤ w.heap.size + 1 + 1 from tL_ HB.out.size (by omega))
 have Xa0 := lH xa0
 have Xb0 := lH xb0
 have Xc0 := lH xc0
 have HB := lH (bC HB.out hb)
 clear hk hb xa0 xb0 xc0
 have Hna := lH (iK Hna.out (Keep.drew W1))
 have Hda := lH (iK Hda.out (Keep.drew W1))
 have Hnb := lH (iK Hnb.out (Keep.drew W1))
 have Hdb := lH (iK Hdb.out (Keep.drew W1))
 have Xa0 := lH (Box.drew Xa0.out)
 have Xb0 := lH (Box.drew Xb0.out)
 have Xc0 := lH (Box.drew Xc0.out)
 have HB := lH (Below.drew HB.out)
 refine wp_region_float [w.heap.size + 1 + 1] [] (by kernel_rfl) (by kernel_rfl) 23 (by kernel_rfl) Flok.nil ?_
 intro ok
 have Hok := lH ok
 clear ok
 have HG := lH (bR_ (W1.drew).heap.size (W1.drew))
 refine good_pureX 0 (some 5) (Go.Op.fieldAddr 37 (Go.Operand.tmp 2) 0) (none) (.pointer (some ⟨w.heap.size, 0, none⟩)) (by kernel_rfl) (by kernel_rfl) (by kernel_rfl) (fun _ _ _ h => h) (fun w' hw' => ?_) ?_
 ·
  first | (go_simp; done) | (go_simp; simp_all; done) | (go_simp; rfl)
 simp only [Act.put, sI, sZ, sS]
 refine good_pureX 1 (some 6) (Go.Op.load 4 (Go.Operand.tmp 5)) (none) (.bool ba) (by kernel_rfl) (by kernel_rfl) (by kernel_rfl) (fun _ _ _ h => h) (fun w' hw' => ?_) ?_
 ·
  obtain ⟨ca00, ca01, ca02, fa00, fa01, fa02⟩ := (Box.se hw' Xa0.out (notin1 (by omega))).c3
  first | (go_simp; done) | (go_simp; simp_all; done) | (go_simp; rfl)
 simp only [Act.put, sI, sZ, sS]
 refine good_pureX 2 (some 7) (Go.Op.fieldAddr 37 (Go.Operand.tmp 3) 0) (none) (.pointer (some ⟨w.heap.size + 1, 0, none⟩)) (by kernel_rfl) (by kernel_rfl) (by kernel_rfl) (fun _ _ _ h => h) (fun w' hw' => ?_) ?_
 ·
  first | (go_simp; done) | (go_simp; simp_all; done) | (go_simp; rfl)
 simp only [Act.put, sI, sZ, sS]
 refine good_pureX 3 (some 8) (Go.Op.load 4 (Go.Operand.tmp 7)) (none) (.bool bb) (by kernel_rfl) (by kernel_rfl) (by kernel_rfl) (fun _ _ _ h => h) (fun w' hw' => ?_) ?_
 ·
  obtain ⟨cb00, cb01, cb02, fb00, fb01, fb02⟩ := (Box.se hw' Xb0.out (notin1 (by omega))).c3
  first | (go_simp; done) | (go_simp; simp_all; done) | (go_simp; rfl)
 simp only [Act.put, sI, sZ, sS]
 refine good_pureX 4 (some 9) (Go.Op.binOp Go.BinOp.neq 4 (Go.Operand.tmp 6) (Go.Operand.tmp 8) 4) (none) (.bool (!ba == bb)) (by kernel_rfl) (by kernel_rfl) (by kernel_rfl) (fun _ _ _ h => h) (fun w' hw' => ?_) ?_
 ·
  first | (go_simp; done) | (go_simp; simp_all; done) | (go_simp; rfl)
 simp only [Act.put, sI, sZ, sS]
 refine good_pureX 5 (some 10) (Go.Op.fieldAddr 37 (Go.Operand.tmp 2) 1) (none) (.pointer (some ⟨w.heap.size, 1, none⟩)) (by kernel_rfl) (by kernel_rfl) (by kernel_rfl) (fun _ _ _ h => h) (fun w' hw' => ?_) ?_
 ·
  first | (go_simp; done) | (go_simp; simp_all; done) | (go_simp; rfl)
 simp only [Act.put, sI, sZ, sS]
 refine good_pureX 6 (some 11) (Go.Op.load 35 (Go.Operand.tmp 10)) (none) (sa) (by kernel_rfl) (by kernel_rfl) (by kernel_rfl) (fun _ _ _ h => h) (fun w' hw' => ?_) ?_
 ·
  obtain ⟨ca00, ca01, ca02, fa00, fa01, fa02⟩ := (Box.se hw' Xa0.out (notin1 (by omega))).c3
  first | (go_simp; done) | (go_simp; simp_all; done) | (go_simp; rfl)
 simp only [Act.put, sI, sZ, sS]
 refine good_pureX 7 (some 12) (Go.Op.fieldAddr 37 (Go.Operand.tmp 3) 1) (none) (.pointer (some ⟨w.heap.size + 1, 1, none⟩)) (by kernel_rfl) (by kernel_rfl) (by kernel_rfl) (fun _ _ _ h => h) (fun w' hw' => ?_) ?_
 ·
  first | (go_simp; done) | (go_simp; simp_all; done) | (go_simp; rfl)
 simp only [Act.put, sI, sZ, sS]
 refine good_pureX 8 (some 13) (Go.Op.load 35 (Go.Operand.tmp 12)) (none) (sb) (by kernel_rfl) (by kernel_rfl) (by kernel_rfl) (fun _ _ _ h => h) (fun w' hw' => ?_) ?_
 ·
  obtain ⟨cb00, cb01, cb02, fb00, fb01, fb02⟩ := (Box.se hw' Xb0.out (notin1 (by omega))).c3
  first | (go_simp; done) | (go_simp; simp_all; done) | (go_simp; rfl)
 simp only [Act.put, sI, sZ, sS]
 refine good_pureX 10 (some 15) (Go.Op.fieldAddr 37 (Go.Operand.tmp 2) 2) (none) (.pointer (some ⟨w.heap.size, 2, none⟩)) (by kernel_rfl) (by kernel_rfl) (by kernel_rfl) (fun _ _ _ h => h) (fun w' hw' => ?_) ?_
 ·
  first | (go_simp; done) | (go_simp; simp_all; done) | (go_simp; rfl)
 simp only [Act.put, sI, sZ, sS]
 refine good_pureX 11 (some 16) (Go.Op.load 35 (Go.Operand.tmp 15)) (none) (ta) (by kernel_rfl) (by kernel_rfl) (by kernel_rfl) (fun _ _ _ h => h) (fun w' hw' => ?_) ?_
 ·
  obtain ⟨ca00, ca01, ca02, fa00, fa01, fa02⟩ := (Box.se hw' Xa0.out (notin1 (by omega))).c3
  first | (go_simp; done) | (go_simp; simp_all; done) | (go_simp; rfl)
 simp only [Act.put, sI, sZ, sS]
 refine good_pureX 13 (some 18) (Go.Op.fieldAddr 37 (Go.Operand.tmp 3) 2) (none) (.pointer (some ⟨w.heap.size + 1, 2, none⟩)) (by kernel_rfl) (by kernel_rfl) (by kernel_rfl) (fun _ _ _ h => h) (fun w' hw' => ?_) ?_
 ·
  first | (go_simp; done) | (go_simp; simp_all; done) | (go_simp; rfl)
 simp only [Act.put, sI, sZ, sS]
 refine good_pureX 14 (some 19) (Go.Op.load 35 (Go.Operand.tmp 18)) (none) (tb) (by kernel_rfl) (by kernel_rfl) (by kernel_rfl) (fun _ _ _ h => h) (fun w' hw' => ?_) ?_
 ·
  obtain ⟨cb00, cb01, cb02, fb00, fb01, fb02⟩ := (Box.se hw' Xb0.out (notin1 (by omega))).c3
  first | (go_simp; done) | (go_simp; simp_all; done) | (go_simp; rfl)
 simp only [Act.put, sI, sZ, sS]
 refine good_callX 9 138 (some 14) #[Go.Operand.tmp 11, Go.Operand.tmp 13] #[35, 35] (none) #[sa, sb] (by kernel_rfl) Hok.out (by kernel_rfl) (by kernel_rfl) (by kernel_rfl) (by kernel_rfl) rfl rfl rfl (by kernel_rfl) (fun w2 hb => ?_)
 have HG := lH (bC HG.out hb)
 clear hb
 (first | (have hcall := rmul_is (iK Hna.out (kC HG.out)) (iK Hnb.out (kC HG.out)) (by omega) (by omega); refine cM hcall ?_; clear hcall) | refine cM (rmul_is (iK Hna.out (kC HG.out)) (iK Hnb.out (kC HG.out)) (by omega) (by omega)) ?_)
 rintro e w3 ⟨v3, rfl, hx, hb⟩
 obtain ⟨x_a, x_n, x_c, rfl⟩ := hx.is.lit
 refine ⟨_, rfl, ?_, hb⟩
 have HG := lH (bC HG.out hb)
 have Hx := lH hx
 clear hb hx
 simp only [Act.put, sI, sZ, sS]
 refine good_callX 12 78 (some 17) #[Go.Operand.tmp 16] #[35] (none) #[ta] (by kernel_rfl) Hok.out (by kernel_rfl) (by kernel_rfl) (by kernel_rfl) (by kernel_rfl) rfl rfl rfl (by kernel_rfl) (fun w4 hb => ?_)
 have Hx := lH (Can.keep Hx.out (kC hb))
 have HG := lH (bC HG.out hb)
 clear hb
 (first | (have hcall := r3one_is (iK Hda.out (kC HG.out)); refine cM hcall ?_; clear hcall) | refine cM (r3one_is (iK Hda.out (kC HG.out))) ?_)
 rintro e w5 ⟨v5, rfl, hp, hb⟩
 obtain ⟨p_a, p_n, p_c, rfl⟩ := hp.lit
 refine ⟨_, rfl, ?_, hb⟩
 have Hx := lH (Can.keep Hx.out (kC hb))
 have HG := lH (bC HG.out hb)
 have Hp := lH hp
 clear hb hp
 simp only [Act.put, sI, sZ, sS]
 refine good_callX 15 78 (some 20) #[Go.Operand.tmp 19] #[35] (none) #[tb] (by kernel_rfl) Hok.out (by kernel_rfl) (by kernel_rfl) (by kernel_rfl) (by kernel_rfl) rfl rfl rfl (by kernel_rfl) (fun w6 hb => ?_)
 have Hx := lH (Can.keep Hx.out (kC hb))
 have Hp := lH (iK Hp.out (kC hb))
 have HG := lH (bC HG.out hb)
 clear hb
 (first | (have hcall := r3one_is (iK Hdb.out (kC HG.out)); refine cM hcall ?_; clear hcall) | refine cM (r3one_is (iK Hdb.out (kC HG.out))) ?_)
 rintro e w7 ⟨v7, rfl, hq, hb⟩
 obtain ⟨q_a, q_n, q_c, rfl⟩ := hq.lit
 refine ⟨_, rfl, ?_, hb⟩
 have Hx := lH (Can.keep Hx.out (kC hb))
 have Hp := lH (iK Hp.out (kC hb))
 have HG := lH (bC HG.out hb)
 have Hq := lH hq
 clear hb hq
 simp only [Act.put, sI, sZ, sS]
 refine good_callX 16 138 (some 21) #[Go.Operand.tmp 17, Go.Operand.tmp 20] #[35, 35] (none) #[.slice p_a p_n p_c, .slice q_a q_n q_c] (by kernel_rfl) Hok.out (by kernel_rfl) (by kernel_rfl) (by kernel_rfl) (by kernel_rfl) rfl rfl rfl (by kernel_rfl) (fun w8 hb => ?_)
 have Hx := lH (Can.keep Hx.out (kC hb))
 have Hp := lH (iK Hp.out (kC hb))
 have Hq := lH (iK Hq.out (kC hb))
 have HG := lH (bC HG.out hb)
 clear hb
 (first | (have hcall := rmul_is Hp.out Hq.out (by omega) (by omega); refine cM hcall ?_; clear hcall) | refine cM (rmul_is Hp.out Hq.out (by omega) (by omega)) ?_)
 rintro e w9 ⟨v9, rfl, hv, hb⟩
 obtain ⟨v_a, v_n, v_c, rfl⟩ := hv.is.lit
 refine ⟨_, rfl, ?_, hb⟩
 have Hx := lH (Can.keep Hx.out (kC hb))
 have HG := lH (bC HG.out hb)
 have Hv := lH hv
 clear hb hv
 simp only [Act.put, sI, sZ, sS]
 refine good_callX 17 77 (some 22) #[Go.Operand.tmp 9, Go.Operand.tmp 14, Go.Operand.tmp 21] #[4, 35, 35] (none) #[.bool (!ba == bb), .slice x_a x_n x_c, .slice v_a v_n v_c] (by kernel_rfl) Hok.out (by kernel_rfl) (by kernel_rfl) (by kernel_rfl) (by kernel_rfl) rfl rfl rfl (by kernel_rfl) (fun w10 hb => ?_)
 have Hx := lH (Can.keep Hx.out (kC hb))
 have Hv := lH (Can.keep Hv.out (kC hb))
 have HG := lH (bC HG.out hb)
 clear hb
 refine cM (r3quot_is (neg := (!ba == bb)) (Nat.mul_pos (un_pos _) (un_pos _)) Hx.out.is Hv.out.is (by omega) (by omega)) ?_
 rintro e w11 ⟨v11, rfl, hz, hb⟩
 obtain ⟨z_b, z_a, z_n, z_c, z_d, z_m, z_e, rfl⟩ := hz.litb
 refine ⟨_, rfl, ?_, hb⟩
 have HG := lH (bC HG.out hb)
 have Hz := lH hz
 clear hb hz
 simp only [Act.put, sI, sZ, sS]
 refine good_end0 1 (by kernel_rfl) (fun _ w12 hb => ?_)
 have Hz := lH (CR.keep Hz.out (kC hb))
 have HG := lH (bC HG.out hb)
 clear hb
 have Xa0 := lH (xP HG.out Xa0.out)
 have Xb0 := lH (xP HG.out Xb0.out)
 have Xc0 := lH (xP HG.out Xc0.out)
 have HB := lH (bC HB.out HG.out)
 have HS := lH (SE.of (E := [w.heap.size + 1 + 1]) HG.out)
 refine held_oneX 18 (Go.Op.store 37 (Go.Operand.tmp 4) (Go.Operand.tmp 22)) (none) (World.setCell (World.setCell (World.setCell w12 ⟨w.heap.size + 1 + 1, 0, none⟩ (.bool z_b)) ⟨w.heap.size + 1 + 1, 1, none⟩ (.slice z_a z_n z_c)) ⟨w.heap.size + 1 + 1, 2, none⟩ (.slice z_d z_m z_e)) (by kernel_rfl) (by kernel_rfl) (by kernel_rfl) (by kernel_rfl) ?_ (HS.out.store3 in1) ?_
 ·
  obtain ⟨cc00, cc01, cc02, fc00, fc01, fc02⟩ := Xc0.out.c3
  first | (go_simp; done) | (go_simp; simp_all; done) | (go_simp; rfl)
 obtain ⟨W13, hW⟩ : ∃ W13, W13 = (World.setCell (World.setCell (World.setCell w12 ⟨w.heap.size + 1 + 1, 0, none⟩ (.bool z_b)) ⟨w.heap.size + 1 + 1, 1, none⟩ (.slice z_a z_n z_c)) ⟨w.heap.size + 1 + 1, 2, none⟩ (.slice z_d z_m z_e)) := ⟨_, rfl⟩
 rw [← hW]
 obtain ⟨xc0, hk, hf, hbb, hz⟩ := stored3s hW Xc0.out (by first | exact nB_ _ | exact nS_ _ _ _) (by first | exact nB_ _ | exact nS_ _ _ _) (by first | exact nB_ _ | exact nS_ _ _ _)
 have Hz := lH (CR.keep Hz.out hk)
 have Xa0 := lH (hf _ _ _ Xa0.out (by omega))
 have Xb0 := lH (hf _ _ _ Xb0.out (by omega))
 have Xc0 := lH xc0
 have HB := lH (hbb _ HB.out Gc0.out)
 have HS := lH (show SE (W1.drew) [w.heap.size + 1 + 1] W13 from by rw [hW]; exact HS.out.store3 in1)
 clear hW hk hf hbb xc0
 clear hz
 refine wpAnyH_done (by kernel_rfl) ?_ _
 clear HG HS Hok 
 obtain ⟨ca00, ca01, ca02, fa00, fa01, fa02⟩ := Xa0.out.c3
 have la0 := Xa0.out.lt
 obtain ⟨cb00, cb01, cb02, fb00, fb01, fb02⟩ := Xb0.out.c3
 have lb0 := Xb0.out.lt
 obtain ⟨cc00, cc01, cc02, fc00, fc01, fc02⟩ := Xc0.out.c3
 have lc0 := Xc0.out.lt
 go_wp2
 clear ca00 ca01 ca02 fa00 fa01 fa02 la0 cb00 cb01 cb02 fb00 fb01 fb02 lb0 cc00 cc01 cc02 fc00 fc01 fc02 lc0
 exact ret_rat1 rfl rfl rfl Xc0.out (CR.mono (CR.cast (mul_parts _ _ _ _ _ _) Hz.out) (by omega)) HB.out
theorem zmul_ar {a b : Rat} {L M : Nat} {u v : Value} {w : World} (h : AR a L w u) (h' : AR b M w v) (hL : L ≤ 100000000) (hM : M ≤ 100000000) : Calls Tryz.prog 94 #[u, v] w (Ret w (CR (a * b) (L + M + 2))) := by
 obtain ⟨ba, sa, ta, na, da, rfl, h1, h2, rfl⟩ := h
 obtain ⟨bb, sb, tb, nb, db, rfl, h3, h4, rfl⟩ := h'
 exact zmul_p h1 h2 h3 h4 hL hM
theorem zdiv_1 {L M : Nat} {ba : Bool} {na da : Nat} {sa ta : Value} {bb : Bool} {nb db : Nat} {sb tb : Value} {w : World} (s : Int) (hs : (iv bb nb).sign = s) (hs0 : (s == 0) = false) (hp0 : 0 < nb) (hna : Is na L w sa) (hda : Is da L w ta) (hnb : Is nb M w sb) (hdb : Is db M w tb) (hL : L ≤ 100000000) (hM : M ≤ 100000000) :
  Calls Tryz.prog 125 #[.agg #[.bool ba, sa, ta], .agg #[.bool bb, sb, tb]] w (Ret w (CRE (rv ba na da / rv bb nb db) (L + M + 2) 0)) := by
 have Hna := lH hna
 have Hda := lH hda
 have Hnb := lH hnb
 have Hdb := lH hdb
 have Hs := lH hs
 have Hs0 := lH hs0
 have Hp0 := lH hp0
 clear hna hda hnb hdb hs hs0 hp0
 go_enter Tryz.func125, Tryz.ntmps125
 have HB := lH (bR_ w.heap.size w)
 go_wp2_with fail
 obtain ⟨W1, hW⟩ : ∃ W1, W1 = (World.alloc (World.alloc (World.alloc w (.cells #[.bool ba, sa, ta] 37)) (.cells #[.bool bb, sb, tb] 37)) (.cells #[.bool false, .slice none 0 0, .slice none 0 0] 37)) := ⟨_, rfl⟩
 rw [← hW]
 obtain ⟨xa0, xb0, xc0, hk, hb⟩ := boxes_3 _ _ _ _ _ _ _ hW
 clear hW
 have Hna := lH (iK Hna.out hk)
 have Hda := lH (iK Hda.out hk)
 have Hnb := lH (iK Hnb.out hk)
 have Hdb := lH (iK Hdb.out hk)
 have Ga0 := lH (show w.heap.size ≤ w.heap.size from tL_ HB.out.size (by omega))
 have Gb0 := lH (show w.heap.size ≤ w.heap.size + 1 from tL_ HB.out.size (by omega))
 have Gc0 := lH (show w.heap.size ≤ w.heap.size + 1 + 1 from tL_ HB.out.size (by omega))
 have Xa0 := lH xa0
 have Xb0 := lH xb0
 have Xc0 := lH xc0
 have HB := lH (bC HB.out hb)
 clear hk hb xa0 xb0 xc0
 (first | (have hcall := zsign_rv (ba := bb) s Hs.out Hnb.out Hdb.out; refine cM hcall ?_; clear hcall) | refine cM (zsign_rv (ba := bb) s Hs.out Hnb.out Hdb.out) ?_)
 rintro e w2 ⟨v2, rfl, rfl, hb⟩
 have Hna := lH (iK Hna.out (kC hb))
 have Hda := lH (iK Hda.out (kC hb))
 have Hnb := lH (iK Hnb.out (kC hb))
 have Hdb := lH (iK Hdb.out (kC hb))
 have Xa0 := lH (xP hb Xa0.out)
 have Xb0 := lH (xP hb Xb0.out)
 have Xc0 := lH (xP hb Xc0.out)
 have HB := lH (bC HB.out hb)
 clear hb
 have hs0 : (s == 0) = false := Hs0.out
 obtain ⟨ca00, ca01, ca02, fa00, fa01, fa02⟩ := Xa0.out.c3
 have la0 := Xa0.out.lt
 obtain ⟨cb00, cb01, cb02, fb00, fb01, fb02⟩ := Xb0.out.c3
 have lb0 := Xb0.out.lt
 obtain ⟨cc00, cc01, cc02, fc00, fc01, fc02⟩ := Xc0.out.c3
 have lc0 := Xc0.out.lt
 go_wp2_with fail
 clear ca00 ca01 ca02 fa00 fa01 fa02 la0 cb00 cb01 cb02 fb00 fb01 fb02 lb0 cc00 cc01 cc02 fc00 fc01 fc02 lc0
 have Hna := lH (iK Hna.out (Keep.drew w2))
 have Hda := lH (iK Hda.out (Keep.drew w2))
 have Hnb := lH (iK Hnb.out (Keep.drew w2))
 have Hdb := lH (iK Hdb.out (Keep.drew w2))
 have Xa0 := lH (Box.drew Xa0.out)
 have Xb0 := lH (Box.drew Xb0.out)
 have Xc0 := lH (Box.drew Xc0.out)
 have HB := lH (Below.drew HB.out)
 refine wp_region_float [w.heap.size + 1 + 1] [] (by kernel_rfl) (by kernel_rfl) 28 (by kernel_rfl) Flok.nil ?_
 intro ok
 have Hok := lH ok
 clear ok
 have HG := lH (bR_ (w2.drew).heap.size (w2.drew))
 refine good_pureX 0 (some 10) (Go.Op.fieldAddr 37 (Go.Operand.tmp 2) 0) (none) (.pointer (some ⟨w.heap.size, 0, none⟩)) (by kernel_rfl) (by kernel_rfl) (by kernel_rfl) (fun _ _ _ h => h) (fun w' hw' => ?_) ?_
 ·
  first | (go_simp; done) | (go_simp; simp_all; done) | (go_simp; rfl)
 simp only [Act.put, sI, sZ, sS]
 refine good_pureX 1 (some 11) (Go.Op.load 4 (Go.Operand.tmp 10)) (none) (.bool ba) (by kernel_rfl) (by kernel_rfl) (by kernel_rfl) (fun _ _ _ h => h) (fun w' hw' => ?_) ?_
 ·
  obtain ⟨ca00, ca01, ca02, fa00, fa01, fa02⟩ := (Box.se hw' Xa0.out (notin1 (by omega))).c3
  first | (go_simp; done) | (go_simp; simp_all; done) | (go_simp; rfl)
 simp only [Act.put, sI, sZ, sS]
 refine good_pureX 2 (some 12) (Go.Op.fieldAddr 37 (Go.Operand.tmp 3) 0) (none) (.pointer (some ⟨w.heap.size + 1, 0, none⟩)) (by kernel_rfl) (by kernel_rfl) (by kernel_rfl) (fun _ _ _ h => h) (fun w' hw' => ?_) ?_
 ·
  first | (go_simp; done) | (go_simp; simp_all; done) | (go_simp; rfl)
 simp only [Act.put, sI, sZ, sS]
 refine good_pureX 3 (some 13) (Go.Op.load 4 (Go.Operand.tmp 12)) (none) (.bool bb) (by kernel_rfl) (by kernel_rfl) (by kernel_rfl) (fun _ _ _ h => h) (fun w' hw' => ?_) ?_
 ·
  obtain ⟨cb00, cb01, cb02, fb00, fb01, fb02⟩ := (Box.se hw' Xb0.out (notin1 (by omega))).c3
  first | (go_simp; done) | (go_simp; simp_all; done) | (go_simp; rfl)
 simp only [Act.put, sI, sZ, sS]
 refine good_pureX 4 (some 14) (Go.Op.binOp Go.BinOp.neq 4 (Go.Operand.tmp 11) (Go.Operand.tmp 13) 4) (none) (.bool (!ba == bb)) (by kernel_rfl) (by kernel_rfl) (by kernel_rfl) (fun _ _ _ h => h) (fun w' hw' => ?_) ?_
 ·
  first | (go_simp; done) | (go_simp; simp_all; done) | (go_simp; rfl)
 simp only [Act.put, sI, sZ, sS]
 refine good_pureX 5 (some 15) (Go.Op.fieldAddr 37 (Go.Operand.tmp 2) 1) (none) (.pointer (some ⟨w.heap.size, 1, none⟩)) (by kernel_rfl) (by kernel_rfl) (by kernel_rfl) (fun _ _ _ h => h) (fun w' hw' => ?_) ?_
 ·
  first | (go_simp; done) | (go_simp; simp_all; done) | (go_simp; rfl)
 simp only [Act.put, sI, sZ, sS]
 refine good_pureX 6 (some 16) (Go.Op.load 35 (Go.Operand.tmp 15)) (none) (sa) (by kernel_rfl) (by kernel_rfl) (by kernel_rfl) (fun _ _ _ h => h) (fun w' hw' => ?_) ?_
 ·
  obtain ⟨ca00, ca01, ca02, fa00, fa01, fa02⟩ := (Box.se hw' Xa0.out (notin1 (by omega))).c3
  first | (go_simp; done) | (go_simp; simp_all; done) | (go_simp; rfl)
 simp only [Act.put, sI, sZ, sS]
 refine good_pureX 7 (some 17) (Go.Op.fieldAddr 37 (Go.Operand.tmp 3) 2) (none) (.pointer (some ⟨w.heap.size + 1, 2, none⟩)) (by kernel_rfl) (by kernel_rfl) (by kernel_rfl) (fun _ _ _ h => h) (fun w' hw' => ?_) ?_
 ·
  first | (go_simp; done) | (go_simp; simp_all; done) | (go_simp; rfl)
 simp only [Act.put, sI, sZ, sS]
 refine good_pureX 8 (some 18) (Go.Op.load 35 (Go.Operand.tmp 17)) (none) (tb) (by kernel_rfl) (by kernel_rfl) (by kernel_rfl) (fun _ _ _ h => h) (fun w' hw' => ?_) ?_
 ·
  obtain ⟨cb00, cb01, cb02, fb00, fb01, fb02⟩ := (Box.se hw' Xb0.out (notin1 (by omega))).c3
  first | (go_simp; done) | (go_simp; simp_all; done) | (go_simp; rfl)
 simp only [Act.put, sI, sZ, sS]
 refine good_pureX 11 (some 21) (Go.Op.fieldAddr 37 (Go.Operand.tmp 2) 2) (none) (.pointer (some ⟨w.heap.size, 2, none⟩)) (by kernel_rfl) (by kernel_rfl) (by kernel_rfl) (fun _ _ _ h => h) (fun w' hw' => ?_) ?_
 ·
  first | (go_simp; done) | (go_simp; simp_all; done) | (go_simp; rfl)
 simp only [Act.put, sI, sZ, sS]
 refine good_pureX 12 (some 22) (Go.Op.load 35 (Go.Operand.tmp 21)) (none) (ta) (by kernel_rfl) (by kernel_rfl) (by kernel_rfl) (fun _ _ _ h => h) (fun w' hw' => ?_) ?_
 ·
  obtain ⟨ca00, ca01, ca02, fa00, fa01, fa02⟩ := (Box.se hw' Xa0.out (notin1 (by omega))).c3
  first | (go_simp; done) | (go_simp; simp_all; done) | (go_simp; rfl)
 simp only [Act.put, sI, sZ, sS]
 refine good_pureX 14 (some 24) (Go.Op.fieldAddr 37 (Go.Operand.tmp 3) 1) (none) (.pointer (some ⟨w.heap.size + 1, 1, none⟩)) (by kernel_rfl) (by kernel_rfl) (by kernel_rfl) (fun _ _ _ h => h) (fun w' hw' => ?_) ?_
 ·
  first | (go_simp; done) | (go_simp; simp_all; done) | (go_simp; rfl)
 simp only [Act.put, sI, sZ, sS]
 refine good_pureX 15 (some 25) (Go.Op.load 35 (Go.Operand.tmp 24)) (none) (sb) (by kernel_rfl) (by kernel_rfl) (by kernel_rfl) (fun _ _ _ h => h) (fun w' hw' => ?_) ?_
 ·
  obtain ⟨cb00, cb01, cb02, fb00, fb01, fb02⟩ := (Box.se hw' Xb0.out (notin1 (by omega))).c3
  first | (go_simp; done) | (go_simp; simp_all; done) | (go_simp; rfl)
 simp only [Act.put, sI, sZ, sS]
 refine good_callX 9 78 (some 19) #[Go.Operand.tmp 18] #[35] (none) #[tb] (by kernel_rfl) Hok.out (by kernel_rfl) (by kernel_rfl) (by kernel_rfl) (by kernel_rfl) rfl rfl rfl (by kernel_rfl) (fun w3 hb => ?_)
 have HG := lH (bC HG.out hb)
 clear hb
 (first | (have hcall := r3one_is (iK Hdb.out (kC HG.out)); refine cM hcall ?_; clear hcall) | refine cM (r3one_is (iK Hdb.out (kC HG.out))) ?_)
 rintro e w4 ⟨v4, rfl, hq, hb⟩
 obtain ⟨q_a, q_n, q_c, rfl⟩ := hq.lit
 refine ⟨_, rfl, ?_, hb⟩
 have HG := lH (bC HG.out hb)
 have Hq := lH hq
 clear hb hq
 simp only [Act.put, sI, sZ, sS]
 refine good_callX 10 138 (some 20) #[Go.Operand.tmp 16, Go.Operand.tmp 19] #[35, 35] (none) #[sa, .slice q_a q_n q_c] (by kernel_rfl) Hok.out (by kernel_rfl) (by kernel_rfl) (by kernel_rfl) (by kernel_rfl) rfl rfl rfl (by kernel_rfl) (fun w5 hb => ?_)
 have Hq := lH (iK Hq.out (kC hb))
 have HG := lH (bC HG.out hb)
 clear hb
 (first | (have hcall := rmul_is (iK Hna.out (kC HG.out)) Hq.out (by omega) (by omega); refine cM hcall ?_; clear hcall) | refine cM (rmul_is (iK Hna.out (kC HG.out)) Hq.out (by omega) (by omega)) ?_)
 rintro e w6 ⟨v6, rfl, hx, hb⟩
 obtain ⟨x_a, x_n, x_c, rfl⟩ := hx.is.lit
 refine ⟨_, rfl, ?_, hb⟩
 have HG := lH (bC HG.out hb)
 have Hx := lH hx
 clear hb hx
 simp only [Act.put, sI, sZ, sS]
 refine good_callX 13 78 (some 23) #[Go.Operand.tmp 22] #[35] (none) #[ta] (by kernel_rfl) Hok.out (by kernel_rfl) (by kernel_rfl) (by kernel_rfl) (by kernel_rfl) rfl rfl rfl (by kernel_rfl) (fun w7 hb => ?_)
 have Hx := lH (Can.keep Hx.out (kC hb))
 have HG := lH (bC HG.out hb)
 clear hb
 (first | (have hcall := r3one_is (iK Hda.out (kC HG.out)); refine cM hcall ?_; clear hcall) | refine cM (r3one_is (iK Hda.out (kC HG.out))) ?_)
 rintro e w8 ⟨v8, rfl, hp, hb⟩
 obtain ⟨p_a, p_n, p_c, rfl⟩ := hp.lit
 refine ⟨_, rfl, ?_, hb⟩
 have Hx := lH (Can.keep Hx.out (kC hb))
 have HG := lH (bC HG.out hb)
 have Hp := lH hp
 clear hb hp
 simp only [Act.put, sI, sZ, sS]
 refine good_callX 16 138 (some 26) #[Go.Operand.tmp 23, Go.Operand.tmp 25] #[35, 35] (none) #[.slice p_a p_n p_c, sb] (by kernel_rfl) Hok.out (by kernel_rfl) (by kernel_rfl) (by kernel_rfl) (by kernel_rfl) rfl rfl rfl (by kernel_rfl) (fun w9 hb => ?_)
 have Hx := lH (Can.keep Hx.out (kC hb))
 have Hp := lH (iK Hp.out (kC hb))
 have HG := lH (bC HG.out hb)
 clear hb
 (first | (have hcall := rmul_is Hp.out (iK Hnb.out (kC HG.out)) (by omega) (by omega); refine cM hcall ?_; clear hcall) | refine cM (rmul_is Hp.out (iK Hnb.out (kC HG.out)) (by omega) (by omega)) ?_)
 rintro e w10 ⟨v10, rfl, hv, hb⟩
 obtain ⟨v_a, v_n, v_c, rfl⟩ := hv.is.lit
 refine ⟨_, rfl, ?_, hb⟩
 have Hx := lH (Can.keep Hx.out (kC hb))
 have HG := lH (bC HG.out hb)
 have Hv := lH hv
 clear hb hv
 simp only [Act.put, sI, sZ, sS]
 refine good_callX 17 77 (some 27) #[Go.Operand.tmp 14, Go.Operand.tmp 20, Go.Operand.tmp 26] #[4, 35, 35] (none) #[.bool (!ba == bb), .slice x_a x_n x_c, .slice v_a v_n v_c] (by kernel_rfl) Hok.out (by kernel_rfl) (by kernel_rfl) (by kernel_rfl) (by kernel_rfl) rfl rfl rfl (by kernel_rfl) (fun w11 hb => ?_)
 have Hx := lH (Can.keep Hx.out (kC hb))
 have Hv := lH (Can.keep Hv.out (kC hb))
 have HG := lH (bC HG.out hb)
 clear hb
 refine cM (r3quot_is (neg := (!ba == bb)) (Nat.mul_pos (un_pos _) Hp0.out) Hx.out.is Hv.out.is (by omega) (by omega)) ?_
 rintro e w12 ⟨v12, rfl, hz, hb⟩
 obtain ⟨z_b, z_a, z_n, z_c, z_d, z_m, z_e, rfl⟩ := hz.litb
 refine ⟨_, rfl, ?_, hb⟩
 have HG := lH (bC HG.out hb)
 have Hz := lH hz
 clear hb hz
 simp only [Act.put, sI, sZ, sS]
 refine good_end0 2 (by kernel_rfl) (fun _ w13 hb => ?_)
 have Hz := lH (CR.keep Hz.out (kC hb))
 have HG := lH (bC HG.out hb)
 clear hb
 have Xa0 := lH (xP HG.out Xa0.out)
 have Xb0 := lH (xP HG.out Xb0.out)
 have Xc0 := lH (xP HG.out Xc0.out)
 have HB := lH (bC HB.out HG.out)
 have HS := lH (SE.of (E := [w.heap.size + 1 + 1]) HG.out)
 refine held_oneX 18 (Go.Op.store 37 (Go.Operand.tmp 4) (Go.Operand.tmp 27)) (none) (World.setCell (World.setCell (World.setCell w13 ⟨w.heap.size + 1 + 1, 0, none⟩ (.bool z_b)) ⟨w.heap.size + 1 + 1, 1, none⟩ (.slice z_a z_n z_c)) ⟨w.heap.size + 1 + 1, 2, none⟩ (.slice z_d z_m z_e)) (by kernel_rfl) (by kernel_rfl) (by kernel_rfl) (by kernel_rfl) ?_ (HS.out.store3 in1) ?_
 ·
  obtain ⟨cc00, cc01, cc02, fc00, fc01, fc02⟩ := Xc0.out.c3
  first | (go_simp; done) | (go_simp; simp_all; done) | (go_simp; rfl)
 obtain ⟨W14, hW⟩ : ∃ W14, W14 = (World.setCell (World.setCell (World.setCell w13 ⟨w.heap.size + 1 + 1, 0, none⟩ (.bool z_b)) ⟨w.heap.size + 1 + 1, 1, none⟩ (.slice z_a z_n z_c)) ⟨w.heap.size + 1 + 1, 2, none⟩ (.slice z_d z_m z_e)) := ⟨_, rfl⟩
 rw [← hW]
 obtain ⟨xc0, hk, hf, hbb, hz⟩ := stored3s hW Xc0.out (by first | exact nB_ _ | exact nS_ _ _ _) (by first | exact nB_ _ | exact nS_ _ _ _) (by first | exact nB_ _ | exact nS_ _ _ _)
 have Hz := lH (CR.keep Hz.out hk)
 have Xa0 := lH (hf _ _ _ Xa0.out (by omega))
 have Xb0 := lH (hf _ _ _ Xb0.out (by omega))
 have Xc0 := lH xc0
 have HB := lH (hbb _ HB.out Gc0.out)
 have HS := lH (show SE (w2.drew) [w.heap.size + 1 + 1] W14 from by rw [hW]; exact HS.out.store3 in1)
 clear hW hk hf hbb xc0
 clear hz
 refine held_pureX 19 (some 5) (Go.Op.assign (Go.Operand.const (Go.Value.int Go.IntKind.i64 0))) (none) (.int .i64 0) (by kernel_rfl) (by kernel_rfl) (by kernel_rfl) (fun _ _ _ h => h) (fun w' => by first | (go_simp; done) | (go_simp; simp_all; done) | (go_simp; rfl)) HS.out ?_
 simp only [Act.put, sI, sZ, sS]
 refine wpAnyH_done (by kernel_rfl) ?_ _
 clear HG HS Hok 
 obtain ⟨ca00, ca01, ca02, fa00, fa01, fa02⟩ := Xa0.out.c3
 have la0 := Xa0.out.lt
 obtain ⟨cb00, cb01, cb02, fb00, fb01, fb02⟩ := Xb0.out.c3
 have lb0 := Xb0.out.lt
 obtain ⟨cc00, cc01, cc02, fc00, fc01, fc02⟩ := Xc0.out.c3
 have lc0 := Xc0.out.lt
 go_wp2
 clear ca00 ca01 ca02 fa00 fa01 fa02 la0 cb00 cb01 cb02 fb00 fb01 fb02 lb0 cc00 cc01 cc02 fc00 fc01 fc02 lc0
 exact ret_re rfl rfl rfl rfl Xc0.out ⟨_, rfl, CR.mono (CR.cast (div_parts _ _ _ _ _ _ Hp0.out) Hz.out) (by omega)⟩ HB.out
theorem zdiv_ar {a b : Rat} {L M : Nat} {u v : Value} {w : World} (h0 : b ≠ 0) (h : AR a L w u) (h' : AR b M w v) (hL : L ≤ 100000000) (hM : M ≤ 100000000) :
  Calls Tryz.prog 125 #[u, v] w (Ret w (CRE (a / b) (L + M + 2) 0)) := by
 obtain ⟨ba, sa, ta, na, da, rfl, h1, h2, rfl⟩ := h
 obtain ⟨bb, sb, tb, nb, db, rfl, h3, h4, rfl⟩ := h'
 have hp : 0 < nb := by
  rcases eP_ nb with rfl | h0'
  ·
   exact absurd (by unfold rv; rw [show iv bb 0 = 0 by cases bb <;> rfl]; exact Rat.zero_mkRat _) h0
  ·
   exact h0'
 exact zdiv_1 _ rfl (by cases bb <;> simp [iv, Int.sign_eq_zero_iff_zero] <;> omega) hp h1 h2 h3 h4 hL hM
theorem zcmp_p {L M : Nat} {qa : Rat} {ba : Bool} {sa ta : Value} {qb : Rat} {bb : Bool} {sb tb : Value} {w : World} (k : Int) (hk : cmpQ qa qb = k) (ha : AR qa L w (.agg #[.bool ba, sa, ta])) (hb : AR qb M w (.agg #[.bool bb, sb, tb])) (hL : L ≤ 100000000) (hM : M ≤ 100000000) :
  Calls Tryz.prog 38 #[.agg #[.bool ba, sa, ta], .agg #[.bool bb, sb, tb]] w (Ret w (Val (.int .i64 k))) := by
 have Ha := lH ha
 have Hb := lH hb
 have Hk := lH hk
 clear ha hb hk
 go_enter Tryz.func38, Tryz.ntmps38
 have HB := lH (bR_ w.heap.size w)
 go_wp2_with fail
 obtain ⟨W1, hW⟩ : ∃ W1, W1 = (World.alloc (World.alloc w (.cells #[.bool ba, sa, ta] 37)) (.cells #[.bool bb, sb, tb] 37)) := ⟨_, rfl⟩
 rw [← hW]
 obtain ⟨xa0, xb0, hk, hb⟩ := boxes_2 _ _ _ _ _ hW
 clear hW
 have Ha := lH (AR.keep Ha.out hk)
 have Hb := lH (AR.keep Hb.out hk)
 have Ga0 := lH (show w.heap.size ≤ w.heap.size from tL_ HB.out.size (by omega))
 have Gb0 := lH (show w.heap.size ≤ w.heap.size + 1 from tL_ HB.out.size (by omega))
 have Xa0 := lH xa0
 have Xb0 := lH xb0
 have HB := lH (bC HB.out hb)
 clear hk hb xa0 xb0
 (first | (have hcall := zsub_ar Ha.out Hb.out (by omega) (by omega); refine cM hcall ?_; clear hcall) | refine cM (zsub_ar Ha.out Hb.out (by omega) (by omega)) ?_)
 rintro e w2 ⟨v2, rfl, hd, hb⟩
 obtain ⟨d_b, d_a, d_n, d_c, d_d, d_m, d_e, rfl⟩ := hd.litb
 have Xa0 := lH (xP hb Xa0.out)
 have Xb0 := lH (xP hb Xb0.out)
 have HB := lH (bC HB.out hb)
 have Hd := lH hd
 clear hb hd
 obtain ⟨ca00, ca01, ca02, fa00, fa01, fa02⟩ := Xa0.out.c3
 have la0 := Xa0.out.lt
 obtain ⟨cb00, cb01, cb02, fb00, fb01, fb02⟩ := Xb0.out.c3
 have lb0 := Xb0.out.lt
 go_wp2_with fail
 clear ca00 ca01 ca02 fa00 fa01 fa02 la0 cb00 cb01 cb02 fb00 fb01 fb02 lb0
 (first | (have hcall := zsign_ar k Hd.out.ar Hk.out; refine cM hcall ?_; clear hcall) | refine cM (zsign_ar k Hd.out.ar Hk.out) ?_)
 rintro e w3 ⟨v3, rfl, rfl, hb⟩
 have Xa0 := lH (xP hb Xa0.out)
 have Xb0 := lH (xP hb Xb0.out)
 have HB := lH (bC HB.out hb)
 clear hb
 obtain ⟨ca00, ca01, ca02, fa00, fa01, fa02⟩ := Xa0.out.c3
 have la0 := Xa0.out.lt
 obtain ⟨cb00, cb01, cb02, fb00, fb01, fb02⟩ := Xb0.out.c3
 have lb0 := Xb0.out.lt
 go_wp2
 clear ca00 ca01 ca02 fa00 fa01 fa02 la0 cb00 cb01 cb02 fb00 fb01 fb02 lb0
 go_ret
 exact ⟨_, rfl, rfl, HB.out⟩
theorem zcmp_ar {a b : Rat} {L M : Nat} {u v : Value} {w : World} (k : Int) (h : AR a L w u) (h' : AR b M w v) (hk : cmpQ a b = k) (hL : L ≤ 100000000) (hM : M ≤ 100000000) :
  Calls Tryz.prog 38 #[u, v] w (Ret w (Val (.int .i64 k))) := by
 obtain ⟨ba, sa, ta, rfl⟩ := h.agg
 obtain ⟨bb, sb, tb, rfl⟩ := h'.agg
 exact zcmp_p k hk h h' hL hM
theorem zmax_t {L M : Nat} {qa : Rat} {ba : Bool} {sa ta : Value} {qb : Rat} {bb : Bool} {sb tb : Value} {w : World} (k : Int) (hk : cmpQ qa qb = k) (hk0 : decide (0 ≤ k) = true) (ha : AR qa L w (.agg #[.bool ba, sa, ta])) (hb : AR qb M w (.agg #[.bool bb, sb, tb])) (hL : L ≤ 100000000) (hM : M ≤ 100000000) :
  Calls Tryz.prog 137 #[.agg #[.bool ba, sa, ta], .agg #[.bool bb, sb, tb]] w (Ret w (CR qa (max L 1))) := by
 have Ha := lH ha
 have Hb := lH hb
 have Hk := lH hk
 have Hk0 := lH hk0
 clear ha hb hk hk0
 go_enter Tryz.func137, Tryz.ntmps137
 have HB := lH (bR_ w.heap.size w)
 go_wp2_with fail
 obtain ⟨W1, hW⟩ : ∃ W1, W1 = (World.alloc (World.alloc (World.alloc w (.cells #[.bool ba, sa, ta] 37)) (.cells #[.bool bb, sb, tb] 37)) (.cells #[.bool false, .slice none 0 0, .slice none 0 0] 37)) := ⟨_, rfl⟩
 rw [← hW]
 obtain ⟨xa0, xb0, xc0, hk, hb⟩ := boxes_3 _ _ _ _ _ _ _ hW
 clear hW
 have Ha := lH (AR.keep Ha.out hk)
 have Hb := lH (AR.keep Hb.out hk)
 have Ga0 := lH (show w.heap.size ≤ w.heap.size from tL_ HB.out.size (by omega))
 have Gb0 := lH (show w.heap.size ≤ w.heap.size + 1 from tL_ HB.out.size (by omega))
 have Gc0 := lH (show w.heap.size ≤ w.heap.size + 1 + 1 from tL_ HB.out.size (by omega))
 have Xa0 := lH xa0
 have Xb0 := lH xb0
 have Xc0 := lH xc0
 have HB := lH (bC HB.out hb)
 clear hk hb xa0 xb0 xc0
 (first | (have hcall := zcmp_ar k Ha.out Hb.out Hk.out (by omega) (by omega); refine cM hcall ?_; clear hcall) | refine cM (zcmp_ar k Ha.out Hb.out Hk.out (by omega) (by omega)) ?_)
 rintro e w2 ⟨v2, rfl, rfl, hb⟩
 have Ha := lH (AR.keep Ha.out (kC hb))
 have Xa0 := lH (xP hb Xa0.out)
 have Xb0 := lH (xP hb Xb0.out)
 have Xc0 := lH (xP hb Xc0.out)
 have HB := lH (bC HB.out hb)
 clear hb
 have hk0 : decide (0 ≤ k) = true := Hk0.out
 obtain ⟨ca00, ca01, ca02, fa00, fa01, fa02⟩ := Xa0.out.c3
 have la0 := Xa0.out.lt
 obtain ⟨cb00, cb01, cb02, fb00, fb01, fb02⟩ := Xb0.out.c3
 have lb0 := Xb0.out.lt
 obtain ⟨cc00, cc01, cc02, fc00, fc01, fc02⟩ := Xc0.out.c3
 have lc0 := Xc0.out.lt
 go_wp2_with fail
 clear ca00 ca01 ca02 fa00 fa01 fa02 la0 cb00 cb01 cb02 fb00 fb01 fb02 lb0 cc00 cc01 cc02 fc00 fc01 fc02 lc0
 (first | (have hcall := zcanon_ar Ha.out (by omega); refine cM hcall ?_; clear hcall) | refine cM (zcanon_ar Ha.out (by omega)) ?_)
 rintro e w3 ⟨v3, rfl, hz, hb⟩
 obtain ⟨z_b, z_a, z_n, z_c, z_d, z_m, z_e, rfl⟩ := hz.litb
 have Xa0 := lH (xP hb Xa0.out)
 have Xb0 := lH (xP hb Xb0.out)
 have Xc0 := lH (xP hb Xc0.out)
 have HB := lH (bC HB.out hb)
 have Hz := lH hz
 clear hb hz
 obtain ⟨ca00, ca01, ca02, fa00, fa01, fa02⟩ := Xa0.out.c3
 have la0 := Xa0.out.lt
 obtain ⟨cb00, cb01, cb02, fb00, fb01, fb02⟩ := Xb0.out.c3
 have lb0 := Xb0.out.lt
 obtain ⟨cc00, cc01, cc02, fc00, fc01, fc02⟩ := Xc0.out.c3
 have lc0 := Xc0.out.lt
 go_wp2
 clear ca00 ca01 ca02 fa00 fa01 fa02 la0 cb00 cb01 cb02 fb00 fb01 fb02 lb0 cc00 cc01 cc02 fc00 fc01 fc02 lc0
 obtain ⟨W4, hW⟩ : ∃ W4, W4 = (World.setCell (World.setCell (World.setCell w3 ⟨w.heap.size + 1 + 1, 0, none⟩ (.bool z_b)) ⟨w.heap.size + 1 + 1, 1, none⟩ (.slice z_a z_n z_c)) ⟨w.heap.size + 1 + 1, 2, none⟩ (.slice z_d z_m z_e)) := ⟨_, rfl⟩
 rw [← hW]
 obtain ⟨xc0, hk, hf, hbb, hz⟩ := stored3s hW Xc0.out (by first | exact nB_ _ | exact nS_ _ _ _) (by first | exact nB_ _ | exact nS_ _ _ _) (by first | exact nB_ _ | exact nS_ _ _ _)
 have Hz := lH (CR.keep Hz.out hk)
 have Xa0 := lH (hf _ _ _ Xa0.out (by omega))
 have Xb0 := lH (hf _ _ _ Xb0.out (by omega))
 have Xc0 := lH xc0
 have HB := lH (hbb _ HB.out Gc0.out)
 clear hW hk hf hbb xc0
 clear hz
 exact ret_rat1 rfl rfl rfl Xc0.out Hz.out HB.out
theorem zmax_f {L M : Nat} {qa : Rat} {ba : Bool} {sa ta : Value} {qb : Rat} {bb : Bool} {sb tb : Value} {w : World} (k : Int) (hk : cmpQ qa qb = k) (hk0 : decide (0 ≤ k) = false) (ha : AR qa L w (.agg #[.bool ba, sa, ta])) (hb : AR qb M w (.agg #[.bool bb, sb, tb])) (hL : L ≤ 100000000) (hM : M ≤ 100000000) :
  Calls Tryz.prog 137 #[.agg #[.bool ba, sa, ta], .agg #[.bool bb, sb, tb]] w (Ret w (CR qb (max M 1))) := by
 have Ha := lH ha
 have Hb := lH hb
 have Hk := lH hk
 have Hk0 := lH hk0
 clear ha hb hk hk0
 go_enter Tryz.func137, Tryz.ntmps137
 have HB := lH (bR_ w.heap.size w)
 go_wp2_with fail
 obtain ⟨W1, hW⟩ : ∃ W1, W1 = (World.alloc (World.alloc (World.alloc w (.cells #[.bool ba, sa, ta] 37)) (.cells #[.bool bb, sb, tb] 37)) (.cells #[.bool false, .slice none 0 0, .slice none 0 0] 37)) := ⟨_, rfl⟩
 rw [← hW]
 obtain ⟨xa0, xb0, xc0, hk, hb⟩ := boxes_3 _ _ _ _ _ _ _ hW
 clear hW
 have Ha := lH (AR.keep Ha.out hk)
 have Hb := lH (AR.keep Hb.out hk)
 have Ga0 := lH (show w.heap.size ≤ w.heap.size from tL_ HB.out.size (by omega))
 have Gb0 := lH (show w.heap.size ≤ w.heap.size + 1 from tL_ HB.out.size (by omega))
 have Gc0 := lH (show w.heap.size ≤ w.heap.size + 1 + 1 from tL_ HB.out.size (by omega))
 have Xa0 := lH xa0
 have Xb0 := lH xb0
 have Xc0 := lH xc0
 have HB := lH (bC HB.out hb)
 clear hk hb xa0 xb0 xc0
 (first | (have hcall := zcmp_ar k Ha.out Hb.out Hk.out (by omega) (by omega); refine cM hcall ?_; clear hcall) | refine cM (zcmp_ar k Ha.out Hb.out Hk.out (by omega) (by omega)) ?_)
 rintro e w2 ⟨v2, rfl, rfl, hb⟩
 have Hb := lH (AR.keep Hb.out (kC hb))
 have Xa0 := lH (xP hb Xa0.out)
 have Xb0 := lH (xP hb Xb0.out)
 have Xc0 := lH (xP hb Xc0.out)
 have HB := lH (bC HB.out hb)
 clear hb
 have hk0 : decide (0 ≤ k) = false := Hk0.out
 obtain ⟨ca00, ca01, ca02, fa00, fa01, fa02⟩ := Xa0.out.c3
 have la0 := Xa0.out.lt
 obtain ⟨cb00, cb01, cb02, fb00, fb01, fb02⟩ := Xb0.out.c3
 have lb0 := Xb0.out.lt
 obtain ⟨cc00, cc01, cc02, fc00, fc01, fc02⟩ := Xc0.out.c3
 have lc0 := Xc0.out.lt
 go_wp2_with fail
 clear ca00 ca01 ca02 fa00 fa01 fa02 la0 cb00 cb01 cb02 fb00 fb01 fb02 lb0 cc00 cc01 cc02 fc00 fc01 fc02 lc0
 (first | (have hcall := zcanon_ar Hb.out (by omega); refine cM hcall ?_; clear hcall) | refine cM (zcanon_ar Hb.out (by omega)) ?_)
 rintro e w3 ⟨v3, rfl, hz, hb⟩
 obtain ⟨z_b, z_a, z_n, z_c, z_d, z_m, z_e, rfl⟩ := hz.litb
 have Xa0 := lH (xP hb Xa0.out)
 have Xb0 := lH (xP hb Xb0.out)
 have Xc0 := lH (xP hb Xc0.out)
 have HB := lH (bC HB.out hb)
 have Hz := lH hz
 clear hb hz
 obtain ⟨ca00, ca01, ca02, fa00, fa01, fa02⟩ := Xa0.out.c3
 have la0 := Xa0.out.lt
 obtain ⟨cb00, cb01, cb02, fb00, fb01, fb02⟩ := Xb0.out.c3
 have lb0 := Xb0.out.lt
 obtain ⟨cc00, cc01, cc02, fc00, fc01, fc02⟩ := Xc0.out.c3
 have lc0 := Xc0.out.lt
 go_wp2
 clear ca00 ca01 ca02 fa00 fa01 fa02 la0 cb00 cb01 cb02 fb00 fb01 fb02 lb0 cc00 cc01 cc02 fc00 fc01 fc02 lc0
 obtain ⟨W4, hW⟩ : ∃ W4, W4 = (World.setCell (World.setCell (World.setCell w3 ⟨w.heap.size + 1 + 1, 0, none⟩ (.bool z_b)) ⟨w.heap.size + 1 + 1, 1, none⟩ (.slice z_a z_n z_c)) ⟨w.heap.size + 1 + 1, 2, none⟩ (.slice z_d z_m z_e)) := ⟨_, rfl⟩
 rw [← hW]
 obtain ⟨xc0, hk, hf, hbb, hz⟩ := stored3s hW Xc0.out (by first | exact nB_ _ | exact nS_ _ _ _) (by first | exact nB_ _ | exact nS_ _ _ _) (by first | exact nB_ _ | exact nS_ _ _ _)
 have Hz := lH (CR.keep Hz.out hk)
 have Xa0 := lH (hf _ _ _ Xa0.out (by omega))
 have Xb0 := lH (hf _ _ _ Xb0.out (by omega))
 have Xc0 := lH xc0
 have HB := lH (hbb _ HB.out Gc0.out)
 clear hW hk hf hbb xc0
 clear hz
 exact ret_rat1 rfl rfl rfl Xc0.out Hz.out HB.out
theorem zmax_ar {a b : Rat} {L M : Nat} {u v : Value} {w : World} (h : AR a L w u) (h' : AR b M w v) (hL : L ≤ 100000000) (hM : M ≤ 100000000) : Calls Tryz.prog 137 #[u, v] w (Ret w (CR (if b ≤ a then a else b) (max (max L M) 1))) := by
 obtain ⟨ba, sa, ta, rfl⟩ := h.agg
 obtain ⟨bb, sb, tb, rfl⟩ := h'.agg
 by_cases hc : b ≤ a
 ·
  rw [if_pos hc]
  exact (zmax_t _ rfl (by simpa using cmpQ_ge.2 hc) h h' hL hM).mono fun e w' k => k.imp fun _ _ x => x.mono (by omega)
 ·
  rw [if_neg hc]
  exact (zmax_f _ rfl (by simpa using mt cmpQ_ge.1 hc) h h' hL hM).mono fun e w' k => k.imp fun _ _ x => x.mono (by omega)
theorem add_int (t : Rat) (f : Int) : (t + (f : Rat)).num = t.num + f * t.den ∧ (t + (f : Rat)).den = t.den := by
 have hc : (t.num + f * t.den).natAbs.Coprime t.den := by
  have h1 : t.num.gcd (t.den : Int) = 1 := t.reduced
  have h2 : (t.num + f * t.den).gcd (t.den : Int) = 1 := by rw [Int.gcd_add_mul_right_left]; exact h1
  exact h2
 have h : t + (f : Rat) = ⟨t.num + f * t.den, t.den, t.den_nz, hc⟩ := by
  rw [Rat.mk_eq_mkRat]
  have h1 : (f : Rat) = mkRat f 1 := by rw [mkRat_one]
  rw [h1]
  conv => lhs; rw [← Rat.mkRat_self t]
  rw [Rat.mkRat_add_mkRat _ _ t.den_nz (by decide)]
  simp
 rw [h]
 exact ⟨rfl, rfl⟩
theorem num_pos' {t : Rat} (h : 0 < t) : 0 < t.num := by
 rw [Rat.lt_iff] at h
 simpa using h
theorem one_div_parts {t : Rat} (h : 0 < t) : (1 / t).num = t.den ∧ (1 / t).den = t.num.natAbs ∧ 0 < 1 / t := by
 have hp := num_pos' h
 have e : 1 / t = t⁻¹ := by rw [Rat.div_def, Rat.one_mul]
 rw [e]
 refine ⟨by rw [Rat.num_inv, Int.sign_eq_one_of_pos hp]; omega, by rw [Rat.den_inv, if_neg (by omega)], Rat.inv_pos.2 h⟩
structure Down (lo hi : Rat) : Prop where
 f0 : 0 ≤ lo.floor
 a : 0 < hi - (lo.floor : Rat)
 b : 0 < lo - (lo.floor : Rat)
 le : lo - (lo.floor : Rat) ≤ hi - (lo.floor : Rat)
 a1 : (hi - (lo.floor : Rat)).num < hi.den
 b1 : (lo - (lo.floor : Rat)).num < lo.den
 ad : (hi - (lo.floor : Rat)).den = hi.den
 bd : (lo - (lo.floor : Rat)).den = lo.den
theorem back {y : Rat} (f : Int) (h : 0 < y) : ((f : Rat) + 1 / y).den = y.num.natAbs ∧ ((f : Rat) + 1 / y).num = y.den + f * y.num := by
 have h1 := one_div_parts h
 have h2 := add_int (1 / y) f
 have hp := num_pos' h
 rw [Rat.add_comm, h2.1, h2.2, h1.1, h1.2.1]
 exact ⟨rfl, by rw [show ((y.num.natAbs : Nat) : Int) = y.num by omega]⟩
open Go.ChangeShapes Go.WideShapes
theorem row_of_read {H : Type} {enc : TypeId × Value → H} {w : World} {base : Nat} {held : Bool} {fuel : Nat} {c : Value} {y : DataW H × List MemPlace}
  (h : DataW.trod enc Tryz.prog w base (fun _ => true) held fuel 35 [c] = some y) : ∃ a n k, c = .slice a n k ∧ Row w (.slice a n k) n := by
 rcases open_ints Tryz.underlying35 Tryz.underlying142 (by kernel_rfl) h with ⟨hcs, _⟩ | ⟨x, l, c', zs, hcs, _, hl, hm, hz, _, hcell, hwz⟩
 ·
  injection hcs with h1 _
  subst h1
  exact ⟨_, _, _, rfl, fun hn => is_of_row hn (Or.inl ⟨rfl, rfl, rfl, rfl⟩)⟩
 ·
  injection hcs with h1 _
  subst h1
  exact ⟨_, _, _, rfl, fun hn => is_of_row hn (Or.inr ⟨x, rfl, hl, hm, by simpa using hz, hcell, hwz⟩)⟩
theorem val_inj : ∀ {xs ys : List Nat}, lims xs → lims ys → xs.length = ys.length → val xs = val ys → xs = ys := by
 intro xs
 induction xs with
 | nil => intro ys _ _ h _; cases ys with | nil => rfl | cons y ys => simp at h
 | cons x xs ih =>
   intro ys h1 h2 hl hv
   cases ys with
   | nil => simp at hl
   | cons y ys =>
     have a := h1 x List.mem_cons_self
     have b := h2 y List.mem_cons_self
     simp only [val] at hv
     have e : x = y := by omega
     subst e
     rw [ih (fun z hz => h1 z (List.mem_cons_of_mem _ hz)) (fun z hz => h2 z (List.mem_cons_of_mem _ hz)) (by simpa using hl) (by omega)]
def vB (b : Bool) (xs ys : List Nat) (q : Rat) : Bool := b == decide (q < 0) && same xs (limbs q.num.natAbs) && same ys (limbs (dn q))
theorem same_parts {xs : List Nat} {n : Nat} (h : lims xs) : same xs (limbs n) = ((xs.length == (limbs n).length) && (cmpN (val xs) n == 0)) := by
 unfold same
 by_cases e : xs = limbs n
 ·
  rw [decide_eq_true e, e, val_limbs, cmpN_eq rfl]; simp
 ·
  rw [decide_eq_false e]
  symm
  rw [Bool.and_eq_false_iff]
  by_cases hl : xs.length = (limbs n).length
  ·
   right
   rw [beq_eq_false_iff_ne]
   intro hc
   have hv : val xs = n := by
    unfold cmpN at hc
    by_cases h1 : val xs < n
    ·
     rw [if_pos h1] at hc; cases hc
    ·
     rw [if_neg h1] at hc
     by_cases h2 : val xs = n
     ·
      exact h2
     ·
      rw [if_neg h2] at hc; cases hc
   exact e (val_inj h (lims_limbs n) hl (by rw [val_limbs]; exact hv))
  ·
   left; simpa using hl
theorem vB_nil {b : Bool} {xs : List Nat} (h : lims xs) : vB b xs [] (rv b (val xs) 0) = (canon xs && (!b || decide (0 < xs.length))) := by
 have e : rv b (val xs) 0 = ((iv b (val xs) : Int) : Rat) := by unfold rv; rw [show un 0 = 1 from rfl, mkRat_one]
 have e1 : ((iv b (val xs) : Int) : Rat).num.natAbs = val xs := by rw [Rat.num_intCast, iv_abs]
 have e2 : dn ((iv b (val xs) : Int) : Rat) = 0 := by unfold dn; rw [Rat.den_intCast]; rfl
 have e3 : (((iv b (val xs) : Int) : Rat) < 0) ↔ iv b (val xs) < 0 := by rw [Rat.lt_iff]; simp
 unfold vB
 rw [e, e1, e2, limbs_zero]
 by_cases hc : canon xs = true
 ·
  have hl : limbs (val xs) = xs := limbs_val h (by
   unfold canon at hc
   simp only [Bool.or_eq_true, beq_iff_eq, bne_iff_ne] at hc
   rcases hc with h1 | h1
   ·
    left; exact List.length_eq_zero_iff.1 h1
   ·
    right; exact h1)
  rw [hl, hc, show same xs xs = true by simp [same], show same ([] : List Nat) [] = true by simp [same]]
  cases b
  ·
   have : ¬ iv false (val xs) < 0 := by simp [iv]
   rw [decide_eq_false (mt e3.1 this)]; simp
  ·
   by_cases h0 : 0 < xs.length
   ·
    have hv : 0 < val xs := by
     rcases eP_ (val xs) with h1 | h1
     ·
      rw [h1, limbs_zero] at hl; rw [← hl] at h0; simp at h0
     ·
      exact h1
    rw [decide_eq_true (e3.2 ((iv_neg_iff hv).2 rfl)), decide_eq_true h0]; rfl
   ·
    have hx : xs = [] := List.length_eq_zero_iff.1 (by omega)
    subst hx
    have : ¬ iv true (val []) < 0 := by simp [iv, val]
    rw [decide_eq_false (mt e3.1 this)]; simp
 ·
  have hn : same xs (limbs (val xs)) = false := by
   unfold same; rw [decide_eq_false]; intro h1; rw [h1, canon_limbs] at hc; exact hc rfl
  rw [hn, Bool.eq_false_iff.2 hc]; simp
theorem vB_can (q : Rat) : vB (decide (q < 0)) (limbs q.num.natAbs) (limbs (dn q)) q = true := by simp [vB, same]
theorem Sl.lenE {w : World} {a : Option Addr} {n c : Nat} {xs : List Nat} (h : Sl w (.slice a n c) xs) : n = xs.length := by
 obtain ⟨ad, m, cap, he, hl, _⟩ := h
 injection he with _ e _
 rw [e]; exact hl.symm
theorem same_b {v v' : Value} {xs ys : List Nat} {w : World} (B : Bool) (hB : same xs ys = B) (h : Sl w v xs) (h' : Sl w v' ys) : Calls Tryz.prog 51 #[v, v'] w (Ret w (Val (.bool B))) := by rw [← hB]; exact same_any _ _ _ _ _ h h'
theorem cmp_slc {xs : List Nat} {b L : Nat} {u v : Value} {w : World} (k : Int) (hk : cmpN (val xs) b = k) (h : Sl w u xs) (h' : Can b L w v) : Calls Tryz.prog 121 #[u, v] w (Ret w (Val (.int .i64 k))) :=
 cmp_is k ⟨xs, h, rfl, lR_ _⟩ h'.is hk
theorem eqI {a b c : Nat} {B : Bool} (e : b = c) (h : (a == c) = B) : ((a : Int) == (b : Int)) = B := by
 subst e; rw [← h, Bool.eq_iff_iff]; simp; omega
theorem zs_1 {ba : Bool} {sa ta : Value} {xa ya : List Nat} {bb : Bool} {sb tb : Value} {xb yb : List Nat}  {w : World} (he : (ba == bb) = false) (hna : Sl w sa xa) (hda : Sl w ta ya) (hnb : Sl w sb xb) (hdb : Sl w tb yb) :
  Calls Tryz.prog 21 #[.agg #[.bool ba, sa, ta], .agg #[.bool bb, sb, tb]] w (Ret w (Val (.bool false))) := by
 have Hna := lH hna
 have Hda := lH hda
 have Hnb := lH hnb
 have Hdb := lH hdb
 clear hna hda hnb hdb
 go_enter Tryz.func21, Tryz.ntmps21
 have HB := lH (bR_ w.heap.size w)
 go_wp2
 obtain ⟨W1, hW⟩ : ∃ W1, W1 = (World.alloc (World.alloc w (.cells #[.bool ba, sa, ta] 37)) (.cells #[.bool bb, sb, tb] 37)) := ⟨_, rfl⟩
 rw [← hW]
 obtain ⟨xa0, xb0, hk, hb⟩ := boxes_2 _ _ _ _ _ hW
 clear hW
 have Ga0 := lH (show w.heap.size ≤ w.heap.size from tL_ HB.out.size (by omega))
 have Gb0 := lH (show w.heap.size ≤ w.heap.size + 1 from tL_ HB.out.size (by omega))
 have Xa0 := lH xa0
 have Xb0 := lH xb0
 have HB := lH (bC HB.out hb)
 clear hk hb xa0 xb0
 go_ret
 exact ⟨_, rfl, rfl, HB.out⟩
theorem zs_2 {ba : Bool} {sa ta : Value} {xa ya : List Nat} {bb : Bool} {sb tb : Value} {xb yb : List Nat}  {w : World} (he : (ba == bb) = true) (h1 : same xa xb = false) (hna : Sl w sa xa) (hda : Sl w ta ya) (hnb : Sl w sb xb) (hdb : Sl w tb yb) :
  Calls Tryz.prog 21 #[.agg #[.bool ba, sa, ta], .agg #[.bool bb, sb, tb]] w (Ret w (Val (.bool false))) := by
 have Hna := lH hna
 have Hda := lH hda
 have Hnb := lH hnb
 have Hdb := lH hdb
 have H1 := lH h1
 clear hna hda hnb hdb h1
 go_enter Tryz.func21, Tryz.ntmps21
 have HB := lH (bR_ w.heap.size w)
 go_wp2_with fail
 obtain ⟨W1, hW⟩ : ∃ W1, W1 = (World.alloc (World.alloc w (.cells #[.bool ba, sa, ta] 37)) (.cells #[.bool bb, sb, tb] 37)) := ⟨_, rfl⟩
 rw [← hW]
 obtain ⟨xa0, xb0, hk, hb⟩ := boxes_2 _ _ _ _ _ hW
 clear hW
 have Hna := lH (Sl.keep Hna.out hk)
 have Hnb := lH (Sl.keep Hnb.out hk)
 have Ga0 := lH (show w.heap.size ≤ w.heap.size from tL_ HB.out.size (by omega))
 have Gb0 := lH (show w.heap.size ≤ w.heap.size + 1 from tL_ HB.out.size (by omega))
 have Xa0 := lH xa0
 have Xb0 := lH xb0
 have HB := lH (bC HB.out hb)
 clear hk hb xa0 xb0
 (first | (have hcall := same_b false H1.out Hna.out Hnb.out; refine cM hcall ?_; clear hcall) | refine cM (same_b false H1.out Hna.out Hnb.out) ?_)
 rintro e w2 ⟨v2, rfl, rfl, hb⟩
 have Xa0 := lH (xP hb Xa0.out)
 have Xb0 := lH (xP hb Xb0.out)
 have HB := lH (bC HB.out hb)
 clear hb
 obtain ⟨ca00, ca01, ca02, fa00, fa01, fa02⟩ := Xa0.out.c3
 have la0 := Xa0.out.lt
 obtain ⟨cb00, cb01, cb02, fb00, fb01, fb02⟩ := Xb0.out.c3
 have lb0 := Xb0.out.lt
 go_wp2
 clear ca00 ca01 ca02 fa00 fa01 fa02 la0 cb00 cb01 cb02 fb00 fb01 fb02 lb0
 go_ret
 exact ⟨_, rfl, rfl, HB.out⟩
theorem zs_3 {ba : Bool} {sa ta : Value} {xa ya : List Nat} {bb : Bool} {sb tb : Value} {xb yb : List Nat}  {w : World} {B : Bool} (he : (ba == bb) = true) (h1 : same xa xb = true) (h2 : same ya yb = B) (hna : Sl w sa xa) (hda : Sl w ta ya) (hnb : Sl w sb xb) (hdb : Sl w tb yb) :
  Calls Tryz.prog 21 #[.agg #[.bool ba, sa, ta], .agg #[.bool bb, sb, tb]] w (Ret w (Val (.bool B))) := by
 have Hna := lH hna
 have Hda := lH hda
 have Hnb := lH hnb
 have Hdb := lH hdb
 have H1 := lH h1
 have H2 := lH h2
 clear hna hda hnb hdb h1 h2
 go_enter Tryz.func21, Tryz.ntmps21
 have HB := lH (bR_ w.heap.size w)
 go_wp2_with fail
 obtain ⟨W1, hW⟩ : ∃ W1, W1 = (World.alloc (World.alloc w (.cells #[.bool ba, sa, ta] 37)) (.cells #[.bool bb, sb, tb] 37)) := ⟨_, rfl⟩
 rw [← hW]
 obtain ⟨xa0, xb0, hk, hb⟩ := boxes_2 _ _ _ _ _ hW
 clear hW
 have Hna := lH (Sl.keep Hna.out hk)
 have Hda := lH (Sl.keep Hda.out hk)
 have Hnb := lH (Sl.keep Hnb.out hk)
 have Hdb := lH (Sl.keep Hdb.out hk)
 have Ga0 := lH (show w.heap.size ≤ w.heap.size from tL_ HB.out.size (by omega))
 have Gb0 := lH (show w.heap.size ≤ w.heap.size + 1 from tL_ HB.out.size (by omega))
 have Xa0 := lH xa0
 have Xb0 := lH xb0
 have HB := lH (bC HB.out hb)
 clear hk hb xa0 xb0
 (first | (have hcall := same_b true H1.out Hna.out Hnb.out; refine cM hcall ?_; clear hcall) | refine cM (same_b true H1.out Hna.out Hnb.out) ?_)
 rintro e w2 ⟨v2, rfl, rfl, hb⟩
 have Hda := lH (Sl.keep Hda.out (kC hb))
 have Hdb := lH (Sl.keep Hdb.out (kC hb))
 have Xa0 := lH (xP hb Xa0.out)
 have Xb0 := lH (xP hb Xb0.out)
 have HB := lH (bC HB.out hb)
 clear hb
 obtain ⟨ca00, ca01, ca02, fa00, fa01, fa02⟩ := Xa0.out.c3
 have la0 := Xa0.out.lt
 obtain ⟨cb00, cb01, cb02, fb00, fb01, fb02⟩ := Xb0.out.c3
 have lb0 := Xb0.out.lt
 go_wp2_with fail
 clear ca00 ca01 ca02 fa00 fa01 fa02 la0 cb00 cb01 cb02 fb00 fb01 fb02 lb0
 (first | (have hcall := same_b B H2.out Hda.out Hdb.out; refine cM hcall ?_; clear hcall) | refine cM (same_b B H2.out Hda.out Hdb.out) ?_)
 rintro e w3 ⟨v3, rfl, ⟨⟩, hb⟩
 have Xa0 := lH (xP hb Xa0.out)
 have Xb0 := lH (xP hb Xb0.out)
 have HB := lH (bC HB.out hb)
 clear hb
 obtain ⟨ca00, ca01, ca02, fa00, fa01, fa02⟩ := Xa0.out.c3
 have la0 := Xa0.out.lt
 obtain ⟨cb00, cb01, cb02, fb00, fb01, fb02⟩ := Xb0.out.c3
 have lb0 := Xb0.out.lt
 go_wp2
 clear ca00 ca01 ca02 fa00 fa01 fa02 la0 cb00 cb01 cb02 fb00 fb01 fb02 lb0
 go_ret
 exact ⟨_, rfl, rfl, HB.out⟩
theorem zsame_v {B : Bool} {b : Bool} {s t v : Value} {xs ys : List Nat} {q : Rat} {L : Nat} {w : World} (hB : vB b xs ys q = B) (h : Sl w s xs) (h' : Sl w t ys) (hc : CR q L w v) :
  Calls Tryz.prog 21 #[.agg #[.bool b, s, t], v] w (Ret w (Val (.bool B))) := by
 obtain ⟨c, a1, n1, c1, a2, n2, c2, rfl⟩ := hc.litb
 have k1 := hc.numC.1
 have k2 := hc.denC.1
 have k0 := hc.negC
 subst hB
 unfold vB
 rw [← k0]
 cases e1 : (b == c)
 ·
  exact zs_1 e1 h h' k1 k2
 ·
  cases e2 : same xs (limbs q.num.natAbs)
  ·
   exact zs_2 e1 e2 h h' k1 k2
  ·
   exact zs_3 e1 e2 rfl h h' k1 k2
theorem zvalid_p {L : Nat} {q : Rat} {xs ys : List Nat} {ba : Bool} {sa ta : Option Addr} {na ca ma ea : Nat}  {w : World} {B : Bool} (hB0 : vB ba xs ys q = B) (hxa : Sl w (.slice sa na ca) xs) (hya : Sl w (.slice ta ma ea) ys) (ha : AR q L w (.agg #[.bool ba, .slice sa na ca, .slice ta ma ea])) (hL : L ≤ 100000000) :
  Calls Tryz.prog 40 #[.agg #[.bool ba, .slice sa na ca, .slice ta ma ea]] w (Ret w (Val (.bool B))) := by
 have Ha := lH ha
 have Hxa := lH hxa
 have Hya := lH hya
 have HB0 := lH hB0
 clear ha hxa hya hB0
 go_enter Tryz.func40, Tryz.ntmps40
 have HB := lH (bR_ w.heap.size w)
 go_wp2_with fail
 obtain ⟨W1, hW⟩ : ∃ W1, W1 = (World.alloc w (.cells #[.bool ba, .slice sa na ca, .slice ta ma ea] 37)) := ⟨_, rfl⟩
 rw [← hW]
 obtain ⟨xa0, hk, hb⟩ := boxes_1 _ _ _ hW
 clear hW
 have Ha := lH (AR.keep Ha.out hk)
 have Hxa := lH (Sl.keep Hxa.out hk)
 have Hya := lH (Sl.keep Hya.out hk)
 have Ga0 := lH (show w.heap.size ≤ w.heap.size from tL_ HB.out.size (by omega))
 have Xa0 := lH xa0
 have HB := lH (bC HB.out hb)
 clear hk hb xa0
 have Ha := lH (AR.keep Ha.out (Keep.drew W1))
 have Hxa := lH (Sl.keep Hxa.out (Keep.drew W1))
 have Hya := lH (Sl.keep Hya.out (Keep.drew W1))
 have Xa0 := lH (Box.drew Xa0.out)
 have HB := lH (Below.drew HB.out)
 refine wp_region_float [] [] (by kernel_rfl) (by kernel_rfl) 7 (by kernel_rfl) Flok.nil ?_
 intro ok
 have Hok := lH ok
 clear ok
 have HG := lH (bR_ (W1.drew).heap.size (W1.drew))
 refine good_pureX 0 (some 3) (Go.Op.load 37 (Go.Operand.tmp 1)) (none) (.agg #[.bool ba, .slice sa na ca, .slice ta ma ea]) (by kernel_rfl) (by kernel_rfl) (by kernel_rfl) (fun _ _ _ h => h) (fun w' hw' => ?_) ?_
 ·
  obtain ⟨ca00, ca01, ca02, fa00, fa01, fa02⟩ := (Box.se hw' Xa0.out notin0).c3
  first | (go_simp; done) | (go_simp; simp_all; done) | (go_simp; rfl)
 simp only [Act.put, sI, sZ, sS]
 refine good_pureX 1 (some 4) (Go.Op.load 37 (Go.Operand.tmp 1)) (none) (.agg #[.bool ba, .slice sa na ca, .slice ta ma ea]) (by kernel_rfl) (by kernel_rfl) (by kernel_rfl) (fun _ _ _ h => h) (fun w' hw' => ?_) ?_
 ·
  obtain ⟨ca00, ca01, ca02, fa00, fa01, fa02⟩ := (Box.se hw' Xa0.out notin0).c3
  first | (go_simp; done) | (go_simp; simp_all; done) | (go_simp; rfl)
 simp only [Act.put, sI, sZ, sS]
 refine good_callX 2 39 (some 5) #[Go.Operand.tmp 4] #[37] (none) #[.agg #[.bool ba, .slice sa na ca, .slice ta ma ea]] (by kernel_rfl) Hok.out (by kernel_rfl) (by kernel_rfl) (by kernel_rfl) (by kernel_rfl) rfl rfl rfl (by kernel_rfl) (fun w2 hb => ?_)
 have HG := lH (bC HG.out hb)
 clear hb
 (first | (have hcall := zcanon_ar (AR.keep Ha.out (kC HG.out)) (by omega); refine cM hcall ?_; clear hcall) | refine cM (zcanon_ar (AR.keep Ha.out (kC HG.out)) (by omega)) ?_)
 rintro e w3 ⟨v3, rfl, hc, hb⟩
 obtain ⟨c_b, c_a, c_n, c_c, c_d, c_m, c_e, rfl⟩ := hc.litb
 refine ⟨_, rfl, ?_, hb⟩
 have HG := lH (bC HG.out hb)
 have Hc := lH hc
 clear hb hc
 simp only [Act.put, sI, sZ, sS]
 refine good_callX 3 21 (some 6) #[Go.Operand.tmp 3, Go.Operand.tmp 5] #[37, 37] (none) #[.agg #[.bool ba, .slice sa na ca, .slice ta ma ea], .agg #[.bool c_b, .slice c_a c_n c_c, .slice c_d c_m c_e]] (by kernel_rfl) Hok.out (by kernel_rfl) (by kernel_rfl) (by kernel_rfl) (by kernel_rfl) rfl rfl rfl (by kernel_rfl) (fun w4 hb => ?_)
 have Hc := lH (CR.keep Hc.out (kC hb))
 have HG := lH (bC HG.out hb)
 clear hb
 (first | (have hcall := zsame_v HB0.out (Sl.keep Hxa.out (kC HG.out)) (Sl.keep Hya.out (kC HG.out)) Hc.out; refine cM hcall ?_; clear hcall) | refine cM (zsame_v HB0.out (Sl.keep Hxa.out (kC HG.out)) (Sl.keep Hya.out (kC HG.out)) Hc.out) ?_)
 rintro e w5 ⟨v5, rfl, ⟨⟩, hb⟩
 refine ⟨_, rfl, ?_, hb⟩
 have HG := lH (bC HG.out hb)
 clear hb
 simp only [Act.put, sI, sZ, sS]
 refine good_pureX 4 (some 2) (Go.Op.assign (Go.Operand.tmp 6)) (none) (.bool B) (by kernel_rfl) (by kernel_rfl) (by kernel_rfl) (fun _ _ _ h => h) (fun w' hw' => ?_) ?_
 ·
  first | (go_simp; done) | (go_simp; simp_all; done) | (go_simp; rfl)
 simp only [Act.put, sI, sZ, sS]
 refine good_end0 0 (by kernel_rfl) (fun _ w6 hb => ?_)
 have HG := lH (bC HG.out hb)
 clear hb
 have Xa0 := lH (xP HG.out Xa0.out)
 have HB := lH (bC HB.out HG.out)
 have HS := lH (SE.of (E := []) HG.out)
 refine wpAnyH_done (by kernel_rfl) ?_ _
 clear HG HS Hok 
 obtain ⟨ca00, ca01, ca02, fa00, fa01, fa02⟩ := Xa0.out.c3
 have la0 := Xa0.out.lt
 go_wp2
 clear ca00 ca01 ca02 fa00 fa01 fa02 la0
 go_ret
 exact ⟨_, rfl, rfl, HB.out⟩
theorem rv_a1 {xs : List Nat} {ba : Bool} {sa ta : Option Addr} {na ca ma ea : Nat}  {w : World} (hv : canon xs = false) (hd0 : ((ma : Int) == 0) = true) (hxa : Sl w (.slice sa na ca) xs)  :
  Calls Tryz.prog 111 #[.agg #[.bool ba, .slice sa na ca, .slice ta ma ea]] w (Ret w (Val (.bool false))) := by
 have Hxa := lH hxa
 have Hv := lH hv
 clear hxa hv
 go_enter Tryz.func111, Tryz.ntmps111
 have HB := lH (bR_ w.heap.size w)
 go_wp2_with fail
 obtain ⟨W1, hW⟩ : ∃ W1, W1 = (World.alloc w (.cells #[.bool ba, .slice sa na ca, .slice ta ma ea] 37)) := ⟨_, rfl⟩
 rw [← hW]
 obtain ⟨xa0, hk, hb⟩ := boxes_1 _ _ _ hW
 clear hW
 have Hxa := lH (Sl.keep Hxa.out hk)
 have Ga0 := lH (show w.heap.size ≤ w.heap.size from tL_ HB.out.size (by omega))
 have Xa0 := lH xa0
 have HB := lH (bC HB.out hb)
 clear hk hb xa0
 (first | (have hcall := valid_sl Hv.out Hxa.out; refine cM hcall ?_; clear hcall) | refine cM (valid_sl Hv.out Hxa.out) ?_)
 rintro e w2 ⟨v2, rfl, rfl, hb⟩
 have Xa0 := lH (xP hb Xa0.out)
 have HB := lH (bC HB.out hb)
 clear hb
 obtain ⟨ca00, ca01, ca02, fa00, fa01, fa02⟩ := Xa0.out.c3
 have la0 := Xa0.out.lt
 go_wp2
 clear ca00 ca01 ca02 fa00 fa01 fa02 la0
 go_ret
 exact ⟨_, rfl, rfl, HB.out⟩
theorem rv_a2 {xs : List Nat} {sa ta : Option Addr} {na ca ma ea : Nat}  {w : World} (hv : canon xs = true) (hd0 : ((ma : Int) == 0) = true) (hxa : Sl w (.slice sa na ca) xs)  :
  Calls Tryz.prog 111 #[.agg #[.bool false, .slice sa na ca, .slice ta ma ea]] w (Ret w (Val (.bool true))) := by
 have Hxa := lH hxa
 have Hv := lH hv
 clear hxa hv
 go_enter Tryz.func111, Tryz.ntmps111
 have HB := lH (bR_ w.heap.size w)
 go_wp2_with fail
 obtain ⟨W1, hW⟩ : ∃ W1, W1 = (World.alloc w (.cells #[.bool false, .slice sa na ca, .slice ta ma ea] 37)) := ⟨_, rfl⟩
 rw [← hW]
 obtain ⟨xa0, hk, hb⟩ := boxes_1 _ _ _ hW
 clear hW
 have Hxa := lH (Sl.keep Hxa.out hk)
 have Ga0 := lH (show w.heap.size ≤ w.heap.size from tL_ HB.out.size (by omega))
 have Xa0 := lH xa0
 have HB := lH (bC HB.out hb)
 clear hk hb xa0
 (first | (have hcall := valid_sl Hv.out Hxa.out; refine cM hcall ?_; clear hcall) | refine cM (valid_sl Hv.out Hxa.out) ?_)
 rintro e w2 ⟨v2, rfl, rfl, hb⟩
 have Xa0 := lH (xP hb Xa0.out)
 have HB := lH (bC HB.out hb)
 clear hb
 obtain ⟨ca00, ca01, ca02, fa00, fa01, fa02⟩ := Xa0.out.c3
 have la0 := Xa0.out.lt
 go_wp2
 clear ca00 ca01 ca02 fa00 fa01 fa02 la0
 go_ret
 exact ⟨_, rfl, rfl, HB.out⟩
theorem rv_a3t {xs : List Nat} {sa ta : Option Addr} {na ca ma ea : Nat}  {w : World} (hv : canon xs = true) (hd2 : decide (0 < na) = true) (hd0 : ((ma : Int) == 0) = true) (hxa : Sl w (.slice sa na ca) xs)  :
  Calls Tryz.prog 111 #[.agg #[.bool true, .slice sa na ca, .slice ta ma ea]] w (Ret w (Val (.bool true))) := by
 have Hxa := lH hxa
 have Hv := lH hv
 clear hxa hv
 go_enter Tryz.func111, Tryz.ntmps111
 have HB := lH (bR_ w.heap.size w)
 go_wp2_with fail
 obtain ⟨W1, hW⟩ : ∃ W1, W1 = (World.alloc w (.cells #[.bool true, .slice sa na ca, .slice ta ma ea] 37)) := ⟨_, rfl⟩
 rw [← hW]
 obtain ⟨xa0, hk, hb⟩ := boxes_1 _ _ _ hW
 clear hW
 have Hxa := lH (Sl.keep Hxa.out hk)
 have Ga0 := lH (show w.heap.size ≤ w.heap.size from tL_ HB.out.size (by omega))
 have Xa0 := lH xa0
 have HB := lH (bC HB.out hb)
 clear hk hb xa0
 (first | (have hcall := valid_sl Hv.out Hxa.out; refine cM hcall ?_; clear hcall) | refine cM (valid_sl Hv.out Hxa.out) ?_)
 rintro e w2 ⟨v2, rfl, rfl, hb⟩
 have Xa0 := lH (xP hb Xa0.out)
 have HB := lH (bC HB.out hb)
 clear hb
 obtain ⟨ca00, ca01, ca02, fa00, fa01, fa02⟩ := Xa0.out.c3
 have la0 := Xa0.out.lt
 go_wp2
 clear ca00 ca01 ca02 fa00 fa01 fa02 la0
 go_ret
 exact ⟨_, rfl, rfl, HB.out⟩
theorem rv_a3f {xs : List Nat} {sa ta : Option Addr} {na ca ma ea : Nat}  {w : World} (hv : canon xs = true) (hd2 : decide (0 < na) = false) (hd0 : ((ma : Int) == 0) = true) (hxa : Sl w (.slice sa na ca) xs)  :
  Calls Tryz.prog 111 #[.agg #[.bool true, .slice sa na ca, .slice ta ma ea]] w (Ret w (Val (.bool false))) := by
 have Hxa := lH hxa
 have Hv := lH hv
 clear hxa hv
 go_enter Tryz.func111, Tryz.ntmps111
 have HB := lH (bR_ w.heap.size w)
 go_wp2_with fail
 obtain ⟨W1, hW⟩ : ∃ W1, W1 = (World.alloc w (.cells #[.bool true, .slice sa na ca, .slice ta ma ea] 37)) := ⟨_, rfl⟩
 rw [← hW]
 obtain ⟨xa0, hk, hb⟩ := boxes_1 _ _ _ hW
 clear hW
 have Hxa := lH (Sl.keep Hxa.out hk)
 have Ga0 := lH (show w.heap.size ≤ w.heap.size from tL_ HB.out.size (by omega))
 have Xa0 := lH xa0
 have HB := lH (bC HB.out hb)
 clear hk hb xa0
 (first | (have hcall := valid_sl Hv.out Hxa.out; refine cM hcall ?_; clear hcall) | refine cM (valid_sl Hv.out Hxa.out) ?_)
 rintro e w2 ⟨v2, rfl, rfl, hb⟩
 have Xa0 := lH (xP hb Xa0.out)
 have HB := lH (bC HB.out hb)
 clear hb
 obtain ⟨ca00, ca01, ca02, fa00, fa01, fa02⟩ := Xa0.out.c3
 have la0 := Xa0.out.lt
 go_wp2
 clear ca00 ca01 ca02 fa00 fa01 fa02 la0
 go_ret
 exact ⟨_, rfl, rfl, HB.out⟩
theorem rv_b0 {L : Nat} {q : Rat} {xs ys : List Nat} {ba : Bool} {sa ta : Option Addr} {na ca ma ea : Nat}  {w : World} (he1 : (ba == decide (q < 0)) = false) (hd0 : ((ma : Int) == 0) = false) (hxa : Sl w (.slice sa na ca) xs) (hya : Sl w (.slice ta ma ea) ys) (ha : AR q L w (.agg #[.bool ba, .slice sa na ca, .slice ta ma ea])) (hL : L ≤ 100000000) :
  Calls Tryz.prog 111 #[.agg #[.bool ba, .slice sa na ca, .slice ta ma ea]] w (Ret w (Val (.bool false))) := by
 have Ha := lH ha
 have Hxa := lH hxa
 have Hya := lH hya
 have He1 := lH he1
 clear ha hxa hya he1
 go_enter Tryz.func111, Tryz.ntmps111
 have HB := lH (bR_ w.heap.size w)
 go_wp2_with fail
 obtain ⟨W1, hW⟩ : ∃ W1, W1 = (World.alloc w (.cells #[.bool ba, .slice sa na ca, .slice ta ma ea] 37)) := ⟨_, rfl⟩
 rw [← hW]
 obtain ⟨xa0, hk, hb⟩ := boxes_1 _ _ _ hW
 clear hW
 have Ha := lH (AR.keep Ha.out hk)
 have Ga0 := lH (show w.heap.size ≤ w.heap.size from tL_ HB.out.size (by omega))
 have Xa0 := lH xa0
 have HB := lH (bC HB.out hb)
 clear hk hb xa0
 (first | (have hcall := canon_ar Ha.out (by omega); refine cM hcall ?_; clear hcall) | refine cM (canon_ar Ha.out (by omega)) ?_)
 rintro e w2 ⟨v2, rfl, hc, hb⟩
 obtain ⟨c_b, c_a, c_n, c_c, c_d, c_m, c_e, rfl⟩ := hc.litb
 have Xa0 := lH (xP hb Xa0.out)
 have HB := lH (bC HB.out hb)
 have Hc := lH hc
 clear hb hc
 have d1 : (ba == c_b) = false := by rw [Hc.out.negC]; exact He1.out
 obtain ⟨ca00, ca01, ca02, fa00, fa01, fa02⟩ := Xa0.out.c3
 have la0 := Xa0.out.lt
 go_wp2
 clear ca00 ca01 ca02 fa00 fa01 fa02 la0
 obtain ⟨W3, hW⟩ : ∃ W3, W3 = (World.alloc w2 (.cells #[.bool c_b, .slice c_a c_n c_c, .slice c_d c_m c_e] 37)) := ⟨_, rfl⟩
 rw [← hW]
 obtain ⟨xb0, hk, hb⟩ := boxes_1 _ _ _ hW
 clear hW
 have Na0b0 := lH (show w.heap.size ≠ w2.heap.size from Nat.ne_of_lt (Nat.lt_of_lt_of_le Xa0.out.lt (by omega)))
 have Gb0 := lH (show w.heap.size ≤ w2.heap.size from tL_ HB.out.size (by omega))
 have Xa0 := lH (xP hb Xa0.out)
 have Xb0 := lH xb0
 have HB := lH (bC HB.out hb)
 clear hk hb xb0
 go_ret
 exact ⟨_, rfl, rfl, HB.out⟩
theorem rv_b1 {L : Nat} {q : Rat} {xs ys : List Nat} {ba : Bool} {sa ta : Option Addr} {na ca ma ea : Nat}  {w : World} (he1 : (ba == decide (q < 0)) = true) (he2 : (na == (limbs q.num.natAbs).length) = false) (hd0 : ((ma : Int) == 0) = false) (hxa : Sl w (.slice sa na ca) xs) (hya : Sl w (.slice ta ma ea) ys) (ha : AR q L w (.agg #[.bool ba, .slice sa na ca, .slice ta ma ea])) (hL : L ≤ 100000000) :
  Calls Tryz.prog 111 #[.agg #[.bool ba, .slice sa na ca, .slice ta ma ea]] w (Ret w (Val (.bool false))) := by
 have Ha := lH ha
 have Hxa := lH hxa
 have Hya := lH hya
 have He1 := lH he1
 have He2 := lH he2
 clear ha hxa hya he1 he2
 go_enter Tryz.func111, Tryz.ntmps111
 have HB := lH (bR_ w.heap.size w)
 go_wp2_with fail
 obtain ⟨W1, hW⟩ : ∃ W1, W1 = (World.alloc w (.cells #[.bool ba, .slice sa na ca, .slice ta ma ea] 37)) := ⟨_, rfl⟩
 rw [← hW]
 obtain ⟨xa0, hk, hb⟩ := boxes_1 _ _ _ hW
 clear hW
 have Ha := lH (AR.keep Ha.out hk)
 have Ga0 := lH (show w.heap.size ≤ w.heap.size from tL_ HB.out.size (by omega))
 have Xa0 := lH xa0
 have HB := lH (bC HB.out hb)
 clear hk hb xa0
 (first | (have hcall := canon_ar Ha.out (by omega); refine cM hcall ?_; clear hcall) | refine cM (canon_ar Ha.out (by omega)) ?_)
 rintro e w2 ⟨v2, rfl, hc, hb⟩
 obtain ⟨c_b, c_a, c_n, c_c, c_d, c_m, c_e, rfl⟩ := hc.litb
 have Xa0 := lH (xP hb Xa0.out)
 have HB := lH (bC HB.out hb)
 have Hc := lH hc
 clear hb hc
 have d1 : (ba == c_b) = true := by rw [Hc.out.negC]; exact He1.out
 have d2 : ((na : Int) == (c_n : Int)) = false := eqI Hc.out.numC.1.lenE He2.out
 obtain ⟨ca00, ca01, ca02, fa00, fa01, fa02⟩ := Xa0.out.c3
 have la0 := Xa0.out.lt
 go_wp2
 clear ca00 ca01 ca02 fa00 fa01 fa02 la0
 obtain ⟨W3, hW⟩ : ∃ W3, W3 = (World.alloc w2 (.cells #[.bool c_b, .slice c_a c_n c_c, .slice c_d c_m c_e] 37)) := ⟨_, rfl⟩
 rw [← hW]
 obtain ⟨xb0, hk, hb⟩ := boxes_1 _ _ _ hW
 clear hW
 have Na0b0 := lH (show w.heap.size ≠ w2.heap.size from Nat.ne_of_lt (Nat.lt_of_lt_of_le Xa0.out.lt (by omega)))
 have Gb0 := lH (show w.heap.size ≤ w2.heap.size from tL_ HB.out.size (by omega))
 have Xa0 := lH (xP hb Xa0.out)
 have Xb0 := lH xb0
 have HB := lH (bC HB.out hb)
 clear hk hb xb0
 go_ret
 exact ⟨_, rfl, rfl, HB.out⟩
theorem rv_b2 {L : Nat} {q : Rat} {xs ys : List Nat} {ba : Bool} {sa ta : Option Addr} {na ca ma ea : Nat}  {w : World} (he1 : (ba == decide (q < 0)) = true) (he2 : (na == (limbs q.num.natAbs).length) = true) (he3 : (ma == (limbs (dn q)).length) = false) (hd0 : ((ma : Int) == 0) = false) (hxa : Sl w (.slice sa na ca) xs) (hya : Sl w (.slice ta ma ea) ys) (ha : AR q L w (.agg #[.bool ba, .slice sa na ca, .slice ta ma ea])) (hL : L ≤ 100000000) :
  Calls Tryz.prog 111 #[.agg #[.bool ba, .slice sa na ca, .slice ta ma ea]] w (Ret w (Val (.bool false))) := by
 have Ha := lH ha
 have Hxa := lH hxa
 have Hya := lH hya
 have He1 := lH he1
 have He2 := lH he2
 have He3 := lH he3
 clear ha hxa hya he1 he2 he3
 go_enter Tryz.func111, Tryz.ntmps111
 have HB := lH (bR_ w.heap.size w)
 go_wp2_with fail
 obtain ⟨W1, hW⟩ : ∃ W1, W1 = (World.alloc w (.cells #[.bool ba, .slice sa na ca, .slice ta ma ea] 37)) := ⟨_, rfl⟩
 rw [← hW]
 obtain ⟨xa0, hk, hb⟩ := boxes_1 _ _ _ hW
 clear hW
 have Ha := lH (AR.keep Ha.out hk)
 have Ga0 := lH (show w.heap.size ≤ w.heap.size from tL_ HB.out.size (by omega))
 have Xa0 := lH xa0
 have HB := lH (bC HB.out hb)
 clear hk hb xa0
 (first | (have hcall := canon_ar Ha.out (by omega); refine cM hcall ?_; clear hcall) | refine cM (canon_ar Ha.out (by omega)) ?_)
 rintro e w2 ⟨v2, rfl, hc, hb⟩
 obtain ⟨c_b, c_a, c_n, c_c, c_d, c_m, c_e, rfl⟩ := hc.litb
 have Xa0 := lH (xP hb Xa0.out)
 have HB := lH (bC HB.out hb)
 have Hc := lH hc
 clear hb hc
 have d1 : (ba == c_b) = true := by rw [Hc.out.negC]; exact He1.out
 have d2 : ((na : Int) == (c_n : Int)) = true := eqI Hc.out.numC.1.lenE He2.out
 have d3 : ((ma : Int) == (c_m : Int)) = false := eqI Hc.out.denC.1.lenE He3.out
 obtain ⟨ca00, ca01, ca02, fa00, fa01, fa02⟩ := Xa0.out.c3
 have la0 := Xa0.out.lt
 go_wp2
 clear ca00 ca01 ca02 fa00 fa01 fa02 la0
 obtain ⟨W3, hW⟩ : ∃ W3, W3 = (World.alloc w2 (.cells #[.bool c_b, .slice c_a c_n c_c, .slice c_d c_m c_e] 37)) := ⟨_, rfl⟩
 rw [← hW]
 obtain ⟨xb0, hk, hb⟩ := boxes_1 _ _ _ hW
 clear hW
 have Na0b0 := lH (show w.heap.size ≠ w2.heap.size from Nat.ne_of_lt (Nat.lt_of_lt_of_le Xa0.out.lt (by omega)))
 have Gb0 := lH (show w.heap.size ≤ w2.heap.size from tL_ HB.out.size (by omega))
 have Xa0 := lH (xP hb Xa0.out)
 have Xb0 := lH xb0
 have HB := lH (bC HB.out hb)
 clear hk hb xb0
 go_ret
 exact ⟨_, rfl, rfl, HB.out⟩
theorem rv_b3 {L : Nat} {q : Rat} {xs ys : List Nat} {ba : Bool} {sa ta : Option Addr} {na ca ma ea : Nat}  {w : World} (he1 : (ba == decide (q < 0)) = true) (he2 : (na == (limbs q.num.natAbs).length) = true) (he3 : (ma == (limbs (dn q)).length) = true) (k : Int) (hk : cmpN (val xs) q.num.natAbs = k) (hk0 : (k == 0) = false) (hd0 : ((ma : Int) == 0) = false) (hxa : Sl w (.slice sa na ca) xs) (hya : Sl w (.slice ta ma ea) ys) (ha : AR q L w (.agg #[.bool ba, .slice sa na ca, .slice ta ma ea])) (hL : L ≤ 100000000) :
  Calls Tryz.prog 111 #[.agg #[.bool ba, .slice sa na ca, .slice ta ma ea]] w (Ret w (Val (.bool false))) := by
 have Ha := lH ha
 have Hxa := lH hxa
 have Hya := lH hya
 have He1 := lH he1
 have He2 := lH he2
 have He3 := lH he3
 have Hk := lH hk
 clear ha hxa hya he1 he2 he3 hk
 go_enter Tryz.func111, Tryz.ntmps111
 have HB := lH (bR_ w.heap.size w)
 go_wp2_with fail
 obtain ⟨W1, hW⟩ : ∃ W1, W1 = (World.alloc w (.cells #[.bool ba, .slice sa na ca, .slice ta ma ea] 37)) := ⟨_, rfl⟩
 rw [← hW]
 obtain ⟨xa0, hk, hb⟩ := boxes_1 _ _ _ hW
 clear hW
 have Ha := lH (AR.keep Ha.out hk)
 have Hxa := lH (Sl.keep Hxa.out hk)
 have Ga0 := lH (show w.heap.size ≤ w.heap.size from tL_ HB.out.size (by omega))
 have Xa0 := lH xa0
 have HB := lH (bC HB.out hb)
 clear hk hb xa0
 (first | (have hcall := canon_ar Ha.out (by omega); refine cM hcall ?_; clear hcall) | refine cM (canon_ar Ha.out (by omega)) ?_)
 rintro e w2 ⟨v2, rfl, hc, hb⟩
 obtain ⟨c_b, c_a, c_n, c_c, c_d, c_m, c_e, rfl⟩ := hc.litb
 have Hxa := lH (Sl.keep Hxa.out (kC hb))
 have Xa0 := lH (xP hb Xa0.out)
 have HB := lH (bC HB.out hb)
 have Hc := lH hc
 clear hb hc
 have d1 : (ba == c_b) = true := by rw [Hc.out.negC]; exact He1.out
 have d2 : ((na : Int) == (c_n : Int)) = true := eqI Hc.out.numC.1.lenE He2.out
 have d3 : ((ma : Int) == (c_m : Int)) = true := eqI Hc.out.denC.1.lenE He3.out
 obtain ⟨ca00, ca01, ca02, fa00, fa01, fa02⟩ := Xa0.out.c3
 have la0 := Xa0.out.lt
 go_wp2_with fail
 clear ca00 ca01 ca02 fa00 fa01 fa02 la0
 obtain ⟨W3, hW⟩ : ∃ W3, W3 = (World.alloc w2 (.cells #[.bool c_b, .slice c_a c_n c_c, .slice c_d c_m c_e] 37)) := ⟨_, rfl⟩
 rw [← hW]
 obtain ⟨xb0, hk, hb⟩ := boxes_1 _ _ _ hW
 clear hW
 have Hxa := lH (Sl.keep Hxa.out hk)
 have Hc := lH (CR.keep Hc.out hk)
 have Na0b0 := lH (show w.heap.size ≠ w2.heap.size from Nat.ne_of_lt (Nat.lt_of_lt_of_le Xa0.out.lt (by omega)))
 have Gb0 := lH (show w.heap.size ≤ w2.heap.size from tL_ HB.out.size (by omega))
 have Xa0 := lH (xP hb Xa0.out)
 have Xb0 := lH xb0
 have HB := lH (bC HB.out hb)
 clear hk hb xb0
 (first | (have hcall := cmp_slc k Hk.out Hxa.out Hc.out.numC; refine cM hcall ?_; clear hcall) | refine cM (cmp_slc k Hk.out Hxa.out Hc.out.numC) ?_)
 rintro e w4 ⟨v4, rfl, ⟨⟩, hb⟩
 have Xa0 := lH (xP hb Xa0.out)
 have Xb0 := lH (xP hb Xb0.out)
 have HB := lH (bC HB.out hb)
 clear hb
 obtain ⟨ca00, ca01, ca02, fa00, fa01, fa02⟩ := Xa0.out.c3
 have la0 := Xa0.out.lt
 obtain ⟨cb00, cb01, cb02, fb00, fb01, fb02⟩ := Xb0.out.c3
 have lb0 := Xb0.out.lt
 go_wp2
 clear ca00 ca01 ca02 fa00 fa01 fa02 la0 cb00 cb01 cb02 fb00 fb01 fb02 lb0
 go_ret
 exact ⟨_, rfl, rfl, HB.out⟩
theorem rv_b4 {L : Nat} {q : Rat} {xs ys : List Nat} {ba : Bool} {sa ta : Option Addr} {na ca ma ea : Nat}  {w : World} (he1 : (ba == decide (q < 0)) = true) (he2 : (na == (limbs q.num.natAbs).length) = true) (he3 : (ma == (limbs (dn q)).length) = true) (hk : cmpN (val xs) q.num.natAbs = 0) (m : Int) (hm : cmpN (val ys) (dn q) = m) (hm0 : (m == 0) = false) (hd0 : ((ma : Int) == 0) = false) (hxa : Sl w (.slice sa na ca) xs) (hya : Sl w (.slice ta ma ea) ys) (ha : AR q L w (.agg #[.bool ba, .slice sa na ca, .slice ta ma ea])) (hL : L ≤ 100000000) :
  Calls Tryz.prog 111 #[.agg #[.bool ba, .slice sa na ca, .slice ta ma ea]] w (Ret w (Val (.bool false))) := by
 have Ha := lH ha
 have Hxa := lH hxa
 have Hya := lH hya
 have He1 := lH he1
 have He2 := lH he2
 have He3 := lH he3
 have Hk := lH hk
 have Hm := lH hm
 clear ha hxa hya he1 he2 he3 hk hm
 go_enter Tryz.func111, Tryz.ntmps111
 have HB := lH (bR_ w.heap.size w)
 go_wp2_with fail
 obtain ⟨W1, hW⟩ : ∃ W1, W1 = (World.alloc w (.cells #[.bool ba, .slice sa na ca, .slice ta ma ea] 37)) := ⟨_, rfl⟩
 rw [← hW]
 obtain ⟨xa0, hk, hb⟩ := boxes_1 _ _ _ hW
 clear hW
 have Ha := lH (AR.keep Ha.out hk)
 have Hxa := lH (Sl.keep Hxa.out hk)
 have Hya := lH (Sl.keep Hya.out hk)
 have Ga0 := lH (show w.heap.size ≤ w.heap.size from tL_ HB.out.size (by omega))
 have Xa0 := lH xa0
 have HB := lH (bC HB.out hb)
 clear hk hb xa0
 (first | (have hcall := canon_ar Ha.out (by omega); refine cM hcall ?_; clear hcall) | refine cM (canon_ar Ha.out (by omega)) ?_)
 rintro e w2 ⟨v2, rfl, hc, hb⟩
 obtain ⟨c_b, c_a, c_n, c_c, c_d, c_m, c_e, rfl⟩ := hc.litb
 have Hxa := lH (Sl.keep Hxa.out (kC hb))
 have Hya := lH (Sl.keep Hya.out (kC hb))
 have Xa0 := lH (xP hb Xa0.out)
 have HB := lH (bC HB.out hb)
 have Hc := lH hc
 clear hb hc
 have d1 : (ba == c_b) = true := by rw [Hc.out.negC]; exact He1.out
 have d2 : ((na : Int) == (c_n : Int)) = true := eqI Hc.out.numC.1.lenE He2.out
 have d3 : ((ma : Int) == (c_m : Int)) = true := eqI Hc.out.denC.1.lenE He3.out
 obtain ⟨ca00, ca01, ca02, fa00, fa01, fa02⟩ := Xa0.out.c3
 have la0 := Xa0.out.lt
 go_wp2_with fail
 clear ca00 ca01 ca02 fa00 fa01 fa02 la0
 obtain ⟨W3, hW⟩ : ∃ W3, W3 = (World.alloc w2 (.cells #[.bool c_b, .slice c_a c_n c_c, .slice c_d c_m c_e] 37)) := ⟨_, rfl⟩
 rw [← hW]
 obtain ⟨xb0, hk, hb⟩ := boxes_1 _ _ _ hW
 clear hW
 have Hxa := lH (Sl.keep Hxa.out hk)
 have Hya := lH (Sl.keep Hya.out hk)
 have Hc := lH (CR.keep Hc.out hk)
 have Na0b0 := lH (show w.heap.size ≠ w2.heap.size from Nat.ne_of_lt (Nat.lt_of_lt_of_le Xa0.out.lt (by omega)))
 have Gb0 := lH (show w.heap.size ≤ w2.heap.size from tL_ HB.out.size (by omega))
 have Xa0 := lH (xP hb Xa0.out)
 have Xb0 := lH xb0
 have HB := lH (bC HB.out hb)
 clear hk hb xb0
 (first | (have hcall := cmp_slc 0 Hk.out Hxa.out Hc.out.numC; refine cM hcall ?_; clear hcall) | refine cM (cmp_slc 0 Hk.out Hxa.out Hc.out.numC) ?_)
 rintro e w4 ⟨v4, rfl, rfl, hb⟩
 have Hya := lH (Sl.keep Hya.out (kC hb))
 have Hc := lH (CR.keep Hc.out (kC hb))
 have Xa0 := lH (xP hb Xa0.out)
 have Xb0 := lH (xP hb Xb0.out)
 have HB := lH (bC HB.out hb)
 clear hb
 obtain ⟨ca00, ca01, ca02, fa00, fa01, fa02⟩ := Xa0.out.c3
 have la0 := Xa0.out.lt
 obtain ⟨cb00, cb01, cb02, fb00, fb01, fb02⟩ := Xb0.out.c3
 have lb0 := Xb0.out.lt
 go_wp2_with fail
 clear ca00 ca01 ca02 fa00 fa01 fa02 la0 cb00 cb01 cb02 fb00 fb01 fb02 lb0
 (first | (have hcall := cmp_slc m Hm.out Hya.out Hc.out.denC; refine cM hcall ?_; clear hcall) | refine cM (cmp_slc m Hm.out Hya.out Hc.out.denC) ?_)
 rintro e w5 ⟨v5, rfl, ⟨⟩, hb⟩
 have Xa0 := lH (xP hb Xa0.out)
 have Xb0 := lH (xP hb Xb0.out)
 have HB := lH (bC HB.out hb)
 clear hb
 obtain ⟨ca00, ca01, ca02, fa00, fa01, fa02⟩ := Xa0.out.c3
 have la0 := Xa0.out.lt
 obtain ⟨cb00, cb01, cb02, fb00, fb01, fb02⟩ := Xb0.out.c3
 have lb0 := Xb0.out.lt
 go_wp2
 clear ca00 ca01 ca02 fa00 fa01 fa02 la0 cb00 cb01 cb02 fb00 fb01 fb02 lb0
 go_ret
 exact ⟨_, rfl, rfl, HB.out⟩
theorem rv_b5 {L : Nat} {q : Rat} {xs ys : List Nat} {ba : Bool} {sa ta : Option Addr} {na ca ma ea : Nat}  {w : World} (he1 : (ba == decide (q < 0)) = true) (he2 : (na == (limbs q.num.natAbs).length) = true) (he3 : (ma == (limbs (dn q)).length) = true) (hk : cmpN (val xs) q.num.natAbs = 0) (hm : cmpN (val ys) (dn q) = 0) (hd0 : ((ma : Int) == 0) = false) (hxa : Sl w (.slice sa na ca) xs) (hya : Sl w (.slice ta ma ea) ys) (ha : AR q L w (.agg #[.bool ba, .slice sa na ca, .slice ta ma ea])) (hL : L ≤ 100000000) :
  Calls Tryz.prog 111 #[.agg #[.bool ba, .slice sa na ca, .slice ta ma ea]] w (Ret w (Val (.bool true))) := by
 have Ha := lH ha
 have Hxa := lH hxa
 have Hya := lH hya
 have He1 := lH he1
 have He2 := lH he2
 have He3 := lH he3
 have Hk := lH hk
 have Hm := lH hm
 clear ha hxa hya he1 he2 he3 hk hm
 go_enter Tryz.func111, Tryz.ntmps111
 have HB := lH (bR_ w.heap.size w)
 go_wp2_with fail
 obtain ⟨W1, hW⟩ : ∃ W1, W1 = (World.alloc w (.cells #[.bool ba, .slice sa na ca, .slice ta ma ea] 37)) := ⟨_, rfl⟩
 rw [← hW]
 obtain ⟨xa0, hk, hb⟩ := boxes_1 _ _ _ hW
 clear hW
 have Ha := lH (AR.keep Ha.out hk)
 have Hxa := lH (Sl.keep Hxa.out hk)
 have Hya := lH (Sl.keep Hya.out hk)
 have Ga0 := lH (show w.heap.size ≤ w.heap.size from tL_ HB.out.size (by omega))
 have Xa0 := lH xa0
 have HB := lH (bC HB.out hb)
 clear hk hb xa0
 (first | (have hcall := canon_ar Ha.out (by omega); refine cM hcall ?_; clear hcall) | refine cM (canon_ar Ha.out (by omega)) ?_)
 rintro e w2 ⟨v2, rfl, hc, hb⟩
 obtain ⟨c_b, c_a, c_n, c_c, c_d, c_m, c_e, rfl⟩ := hc.litb
 have Hxa := lH (Sl.keep Hxa.out (kC hb))
 have Hya := lH (Sl.keep Hya.out (kC hb))
 have Xa0 := lH (xP hb Xa0.out)
 have HB := lH (bC HB.out hb)
 have Hc := lH hc
 clear hb hc
 have d1 : (ba == c_b) = true := by rw [Hc.out.negC]; exact He1.out
 have d2 : ((na : Int) == (c_n : Int)) = true := eqI Hc.out.numC.1.lenE He2.out
 have d3 : ((ma : Int) == (c_m : Int)) = true := eqI Hc.out.denC.1.lenE He3.out
 obtain ⟨ca00, ca01, ca02, fa00, fa01, fa02⟩ := Xa0.out.c3
 have la0 := Xa0.out.lt
 go_wp2_with fail
 clear ca00 ca01 ca02 fa00 fa01 fa02 la0
 obtain ⟨W3, hW⟩ : ∃ W3, W3 = (World.alloc w2 (.cells #[.bool c_b, .slice c_a c_n c_c, .slice c_d c_m c_e] 37)) := ⟨_, rfl⟩
 rw [← hW]
 obtain ⟨xb0, hk, hb⟩ := boxes_1 _ _ _ hW
 clear hW
 have Hxa := lH (Sl.keep Hxa.out hk)
 have Hya := lH (Sl.keep Hya.out hk)
 have Hc := lH (CR.keep Hc.out hk)
 have Na0b0 := lH (show w.heap.size ≠ w2.heap.size from Nat.ne_of_lt (Nat.lt_of_lt_of_le Xa0.out.lt (by omega)))
 have Gb0 := lH (show w.heap.size ≤ w2.heap.size from tL_ HB.out.size (by omega))
 have Xa0 := lH (xP hb Xa0.out)
 have Xb0 := lH xb0
 have HB := lH (bC HB.out hb)
 clear hk hb xb0
 (first | (have hcall := cmp_slc 0 Hk.out Hxa.out Hc.out.numC; refine cM hcall ?_; clear hcall) | refine cM (cmp_slc 0 Hk.out Hxa.out Hc.out.numC) ?_)
 rintro e w4 ⟨v4, rfl, rfl, hb⟩
 have Hya := lH (Sl.keep Hya.out (kC hb))
 have Hc := lH (CR.keep Hc.out (kC hb))
 have Xa0 := lH (xP hb Xa0.out)
 have Xb0 := lH (xP hb Xb0.out)
 have HB := lH (bC HB.out hb)
 clear hb
 obtain ⟨ca00, ca01, ca02, fa00, fa01, fa02⟩ := Xa0.out.c3
 have la0 := Xa0.out.lt
 obtain ⟨cb00, cb01, cb02, fb00, fb01, fb02⟩ := Xb0.out.c3
 have lb0 := Xb0.out.lt
 go_wp2_with fail
 clear ca00 ca01 ca02 fa00 fa01 fa02 la0 cb00 cb01 cb02 fb00 fb01 fb02 lb0
 (first | (have hcall := cmp_slc 0 Hm.out Hya.out Hc.out.denC; refine cM hcall ?_; clear hcall) | refine cM (cmp_slc 0 Hm.out Hya.out Hc.out.denC) ?_)
 rintro e w5 ⟨v5, rfl, rfl, hb⟩
 have Xa0 := lH (xP hb Xa0.out)
 have Xb0 := lH (xP hb Xb0.out)
 have HB := lH (bC HB.out hb)
 clear hb
 obtain ⟨ca00, ca01, ca02, fa00, fa01, fa02⟩ := Xa0.out.c3
 have la0 := Xa0.out.lt
 obtain ⟨cb00, cb01, cb02, fb00, fb01, fb02⟩ := Xb0.out.c3
 have lb0 := Xb0.out.lt
 go_wp2
 clear ca00 ca01 ca02 fa00 fa01 fa02 la0 cb00 cb01 cb02 fb00 fb01 fb02 lb0
 go_ret
 exact ⟨_, rfl, rfl, HB.out⟩
theorem rvalid_v {B ba : Bool} {sa ta : Option Addr} {na ca ma ea : Nat} {xs ys : List Nat} {L : Nat} {w : World} (hB : vB ba xs ys (rv ba (val xs) (val ys)) = B) (h : Sl w (.slice sa na ca) xs) (h' : Sl w (.slice ta ma ea) ys) (hl : xs.length ≤ L) (hl' : ys.length ≤ L) (hL : L ≤ 100000000) :
  Calls Tryz.prog 111 #[.agg #[.bool ba, .slice sa na ca, .slice ta ma ea]] w (Ret w (Val (.bool B))) := by
 have n1 := h.lenE
 have n2 := h'.lenE
 have ha : AR (rv ba (val xs) (val ys)) L w (.agg #[.bool ba, .slice sa na ca, .slice ta ma ea]) := AR.mk ⟨xs, h, rfl, hl⟩ ⟨ys, h', rfl, hl'⟩
 subst hB
 rcases eP_ ma with hm | hm
 ·
  have hy : ys = [] := List.length_eq_zero_iff.1 (by omega)
  subst hy
  have hd : ((ma : Int) == 0) = true := by simp [hm]
  rw [show val [] = 0 from rfl, vB_nil h.lims, ← n1]
  cases hc : canon xs
  ·
   exact rv_a1 hc hd h
  ·
   cases ba
   ·
    exact rv_a2 hc hd h
   ·
    cases hn : decide (0 < na)
    ·
     exact rv_a3f hc hn hd h
    ·
     exact rv_a3t hc hn hd h
 ·
  have hd : ((ma : Int) == 0) = false := by rw [beq_eq_false_iff_ne]; omega
  generalize rv ba (val xs) (val ys) = q at *
  unfold vB
  rw [same_parts h.lims, same_parts h'.lims, ← n1, ← n2]
  cases e1 : (ba == decide (q < 0))
  ·
   exact rv_b0 e1 hd h h' ha hL
  cases e2 : (na == (limbs q.num.natAbs).length)
  ·
   exact rv_b1 e1 e2 hd h h' ha hL
  cases e3 : (ma == (limbs (dn q)).length)
  ·
   have : ∀ x, (true && (true && x) && (false && (cmpN (val ys) (dn q) == 0))) = false := by intro x; cases x <;> rfl
   rw [this]
   exact rv_b2 e1 e2 e3 hd h h' ha hL
  by_cases k : cmpN (val xs) q.num.natAbs = 0
  ·
   by_cases m : cmpN (val ys) (dn q) = 0
   ·
    rw [k, m]; exact rv_b5 e1 e2 e3 k m hd h h' ha hL
   ·
    rw [k, show (cmpN (val ys) (dn q) == 0) = false from beq_eq_false_iff_ne.2 m]; exact rv_b4 e1 e2 e3 k _ rfl (beq_eq_false_iff_ne.2 m) hd h h' ha hL
  ·
   rw [show (cmpN (val xs) q.num.natAbs == 0) = false from beq_eq_false_iff_ne.2 k]; exact rv_b3 e1 e2 e3 _ rfl (beq_eq_false_iff_ne.2 k) hd h h' ha hL
end Go.Proofs.YtikglhmabidjoaaGreat
namespace Go.Proofs.YtikglhmabidjoaaGreat.Lf
open Go.RowKit Nt
abbrev rawV (b : Bool) (xs ys : List Nat) : V := .agg [.d (.lit (.bool b)), .d (.lm xs), .d (.lm ys)]
abbrev ratV (q : Rat) : V := rawV (decide (q < 0)) (limbs q.num.natAbs) (limbs (dn q))
def RQ (x : V) (q : Rat) : Prop := ∃ b xs ys, WkV x (rawV b xs ys) ∧ rv b (val xs) (val ys) = q ∧ xs.length ≤ 100000000 ∧ ys.length ≤ 100000000
def Bt (k : Nat) (q : Rat) : Prop := q.num.natAbs ≤ 2 ^ k ∧ q.den ≤ 2 ^ k
theorem sz_pow2 {n k : Nat} (h : n ≤ 2 ^ k) : sz n ≤ k / 32 + 1 := by
 refine sz_le (Nat.lt_of_le_of_lt h ?_)
 rw [show 4294967296 = 2 ^ 32 from rfl, ← Nat.pow_mul]
 exact Nat.pow_lt_pow_right (by decide) (by omega)
theorem Bt.sm {k : Nat} {q : Rat} (h : Bt k q) (hk : k ≤ 3000000000) : Sm 100000000 q := ⟨tL_ (sz_pow2 h.1) (by omega), tL_ (sz_pow2 h.2) (by omega)⟩
theorem RQ.can {k : Nat} {q : Rat} (h : Bt k q) (hk : k ≤ 3000000000) : RQ (ratV q) q := by
 refine ⟨_, _, _, vR_ _, ?_, (h.sm hk).1, (h.sm hk).dn⟩
 rw [val_limbs, val_limbs]; exact rv_self q
theorem RQ.raw {b : Bool} {xs ys : List Nat} {q : Rat} (h : rv b (val xs) (val ys) = q) (h1 : xs.length ≤ 100000000) (h2 : ys.length ≤ 100000000) : RQ (rawV b xs ys) q := ⟨_, _, _, vR_ _, h, h1, h2⟩
theorem rv_zero : rv false (val []) (val []) = 0 := by decide
theorem RQ.abs {k : Nat} {q : Rat} (h : Bt k q) (hk : k ≤ 3000000000) : RQ (rawV false (limbs q.num.natAbs) (limbs (dn q))) (mkRat q.num.natAbs q.den) := by
 refine .raw ?_ (h.sm hk).1 (h.sm hk).dn
 rw [val_limbs, val_limbs]
 unfold rv
 rw [un_dn]
 rfl
section
variable {γ : Gh} {h : Hp} {M : MS} {w : World} {x y z : V} {a b : Rat} {u v r : Value}
theorem rdV_raw {b : Bool} {xs ys : List Nat} (k : RdV γ h M w (rawV b xs ys) r) : ∃ s t, r = .agg #[.bool b, s, t] ∧ Sl w s xs ∧ Sl w t ys := by
 obtain ⟨vs, rfl, h1⟩ := k
 match vs, h1 with
 | [p, s, t], h1 => exact ⟨s, t, by rw [show p = .bool b from lit_inv h1.1], rd_sl h1.2.1, rd_sl h1.2.2.1⟩
 | [], h1 => exact h1.elim
 | [_], h1 => exact h1.2.elim
 | [_, _], h1 => exact h1.2.2.elim
 | _ :: _ :: _ :: _ :: _, h1 => exact h1.2.2.2.elim
theorem RQ.ar (hx : RQ x a) (k : RdV γ h M w x r) : AR a 100000000 w r := by
 obtain ⟨b, xs, ys, h1, h2, h3, h4⟩ := hx
 obtain ⟨s, t, rfl, k1, k2⟩ := rdV_raw (h1 _ _ _ _ _ k)
 exact ⟨b, s, t, _, _, rfl, ⟨xs, k1, rfl, h3⟩, ⟨ys, k2, rfl, h4⟩, h2⟩
theorem CR.ov {L : Nat} (k : CR a L w r) : OV w (ratV a) r := by
 obtain ⟨⟨s, t, rfl, h1, h2⟩, _⟩ := k
 exact ⟨[_, s, t], rfl, rfl, h1, h2, trivial⟩
theorem Val.ov {u : Value} (k : Val u w r) : OV w (vl u) r := k
theorem CRE.ov {L : Nat} {e : Int} (k : CRE a L e w r) : OV w (.tup [.g [.d (.lit (.bool (decide (a < 0)))), .d (.lm (limbs a.num.natAbs)), .d (.lm (limbs (dn a)))], .s (.d (.lit (.int .i64 e)))]) r := by
 obtain ⟨v, rfl, k⟩ := k
 exact ⟨[v, _], rfl, CR.ov k, rfl, trivial⟩
theorem all2_1 {R : V → Value → Prop} {rs : List Value} (k : All2 R [x] rs) : ∃ r, rs = [r] ∧ R x r := by
 match rs, k with
 | [r], k => exact ⟨r, rfl, k.1⟩
 | [], k => exact k.elim
 | _ :: _ :: _, k => exact k.2.elim
theorem all2_2 {R : V → Value → Prop} {rs : List Value} (k : All2 R [x, y] rs) : ∃ r s, rs = [r, s] ∧ R x r ∧ R y s := by
 match rs, k with
 | [r, s], k => exact ⟨r, s, rfl, k.1, k.2.1⟩
 | [], k => exact k.elim
 | [_], k => exact k.2.elim
 | _ :: _ :: _ :: _, k => exact k.2.2.elim
end
theorem mix : Tryz.prog.follows .mixedOrders = true := by rfl
theorem Calls.ret {P : Program} {f : FuncId} {args : Array Value} {w : World} {R R' : World → Value → Prop} (h : Calls P f args w (Ret w R)) (k : ∀ w' v, R w' v → R' w' v) : Calls P f args w (Ret w R') :=
 cM h fun e w' ⟨v, h1, h2, h3⟩ => ⟨v, h1, k _ _ h2, h3⟩
section
variable {x y : V} {a b : Rat}
theorem lx_rneg (hx : RQ x a) : LV Tryz.prog 91 [x] (ratV (-a)) := lv_of fun γ M w rs ha => by
 obtain ⟨r, rfl, k⟩ := all2_1 ha
 exact Calls.ret (rneg_ar (hx.ar k) (lR_ _)) fun _ _ => CR.ov
theorem lx_rcanon (hx : RQ x a) : LV Tryz.prog 67 [x] (ratV a) := lv_of fun γ M w rs ha => by
 obtain ⟨r, rfl, k⟩ := all2_1 ha
 exact Calls.ret (canon_ar (hx.ar k) (lR_ _)) fun _ _ => CR.ov
theorem lx_rsign (hx : RQ x a) : LV Tryz.prog 69 [x] (vl (.int .i64 a.num.sign)) := lv_of fun γ M w rs ha => by
 obtain ⟨r, rfl, k⟩ := all2_1 ha
 exact Calls.ret (rsign_ar _ (hx.ar k) rfl (lR_ _)) fun _ _ => Val.ov
theorem lx_radd (hx : RQ x a) (hy : RQ y b) : LV Tryz.prog 86 [x, y] (ratV (a + b)) := lv_of fun γ M w rs ha => by
 obtain ⟨r, s, rfl, k, k2⟩ := all2_2 ha
 exact Calls.ret (radd_ar (hx.ar k) (hy.ar k2) (lR_ _) (lR_ _)) fun _ _ => CR.ov
theorem lx_rsub (hx : RQ x a) (hy : RQ y b) : LV Tryz.prog 84 [x, y] (ratV (a - b)) := lv_of fun γ M w rs ha => by
 obtain ⟨r, s, rfl, k, k2⟩ := all2_2 ha
 exact Calls.ret (rsub_ar (hx.ar k) (hy.ar k2) (lR_ _) (lR_ _)) fun _ _ => CR.ov
theorem lx_rmul (hx : RQ x a) (hy : RQ y b) : LV Tryz.prog 134 [x, y] (ratV (a * b)) := lv_of fun γ M w rs ha => by
 obtain ⟨r, s, rfl, k, k2⟩ := all2_2 ha
 exact Calls.ret (rmul_ar (hx.ar k) (hy.ar k2) (lR_ _) (lR_ _)) fun _ _ => CR.ov
theorem lx_rmin (hx : RQ x a) (hy : RQ y b) : LV Tryz.prog 33 [x, y] (ratV (if a ≤ b then a else b)) := lv_of fun γ M w rs ha => by
 obtain ⟨r, s, rfl, k, k2⟩ := all2_2 ha
 exact Calls.ret (rmin_ar (hx.ar k) (hy.ar k2) (lR_ _) (lR_ _)) fun _ _ => CR.ov
theorem lx_rmax (hx : RQ x a) (hy : RQ y b) : LV Tryz.prog 32 [x, y] (ratV (if b ≤ a then a else b)) := lv_of fun γ M w rs ha => by
 obtain ⟨r, s, rfl, k, k2⟩ := all2_2 ha
 exact Calls.ret (rmax_ar (hx.ar k) (hy.ar k2) (lR_ _) (lR_ _)) fun _ _ => CR.ov
theorem lx_rcmp (hx : RQ x a) (hy : RQ y b) : LV Tryz.prog 36 [x, y] (vl (.int .i64 (cmpQ a b))) := lv_of fun γ M w rs ha => by
 obtain ⟨r, s, rfl, k, k2⟩ := all2_2 ha
 exact Calls.ret (rcmp_ar _ (hx.ar k) (hy.ar k2) rfl (lR_ _) (lR_ _)) fun _ _ => Val.ov
theorem lx_zneg (hx : RQ x a) : LV Tryz.prog 105 [x] (ratV (-a)) := lv_of fun γ M w rs ha => by
 obtain ⟨r, rfl, k⟩ := all2_1 ha
 exact Calls.ret (zneg_ar (hx.ar k) (lR_ _)) fun _ _ => CR.ov
theorem lx_zcanon (hx : RQ x a) : LV Tryz.prog 39 [x] (ratV a) := lv_of fun γ M w rs ha => by
 obtain ⟨r, rfl, k⟩ := all2_1 ha
 exact Calls.ret (zcanon_ar (hx.ar k) (lR_ _)) fun _ _ => CR.ov
theorem lx_zsign (hx : RQ x a) : LV Tryz.prog 75 [x] (vl (.int .i64 a.num.sign)) := lv_of fun γ M w rs ha => by
 obtain ⟨r, rfl, k⟩ := all2_1 ha
 exact Calls.ret (zsign_ar _ (hx.ar k) rfl) fun _ _ => Val.ov
theorem lx_zadd (hx : RQ x a) (hy : RQ y b) : LV Tryz.prog 95 [x, y] (ratV (a + b)) := lv_of fun γ M w rs ha => by
 obtain ⟨r, s, rfl, k, k2⟩ := all2_2 ha
 exact Calls.ret (zadd_ar (hx.ar k) (hy.ar k2) (lR_ _) (lR_ _)) fun _ _ => CR.ov
theorem lx_zsub (hx : RQ x a) (hy : RQ y b) : LV Tryz.prog 76 [x, y] (ratV (a - b)) := lv_of fun γ M w rs ha => by
 obtain ⟨r, s, rfl, k, k2⟩ := all2_2 ha
 exact Calls.ret (zsub_ar (hx.ar k) (hy.ar k2) (lR_ _) (lR_ _)) fun _ _ => CR.ov
theorem lx_zmul (hx : RQ x a) (hy : RQ y b) : LV Tryz.prog 94 [x, y] (ratV (a * b)) := lv_of fun γ M w rs ha => by
 obtain ⟨r, s, rfl, k, k2⟩ := all2_2 ha
 exact Calls.ret (zmul_ar (hx.ar k) (hy.ar k2) (lR_ _) (lR_ _)) fun _ _ => CR.ov
theorem lx_zmax (hx : RQ x a) (hy : RQ y b) : LV Tryz.prog 137 [x, y] (ratV (if b ≤ a then a else b)) := lv_of fun γ M w rs ha => by
 obtain ⟨r, s, rfl, k, k2⟩ := all2_2 ha
 exact Calls.ret (zmax_ar (hx.ar k) (hy.ar k2) (lR_ _) (lR_ _)) fun _ _ => CR.ov
theorem lx_zcmp (hx : RQ x a) (hy : RQ y b) : LV Tryz.prog 38 [x, y] (vl (.int .i64 (cmpQ a b))) := lv_of fun γ M w rs ha => by
 obtain ⟨r, s, rfl, k, k2⟩ := all2_2 ha
 exact Calls.ret (zcmp_ar _ (hx.ar k) (hy.ar k2) rfl (lR_ _) (lR_ _)) fun _ _ => Val.ov
theorem lx_rof {z : Int} (h1 : -9223372036854775808 ≤ z) (h2 : z < 9223372036854775808) : LV Tryz.prog 87 [vl (.int .i64 z)] (ratV (z : Rat)) := lv_of fun γ M w rs ha => by
 obtain ⟨r, rfl, k⟩ := all2_1 ha
 rw [show r = .int .i64 z from lit_inv k]
 exact Calls.ret (of_rat h1 h2) fun _ _ => CR.ov
theorem lx_zof {z : Int} (h1 : -9223372036854775808 ≤ z) (h2 : z < 9223372036854775808) : LV Tryz.prog 19 [vl (.int .i64 z)] (ratV (z : Rat)) := lv_of fun γ M w rs ha => by
 obtain ⟨r, rfl, k⟩ := all2_1 ha
 rw [show r = .int .i64 z from lit_inv k]
 exact Calls.ret (zof h1 h2) fun _ _ => CR.ov
theorem lx_zfrac {y z : Int} (h1 : -9223372036854775808 ≤ y) (h2 : y < 9223372036854775808) (h3 : -9223372036854775808 ≤ z) (h4 : z < 9223372036854775808) (hz : z ≠ 0) :
  LV Tryz.prog 20 [vl (.int .i64 y), vl (.int .i64 z)] (.tup [.g [.d (.lit (.bool (decide ((y : Rat) / z < 0)))), .d (.lm (limbs ((y : Rat) / z).num.natAbs)), .d (.lm (limbs (dn ((y : Rat) / z))))], .s (.d (.lit (.int .i64 0)))]) := lv_of fun γ M w rs ha => by
 obtain ⟨r, s, rfl, k, k'⟩ := all2_2 ha
 rw [show r = .int .i64 y from lit_inv k, show s = .int .i64 z from lit_inv k']
 exact Calls.ret (zfrac_1 h1 h2 h3 h4 hz) fun _ _ => CRE.ov
theorem lx_rdiv (h0 : b ≠ 0) (hx : RQ x a) (hy : RQ y b) : LV Tryz.prog 85 [x, y] (.tup [.g [.d (.lit (.bool (decide (a / b < 0)))), .d (.lm (limbs (a / b).num.natAbs)), .d (.lm (limbs (dn (a / b))))], .s (.d (.lit (.int .i64 0)))]) := lv_of fun γ M w rs ha => by
 obtain ⟨r, s, rfl, k, k'⟩ := all2_2 ha
 exact Calls.ret (rdiv_ar h0 (hx.ar k) (hy.ar k') (lR_ _) (lR_ _)) fun _ _ => CRE.ov
theorem lx_zdiv (h0 : b ≠ 0) (hx : RQ x a) (hy : RQ y b) : LV Tryz.prog 125 [x, y] (.tup [.g [.d (.lit (.bool (decide (a / b < 0)))), .d (.lm (limbs (a / b).num.natAbs)), .d (.lm (limbs (dn (a / b))))], .s (.d (.lit (.int .i64 0)))]) := lv_of fun γ M w rs ha => by
 obtain ⟨r, s, rfl, k, k'⟩ := all2_2 ha
 exact Calls.ret (zdiv_ar h0 (hx.ar k) (hy.ar k') (lR_ _) (lR_ _)) fun _ _ => CRE.ov
theorem lx_rvalid {c : Bool} {xs ys : List Nat} (h1 : xs.length ≤ 100000000) (h2 : ys.length ≤ 100000000) : LV Tryz.prog 111 [rawV c xs ys] (vl (.bool (vB c xs ys (rv c (val xs) (val ys))))) := lv_of fun γ M w rs ha => by
 obtain ⟨r, rfl, k⟩ := all2_1 ha
 obtain ⟨s, t, rfl, k1, k2⟩ := rdV_raw k
 obtain ⟨s1, s2, s3, rfl⟩ := k1.lit
 obtain ⟨t1, t2, t3, rfl⟩ := k2.lit
 exact Calls.ret (rvalid_v rfl k1 k2 h1 h2 (lR_ _)) fun _ _ => Val.ov
theorem lx_zvalid {c : Bool} {xs ys : List Nat} (h1 : xs.length ≤ 100000000) (h2 : ys.length ≤ 100000000) : LV Tryz.prog 40 [rawV c xs ys] (vl (.bool (vB c xs ys (rv c (val xs) (val ys))))) := lv_of fun γ M w rs ha => by
 obtain ⟨r, rfl, k⟩ := all2_1 ha
 obtain ⟨s, t, rfl, k1, k2⟩ := rdV_raw k
 have k3 := (RQ.raw (b := c) rfl h1 h2).ar k
 obtain ⟨s1, s2, s3, rfl⟩ := k1.lit
 obtain ⟨t1, t2, t3, rfl⟩ := k2.lit
 exact Calls.ret (zvalid_p rfl k1 k2 k3 (lR_ _)) fun _ _ => Val.ov
end
theorem Wk.go {m : Nat} {s s' : St} (h1 : subT s.T s'.H s'.T := by (repeat' first | exact trivial | exact vR_ _ | exact WkV.int (wr64 (by omega) (by omega)) | exact WkV.int (by simp) | refine ⟨⟨_, rfl, ?_, rfl⟩, ?_⟩))
  (h2 : subH s.H s'.H s'.H := by (repeat' first | exact trivial | exact wke_refl _ | refine ⟨⟨_, rfl, ?_, rfl⟩, ?_⟩)) (h3 : subM m s.H s'.H = true := by rfl) : Wk m s s' := Wk.of h1 h2 h3
def okF (ks : List Nat) (n : Nat) (gs : List V) (H H1 : List (Nat × Ent)) : Bool :=
 decide ks.Nodup && ks.all (fun k => Nat.blt k n) && (gs.flatMap keysV).all (fun k => ks.contains k) && H1.all (fun p => noKeys p.2 && (Nat.blt p.1 ks.length || (look H (back ks n p.1)).isNone))
section
variable {P : Program} {F : FuncId} {vs gs : List V} {H : List (Nat × Ent)} {n : Nat} {K : V → List (Nat × Ent) → List Nat → Nat → Prop} {v : V} {R : V → Prop}
theorem Cn.c (hc : LV P F (vs.map stripV) v) (hk : fX v fun v => K v [] [] n) (he : entT P F = true := by rfl) (hg : ((vs.map stripV).flatMap keysV).isEmpty = true := by rfl) (hv : (keysV v).isEmpty = true := by rfl) : Cn P F vs H n K := .val hc he hg hv hk
theorem Cn.l {Hs H1 : List (Nat × Ent)} (ks : List Nat) (hc : LX P F ((vs.map stripV).map (renV fun k => ks.idxOf k)) Hs fun v' H' => v' = v ∧ H' = H1)
  (hk : fX (renV (back ks n) v) fun v => fHs (H1.map fun p => (back ks n p.1, p.2)) fun sets => K v sets (ks ++ H1.map fun p => back ks n p.1) (n + H1.length)) (he : entT P F = true := by rfl)
  (hl : lendFrom (look H) 0 ks = some Hs := by rfl) (hok : okF ks n (vs.map stripV) H H1 = true := by rfl) : Cn P F vs H n K := by
 unfold okF at hok
 simp only [Bool.and_eq_true, Bool.or_eq_true, decide_eq_true_eq, List.all_eq_true, Nat.blt_eq, List.contains_eq_mem] at hok
 obtain ⟨⟨⟨o1, o2⟩, o3⟩, o4⟩ := hok
 refine .lend ks _ Hs _ he hc (strips_ok vs) o1 o2 hl o3 fun v' H1' hR => ?_
 obtain ⟨rfl, rfl⟩ := hR
 exact ⟨List.all_eq_true.2 fun p hp => (o4 p hp).1, fun p hp hle => (o4 p hp).2.elim (fun h => absurd h (by omega)) fun h => by simpa using h, hk⟩
theorem Rt.q {m : Nat} {R : V → List (Nat × Ent) → Prop} (hR : R v []) (hi : (keysV v).isEmpty = true := by rfl) (hm : m = 0 := by rfl) : Rt m H v R := by
 subst hm
 exact ⟨v, [], hR, vR_ v, by simp [inH, List.isEmpty_iff.1 hi], trivial, rfl⟩
theorem Rt.s {m : Nat} {R : V → List (Nat × Ent) → Prop} (hR : R (stripV v) []) (hi : (keysV (stripV v)).isEmpty = true := by rfl) (hm : m = 0 := by rfl) : Rt m H v R := by
 subst hm
 exact ⟨_, [], hR, stripV_ok v, by simp [inH, List.isEmpty_iff.1 hi], trivial, rfl⟩
end
structure Rw where
 b : Bool
 n : List Nat
 d : List Nat
def Rw.q (x : Rw) : Rat := rv x.b (val x.n) (val x.d)
abbrev Rw.D (x : Rw) : List D := [.lit (.bool x.b), .lm x.n, .lm x.d]
abbrev Rw.A (x : Rw) : List A := [.d (.lit (.bool x.b)), .d (.lm x.n), .d (.lm x.d)]
abbrev can (q : Rat) : Rw := ⟨decide (q < 0), limbs q.num.natAbs, limbs (dn q)⟩
abbrev Rw.sm (x : Rw) : Prop := x.n.length ≤ 100000000 ∧ x.d.length ≤ 100000000
def Sz (q : Rat) : Prop := Bt 3000000000 q
theorem RQ.c {q : Rat} (h : Sz q) : RQ (ratV q) q := RQ.can h (lR_ _)
theorem Rw.sm.rq {x : Rw} (h : x.sm) : RQ (.agg x.A) x.q := RQ.raw rfl h.1 h.2
theorem can_q (q : Rat) : (can q).q = q := by unfold Rw.q; rw [val_limbs, val_limbs]; exact rv_self q
theorem Sz.sm {q : Rat} (h : Sz q) : (can q).sm := ⟨(Bt.sm h (lR_ _)).1, (Bt.sm h (lR_ _)).dn⟩
theorem Bt.mono {k l : Nat} {q : Rat} (h : Bt k q) (hl : k ≤ l) : Bt l q := ⟨tL_ h.1 (Nat.pow_le_pow_right (by decide) hl), tL_ h.2 (Nat.pow_le_pow_right (by decide) hl)⟩
theorem bt0 (k : Nat) : Bt k 0 := ⟨zL_ _, Nat.one_le_two_pow⟩
theorem sz0 : Sz 0 := bt0 _
def Rw.ok (x : Rw) : Bool := vB x.b x.n x.d x.q
theorem can_ok (q : Rat) : (can q).ok = true := by unfold Rw.ok; rw [can_q]; exact vB_can q
theorem ok_can {x : Rw} (h : x.ok = true) : x = can x.q := by
 unfold Rw.ok vB same at h
 rw [Bool.and_eq_true, Bool.and_eq_true, beq_iff_eq, decide_eq_true_eq, decide_eq_true_eq] at h
 obtain ⟨⟨h1, h2⟩, h3⟩ := h
 show x = ⟨_, _, _⟩
 rw [← h1, ← h2, ← h3]
theorem lx_ok {x : Rw} (h : x.sm) : LV Tryz.prog 111 [.agg x.A] (vl (.bool x.ok)) := lx_rvalid h.1 h.2
theorem lx_zok {x : Rw} (h : x.sm) : LV Tryz.prog 40 [.agg x.A] (vl (.bool x.ok)) := lx_zvalid h.1 h.2
theorem lx_okc {q : Rat} (h : Sz q) : LV Tryz.prog 111 [ratV q] (vl (.bool true)) := by
 have := lx_ok h.sm; rwa [can_ok] at this
theorem lx_zokc {q : Rat} (h : Sz q) : LV Tryz.prog 40 [ratV q] (vl (.bool true)) := by
 have := lx_zok h.sm; rwa [can_ok] at this
structure Tm where
 v : Int
 q : Rat
structure Af where
 ts : List Tm
 c : Rat
structure Gr where
 n : Nat
 us : List Af
 os : List Af
structure Rg where
 lo : List Rat
 hi : List Rat
 rs : List Af
structure Qu where
 g : Gr
 r : Rg
 goal : Af
structure Dc where
 k : Int
 i : Int
 at_ : Rw
structure Lm where
 u : Int
 up : Bool
 v : Rw
 pf : List (List D)
structure Sp where
 q : Qu
 path : List Dc
 ls : List Lm
abbrev Tm.D (t : Tm) : List D := .lit (.int .i64 t.v) :: (can t.q).D
abbrev Tm.A (t : Tm) : List A := .d (.lit (.int .i64 t.v)) :: (can t.q).A
abbrev Af.D (f : Af) : List D := .sl 4 (f.ts.map Tm.D) :: (can f.c).D
abbrev Af.A (f : Af) : List A := .d (.sl 4 (f.ts.map Tm.D)) :: (can f.c).A
abbrev afsD (l : List Af) : D := .sl 4 (l.map Af.D)
abbrev rqsD (l : List Rat) : D := .sl 3 (l.map fun q => (can q).D)
abbrev Gr.A (g : Gr) : List A := [.d (.lit (.int .i64 g.n)), .d (afsD g.us), .d (afsD g.os)]
abbrev Rg.A (r : Rg) : List A := [.d (rqsD r.lo), .d (rqsD r.hi), .d (afsD r.rs)]
abbrev Qu.A (q : Qu) : List A := [.d (.lit (.int .i64 q.g.n)), .d (afsD q.g.us), .d (afsD q.g.os), .d (rqsD q.r.lo), .d (rqsD q.r.hi), .d (afsD q.r.rs), .d (.sl 4 (q.goal.ts.map Tm.D)), .d (.lit (.bool (decide (q.goal.c < 0)))), .d (.lm (limbs q.goal.c.num.natAbs)), .d (.lm (limbs (dn q.goal.c)))]
abbrev Dc.D (d : Dc) : List D := [.lit (.int .i64 d.k), .lit (.int .i64 d.i), .lit (.bool d.at_.b), .lm d.at_.n, .lm d.at_.d]
abbrev Dc.A (d : Dc) : List A := [.d (.lit (.int .i64 d.k)), .d (.lit (.int .i64 d.i)), .d (.lit (.bool d.at_.b)), .d (.lm d.at_.n), .d (.lm d.at_.d)]
abbrev Lm.D (m : Lm) : List D := [.lit (.int .i64 m.u), .lit (.bool m.up), .lit (.bool m.v.b), .lm m.v.n, .lm m.v.d, .sl 7 m.pf]
abbrev Lm.A (m : Lm) : List A := [.d (.lit (.int .i64 m.u)), .d (.lit (.bool m.up)), .d (.lit (.bool m.v.b)), .d (.lm m.v.n), .d (.lm m.v.d), .d (.sl 7 m.pf)]
abbrev dcsD (l : List Dc) : D := .sl 5 (l.map Dc.D)
abbrev lmsD (l : List Lm) : D := .sl 6 (l.map Lm.D)
abbrev Sp.A (s : Sp) : List A := s.q.A ++ [.d (dcsD s.path), .d (lmsD s.ls)]
structure AfOk (f : Af) (n : Int) : Prop where
 lo : ∀ (i : Nat) (t : Tm), f.ts[i]? = some t → 0 ≤ t.v ∧ t.v < n ∧ t.q ≠ 0 ∧ Sz t.q
 up : ∀ (i : Nat) (t u : Tm), f.ts[i]? = some t → f.ts[i + 1]? = some u → t.v < u.v
 c : Sz f.c
 len : f.ts.length ≤ 1000000
structure GrOk (g : Gr) : Prop where
 n1 : 1 ≤ g.n
 n2 : g.n ≤ 256
 u1 : g.us.length ≤ 1024
 o1 : 1 ≤ g.os.length
 o2 : g.os.length ≤ 256
 us : ∀ (j : Nat) (f : Af), g.us[j]? = some f → AfOk f (g.n + j : Nat)
 os : ∀ f ∈ g.os, AfOk f (g.n + g.us.length : Nat)
structure RgOk (r : Rg) (n : Nat) : Prop where
 n1 : 1 ≤ n
 n2 : n ≤ 256
 lo : r.lo.length = n
 hi : r.hi.length = n
 rl : r.rs.length ≤ 256
 le : ∀ (i : Nat) (a b : Rat), r.lo[i]? = some a → r.hi[i]? = some b → a ≤ b
 sl : ∀ q ∈ r.lo, Sz q
 sh : ∀ q ∈ r.hi, Sz q
 rs : ∀ f ∈ r.rs, AfOk f n
structure QuOk (q : Qu) : Prop where
 g : GrOk q.g
 r : RgOk q.r q.g.n
 goal : AfOk q.goal (q.g.n + q.g.us.length : Nat)
theorem at_some {α : Type} {l : List α} {i : Nat} (h : i < l.length) : ∃ x, l[i]? = some x := ⟨_, List.getElem?_eq_getElem h⟩
theorem at_lt {α : Type} {l : List α} {i : Nat} {x : α} (h : l[i]? = some x) : i < l.length := (List.getElem?_eq_some_iff.1 h).1
theorem at_map {α β : Type} {l : List α} {f : α → β} {i : Nat} {x : α} (h : l[i]? = some x) : (l.map f)[i]? = some (f x) := by rw [List.getElem?_map, h]; rfl
theorem sgn_ne {q : Rat} (h : q ≠ 0) : (q.num.sign == 0) = false := by simpa [Int.sign_eq_zero_iff_zero] using h
theorem take_snoc {α : Type} {l : List α} {i : Nat} {x : α} (h : l[i]? = some x) : l.take (i + 1) = l.take i ++ [x] := by
 obtain ⟨h1, h2⟩ := List.getElem?_eq_some_iff.1 h
 rw [List.take_succ_eq_append_getElem h1, h2]
theorem cmp_le {a b : Rat} (h : a ≤ b) : decide (cmpQ a b > 0) = false := by
 have := cmpQ_le.2 h
 exact decide_eq_false (by omega)
theorem cmp_gt {a b : Rat} : decide (cmpQ a b > 0) = decide (b < a) := by
 have := cmpQ_le (a := a) (b := b)
 by_cases h : a ≤ b
 ·
  rw [cmp_le h]; exact (decide_eq_false (Rat.not_lt.2 h)).symm
 ·
  rw [decide_eq_true (Int.not_le.1 fun h2 => h (this.1 h2)), decide_eq_true (Rat.not_le.1 h)]
theorem lx_lvalid {f : Af} {n : Int} (hf : AfOk f n) : LV Tryz.prog 63 [.agg f.A, vl (.int .i64 n)] (vl (.bool true)) := by
 refine LX_run (m := 0) (n0 := 0) mix Tryz.func63 rfl rfl rfl rfl ?_
 conv => whnf
 have hl := hf.len
 refine .mk Nat (fun i => ⟨[(10, vl (.int .i64 i)), (9, vl (.int .i64 (f.ts.map Tm.D).length)), (8, .a (.d (.sl 4 (f.ts.map Tm.D)))), (2, .a (.ptr 0 0)), (1, vl (.int .i64 n))], [(0, .box 39 f.A)], 1⟩) (fun i => i ≤ f.ts.length) (fun i => f.ts.length - i) 0 Wk.go (zL_ _) fun i hi => ?_
 conv => whnf
 refine bs (fun h1 => ?_) (fun h1 => ?_)
 ·
  conv => whnf
  have h1' : i < f.ts.length := by simpa using h1
  obtain ⟨t, ht⟩ := at_some h1'
  obtain ⟨a1, a2, a3, a4⟩ := hf.lo i t ht
  refine .mk (i) (t.D) (rfl) (at_map ht) ?_
  conv => whnf
  conv => whnf
  refine bF (decide_eq_false (by omega)) ?_
  conv => whnf
  refine bF (decide_eq_false (by omega)) ?_
  conv => whnf
  refine bs (fun h2 => ?_) (fun h2 => ?_)
  ·
   conv => whnf
   have h2' : 0 < i := by simpa using h2
   obtain ⟨u, hu⟩ := at_some (l := f.ts) (i := i - 1) (by omega)
   have a5 := hf.up (i - 1) u t hu (by rw [show i - 1 + 1 = i by omega]; exact ht)
   refine .mk (i - 1) (u.D) (by rw [wr64 (by omega) (by omega)]; omega) (at_map hu) ?_
   conv => whnf
   conv => whnf
   refine bF (decide_eq_false (by omega)) ?_
   conv => whnf
   refine .c (lx_rsign (.c a4)) ?_
   conv => whnf
   refine bF (sgn_ne a3) ?_
   conv => whnf
   refine .c (lx_okc a4) ?_
   conv => whnf
   refine .mk (by kernel_rfl) ?_
   conv => whnf
   exact ⟨i + 1, Wk.go, h1', by omega⟩
  ·
   conv => whnf
   refine .c (lx_rsign (.c a4)) ?_
   conv => whnf
   refine bF (sgn_ne a3) ?_
   conv => whnf
   refine .c (lx_okc a4) ?_
   conv => whnf
   refine .mk (by kernel_rfl) ?_
   conv => whnf
   exact ⟨i + 1, Wk.go, h1', by omega⟩
 ·
  conv => whnf
  refine .c (lx_okc hf.c) ?_
  conv => whnf
  exact .q ⟨rfl, rfl⟩
theorem AfOk.w {f : Af} {n m : Int} (h : AfOk f n) (e : m = n) : AfOk f m := e ▸ h
theorem lx_lvalid1 {F : FuncId} {f : Af} {n : Int} (hF : F = 151 ∨ F = 113) (hf : AfOk f n) :
  LX Tryz.prog F [.agg f.A, .a (.ptr 0 0)] [(0, .box 3 [.d (.lit (.int .i64 n))])] fun v H => v = vl (.bool false) ∧ H = [(0, .box 3 [.d (.lit (.int .i64 n))])] := by
 rcases hF with rfl | rfl
 ·
  refine LX_run (m := 1) (n0 := 1) mix Tryz.func151 rfl rfl rfl rfl ?_
  conv => whnf
  refine .c (lx_lvalid hf) ?_
  conv => whnf
  exact ⟨_, _, ⟨rfl, rfl⟩, vR_ _, rfl, ⟨⟨_, rfl, wke_refl _, rfl⟩, trivial⟩, rfl⟩
 ·
  refine LX_run (m := 1) (n0 := 1) mix Tryz.func113 rfl rfl rfl rfl ?_
  conv => whnf
  refine .c (lx_lvalid hf) ?_
  conv => whnf
  exact ⟨_, _, ⟨rfl, rfl⟩, vR_ _, rfl, ⟨⟨_, rfl, wke_refl _, rfl⟩, trivial⟩, rfl⟩
theorem lx_cfA {F : FuncId} {fs : List Af} {n : Int} (hl : fs.length ≤ 1000000) (he : entT Tryz.prog F = true) (hF : ∀ f ∈ fs, LX Tryz.prog F [.agg f.A, .a (.ptr 0 0)] [(0, .box 3 [.d (.lit (.int .i64 n))])] fun v H => v = vl (.bool false) ∧ H = [(0, .box 3 [.d (.lit (.int .i64 n))])]) :
  LX Tryz.prog 112 [.a (.d (afsD fs)), .a (.fn (.func F) [] [.ptr 0 0])] [(0, .box 3 [.d (.lit (.int .i64 n))])] fun v H => v = vl (.bool false) ∧ H = [(0, .box 3 [.d (.lit (.int .i64 n))])] := by
 have ix : LX Tryz.prog 153 [.a (.d (afsD fs)), .a (.fn (.func F) [] [.ptr 0 0])] [(0, .box 3 [.d (.lit (.int .i64 n))])] fun v H => v = vl (.int .i64 (-1)) ∧ H = [(0, .box 3 [.d (.lit (.int .i64 n))])] := by
  refine LX_run (m := 1) (n0 := 1) mix Tryz.func153 rfl rfl rfl rfl ?_
  conv => whnf
  refine .mk Nat (fun i => ⟨[(8, vl (.int .i64 i)), (7, vl (.int .i64 (fs.map Af.D).length)), (1, .a (.fn (.func F) [] [.ptr 0 0])), (0, .a (.d (afsD fs)))], [(0, .box 3 [.d (.lit (.int .i64 n))])], 1⟩) (fun i => i ≤ fs.length) (fun i => fs.length - i) 0 Wk.go (zL_ _) fun i hi => ?_
  conv => whnf
  refine bs (fun h1 => ?_) (fun h1 => ?_)
  ·
   conv => whnf
   have h1' : i < fs.length := by simpa using h1
   obtain ⟨f, hf⟩ := at_some h1'
   refine .mk (i) (f.D) (rfl) (at_map hf) ?_
   conv => whnf
   refine Cn.l [0] (hF f (mG_ hf)) ?_ he
   conv => whnf
   exact ⟨i + 1, Wk.go, h1', by omega⟩
  ·
   conv => whnf
   exact ⟨_, _, ⟨rfl, rfl⟩, vR_ _, rfl, ⟨⟨_, rfl, wke_refl _, rfl⟩, trivial⟩, rfl⟩
 refine LX_run (m := 1) (n0 := 1) mix Tryz.func112 rfl rfl rfl rfl ?_
 conv => whnf
 refine .l [0] (ix) ?_
 conv => whnf
 exact ⟨_, _, ⟨rfl, rfl⟩, vR_ _, rfl, ⟨⟨_, rfl, wke_refl _, rfl⟩, trivial⟩, rfl⟩
theorem lx_gvalid0 {fs : List Af} {n : Int} (hl : fs.length ≤ 1000000) (hf : ∀ f ∈ fs, AfOk f n) : LV Tryz.prog 110 [.a (.d (afsD fs)), vl (.int .i64 n)] (vl (.bool true)) := by
 refine LX_run (m := 0) (n0 := 0) mix Tryz.func110 rfl rfl rfl rfl ?_
 conv => whnf
 refine .l [0] (lx_cfA hl rfl fun f hm => lx_lvalid1 (.inl rfl) (hf f hm)) ?_
 conv => whnf
 exact .q ⟨rfl, rfl⟩
theorem lx_gvalid {g : Gr} (hg : GrOk g) : LV Tryz.prog 61 [.agg g.A] (vl (.bool true)) := by
 obtain ⟨n1, n2, u1, o1, o2, hus, hos⟩ := hg
 refine LX_run (m := 0) (n0 := 0) mix Tryz.func61 rfl rfl rfl rfl ?_
 conv => whnf
 refine bF (decide_eq_false (by omega)) ?_
 conv => whnf
 refine bF (decide_eq_false (by omega)) ?_
 conv => whnf
 refine bF (decide_eq_false (by simp; omega)) ?_
 conv => whnf
 refine bF (decide_eq_false (by simp; omega)) ?_
 conv => whnf
 refine bF (decide_eq_false (by simp; omega)) ?_
 conv => whnf
 refine .mk Nat (fun i => ⟨[(34, vl (.int .i64 i)), (33, vl (.int .i64 (g.us.map Af.D).length)), (32, .a (.d (afsD g.us))), (1, .a (.ptr 0 0))], [(0, .box 29 g.A)], 1⟩) (fun i => i ≤ g.us.length) (fun i => g.us.length - i) 0 Wk.go (zL_ _) fun i hi => ?_
 conv => whnf
 refine bs (fun h1 => ?_) (fun h1 => ?_)
 ·
  conv => whnf
  have h1' : i < g.us.length := by simpa using h1
  obtain ⟨f, hf⟩ := at_some h1'
  refine .mk (i) (f.D) (rfl) (at_map hf) ?_
  conv => whnf
  conv => whnf
  refine .c (lx_lvalid ((hus i f hf).w (by rw [wr64 (by omega) (by omega)]; omega))) ?_
  conv => whnf
  exact ⟨i + 1, Wk.go, h1', by omega⟩
 ·
  conv => whnf
  refine .c (lx_gvalid0 (by omega) fun f hf => (hos f hf).w (by rw [wr64 (by simp; omega) (by simp; omega)]; simp)) ?_
  conv => whnf
  exact .q ⟨rfl, rfl⟩
theorem lx_gvars {g : Gr} (hg : GrOk g) : LV Tryz.prog 88 [.agg g.A] (vl (.int .i64 (g.n + g.us.length : Nat))) := by
 refine LX_run (m := 0) (n0 := 0) mix Tryz.func88 rfl rfl rfl rfl ?_
 conv => whnf
 refine .c (lx_gvalid hg) ?_
 conv => whnf
 have := hg.n2; have := hg.u1
 exact ⟨_, _, ⟨rfl, rfl⟩, WkV.int (by rw [wr64 (by simp; omega) (by simp; omega)]; simp), rfl, trivial, rfl⟩
theorem lx_rgvalid {r : Rg} {n : Nat} (hr : RgOk r n) : LV Tryz.prog 62 [.agg r.A, vl (.int .i64 n)] (vl (.bool true)) := by
 obtain ⟨n1, n2, hlo, hhi, rl, hle, sl, sh, hrs⟩ := hr
 refine LX_run (m := 0) (n0 := 0) mix Tryz.func62 rfl rfl rfl rfl ?_
 conv => whnf
 refine bF (decide_eq_false (by omega)) ?_
 conv => whnf
 refine bF (decide_eq_false (by omega)) ?_
 conv => whnf
 refine bF (by simp [hlo]) ?_
 conv => whnf
 refine bF (by simp [hhi]) ?_
 conv => whnf
 refine bF (decide_eq_false (by simp; omega)) ?_
 conv => whnf
 refine .mk Nat (fun i => ⟨[(36, vl (.int .i64 i)), (35, vl (.int .i64 (r.lo.map fun q => (can q).D).length)), (34, .a (.d (rqsD r.lo))), (3, .a (.ptr 1 0)), (2, .a (.ptr 0 0))], [(0, .box 32 r.A), (1, .box 3 [.d (.lit (.int .i64 n))])], 2⟩) (fun i => i ≤ n) (fun i => n - i) 0 Wk.go (zL_ _) fun i hi => ?_
 conv => whnf
 refine bs (fun h1 => ?_) (fun h1 => ?_)
 ·
  conv => whnf
  have h1' : i < n := by simpa [hlo] using h1
  obtain ⟨a, ha⟩ := at_some (l := r.lo) (i := i) (by omega)
  obtain ⟨b, hb⟩ := at_some (l := r.hi) (i := i) (by omega)
  have za := sl a (mG_ ha)
  have zb := sh b (mG_ hb)
  refine .mk (i) ((can a).D) (rfl) (at_map (f := fun q => (can q).D) ha) ?_
  conv => whnf
  conv => whnf
  refine .c (lx_okc za) ?_
  conv => whnf
  refine .mk (i) ((can b).D) (rfl) (at_map (f := fun q => (can q).D) hb) ?_
  conv => whnf
  conv => whnf
  refine .c (lx_okc zb) ?_
  conv => whnf
  refine .mk (i) ((can b).D) (rfl) (at_map (f := fun q => (can q).D) hb) ?_
  conv => whnf
  conv => whnf
  refine .c (lx_rcmp (.c za) (.c zb)) ?_
  conv => whnf
  refine bF (cmp_le (hle i a b ha hb)) ?_
  conv => whnf
  refine .mk (by kernel_rfl) ?_
  conv => whnf
  exact ⟨i + 1, Wk.go, h1', by omega⟩
 ·
  conv => whnf
  refine .l [1] (lx_cfA (by omega) rfl fun f hm => lx_lvalid1 (.inr rfl) (hrs f hm)) ?_
  conv => whnf
  exact .q ⟨rfl, rfl⟩
theorem lx_quvalid {q : Qu} (hq : QuOk q) : LV Tryz.prog 29 [.agg q.A] (vl (.bool true)) := by
 have h1 := hq.g.n2; have h2 := hq.g.u1
 refine LX_run (m := 0) (n0 := 0) mix Tryz.func29 rfl rfl rfl rfl ?_
 conv => whnf
 refine .c (lx_gvalid hq.g) ?_
 conv => whnf
 refine .c (lx_rgvalid hq.r) ?_
 conv => whnf
 refine .c (lx_lvalid (hq.goal.w (by rw [wr64 (by simp; omega) (by simp; omega)]; simp))) ?_
 conv => whnf
 exact .q ⟨rfl, rfl⟩
end Go.Proofs.YtikglhmabidjoaaGreat.Lf
