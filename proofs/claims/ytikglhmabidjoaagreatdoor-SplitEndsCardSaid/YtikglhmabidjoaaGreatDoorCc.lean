/- Texts RatD RatE, in this order. -/
import Derived.Test.YtikglhmabidjoaaGreatDoorCb
namespace Go.Proofs.YtikglhmabidjoaaGreatDoor
open Go.RowKit Nt
set_option linter.unusedVariables false
theorem r3one_is {d L : Nat} {t : Value} {w : World} (h : Is d L w t) : Calls Tryz.prog 98 #[t] w (Ret w (Is (un d) (max L 1))) := by
  rcases Nat.eq_zero_or_pos d with h0 | h0
  · go_enter Tryz.func98, Tryz.ntmps98
    go_wp2_with fail
    refine Calls.mono (rmake_is h) ?_
    rintro e w1 ⟨v1, rfl, hn, hb⟩
    obtain ⟨a, n, c, rfl⟩ := hn.is.lit
    have dx : ((n : Int) == 0) = true := hn.len0 true (by rw [h0]; rfl)
    have HB := Lib.hid hb
    have H0 := Lib.hid h0
    clear hb hn h0
    go_wp2
    go_ret
    exact ⟨_, rfl, Is.cast (un_zero H0.out) (Is.mono (Is.one _ _) (Nat.le_max_right _ _)), HB.out.alloc HB.out.size _⟩
  · go_enter Tryz.func98, Tryz.ntmps98
    go_wp2_with fail
    refine Calls.mono (rmake_is h) ?_
    rintro e w1 ⟨v1, rfl, hn, hb⟩
    obtain ⟨a, n, c, rfl⟩ := hn.is.lit
    have dx : ((n : Int) == 0) = false := hn.len0 false (beq_eq_false_iff_ne.2 (Nat.ne_of_gt h0))
    have HB := Lib.hid hb
    have Hn := Lib.hid hn
    clear hb hn
    go_wp2
    go_ret
    exact ⟨_, rfl, Is.cast (un_of h0) (Is.mono Hn.out.is (Nat.le_max_left _ _)), HB.out⟩
theorem rdivmod_pos {a b L M : Nat} {u v : Value} {w : World} (hb : 0 < b) (h : Is a L w u) (h' : Is b M w v) (hL : L ≤ 2147483648) (hM : M ≤ 2147483648) :
    Calls Tryz.prog 150 #[u, v] w (Ret w (Can2E (a / b) (a % b) L L 0)) := by
  have hs := h.sz_le
  obtain ⟨xs, h, rfl, hl⟩ := h
  obtain ⟨ys, h', rfl, hl'⟩ := h'
  have := rdivmod_any _ _ _ _ _ h h' (by omega) (by omega)
  rw [dmR_pos hb, dmE_pos hb] at this
  refine this.mono ?_
  rintro e w' ⟨v, rfl, ⟨q, r, rfl, h1, h2⟩, hB⟩
  exact ⟨_, rfl, ⟨_, _, rfl, ⟨h1, Nat.le_trans (sz_div _ _) hs⟩, ⟨h2, Nat.le_trans (sz_mono (Nat.mod_le _ _)) hs⟩⟩, hB⟩
def PU1 (q L : Nat) (w : World) (v : Value) : Prop := ∃ b o c r, v = .tuple #[.slice (some ⟨b, o, none⟩) 1 c, r, .int .i64 0] ∧ Can q L w (.slice (some ⟨b, o, none⟩) 1 c) ∧ w.cell? ⟨b, o, none⟩ = some (.int .u32 1)
def PUN (q L : Nat) (w : World) (v : Value) : Prop := ∃ a n c r, v = .tuple #[.slice a n c, r, .int .i64 0] ∧ Can q L w (.slice a n c) ∧ ((n : Int) == 1) = false
def PUK (q L : Nat) (w : World) (v : Value) : Prop := ∃ b o c r, ∃ k : Int, v = .tuple #[.slice (some ⟨b, o, none⟩) 1 c, r, .int .i64 0] ∧ Can q L w (.slice (some ⟨b, o, none⟩) 1 c) ∧ w.cell? ⟨b, o, none⟩ = some (.int .u32 k) ∧ (k == 1) = false
theorem one_limb {q L : Nat} {w : World} {v : Value} (hl : ((sz q : Nat) : Int) = 1) (h : Can q L w v) : ∃ b o c, v = .slice (some ⟨b, o, none⟩) 1 c ∧ w.cell? ⟨b, o, none⟩ = some (.int .u32 (q : Int)) := by
  obtain ⟨⟨ad, n, cap, rfl, hn, hnc, hm, hx, hs⟩, -⟩ := h
  have hz : sz q = 1 := by omega
  obtain rfl : n = 1 := by unfold sz at hz; omega
  obtain ⟨b, off, rfl, hb, hc⟩ := hs (by decide)
  have h0 : 0 < q := by
    rcases Nat.eq_zero_or_pos q with rfl | h0
    · rw [sz_zero] at hz; omega
    · exact h0
  have h1 : q < 4294967296 := by
    have := val_lt (xs := limbs q) hx
    rw [val_limbs, hn] at this
    simpa using this
  have := hc 0 (by decide)
  rw [limbs_single h0 h1] at this
  exact ⟨b, off, cap, rfl, this⟩
theorem rdivmod_u1 {a b L M : Nat} {u v : Value} {w : World} (hb : 0 < b) (he : (a / b == 1) = true) (h : Is a L w u) (h' : Is b M w v) (hL : L ≤ 2147483648) (hM : M ≤ 2147483648) :
    Calls Tryz.prog 150 #[u, v] w (Ret w (PU1 (a / b) L)) := by
  have e1 : a / b = 1 := by simpa using he
  refine (rdivmod_pos hb h h' hL hM).mono fun _ _ k => k.imp fun w' x hx => ?_
  obtain ⟨q, r, rfl, h1, h2⟩ := hx
  rw [e1] at h1 ⊢
  obtain ⟨bb, o, c, rfl, hc⟩ := one_limb (by rw [show sz 1 = 1 by unfold sz; rw [limbs_single (by decide) (by decide)]; rfl]; rfl) h1
  exact ⟨_, _, _, _, rfl, h1, hc⟩
theorem rdivmod_un {a b L M : Nat} {u v : Value} {w : World} (hb : 0 < b) (he : ((sz (a / b) : Nat) : Int) ≠ 1) (h : Is a L w u) (h' : Is b M w v) (hL : L ≤ 2147483648) (hM : M ≤ 2147483648) :
    Calls Tryz.prog 150 #[u, v] w (Ret w (PUN (a / b) L)) := by
  refine (rdivmod_pos hb h h' hL hM).mono fun _ _ k => k.imp fun w' x hx => ?_
  obtain ⟨q, r, rfl, h1, h2⟩ := hx
  obtain ⟨bb, n, c, rfl⟩ := h1.is.lit
  exact ⟨_, _, _, _, rfl, h1, by rw [h1.len]; simpa using he⟩
theorem rdivmod_uk {a b L M : Nat} {u v : Value} {w : World} (hb : 0 < b) (he : (a / b == 1) = false) (hl : ((sz (a / b) : Nat) : Int) = 1) (h : Is a L w u) (h' : Is b M w v) (hL : L ≤ 2147483648) (hM : M ≤ 2147483648) :
    Calls Tryz.prog 150 #[u, v] w (Ret w (PUK (a / b) L)) := by
  refine (rdivmod_pos hb h h' hL hM).mono fun _ _ k => k.imp fun w' x hx => ?_
  obtain ⟨q, r, rfl, h1, h2⟩ := hx
  obtain ⟨bb, o, c, rfl, hc⟩ := one_limb hl h1
  refine ⟨_, _, _, _, _, rfl, h1, hc, ?_⟩
  rw [beq_eq_false_iff_ne]
  have : a / b ≠ 1 := by simpa using he
  omega
theorem Can.pos {m L : Nat} {w : World} {a : Option Addr} {n c : Nat} (h : Can m L w (.slice a n c)) (hm : 0 < m) : decide (0 < n) = true := by
  rw [h.len]; simpa using sz_pos hm
theorem Can.posF {m L : Nat} {w : World} {a : Option Addr} {n c : Nat} (h : Can m L w (.slice a n c)) (hm : m = 0) : decide (0 < n) = false := by
  rw [h.len, hm, sz_zero]; rfl
theorem num_pos {n d : Nat} (h : 0 < n) : 0 < n / Nat.gcd n d := Nat.div_pos (Nat.le_of_dvd h (Nat.gcd_dvd_left n d)) (Nat.gcd_pos_of_pos_left d h)
theorem den_zero {n d : Nat} (hz : n = 0) (hd : 0 < d) : (d / Nat.gcd n d == 1) = true := by
  rw [hz, Nat.gcd_zero_left, Nat.div_self hd]; rfl
theorem rquot_zero {neg : Bool} {n d L M : Nat} {w W : World} {s t : Value} (hz : n = 0) (hd : 0 < d) (hs : Can (n / Nat.gcd n d) L W s) (h : Is d M w t) : CR (mkRat (iv neg n) d) (max L M) W (.agg #[.bool false, s, .slice none 0 0]) := by
  have h1 := one_le_of_is hd h
  rw [hz, Nat.zero_div] at hs
  rw [hz, show iv neg 0 = 0 by cases neg <;> rfl, Rat.zero_mkRat]
  refine ⟨⟨s, _, rfl, hs.1, ?_⟩, ?_, ?_⟩
  · show Sl W _ (limbs 0); rw [limbs_zero]; exact Sl.nil W
  · exact sz_zero_le _
  · exact Nat.le_trans (sz_le (by decide) : sz 1 ≤ 1) (by omega)
set_option maxRecDepth 100000 in
set_option maxHeartbeats 4000000 in
theorem r3quot_0t {n d L M : Nat} {s t : Value}  {w : World} (hz : n = 0) (hn : Is n L w s) (hm : Is d M w t) (hd : 0 < d) (hL : L ≤ 1000000000) (hM : M ≤ 1000000000) :
    Calls Tryz.prog 100 #[.bool true, s, t] w (Ret w (CR (mkRat (iv true n) d) (max L M))) := by
  have Hn := Lib.hid hn
  have Hm := Lib.hid hm
  have Hd := Lib.hid hd
  have Hz := Lib.hid hz
  clear hn hm hd hz
  go_enter Tryz.func100, Tryz.ntmps100
  have HB := Lib.hid (Below.refl w.heap.size w)
  go_wp2_with fail
  obtain ⟨W1, hW⟩ : ∃ W1, W1 = (World.alloc w (.cells #[.bool false, .slice none 0 0, .slice none 0 0] 37)) := ⟨_, rfl⟩
  rw [← hW]
  obtain ⟨xa0, hk, hb⟩ := boxes_1 _ _ _ hW
  clear hW
  have Hn := Lib.hid (Is.keep Hn.out hk)
  have Hm := Lib.hid (Is.keep Hm.out hk)
  have Ga0 := Lib.hid (show w.heap.size ≤ w.heap.size from Nat.le_trans HB.out.size (by omega))
  have Xa0 := Lib.hid xa0
  have HB := Lib.hid (below_call HB.out hb)
  clear hk hb xa0
  (first | (have hcall := rgcd_can Hn.out Hm.out (by omega) (by omega); refine Calls.mono hcall ?_; clear hcall) | refine Calls.mono (rgcd_can Hn.out Hm.out (by omega) (by omega)) ?_)
  rintro e w2 ⟨v2, rfl, hg, hb⟩
  obtain ⟨g_a, g_n, g_c, rfl⟩ := hg.is.lit
  have Hn := Lib.hid (Is.keep Hn.out (Keep.call hb))
  have Hm := Lib.hid (Is.keep Hm.out (Keep.call hb))
  have Xa0 := Lib.hid (Box.pcall hb Xa0.out)
  have HB := Lib.hid (below_call HB.out hb)
  have Hg := Lib.hid hg
  clear hb hg
  obtain ⟨ca00, ca01, ca02, fa00, fa01, fa02⟩ := Xa0.out.c3
  have la0 := Xa0.out.lt
  go_wp2_with fail
  clear ca00 ca01 ca02 fa00 fa01 fa02 la0
  (first | (have hcall := rdivmod_pos (gcd_pos Hd.out) Hn.out Hg.out.is (by omega) (by omega); refine Calls.mono hcall ?_; clear hcall) | refine Calls.mono (rdivmod_pos (gcd_pos Hd.out) Hn.out Hg.out.is (by omega) (by omega)) ?_)
  rintro e w3 ⟨t3, rfl, ⟨v3, u3, rfl, hqa, hra⟩, hb⟩
  obtain ⟨qa_a, qa_n, qa_c, rfl⟩ := hqa.is.lit
  obtain ⟨ra_a, ra_n, ra_c, rfl⟩ := hra.is.lit
  have Hm := Lib.hid (Is.keep Hm.out (Keep.call hb))
  have Hg := Lib.hid (Can.keep Hg.out (Keep.call hb))
  have Xa0 := Lib.hid (Box.pcall hb Xa0.out)
  have HB := Lib.hid (below_call HB.out hb)
  have Hqa := Lib.hid hqa
  have Hra := Lib.hid hra
  clear hb hqa hra
  have hp0 : decide (0 < qa_n) = false := Hqa.out.posF (by rw [Hz.out, Nat.zero_div])
  obtain ⟨ca00, ca01, ca02, fa00, fa01, fa02⟩ := Xa0.out.c3
  have la0 := Xa0.out.lt
  go_wp2_with fail
  clear ca00 ca01 ca02 fa00 fa01 fa02 la0
  (first | (have hcall := rdivmod_u1 (gcd_pos Hd.out) (den_zero Hz.out Hd.out) Hm.out Hg.out.is (by omega) (by omega); refine Calls.mono hcall ?_; clear hcall) | refine Calls.mono (rdivmod_u1 (gcd_pos Hd.out) (den_zero Hz.out Hd.out) Hm.out Hg.out.is (by omega) (by omega)) ?_)
  rintro e w4 ⟨t4, rfl, ⟨qb_b, qb_o, qb_c, u4, rfl, hqb, hcell⟩, hb⟩
  have Hm := Lib.hid (Is.keep Hm.out (Keep.call hb))
  have Hqa := Lib.hid (Can.keep Hqa.out (Keep.call hb))
  have Xa0 := Lib.hid (Box.pcall hb Xa0.out)
  have HB := Lib.hid (below_call HB.out hb)
  have Hqb := Lib.hid hqb
  clear hb hqb
  obtain ⟨ca00, ca01, ca02, fa00, fa01, fa02⟩ := Xa0.out.c3
  have la0 := Xa0.out.lt
  go_wp2
  clear ca00 ca01 ca02 fa00 fa01 fa02 la0
  obtain ⟨W5, hW⟩ : ∃ W5, W5 = (World.setCell (World.setCell (World.setCell w4 ⟨w.heap.size, 0, none⟩ (.bool false)) ⟨w.heap.size, 1, none⟩ (.slice qa_a qa_n qa_c)) ⟨w.heap.size, 2, none⟩ (.slice none 0 0)) := ⟨_, rfl⟩
  rw [← hW]
  obtain ⟨xa0, hk, hf, hbb, hz⟩ := stored3s hW Xa0.out (by first | exact NoInt.bool _ | exact NoInt.slice _ _ _) (by first | exact NoInt.bool _ | exact NoInt.slice _ _ _) (by first | exact NoInt.bool _ | exact NoInt.slice _ _ _)
  have Hm := Lib.hid (Is.keep Hm.out hk)
  have Hqa := Lib.hid (Can.keep Hqa.out hk)
  have Xa0 := Lib.hid xa0
  have HB := Lib.hid (hbb _ HB.out Ga0.out)
  clear hW hk hf hbb xa0
  clear hz
  exact ret_rat1 rfl rfl rfl Xa0.out (rquot_zero (neg := true) Hz.out Hd.out Hqa.out Hm.out) HB.out
set_option maxRecDepth 100000 in
set_option maxHeartbeats 4000000 in
theorem r3quot_1t {n d L M : Nat} {s t : Value}  {w : World} (hz : 0 < n) (he : (d / Nat.gcd n d == 1) = true) (hn : Is n L w s) (hm : Is d M w t) (hd : 0 < d) (hL : L ≤ 1000000000) (hM : M ≤ 1000000000) :
    Calls Tryz.prog 100 #[.bool true, s, t] w (Ret w (CR (mkRat (iv true n) d) (max L M))) := by
  have Hn := Lib.hid hn
  have Hm := Lib.hid hm
  have Hd := Lib.hid hd
  have Hz := Lib.hid hz
  have He := Lib.hid he
  clear hn hm hd hz he
  go_enter Tryz.func100, Tryz.ntmps100
  have HB := Lib.hid (Below.refl w.heap.size w)
  go_wp2_with fail
  obtain ⟨W1, hW⟩ : ∃ W1, W1 = (World.alloc w (.cells #[.bool false, .slice none 0 0, .slice none 0 0] 37)) := ⟨_, rfl⟩
  rw [← hW]
  obtain ⟨xa0, hk, hb⟩ := boxes_1 _ _ _ hW
  clear hW
  have Hn := Lib.hid (Is.keep Hn.out hk)
  have Hm := Lib.hid (Is.keep Hm.out hk)
  have Ga0 := Lib.hid (show w.heap.size ≤ w.heap.size from Nat.le_trans HB.out.size (by omega))
  have Xa0 := Lib.hid xa0
  have HB := Lib.hid (below_call HB.out hb)
  clear hk hb xa0
  (first | (have hcall := rgcd_can Hn.out Hm.out (by omega) (by omega); refine Calls.mono hcall ?_; clear hcall) | refine Calls.mono (rgcd_can Hn.out Hm.out (by omega) (by omega)) ?_)
  rintro e w2 ⟨v2, rfl, hg, hb⟩
  obtain ⟨g_a, g_n, g_c, rfl⟩ := hg.is.lit
  have Hn := Lib.hid (Is.keep Hn.out (Keep.call hb))
  have Hm := Lib.hid (Is.keep Hm.out (Keep.call hb))
  have Xa0 := Lib.hid (Box.pcall hb Xa0.out)
  have HB := Lib.hid (below_call HB.out hb)
  have Hg := Lib.hid hg
  clear hb hg
  obtain ⟨ca00, ca01, ca02, fa00, fa01, fa02⟩ := Xa0.out.c3
  have la0 := Xa0.out.lt
  go_wp2_with fail
  clear ca00 ca01 ca02 fa00 fa01 fa02 la0
  (first | (have hcall := rdivmod_pos (gcd_pos Hd.out) Hn.out Hg.out.is (by omega) (by omega); refine Calls.mono hcall ?_; clear hcall) | refine Calls.mono (rdivmod_pos (gcd_pos Hd.out) Hn.out Hg.out.is (by omega) (by omega)) ?_)
  rintro e w3 ⟨t3, rfl, ⟨v3, u3, rfl, hqa, hra⟩, hb⟩
  obtain ⟨qa_a, qa_n, qa_c, rfl⟩ := hqa.is.lit
  obtain ⟨ra_a, ra_n, ra_c, rfl⟩ := hra.is.lit
  have Hm := Lib.hid (Is.keep Hm.out (Keep.call hb))
  have Hg := Lib.hid (Can.keep Hg.out (Keep.call hb))
  have Xa0 := Lib.hid (Box.pcall hb Xa0.out)
  have HB := Lib.hid (below_call HB.out hb)
  have Hqa := Lib.hid hqa
  have Hra := Lib.hid hra
  clear hb hqa hra
  have hp0 : decide (0 < qa_n) = true := Hqa.out.pos (num_pos Hz.out)
  obtain ⟨ca00, ca01, ca02, fa00, fa01, fa02⟩ := Xa0.out.c3
  have la0 := Xa0.out.lt
  go_wp2_with fail
  clear ca00 ca01 ca02 fa00 fa01 fa02 la0
  (first | (have hcall := rdivmod_u1 (gcd_pos Hd.out) He.out Hm.out Hg.out.is (by omega) (by omega); refine Calls.mono hcall ?_; clear hcall) | refine Calls.mono (rdivmod_u1 (gcd_pos Hd.out) He.out Hm.out Hg.out.is (by omega) (by omega)) ?_)
  rintro e w4 ⟨t4, rfl, ⟨qb_b, qb_o, qb_c, u4, rfl, hqb, hcell⟩, hb⟩
  have Hm := Lib.hid (Is.keep Hm.out (Keep.call hb))
  have Hqa := Lib.hid (Can.keep Hqa.out (Keep.call hb))
  have Xa0 := Lib.hid (Box.pcall hb Xa0.out)
  have HB := Lib.hid (below_call HB.out hb)
  have Hqb := Lib.hid hqb
  clear hb hqb
  obtain ⟨ca00, ca01, ca02, fa00, fa01, fa02⟩ := Xa0.out.c3
  have la0 := Xa0.out.lt
  go_wp2
  clear ca00 ca01 ca02 fa00 fa01 fa02 la0
  obtain ⟨W5, hW⟩ : ∃ W5, W5 = (World.setCell (World.setCell (World.setCell w4 ⟨w.heap.size, 0, none⟩ (.bool true)) ⟨w.heap.size, 1, none⟩ (.slice qa_a qa_n qa_c)) ⟨w.heap.size, 2, none⟩ (.slice none 0 0)) := ⟨_, rfl⟩
  rw [← hW]
  obtain ⟨xa0, hk, hf, hbb, hz⟩ := stored3s hW Xa0.out (by first | exact NoInt.bool _ | exact NoInt.slice _ _ _) (by first | exact NoInt.bool _ | exact NoInt.slice _ _ _) (by first | exact NoInt.bool _ | exact NoInt.slice _ _ _)
  have Hm := Lib.hid (Is.keep Hm.out hk)
  have Hqa := Lib.hid (Can.keep Hqa.out hk)
  have Xa0 := Lib.hid xa0
  have HB := Lib.hid (hbb _ HB.out Ga0.out)
  clear hW hk hf hbb xa0
  clear hz
  exact ret_rat1 rfl rfl rfl Xa0.out (quot_three Hz.out Hd.out He.out Hqa.out Hm.out) HB.out
set_option maxRecDepth 100000 in
set_option maxHeartbeats 4000000 in
theorem r3quot_2t {n d L M : Nat} {s t : Value}  {w : World} (hz : 0 < n) (he : (d / Nat.gcd n d == 1) = false) (hl : ((sz (d / Nat.gcd n d) : Nat) : Int) ≠ 1) (hn : Is n L w s) (hm : Is d M w t) (hd : 0 < d) (hL : L ≤ 1000000000) (hM : M ≤ 1000000000) :
    Calls Tryz.prog 100 #[.bool true, s, t] w (Ret w (CR (mkRat (iv true n) d) (max L M))) := by
  have Hn := Lib.hid hn
  have Hm := Lib.hid hm
  have Hd := Lib.hid hd
  have Hz := Lib.hid hz
  have He := Lib.hid he
  have Hl := Lib.hid hl
  clear hn hm hd hz he hl
  go_enter Tryz.func100, Tryz.ntmps100
  have HB := Lib.hid (Below.refl w.heap.size w)
  go_wp2_with fail
  obtain ⟨W1, hW⟩ : ∃ W1, W1 = (World.alloc w (.cells #[.bool false, .slice none 0 0, .slice none 0 0] 37)) := ⟨_, rfl⟩
  rw [← hW]
  obtain ⟨xa0, hk, hb⟩ := boxes_1 _ _ _ hW
  clear hW
  have Hn := Lib.hid (Is.keep Hn.out hk)
  have Hm := Lib.hid (Is.keep Hm.out hk)
  have Ga0 := Lib.hid (show w.heap.size ≤ w.heap.size from Nat.le_trans HB.out.size (by omega))
  have Xa0 := Lib.hid xa0
  have HB := Lib.hid (below_call HB.out hb)
  clear hk hb xa0
  (first | (have hcall := rgcd_can Hn.out Hm.out (by omega) (by omega); refine Calls.mono hcall ?_; clear hcall) | refine Calls.mono (rgcd_can Hn.out Hm.out (by omega) (by omega)) ?_)
  rintro e w2 ⟨v2, rfl, hg, hb⟩
  obtain ⟨g_a, g_n, g_c, rfl⟩ := hg.is.lit
  have Hn := Lib.hid (Is.keep Hn.out (Keep.call hb))
  have Hm := Lib.hid (Is.keep Hm.out (Keep.call hb))
  have Xa0 := Lib.hid (Box.pcall hb Xa0.out)
  have HB := Lib.hid (below_call HB.out hb)
  have Hg := Lib.hid hg
  clear hb hg
  obtain ⟨ca00, ca01, ca02, fa00, fa01, fa02⟩ := Xa0.out.c3
  have la0 := Xa0.out.lt
  go_wp2_with fail
  clear ca00 ca01 ca02 fa00 fa01 fa02 la0
  (first | (have hcall := rdivmod_pos (gcd_pos Hd.out) Hn.out Hg.out.is (by omega) (by omega); refine Calls.mono hcall ?_; clear hcall) | refine Calls.mono (rdivmod_pos (gcd_pos Hd.out) Hn.out Hg.out.is (by omega) (by omega)) ?_)
  rintro e w3 ⟨t3, rfl, ⟨v3, u3, rfl, hqa, hra⟩, hb⟩
  obtain ⟨qa_a, qa_n, qa_c, rfl⟩ := hqa.is.lit
  obtain ⟨ra_a, ra_n, ra_c, rfl⟩ := hra.is.lit
  have Hm := Lib.hid (Is.keep Hm.out (Keep.call hb))
  have Hg := Lib.hid (Can.keep Hg.out (Keep.call hb))
  have Xa0 := Lib.hid (Box.pcall hb Xa0.out)
  have HB := Lib.hid (below_call HB.out hb)
  have Hqa := Lib.hid hqa
  have Hra := Lib.hid hra
  clear hb hqa hra
  have hp0 : decide (0 < qa_n) = true := Hqa.out.pos (num_pos Hz.out)
  obtain ⟨ca00, ca01, ca02, fa00, fa01, fa02⟩ := Xa0.out.c3
  have la0 := Xa0.out.lt
  go_wp2_with fail
  clear ca00 ca01 ca02 fa00 fa01 fa02 la0
  (first | (have hcall := rdivmod_un (gcd_pos Hd.out) Hl.out Hm.out Hg.out.is (by omega) (by omega); refine Calls.mono hcall ?_; clear hcall) | refine Calls.mono (rdivmod_un (gcd_pos Hd.out) Hl.out Hm.out Hg.out.is (by omega) (by omega)) ?_)
  rintro e w4 ⟨t4, rfl, ⟨qb_a, qb_n, qb_c, u4, rfl, hqb, hlen⟩, hb⟩
  have Hqa := Lib.hid (Can.keep Hqa.out (Keep.call hb))
  have Xa0 := Lib.hid (Box.pcall hb Xa0.out)
  have HB := Lib.hid (below_call HB.out hb)
  have Hqb := Lib.hid hqb
  clear hb hqb
  obtain ⟨ca00, ca01, ca02, fa00, fa01, fa02⟩ := Xa0.out.c3
  have la0 := Xa0.out.lt
  go_wp2
  clear ca00 ca01 ca02 fa00 fa01 fa02 la0
  obtain ⟨W5, hW⟩ : ∃ W5, W5 = (World.setCell (World.setCell (World.setCell w4 ⟨w.heap.size, 0, none⟩ (.bool true)) ⟨w.heap.size, 1, none⟩ (.slice qa_a qa_n qa_c)) ⟨w.heap.size, 2, none⟩ (.slice qb_a qb_n qb_c)) := ⟨_, rfl⟩
  rw [← hW]
  obtain ⟨xa0, hk, hf, hbb, hz⟩ := stored3s hW Xa0.out (by first | exact NoInt.bool _ | exact NoInt.slice _ _ _) (by first | exact NoInt.bool _ | exact NoInt.slice _ _ _) (by first | exact NoInt.bool _ | exact NoInt.slice _ _ _)
  have Hqa := Lib.hid (Can.keep Hqa.out hk)
  have Hqb := Lib.hid (Can.keep Hqb.out hk)
  have Xa0 := Lib.hid xa0
  have HB := Lib.hid (hbb _ HB.out Ga0.out)
  clear hW hk hf hbb xa0
  clear hz
  exact ret_rat1 rfl rfl rfl Xa0.out (quot_four Hz.out Hd.out He.out Hqa.out Hqb.out) HB.out
set_option maxRecDepth 100000 in
set_option maxHeartbeats 4000000 in
theorem r3quot_3t {n d L M : Nat} {s t : Value}  {w : World} (hz : 0 < n) (he : (d / Nat.gcd n d == 1) = false) (hl : ((sz (d / Nat.gcd n d) : Nat) : Int) = 1) (hn : Is n L w s) (hm : Is d M w t) (hd : 0 < d) (hL : L ≤ 1000000000) (hM : M ≤ 1000000000) :
    Calls Tryz.prog 100 #[.bool true, s, t] w (Ret w (CR (mkRat (iv true n) d) (max L M))) := by
  have Hn := Lib.hid hn
  have Hm := Lib.hid hm
  have Hd := Lib.hid hd
  have Hz := Lib.hid hz
  have He := Lib.hid he
  have Hl := Lib.hid hl
  clear hn hm hd hz he hl
  go_enter Tryz.func100, Tryz.ntmps100
  have HB := Lib.hid (Below.refl w.heap.size w)
  go_wp2_with fail
  obtain ⟨W1, hW⟩ : ∃ W1, W1 = (World.alloc w (.cells #[.bool false, .slice none 0 0, .slice none 0 0] 37)) := ⟨_, rfl⟩
  rw [← hW]
  obtain ⟨xa0, hk, hb⟩ := boxes_1 _ _ _ hW
  clear hW
  have Hn := Lib.hid (Is.keep Hn.out hk)
  have Hm := Lib.hid (Is.keep Hm.out hk)
  have Ga0 := Lib.hid (show w.heap.size ≤ w.heap.size from Nat.le_trans HB.out.size (by omega))
  have Xa0 := Lib.hid xa0
  have HB := Lib.hid (below_call HB.out hb)
  clear hk hb xa0
  (first | (have hcall := rgcd_can Hn.out Hm.out (by omega) (by omega); refine Calls.mono hcall ?_; clear hcall) | refine Calls.mono (rgcd_can Hn.out Hm.out (by omega) (by omega)) ?_)
  rintro e w2 ⟨v2, rfl, hg, hb⟩
  obtain ⟨g_a, g_n, g_c, rfl⟩ := hg.is.lit
  have Hn := Lib.hid (Is.keep Hn.out (Keep.call hb))
  have Hm := Lib.hid (Is.keep Hm.out (Keep.call hb))
  have Xa0 := Lib.hid (Box.pcall hb Xa0.out)
  have HB := Lib.hid (below_call HB.out hb)
  have Hg := Lib.hid hg
  clear hb hg
  obtain ⟨ca00, ca01, ca02, fa00, fa01, fa02⟩ := Xa0.out.c3
  have la0 := Xa0.out.lt
  go_wp2_with fail
  clear ca00 ca01 ca02 fa00 fa01 fa02 la0
  (first | (have hcall := rdivmod_pos (gcd_pos Hd.out) Hn.out Hg.out.is (by omega) (by omega); refine Calls.mono hcall ?_; clear hcall) | refine Calls.mono (rdivmod_pos (gcd_pos Hd.out) Hn.out Hg.out.is (by omega) (by omega)) ?_)
  rintro e w3 ⟨t3, rfl, ⟨v3, u3, rfl, hqa, hra⟩, hb⟩
  obtain ⟨qa_a, qa_n, qa_c, rfl⟩ := hqa.is.lit
  obtain ⟨ra_a, ra_n, ra_c, rfl⟩ := hra.is.lit
  have Hm := Lib.hid (Is.keep Hm.out (Keep.call hb))
  have Hg := Lib.hid (Can.keep Hg.out (Keep.call hb))
  have Xa0 := Lib.hid (Box.pcall hb Xa0.out)
  have HB := Lib.hid (below_call HB.out hb)
  have Hqa := Lib.hid hqa
  have Hra := Lib.hid hra
  clear hb hqa hra
  have hp0 : decide (0 < qa_n) = true := Hqa.out.pos (num_pos Hz.out)
  obtain ⟨ca00, ca01, ca02, fa00, fa01, fa02⟩ := Xa0.out.c3
  have la0 := Xa0.out.lt
  go_wp2_with fail
  clear ca00 ca01 ca02 fa00 fa01 fa02 la0
  (first | (have hcall := rdivmod_uk (gcd_pos Hd.out) He.out Hl.out Hm.out Hg.out.is (by omega) (by omega); refine Calls.mono hcall ?_; clear hcall) | refine Calls.mono (rdivmod_uk (gcd_pos Hd.out) He.out Hl.out Hm.out Hg.out.is (by omega) (by omega)) ?_)
  rintro e w4 ⟨t4, rfl, ⟨qb_b, qb_o, qb_c, u4, qb_k, rfl, hqb, hcell, hk1⟩, hb⟩
  have Hqa := Lib.hid (Can.keep Hqa.out (Keep.call hb))
  have Xa0 := Lib.hid (Box.pcall hb Xa0.out)
  have HB := Lib.hid (below_call HB.out hb)
  have Hqb := Lib.hid hqb
  clear hb hqb
  obtain ⟨ca00, ca01, ca02, fa00, fa01, fa02⟩ := Xa0.out.c3
  have la0 := Xa0.out.lt
  go_wp2
  clear ca00 ca01 ca02 fa00 fa01 fa02 la0
  obtain ⟨W5, hW⟩ : ∃ W5, W5 = (World.setCell (World.setCell (World.setCell w4 ⟨w.heap.size, 0, none⟩ (.bool true)) ⟨w.heap.size, 1, none⟩ (.slice qa_a qa_n qa_c)) ⟨w.heap.size, 2, none⟩ (.slice (some ⟨qb_b, qb_o, none⟩) 1 qb_c)) := ⟨_, rfl⟩
  rw [← hW]
  obtain ⟨xa0, hk, hf, hbb, hz⟩ := stored3s hW Xa0.out (by first | exact NoInt.bool _ | exact NoInt.slice _ _ _) (by first | exact NoInt.bool _ | exact NoInt.slice _ _ _) (by first | exact NoInt.bool _ | exact NoInt.slice _ _ _)
  have Hqa := Lib.hid (Can.keep Hqa.out hk)
  have Hqb := Lib.hid (Can.keep Hqb.out hk)
  have Xa0 := Lib.hid xa0
  have HB := Lib.hid (hbb _ HB.out Ga0.out)
  clear hW hk hf hbb xa0
  clear hz
  exact ret_rat1 rfl rfl rfl Xa0.out (quot_four Hz.out Hd.out He.out Hqa.out Hqb.out) HB.out
set_option maxRecDepth 100000 in
set_option maxHeartbeats 4000000 in
theorem r3quot_0f {n d L M : Nat} {s t : Value}  {w : World} (hz : n = 0) (hn : Is n L w s) (hm : Is d M w t) (hd : 0 < d) (hL : L ≤ 1000000000) (hM : M ≤ 1000000000) :
    Calls Tryz.prog 100 #[.bool false, s, t] w (Ret w (CR (mkRat (iv false n) d) (max L M))) := by
  have Hn := Lib.hid hn
  have Hm := Lib.hid hm
  have Hd := Lib.hid hd
  have Hz := Lib.hid hz
  clear hn hm hd hz
  go_enter Tryz.func100, Tryz.ntmps100
  have HB := Lib.hid (Below.refl w.heap.size w)
  go_wp2_with fail
  obtain ⟨W1, hW⟩ : ∃ W1, W1 = (World.alloc w (.cells #[.bool false, .slice none 0 0, .slice none 0 0] 37)) := ⟨_, rfl⟩
  rw [← hW]
  obtain ⟨xa0, hk, hb⟩ := boxes_1 _ _ _ hW
  clear hW
  have Hn := Lib.hid (Is.keep Hn.out hk)
  have Hm := Lib.hid (Is.keep Hm.out hk)
  have Ga0 := Lib.hid (show w.heap.size ≤ w.heap.size from Nat.le_trans HB.out.size (by omega))
  have Xa0 := Lib.hid xa0
  have HB := Lib.hid (below_call HB.out hb)
  clear hk hb xa0
  (first | (have hcall := rgcd_can Hn.out Hm.out (by omega) (by omega); refine Calls.mono hcall ?_; clear hcall) | refine Calls.mono (rgcd_can Hn.out Hm.out (by omega) (by omega)) ?_)
  rintro e w2 ⟨v2, rfl, hg, hb⟩
  obtain ⟨g_a, g_n, g_c, rfl⟩ := hg.is.lit
  have Hn := Lib.hid (Is.keep Hn.out (Keep.call hb))
  have Hm := Lib.hid (Is.keep Hm.out (Keep.call hb))
  have Xa0 := Lib.hid (Box.pcall hb Xa0.out)
  have HB := Lib.hid (below_call HB.out hb)
  have Hg := Lib.hid hg
  clear hb hg
  obtain ⟨ca00, ca01, ca02, fa00, fa01, fa02⟩ := Xa0.out.c3
  have la0 := Xa0.out.lt
  go_wp2_with fail
  clear ca00 ca01 ca02 fa00 fa01 fa02 la0
  (first | (have hcall := rdivmod_pos (gcd_pos Hd.out) Hn.out Hg.out.is (by omega) (by omega); refine Calls.mono hcall ?_; clear hcall) | refine Calls.mono (rdivmod_pos (gcd_pos Hd.out) Hn.out Hg.out.is (by omega) (by omega)) ?_)
  rintro e w3 ⟨t3, rfl, ⟨v3, u3, rfl, hqa, hra⟩, hb⟩
  obtain ⟨qa_a, qa_n, qa_c, rfl⟩ := hqa.is.lit
  obtain ⟨ra_a, ra_n, ra_c, rfl⟩ := hra.is.lit
  have Hm := Lib.hid (Is.keep Hm.out (Keep.call hb))
  have Hg := Lib.hid (Can.keep Hg.out (Keep.call hb))
  have Xa0 := Lib.hid (Box.pcall hb Xa0.out)
  have HB := Lib.hid (below_call HB.out hb)
  have Hqa := Lib.hid hqa
  have Hra := Lib.hid hra
  clear hb hqa hra
  have hp0 : decide (0 < qa_n) = false := Hqa.out.posF (by rw [Hz.out, Nat.zero_div])
  obtain ⟨ca00, ca01, ca02, fa00, fa01, fa02⟩ := Xa0.out.c3
  have la0 := Xa0.out.lt
  go_wp2_with fail
  clear ca00 ca01 ca02 fa00 fa01 fa02 la0
  (first | (have hcall := rdivmod_u1 (gcd_pos Hd.out) (den_zero Hz.out Hd.out) Hm.out Hg.out.is (by omega) (by omega); refine Calls.mono hcall ?_; clear hcall) | refine Calls.mono (rdivmod_u1 (gcd_pos Hd.out) (den_zero Hz.out Hd.out) Hm.out Hg.out.is (by omega) (by omega)) ?_)
  rintro e w4 ⟨t4, rfl, ⟨qb_b, qb_o, qb_c, u4, rfl, hqb, hcell⟩, hb⟩
  have Hm := Lib.hid (Is.keep Hm.out (Keep.call hb))
  have Hqa := Lib.hid (Can.keep Hqa.out (Keep.call hb))
  have Xa0 := Lib.hid (Box.pcall hb Xa0.out)
  have HB := Lib.hid (below_call HB.out hb)
  have Hqb := Lib.hid hqb
  clear hb hqb
  obtain ⟨ca00, ca01, ca02, fa00, fa01, fa02⟩ := Xa0.out.c3
  have la0 := Xa0.out.lt
  go_wp2
  clear ca00 ca01 ca02 fa00 fa01 fa02 la0
  obtain ⟨W5, hW⟩ : ∃ W5, W5 = (World.setCell (World.setCell (World.setCell w4 ⟨w.heap.size, 0, none⟩ (.bool false)) ⟨w.heap.size, 1, none⟩ (.slice qa_a qa_n qa_c)) ⟨w.heap.size, 2, none⟩ (.slice none 0 0)) := ⟨_, rfl⟩
  rw [← hW]
  obtain ⟨xa0, hk, hf, hbb, hz⟩ := stored3s hW Xa0.out (by first | exact NoInt.bool _ | exact NoInt.slice _ _ _) (by first | exact NoInt.bool _ | exact NoInt.slice _ _ _) (by first | exact NoInt.bool _ | exact NoInt.slice _ _ _)
  have Hm := Lib.hid (Is.keep Hm.out hk)
  have Hqa := Lib.hid (Can.keep Hqa.out hk)
  have Xa0 := Lib.hid xa0
  have HB := Lib.hid (hbb _ HB.out Ga0.out)
  clear hW hk hf hbb xa0
  clear hz
  exact ret_rat1 rfl rfl rfl Xa0.out (rquot_zero (neg := false) Hz.out Hd.out Hqa.out Hm.out) HB.out
set_option maxRecDepth 100000 in
set_option maxHeartbeats 4000000 in
theorem r3quot_1f {n d L M : Nat} {s t : Value}  {w : World} (hz : 0 < n) (he : (d / Nat.gcd n d == 1) = true) (hn : Is n L w s) (hm : Is d M w t) (hd : 0 < d) (hL : L ≤ 1000000000) (hM : M ≤ 1000000000) :
    Calls Tryz.prog 100 #[.bool false, s, t] w (Ret w (CR (mkRat (iv false n) d) (max L M))) := by
  have Hn := Lib.hid hn
  have Hm := Lib.hid hm
  have Hd := Lib.hid hd
  have Hz := Lib.hid hz
  have He := Lib.hid he
  clear hn hm hd hz he
  go_enter Tryz.func100, Tryz.ntmps100
  have HB := Lib.hid (Below.refl w.heap.size w)
  go_wp2_with fail
  obtain ⟨W1, hW⟩ : ∃ W1, W1 = (World.alloc w (.cells #[.bool false, .slice none 0 0, .slice none 0 0] 37)) := ⟨_, rfl⟩
  rw [← hW]
  obtain ⟨xa0, hk, hb⟩ := boxes_1 _ _ _ hW
  clear hW
  have Hn := Lib.hid (Is.keep Hn.out hk)
  have Hm := Lib.hid (Is.keep Hm.out hk)
  have Ga0 := Lib.hid (show w.heap.size ≤ w.heap.size from Nat.le_trans HB.out.size (by omega))
  have Xa0 := Lib.hid xa0
  have HB := Lib.hid (below_call HB.out hb)
  clear hk hb xa0
  (first | (have hcall := rgcd_can Hn.out Hm.out (by omega) (by omega); refine Calls.mono hcall ?_; clear hcall) | refine Calls.mono (rgcd_can Hn.out Hm.out (by omega) (by omega)) ?_)
  rintro e w2 ⟨v2, rfl, hg, hb⟩
  obtain ⟨g_a, g_n, g_c, rfl⟩ := hg.is.lit
  have Hn := Lib.hid (Is.keep Hn.out (Keep.call hb))
  have Hm := Lib.hid (Is.keep Hm.out (Keep.call hb))
  have Xa0 := Lib.hid (Box.pcall hb Xa0.out)
  have HB := Lib.hid (below_call HB.out hb)
  have Hg := Lib.hid hg
  clear hb hg
  obtain ⟨ca00, ca01, ca02, fa00, fa01, fa02⟩ := Xa0.out.c3
  have la0 := Xa0.out.lt
  go_wp2_with fail
  clear ca00 ca01 ca02 fa00 fa01 fa02 la0
  (first | (have hcall := rdivmod_pos (gcd_pos Hd.out) Hn.out Hg.out.is (by omega) (by omega); refine Calls.mono hcall ?_; clear hcall) | refine Calls.mono (rdivmod_pos (gcd_pos Hd.out) Hn.out Hg.out.is (by omega) (by omega)) ?_)
  rintro e w3 ⟨t3, rfl, ⟨v3, u3, rfl, hqa, hra⟩, hb⟩
  obtain ⟨qa_a, qa_n, qa_c, rfl⟩ := hqa.is.lit
  obtain ⟨ra_a, ra_n, ra_c, rfl⟩ := hra.is.lit
  have Hm := Lib.hid (Is.keep Hm.out (Keep.call hb))
  have Hg := Lib.hid (Can.keep Hg.out (Keep.call hb))
  have Xa0 := Lib.hid (Box.pcall hb Xa0.out)
  have HB := Lib.hid (below_call HB.out hb)
  have Hqa := Lib.hid hqa
  have Hra := Lib.hid hra
  clear hb hqa hra
  have hp0 : decide (0 < qa_n) = true := Hqa.out.pos (num_pos Hz.out)
  obtain ⟨ca00, ca01, ca02, fa00, fa01, fa02⟩ := Xa0.out.c3
  have la0 := Xa0.out.lt
  go_wp2_with fail
  clear ca00 ca01 ca02 fa00 fa01 fa02 la0
  (first | (have hcall := rdivmod_u1 (gcd_pos Hd.out) He.out Hm.out Hg.out.is (by omega) (by omega); refine Calls.mono hcall ?_; clear hcall) | refine Calls.mono (rdivmod_u1 (gcd_pos Hd.out) He.out Hm.out Hg.out.is (by omega) (by omega)) ?_)
  rintro e w4 ⟨t4, rfl, ⟨qb_b, qb_o, qb_c, u4, rfl, hqb, hcell⟩, hb⟩
  have Hm := Lib.hid (Is.keep Hm.out (Keep.call hb))
  have Hqa := Lib.hid (Can.keep Hqa.out (Keep.call hb))
  have Xa0 := Lib.hid (Box.pcall hb Xa0.out)
  have HB := Lib.hid (below_call HB.out hb)
  have Hqb := Lib.hid hqb
  clear hb hqb
  obtain ⟨ca00, ca01, ca02, fa00, fa01, fa02⟩ := Xa0.out.c3
  have la0 := Xa0.out.lt
  go_wp2
  clear ca00 ca01 ca02 fa00 fa01 fa02 la0
  obtain ⟨W5, hW⟩ : ∃ W5, W5 = (World.setCell (World.setCell (World.setCell w4 ⟨w.heap.size, 0, none⟩ (.bool false)) ⟨w.heap.size, 1, none⟩ (.slice qa_a qa_n qa_c)) ⟨w.heap.size, 2, none⟩ (.slice none 0 0)) := ⟨_, rfl⟩
  rw [← hW]
  obtain ⟨xa0, hk, hf, hbb, hz⟩ := stored3s hW Xa0.out (by first | exact NoInt.bool _ | exact NoInt.slice _ _ _) (by first | exact NoInt.bool _ | exact NoInt.slice _ _ _) (by first | exact NoInt.bool _ | exact NoInt.slice _ _ _)
  have Hm := Lib.hid (Is.keep Hm.out hk)
  have Hqa := Lib.hid (Can.keep Hqa.out hk)
  have Xa0 := Lib.hid xa0
  have HB := Lib.hid (hbb _ HB.out Ga0.out)
  clear hW hk hf hbb xa0
  clear hz
  exact ret_rat1 rfl rfl rfl Xa0.out (quot_three Hz.out Hd.out He.out Hqa.out Hm.out) HB.out
set_option maxRecDepth 100000 in
set_option maxHeartbeats 4000000 in
theorem r3quot_2f {n d L M : Nat} {s t : Value}  {w : World} (hz : 0 < n) (he : (d / Nat.gcd n d == 1) = false) (hl : ((sz (d / Nat.gcd n d) : Nat) : Int) ≠ 1) (hn : Is n L w s) (hm : Is d M w t) (hd : 0 < d) (hL : L ≤ 1000000000) (hM : M ≤ 1000000000) :
    Calls Tryz.prog 100 #[.bool false, s, t] w (Ret w (CR (mkRat (iv false n) d) (max L M))) := by
  have Hn := Lib.hid hn
  have Hm := Lib.hid hm
  have Hd := Lib.hid hd
  have Hz := Lib.hid hz
  have He := Lib.hid he
  have Hl := Lib.hid hl
  clear hn hm hd hz he hl
  go_enter Tryz.func100, Tryz.ntmps100
  have HB := Lib.hid (Below.refl w.heap.size w)
  go_wp2_with fail
  obtain ⟨W1, hW⟩ : ∃ W1, W1 = (World.alloc w (.cells #[.bool false, .slice none 0 0, .slice none 0 0] 37)) := ⟨_, rfl⟩
  rw [← hW]
  obtain ⟨xa0, hk, hb⟩ := boxes_1 _ _ _ hW
  clear hW
  have Hn := Lib.hid (Is.keep Hn.out hk)
  have Hm := Lib.hid (Is.keep Hm.out hk)
  have Ga0 := Lib.hid (show w.heap.size ≤ w.heap.size from Nat.le_trans HB.out.size (by omega))
  have Xa0 := Lib.hid xa0
  have HB := Lib.hid (below_call HB.out hb)
  clear hk hb xa0
  (first | (have hcall := rgcd_can Hn.out Hm.out (by omega) (by omega); refine Calls.mono hcall ?_; clear hcall) | refine Calls.mono (rgcd_can Hn.out Hm.out (by omega) (by omega)) ?_)
  rintro e w2 ⟨v2, rfl, hg, hb⟩
  obtain ⟨g_a, g_n, g_c, rfl⟩ := hg.is.lit
  have Hn := Lib.hid (Is.keep Hn.out (Keep.call hb))
  have Hm := Lib.hid (Is.keep Hm.out (Keep.call hb))
  have Xa0 := Lib.hid (Box.pcall hb Xa0.out)
  have HB := Lib.hid (below_call HB.out hb)
  have Hg := Lib.hid hg
  clear hb hg
  obtain ⟨ca00, ca01, ca02, fa00, fa01, fa02⟩ := Xa0.out.c3
  have la0 := Xa0.out.lt
  go_wp2_with fail
  clear ca00 ca01 ca02 fa00 fa01 fa02 la0
  (first | (have hcall := rdivmod_pos (gcd_pos Hd.out) Hn.out Hg.out.is (by omega) (by omega); refine Calls.mono hcall ?_; clear hcall) | refine Calls.mono (rdivmod_pos (gcd_pos Hd.out) Hn.out Hg.out.is (by omega) (by omega)) ?_)
  rintro e w3 ⟨t3, rfl, ⟨v3, u3, rfl, hqa, hra⟩, hb⟩
  obtain ⟨qa_a, qa_n, qa_c, rfl⟩ := hqa.is.lit
  obtain ⟨ra_a, ra_n, ra_c, rfl⟩ := hra.is.lit
  have Hm := Lib.hid (Is.keep Hm.out (Keep.call hb))
  have Hg := Lib.hid (Can.keep Hg.out (Keep.call hb))
  have Xa0 := Lib.hid (Box.pcall hb Xa0.out)
  have HB := Lib.hid (below_call HB.out hb)
  have Hqa := Lib.hid hqa
  have Hra := Lib.hid hra
  clear hb hqa hra
  have hp0 : decide (0 < qa_n) = true := Hqa.out.pos (num_pos Hz.out)
  obtain ⟨ca00, ca01, ca02, fa00, fa01, fa02⟩ := Xa0.out.c3
  have la0 := Xa0.out.lt
  go_wp2_with fail
  clear ca00 ca01 ca02 fa00 fa01 fa02 la0
  (first | (have hcall := rdivmod_un (gcd_pos Hd.out) Hl.out Hm.out Hg.out.is (by omega) (by omega); refine Calls.mono hcall ?_; clear hcall) | refine Calls.mono (rdivmod_un (gcd_pos Hd.out) Hl.out Hm.out Hg.out.is (by omega) (by omega)) ?_)
  rintro e w4 ⟨t4, rfl, ⟨qb_a, qb_n, qb_c, u4, rfl, hqb, hlen⟩, hb⟩
  have Hqa := Lib.hid (Can.keep Hqa.out (Keep.call hb))
  have Xa0 := Lib.hid (Box.pcall hb Xa0.out)
  have HB := Lib.hid (below_call HB.out hb)
  have Hqb := Lib.hid hqb
  clear hb hqb
  obtain ⟨ca00, ca01, ca02, fa00, fa01, fa02⟩ := Xa0.out.c3
  have la0 := Xa0.out.lt
  go_wp2
  clear ca00 ca01 ca02 fa00 fa01 fa02 la0
  obtain ⟨W5, hW⟩ : ∃ W5, W5 = (World.setCell (World.setCell (World.setCell w4 ⟨w.heap.size, 0, none⟩ (.bool false)) ⟨w.heap.size, 1, none⟩ (.slice qa_a qa_n qa_c)) ⟨w.heap.size, 2, none⟩ (.slice qb_a qb_n qb_c)) := ⟨_, rfl⟩
  rw [← hW]
  obtain ⟨xa0, hk, hf, hbb, hz⟩ := stored3s hW Xa0.out (by first | exact NoInt.bool _ | exact NoInt.slice _ _ _) (by first | exact NoInt.bool _ | exact NoInt.slice _ _ _) (by first | exact NoInt.bool _ | exact NoInt.slice _ _ _)
  have Hqa := Lib.hid (Can.keep Hqa.out hk)
  have Hqb := Lib.hid (Can.keep Hqb.out hk)
  have Xa0 := Lib.hid xa0
  have HB := Lib.hid (hbb _ HB.out Ga0.out)
  clear hW hk hf hbb xa0
  clear hz
  exact ret_rat1 rfl rfl rfl Xa0.out (quot_four Hz.out Hd.out He.out Hqa.out Hqb.out) HB.out
set_option maxRecDepth 100000 in
set_option maxHeartbeats 4000000 in
theorem r3quot_3f {n d L M : Nat} {s t : Value}  {w : World} (hz : 0 < n) (he : (d / Nat.gcd n d == 1) = false) (hl : ((sz (d / Nat.gcd n d) : Nat) : Int) = 1) (hn : Is n L w s) (hm : Is d M w t) (hd : 0 < d) (hL : L ≤ 1000000000) (hM : M ≤ 1000000000) :
    Calls Tryz.prog 100 #[.bool false, s, t] w (Ret w (CR (mkRat (iv false n) d) (max L M))) := by
  have Hn := Lib.hid hn
  have Hm := Lib.hid hm
  have Hd := Lib.hid hd
  have Hz := Lib.hid hz
  have He := Lib.hid he
  have Hl := Lib.hid hl
  clear hn hm hd hz he hl
  go_enter Tryz.func100, Tryz.ntmps100
  have HB := Lib.hid (Below.refl w.heap.size w)
  go_wp2_with fail
  obtain ⟨W1, hW⟩ : ∃ W1, W1 = (World.alloc w (.cells #[.bool false, .slice none 0 0, .slice none 0 0] 37)) := ⟨_, rfl⟩
  rw [← hW]
  obtain ⟨xa0, hk, hb⟩ := boxes_1 _ _ _ hW
  clear hW
  have Hn := Lib.hid (Is.keep Hn.out hk)
  have Hm := Lib.hid (Is.keep Hm.out hk)
  have Ga0 := Lib.hid (show w.heap.size ≤ w.heap.size from Nat.le_trans HB.out.size (by omega))
  have Xa0 := Lib.hid xa0
  have HB := Lib.hid (below_call HB.out hb)
  clear hk hb xa0
  (first | (have hcall := rgcd_can Hn.out Hm.out (by omega) (by omega); refine Calls.mono hcall ?_; clear hcall) | refine Calls.mono (rgcd_can Hn.out Hm.out (by omega) (by omega)) ?_)
  rintro e w2 ⟨v2, rfl, hg, hb⟩
  obtain ⟨g_a, g_n, g_c, rfl⟩ := hg.is.lit
  have Hn := Lib.hid (Is.keep Hn.out (Keep.call hb))
  have Hm := Lib.hid (Is.keep Hm.out (Keep.call hb))
  have Xa0 := Lib.hid (Box.pcall hb Xa0.out)
  have HB := Lib.hid (below_call HB.out hb)
  have Hg := Lib.hid hg
  clear hb hg
  obtain ⟨ca00, ca01, ca02, fa00, fa01, fa02⟩ := Xa0.out.c3
  have la0 := Xa0.out.lt
  go_wp2_with fail
  clear ca00 ca01 ca02 fa00 fa01 fa02 la0
  (first | (have hcall := rdivmod_pos (gcd_pos Hd.out) Hn.out Hg.out.is (by omega) (by omega); refine Calls.mono hcall ?_; clear hcall) | refine Calls.mono (rdivmod_pos (gcd_pos Hd.out) Hn.out Hg.out.is (by omega) (by omega)) ?_)
  rintro e w3 ⟨t3, rfl, ⟨v3, u3, rfl, hqa, hra⟩, hb⟩
  obtain ⟨qa_a, qa_n, qa_c, rfl⟩ := hqa.is.lit
  obtain ⟨ra_a, ra_n, ra_c, rfl⟩ := hra.is.lit
  have Hm := Lib.hid (Is.keep Hm.out (Keep.call hb))
  have Hg := Lib.hid (Can.keep Hg.out (Keep.call hb))
  have Xa0 := Lib.hid (Box.pcall hb Xa0.out)
  have HB := Lib.hid (below_call HB.out hb)
  have Hqa := Lib.hid hqa
  have Hra := Lib.hid hra
  clear hb hqa hra
  have hp0 : decide (0 < qa_n) = true := Hqa.out.pos (num_pos Hz.out)
  obtain ⟨ca00, ca01, ca02, fa00, fa01, fa02⟩ := Xa0.out.c3
  have la0 := Xa0.out.lt
  go_wp2_with fail
  clear ca00 ca01 ca02 fa00 fa01 fa02 la0
  (first | (have hcall := rdivmod_uk (gcd_pos Hd.out) He.out Hl.out Hm.out Hg.out.is (by omega) (by omega); refine Calls.mono hcall ?_; clear hcall) | refine Calls.mono (rdivmod_uk (gcd_pos Hd.out) He.out Hl.out Hm.out Hg.out.is (by omega) (by omega)) ?_)
  rintro e w4 ⟨t4, rfl, ⟨qb_b, qb_o, qb_c, u4, qb_k, rfl, hqb, hcell, hk1⟩, hb⟩
  have Hqa := Lib.hid (Can.keep Hqa.out (Keep.call hb))
  have Xa0 := Lib.hid (Box.pcall hb Xa0.out)
  have HB := Lib.hid (below_call HB.out hb)
  have Hqb := Lib.hid hqb
  clear hb hqb
  obtain ⟨ca00, ca01, ca02, fa00, fa01, fa02⟩ := Xa0.out.c3
  have la0 := Xa0.out.lt
  go_wp2
  clear ca00 ca01 ca02 fa00 fa01 fa02 la0
  obtain ⟨W5, hW⟩ : ∃ W5, W5 = (World.setCell (World.setCell (World.setCell w4 ⟨w.heap.size, 0, none⟩ (.bool false)) ⟨w.heap.size, 1, none⟩ (.slice qa_a qa_n qa_c)) ⟨w.heap.size, 2, none⟩ (.slice (some ⟨qb_b, qb_o, none⟩) 1 qb_c)) := ⟨_, rfl⟩
  rw [← hW]
  obtain ⟨xa0, hk, hf, hbb, hz⟩ := stored3s hW Xa0.out (by first | exact NoInt.bool _ | exact NoInt.slice _ _ _) (by first | exact NoInt.bool _ | exact NoInt.slice _ _ _) (by first | exact NoInt.bool _ | exact NoInt.slice _ _ _)
  have Hqa := Lib.hid (Can.keep Hqa.out hk)
  have Hqb := Lib.hid (Can.keep Hqb.out hk)
  have Xa0 := Lib.hid xa0
  have HB := Lib.hid (hbb _ HB.out Ga0.out)
  clear hW hk hf hbb xa0
  clear hz
  exact ret_rat1 rfl rfl rfl Xa0.out (quot_four Hz.out Hd.out He.out Hqa.out Hqb.out) HB.out
theorem r3quot_is {neg : Bool} {n d L M : Nat} {s t : Value} {w : World} (hd : 0 < d) (hn : Is n L w s) (hm : Is d M w t) (hL : L ≤ 1000000000) (hM : M ≤ 1000000000) :
    Calls Tryz.prog 100 #[.bool neg, s, t] w (Ret w (CR (mkRat (iv neg n) d) (max L M))) := by
  rcases Nat.eq_zero_or_pos n with h0 | h0
  · cases neg
    · exact r3quot_0f h0 hn hm hd hL hM
    · exact r3quot_0t h0 hn hm hd hL hM
  · cases h1 : d / Nat.gcd n d == 1
    · by_cases h2 : ((sz (d / Nat.gcd n d) : Nat) : Int) = 1
      · cases neg
        · exact r3quot_3f h0 h1 h2 hn hm hd hL hM
        · exact r3quot_3t h0 h1 h2 hn hm hd hL hM
      · cases neg
        · exact r3quot_2f h0 h1 h2 hn hm hd hL hM
        · exact r3quot_2t h0 h1 h2 hn hm hd hL hM
    · cases neg
      · exact r3quot_1f h0 h1 hn hm hd hL hM
      · exact r3quot_1t h0 h1 hn hm hd hL hM
end Go.Proofs.YtikglhmabidjoaaGreatDoor
namespace Go.Proofs.YtikglhmabidjoaaGreatDoor
open Go.RowKit Nt
set_option linter.unusedVariables false
theorem CR.of_int {z : Int} {L : Nat} {w : World} {b : Bool} {s : Value} (h : CL z L w (.agg #[.bool b, s])) : CR (z : Rat) (max L 1) w (.agg #[.bool b, s, .slice none 0 0]) := by
  obtain ⟨⟨s', he, h2⟩, h3⟩ := h
  injection he with he; injection he with he; injection he with e1 he; injection he with e2 _; injection e1 with e1
  subst e1 e2
  refine ⟨⟨s, .slice none 0 0, ?_, h2, ?_⟩, Nat.le_trans h3 (Nat.le_max_left _ _), Nat.le_trans (sz_le (by decide) : sz 1 ≤ 1) (Nat.le_max_right _ _)⟩
  · congr 4
    rw [Bool.eq_iff_iff]
    simp only [decide_eq_true_eq]
    exact Rat.intCast_neg_iff.symm
  · show Sl w _ (limbs 0); rw [limbs_zero]; exact Sl.nil w
theorem zadd_parts {ba bb bs : Bool} {na da nb db : Nat} (h : iv bs (iv ba (na * un db) + iv bb (nb * un da)).natAbs = iv ba (na * un db) + iv bb (nb * un da)) :
    mkRat (iv bs (iv ba (na * un db) + iv bb (nb * un da)).natAbs) (un da * un db) = rv ba na da + rv bb nb db := by
  rw [h]; unfold rv
  rw [Rat.mkRat_add_mkRat _ _ (un_ne _) (un_ne _)]
  congr 1
  cases ba <;> cases bb <;> simp [iv, Int.natCast_mul, Int.neg_mul]
set_option maxRecDepth 100000 in
set_option maxHeartbeats 4000000 in
theorem zcanon_p {L : Nat} {ba : Bool} {na da : Nat} {sa ta : Value} {w : World} (hna : Is na L w sa) (hda : Is da L w ta) (hL : L ≤ 100000000) :
    Calls Tryz.prog 144 #[.agg #[.bool ba, sa, ta]] w (Ret w (CR (rv ba na da) (max L 1))) := by
  have Hna := Lib.hid hna
  have Hda := Lib.hid hda
  clear hna hda
  go_enter Tryz.func144, Tryz.ntmps144
  have HB := Lib.hid (Below.refl w.heap.size w)
  go_wp2_with fail
  obtain ⟨W1, hW⟩ : ∃ W1, W1 = (World.alloc (World.alloc w (.cells #[.bool ba, sa, ta] 37)) (.cells #[.bool false, .slice none 0 0, .slice none 0 0] 37)) := ⟨_, rfl⟩
  rw [← hW]
  obtain ⟨xa0, xb0, hk, hb⟩ := boxes_2 _ _ _ _ _ hW
  clear hW
  have Hna := Lib.hid (Is.keep Hna.out hk)
  have Hda := Lib.hid (Is.keep Hda.out hk)
  have Ga0 := Lib.hid (show w.heap.size ≤ w.heap.size from Nat.le_trans HB.out.size (by omega))
  have Gb0 := Lib.hid (show w.heap.size ≤ w.heap.size + 1 from Nat.le_trans HB.out.size (by omega))
  have Xa0 := Lib.hid xa0
  have Xb0 := Lib.hid xb0
  have HB := Lib.hid (below_call HB.out hb)
  clear hk hb xa0 xb0
  have Hna := Lib.hid (Is.keep Hna.out (Keep.drew W1))
  have Hda := Lib.hid (Is.keep Hda.out (Keep.drew W1))
  have Xa0 := Lib.hid (Box.drew Xa0.out)
  have Xb0 := Lib.hid (Box.drew Xb0.out)
  have HB := Lib.hid (Below.drew HB.out)
  refine wp_region_float [w.heap.size + 1] [] (by kernel_rfl) (by kernel_rfl) 11 (by kernel_rfl) Flok.nil ?_
  intro ok
  have Hok := Lib.hid ok
  clear ok
  have HG := Lib.hid (Below.refl (W1.drew).heap.size (W1.drew))
  refine good_pureX 0 (some 3) (Go.Op.fieldAddr 37 (Go.Operand.tmp 1) 0) (none) (.pointer (some ⟨w.heap.size, 0, none⟩)) (by kernel_rfl) (by kernel_rfl) (by kernel_rfl) (fun _ _ _ h => h) (fun w' hw' => ?_) ?_
  · first | (go_simp; done) | (go_simp; simp_all; done) | (go_simp; rfl)
  simp only [Act.put, List.setIfInBounds_toArray, List.set_cons_zero, List.set_cons_succ]
  refine good_pureX 1 (some 4) (Go.Op.load 4 (Go.Operand.tmp 3)) (none) (.bool ba) (by kernel_rfl) (by kernel_rfl) (by kernel_rfl) (fun _ _ _ h => h) (fun w' hw' => ?_) ?_
  · obtain ⟨ca00, ca01, ca02, fa00, fa01, fa02⟩ := (Box.se hw' Xa0.out (notin1 (by omega))).c3
    first | (go_simp; done) | (go_simp; simp_all; done) | (go_simp; rfl)
  simp only [Act.put, List.setIfInBounds_toArray, List.set_cons_zero, List.set_cons_succ]
  refine good_pureX 2 (some 5) (Go.Op.fieldAddr 37 (Go.Operand.tmp 1) 1) (none) (.pointer (some ⟨w.heap.size, 1, none⟩)) (by kernel_rfl) (by kernel_rfl) (by kernel_rfl) (fun _ _ _ h => h) (fun w' hw' => ?_) ?_
  · first | (go_simp; done) | (go_simp; simp_all; done) | (go_simp; rfl)
  simp only [Act.put, List.setIfInBounds_toArray, List.set_cons_zero, List.set_cons_succ]
  refine good_pureX 3 (some 6) (Go.Op.load 35 (Go.Operand.tmp 5)) (none) (sa) (by kernel_rfl) (by kernel_rfl) (by kernel_rfl) (fun _ _ _ h => h) (fun w' hw' => ?_) ?_
  · obtain ⟨ca00, ca01, ca02, fa00, fa01, fa02⟩ := (Box.se hw' Xa0.out (notin1 (by omega))).c3
    first | (go_simp; done) | (go_simp; simp_all; done) | (go_simp; rfl)
  simp only [Act.put, List.setIfInBounds_toArray, List.set_cons_zero, List.set_cons_succ]
  refine good_pureX 4 (some 7) (Go.Op.fieldAddr 37 (Go.Operand.tmp 1) 2) (none) (.pointer (some ⟨w.heap.size, 2, none⟩)) (by kernel_rfl) (by kernel_rfl) (by kernel_rfl) (fun _ _ _ h => h) (fun w' hw' => ?_) ?_
  · first | (go_simp; done) | (go_simp; simp_all; done) | (go_simp; rfl)
  simp only [Act.put, List.setIfInBounds_toArray, List.set_cons_zero, List.set_cons_succ]
  refine good_pureX 5 (some 8) (Go.Op.load 35 (Go.Operand.tmp 7)) (none) (ta) (by kernel_rfl) (by kernel_rfl) (by kernel_rfl) (fun _ _ _ h => h) (fun w' hw' => ?_) ?_
  · obtain ⟨ca00, ca01, ca02, fa00, fa01, fa02⟩ := (Box.se hw' Xa0.out (notin1 (by omega))).c3
    first | (go_simp; done) | (go_simp; simp_all; done) | (go_simp; rfl)
  simp only [Act.put, List.setIfInBounds_toArray, List.set_cons_zero, List.set_cons_succ]
  refine good_callX 6 98 (some 9) #[Go.Operand.tmp 8] #[35] (none) #[ta] (by kernel_rfl) Hok.out (by kernel_rfl) (by kernel_rfl) (by kernel_rfl) (by kernel_rfl) rfl rfl rfl (by kernel_rfl) (fun w2 hb => ?_)
  have HG := Lib.hid (below_call HG.out hb)
  clear hb
  (first | (have hcall := r3one_is (Is.keep Hda.out (Keep.call HG.out)); refine Calls.mono hcall ?_; clear hcall) | refine Calls.mono (r3one_is (Is.keep Hda.out (Keep.call HG.out))) ?_)
  rintro e w3 ⟨v3, rfl, hu, hb⟩
  obtain ⟨u_a, u_n, u_c, rfl⟩ := hu.lit
  refine ⟨_, rfl, ?_, hb⟩
  have HG := Lib.hid (below_call HG.out hb)
  have Hu := Lib.hid hu
  clear hb hu
  simp only [Act.put, List.setIfInBounds_toArray, List.set_cons_zero, List.set_cons_succ]
  refine good_callX 7 100 (some 10) #[Go.Operand.tmp 4, Go.Operand.tmp 6, Go.Operand.tmp 9] #[4, 35, 35] (none) #[.bool ba, sa, .slice u_a u_n u_c] (by kernel_rfl) Hok.out (by kernel_rfl) (by kernel_rfl) (by kernel_rfl) (by kernel_rfl) rfl rfl rfl (by kernel_rfl) (fun w4 hb => ?_)
  have Hu := Lib.hid (Is.keep Hu.out (Keep.call hb))
  have HG := Lib.hid (below_call HG.out hb)
  clear hb
  refine Calls.mono (r3quot_is (neg := ba) (un_pos _) (Is.keep Hna.out (Keep.call HG.out)) Hu.out (by omega) (by omega)) ?_
  rintro e w5 ⟨v5, rfl, hz, hb⟩
  obtain ⟨z_b, z_a, z_n, z_c, z_d, z_m, z_e, rfl⟩ := hz.litb
  refine ⟨_, rfl, ?_, hb⟩
  have HG := Lib.hid (below_call HG.out hb)
  have Hz := Lib.hid hz
  clear hb hz
  simp only [Act.put, List.setIfInBounds_toArray, List.set_cons_zero, List.set_cons_succ]
  refine good_end0 1 (by kernel_rfl) (fun _ w6 hb => ?_)
  have Hz := Lib.hid (CR.keep Hz.out (Keep.call hb))
  have HG := Lib.hid (below_call HG.out hb)
  clear hb
  have Xa0 := Lib.hid (Box.pcall HG.out Xa0.out)
  have Xb0 := Lib.hid (Box.pcall HG.out Xb0.out)
  have HB := Lib.hid (below_call HB.out HG.out)
  have HS := Lib.hid (SE.of (E := [w.heap.size + 1]) HG.out)
  refine held_oneX 8 (Go.Op.store 37 (Go.Operand.tmp 2) (Go.Operand.tmp 10)) (none) (World.setCell (World.setCell (World.setCell w6 ⟨w.heap.size + 1, 0, none⟩ (.bool z_b)) ⟨w.heap.size + 1, 1, none⟩ (.slice z_a z_n z_c)) ⟨w.heap.size + 1, 2, none⟩ (.slice z_d z_m z_e)) (by kernel_rfl) (by kernel_rfl) (by kernel_rfl) (by kernel_rfl) ?_ (HS.out.store3 in1) ?_
  · obtain ⟨cb00, cb01, cb02, fb00, fb01, fb02⟩ := Xb0.out.c3
    first | (go_simp; done) | (go_simp; simp_all; done) | (go_simp; rfl)
  obtain ⟨W7, hW⟩ : ∃ W7, W7 = (World.setCell (World.setCell (World.setCell w6 ⟨w.heap.size + 1, 0, none⟩ (.bool z_b)) ⟨w.heap.size + 1, 1, none⟩ (.slice z_a z_n z_c)) ⟨w.heap.size + 1, 2, none⟩ (.slice z_d z_m z_e)) := ⟨_, rfl⟩
  rw [← hW]
  obtain ⟨xb0, hk, hf, hbb, hz⟩ := stored3s hW Xb0.out (by first | exact NoInt.bool _ | exact NoInt.slice _ _ _) (by first | exact NoInt.bool _ | exact NoInt.slice _ _ _) (by first | exact NoInt.bool _ | exact NoInt.slice _ _ _)
  have Hz := Lib.hid (CR.keep Hz.out hk)
  have Xa0 := Lib.hid (hf _ _ _ Xa0.out (by omega))
  have Xb0 := Lib.hid xb0
  have HB := Lib.hid (hbb _ HB.out Gb0.out)
  have HS := Lib.hid (show SE (W1.drew) [w.heap.size + 1] W7 from by rw [hW]; exact HS.out.store3 in1)
  clear hW hk hf hbb xb0
  clear hz
  refine wpAnyH_done (by kernel_rfl) ?_ _
  clear HG HS Hok 
  obtain ⟨ca00, ca01, ca02, fa00, fa01, fa02⟩ := Xa0.out.c3
  have la0 := Xa0.out.lt
  obtain ⟨cb00, cb01, cb02, fb00, fb01, fb02⟩ := Xb0.out.c3
  have lb0 := Xb0.out.lt
  go_wp2
  clear ca00 ca01 ca02 fa00 fa01 fa02 la0 cb00 cb01 cb02 fb00 fb01 fb02 lb0
  exact ret_rat1 rfl rfl rfl Xb0.out (CR.mono Hz.out (by omega)) HB.out
theorem zcanon_ar {q : Rat} {L : Nat} {v : Value} {w : World} (h : AR q L w v) (hL : L ≤ 100000000) : Calls Tryz.prog 144 #[v] w (Ret w (CR q (max L 1))) := by
  obtain ⟨b, s, t, n, d, rfl, h1, h2, rfl⟩ := h
  exact zcanon_p h1 h2 hL
set_option maxRecDepth 100000 in
set_option maxHeartbeats 4000000 in
theorem zof {x : Int}  {w : World} (h1 : -9223372036854775808 ≤ x) (h2 : x < 9223372036854775808) :
    Calls Tryz.prog 22 #[.int .i64 x] w (Ret w (CR (x : Rat) 2)) := by
  go_enter Tryz.func22, Tryz.ntmps22
  have HB := Lib.hid (Below.refl w.heap.size w)
  go_wp2_with fail
  obtain ⟨W1, hW⟩ : ∃ W1, W1 = (World.alloc w (.cells #[.bool false, .slice none 0 0, .slice none 0 0] 37)) := ⟨_, rfl⟩
  rw [← hW]
  obtain ⟨xa0, hk, hb⟩ := boxes_1 _ _ _ hW
  clear hW
  have Ga0 := Lib.hid (show w.heap.size ≤ w.heap.size from Nat.le_trans HB.out.size (by omega))
  have Xa0 := Lib.hid xa0
  have HB := Lib.hid (below_call HB.out hb)
  clear hk hb xa0
  refine Calls.mono (riof_any h1 h2) ?_
  rintro e w2 ⟨v2, rfl, ho, hb⟩
  obtain ⟨o_b, o_a, o_n, o_c, rfl⟩ := ho.litb
  have Xa0 := Lib.hid (Box.pcall hb Xa0.out)
  have HB := Lib.hid (below_call HB.out hb)
  have Ho := Lib.hid ho
  clear hb ho
  obtain ⟨ca00, ca01, ca02, fa00, fa01, fa02⟩ := Xa0.out.c3
  have la0 := Xa0.out.lt
  go_wp2
  clear ca00 ca01 ca02 fa00 fa01 fa02 la0
  obtain ⟨W3, hW⟩ : ∃ W3, W3 = (World.setCell (World.setCell (World.setCell w2 ⟨w.heap.size, 0, none⟩ (.bool o_b)) ⟨w.heap.size, 1, none⟩ (.slice o_a o_n o_c)) ⟨w.heap.size, 2, none⟩ (.slice none 0 0)) := ⟨_, rfl⟩
  rw [← hW]
  obtain ⟨xa0, hk, hf, hbb, hz⟩ := stored3s hW Xa0.out (by first | exact NoInt.bool _ | exact NoInt.slice _ _ _) (by first | exact NoInt.bool _ | exact NoInt.slice _ _ _) (by first | exact NoInt.bool _ | exact NoInt.slice _ _ _)
  have Ho := Lib.hid (CL.keep Ho.out hk)
  have Xa0 := Lib.hid xa0
  have HB := Lib.hid (hbb _ HB.out Ga0.out)
  clear hW hk hf hbb xa0
  have hz3 := hz
  clear hz
  obtain ⟨W4, hW⟩ : ∃ W4, W4 = (World.alloc W3 (.cells #[.bool o_b, .slice o_a o_n o_c] 105)) := ⟨_, rfl⟩
  rw [← hW]
  obtain ⟨xb0, hk, hb⟩ := boxes_1 _ _ _ hW
  clear hW
  rw [hz3] at xb0
  have Ho := Lib.hid (CL.keep Ho.out hk)
  have Na0b0 := Lib.hid (show w.heap.size ≠ w2.heap.size from Nat.ne_of_lt (Nat.lt_of_lt_of_le Xa0.out.lt (by omega)))
  have Gb0 := Lib.hid (show w.heap.size ≤ w2.heap.size from Nat.le_trans HB.out.size (by omega))
  clear hz3
  have Xa0 := Lib.hid (Box.pcall hb Xa0.out)
  have Xb0 := Lib.hid xb0
  have HB := Lib.hid (below_call HB.out hb)
  clear hk hb xb0
  exact ret_rat1 rfl rfl rfl Xa0.out (CR.mono (CR.of_int Ho.out) (by omega)) HB.out
set_option maxRecDepth 100000 in
set_option maxHeartbeats 4000000 in
theorem zmk_1 {L M : Nat} {ba : Bool} {na : Nat} {sa : Value} {bb : Bool} {nb : Nat} {sb : Value} {w : World} (k : Int) (hk : (iv bb nb).sign = k) (hk0 : (k == 0) = false) (hp : 0 < nb) (hna : Is na L w sa) (hnb : Is nb M w sb) (hL : L ≤ 100000000) (hM : M ≤ 100000000) :
    Calls Tryz.prog 56 #[.agg #[.bool ba, sa], .agg #[.bool bb, sb]] w (Ret w (CRE ((iv ba na : Int) / (iv bb nb : Int)) (max L M) 0)) := by
  have Hna := Lib.hid hna
  have Hnb := Lib.hid hnb
  have Hk := Lib.hid hk
  have Hk0 := Lib.hid hk0
  have Hp := Lib.hid hp
  clear hna hnb hk hk0 hp
  go_enter Tryz.func56, Tryz.ntmps56
  have HB := Lib.hid (Below.refl w.heap.size w)
  go_wp2_with fail
  obtain ⟨W1, hW⟩ : ∃ W1, W1 = (World.alloc (World.alloc (World.alloc w (.cells #[.bool ba, sa] 105)) (.cells #[.bool bb, sb] 105)) (.cells #[.bool false, .slice none 0 0, .slice none 0 0] 37)) := ⟨_, rfl⟩
  rw [← hW]
  obtain ⟨xa0, xb0, xc0, hk, hb⟩ := boxes_3 _ _ _ _ _ _ _ hW
  clear hW
  have Hna := Lib.hid (Is.keep Hna.out hk)
  have Hnb := Lib.hid (Is.keep Hnb.out hk)
  have Ga0 := Lib.hid (show w.heap.size ≤ w.heap.size from Nat.le_trans HB.out.size (by omega))
  have Gb0 := Lib.hid (show w.heap.size ≤ w.heap.size + 1 from Nat.le_trans HB.out.size (by omega))
  have Gc0 := Lib.hid (show w.heap.size ≤ w.heap.size + 1 + 1 from Nat.le_trans HB.out.size (by omega))
  have Xa0 := Lib.hid xa0
  have Xb0 := Lib.hid xb0
  have Xc0 := Lib.hid xc0
  have HB := Lib.hid (below_call HB.out hb)
  clear hk hb xa0 xb0 xc0
  (first | (have hcall := risign_ai k (AI.mk (n := bb) Hnb.out) Hk.out; refine Calls.mono hcall ?_; clear hcall) | refine Calls.mono (risign_ai k (AI.mk (n := bb) Hnb.out) Hk.out) ?_)
  rintro e w2 ⟨v2, rfl, rfl, hb⟩
  have Hna := Lib.hid (Is.keep Hna.out (Keep.call hb))
  have Hnb := Lib.hid (Is.keep Hnb.out (Keep.call hb))
  have Xa0 := Lib.hid (Box.pcall hb Xa0.out)
  have Xb0 := Lib.hid (Box.pcall hb Xb0.out)
  have Xc0 := Lib.hid (Box.pcall hb Xc0.out)
  have HB := Lib.hid (below_call HB.out hb)
  clear hb
  have hk0 : (k == 0) = false := Hk0.out
  obtain ⟨ca00, ca01, fa00, fa01⟩ := Xa0.out.c2
  have la0 := Xa0.out.lt
  obtain ⟨cb00, cb01, fb00, fb01⟩ := Xb0.out.c2
  have lb0 := Xb0.out.lt
  obtain ⟨cc00, cc01, cc02, fc00, fc01, fc02⟩ := Xc0.out.c3
  have lc0 := Xc0.out.lt
  go_wp2_with fail
  clear ca00 ca01 fa00 fa01 la0 cb00 cb01 fb00 fb01 lb0 cc00 cc01 cc02 fc00 fc01 fc02 lc0
  (first | (have hcall := r3quot_is (neg := (!ba == bb)) (Hp.out) Hna.out Hnb.out (by omega) (by omega); refine Calls.mono hcall ?_; clear hcall) | refine Calls.mono (r3quot_is (neg := (!ba == bb)) (Hp.out) Hna.out Hnb.out (by omega) (by omega)) ?_)
  rintro e w3 ⟨v3, rfl, hz, hb⟩
  obtain ⟨z_b, z_a, z_n, z_c, z_d, z_m, z_e, rfl⟩ := hz.litb
  have Xa0 := Lib.hid (Box.pcall hb Xa0.out)
  have Xb0 := Lib.hid (Box.pcall hb Xb0.out)
  have Xc0 := Lib.hid (Box.pcall hb Xc0.out)
  have HB := Lib.hid (below_call HB.out hb)
  have Hz := Lib.hid hz
  clear hb hz
  obtain ⟨ca00, ca01, fa00, fa01⟩ := Xa0.out.c2
  have la0 := Xa0.out.lt
  obtain ⟨cb00, cb01, fb00, fb01⟩ := Xb0.out.c2
  have lb0 := Xb0.out.lt
  obtain ⟨cc00, cc01, cc02, fc00, fc01, fc02⟩ := Xc0.out.c3
  have lc0 := Xc0.out.lt
  go_wp2
  clear ca00 ca01 fa00 fa01 la0 cb00 cb01 fb00 fb01 lb0 cc00 cc01 cc02 fc00 fc01 fc02 lc0
  obtain ⟨W4, hW⟩ : ∃ W4, W4 = (World.setCell (World.setCell (World.setCell w3 ⟨w.heap.size + 1 + 1, 0, none⟩ (.bool z_b)) ⟨w.heap.size + 1 + 1, 1, none⟩ (.slice z_a z_n z_c)) ⟨w.heap.size + 1 + 1, 2, none⟩ (.slice z_d z_m z_e)) := ⟨_, rfl⟩
  rw [← hW]
  obtain ⟨xc0, hk, hf, hbb, hz⟩ := stored3s hW Xc0.out (by first | exact NoInt.bool _ | exact NoInt.slice _ _ _) (by first | exact NoInt.bool _ | exact NoInt.slice _ _ _) (by first | exact NoInt.bool _ | exact NoInt.slice _ _ _)
  have Hz := Lib.hid (CR.keep Hz.out hk)
  have Xa0 := Lib.hid (hf _ _ _ Xa0.out (by omega))
  have Xb0 := Lib.hid (hf _ _ _ Xb0.out (by omega))
  have Xc0 := Lib.hid xc0
  have HB := Lib.hid (hbb _ HB.out Gc0.out)
  clear hW hk hf hbb xc0
  clear hz
  exact ret_re rfl rfl rfl rfl Xc0.out ⟨_, rfl, CR.cast (div_sign _ _ _ _ Hp.out) Hz.out⟩ HB.out
theorem zmk_ai {y z : Int} {L M : Nat} {u v : Value} {w : World} (hz : z ≠ 0) (h : AI y L w u) (h' : AI z M w v) (hL : L ≤ 100000000) (hM : M ≤ 100000000) :
    Calls Tryz.prog 56 #[u, v] w (Ret w (CRE ((y : Rat) / (z : Rat)) (max L M) 0)) := by
  obtain ⟨ba, sa, na, rfl, h1, rfl⟩ := h
  obtain ⟨bb, sb, nb, rfl, h2, rfl⟩ := h'
  have hp : 0 < nb := by
    rcases Nat.eq_zero_or_pos nb with rfl | h0
    · exact absurd (by cases bb <;> rfl) hz
    · exact h0
  exact zmk_1 _ rfl (by simpa [Int.sign_eq_zero_iff_zero] using hz) hp h1 h2 hL hM
set_option maxRecDepth 100000 in
set_option maxHeartbeats 4000000 in
theorem zfrac_1 {x y : Int}  {w : World} (h1 : -9223372036854775808 ≤ x) (h2 : x < 9223372036854775808) (h3 : -9223372036854775808 ≤ y) (h4 : y < 9223372036854775808) (hz : y ≠ 0) :
    Calls Tryz.prog 23 #[.int .i64 x, .int .i64 y] w (Ret w (CRE ((x : Rat) / (y : Rat)) 2 0)) := by
  have Hz := Lib.hid hz
  clear hz
  go_enter Tryz.func23, Tryz.ntmps23
  have HB := Lib.hid (Below.refl w.heap.size w)
  go_wp2_with fail
  obtain ⟨W1, hW⟩ : ∃ W1, W1 = (World.alloc w (.cells #[.bool false, .slice none 0 0, .slice none 0 0] 37)) := ⟨_, rfl⟩
  rw [← hW]
  obtain ⟨xa0, hk, hb⟩ := boxes_1 _ _ _ hW
  clear hW
  have Ga0 := Lib.hid (show w.heap.size ≤ w.heap.size from Nat.le_trans HB.out.size (by omega))
  have Xa0 := Lib.hid xa0
  have HB := Lib.hid (below_call HB.out hb)
  clear hk hb xa0
  refine Calls.mono (riof_any h1 h2) ?_
  rintro e w2 ⟨v2, rfl, ho, hb⟩
  obtain ⟨o_b, o_a, o_n, o_c, rfl⟩ := ho.litb
  have Xa0 := Lib.hid (Box.pcall hb Xa0.out)
  have HB := Lib.hid (below_call HB.out hb)
  have Ho := Lib.hid ho
  clear hb ho
  obtain ⟨ca00, ca01, ca02, fa00, fa01, fa02⟩ := Xa0.out.c3
  have la0 := Xa0.out.lt
  go_wp2_with fail
  clear ca00 ca01 ca02 fa00 fa01 fa02 la0
  refine Calls.mono (riof_any h3 h4) ?_
  rintro e w3 ⟨v3, rfl, hp, hb⟩
  obtain ⟨p_b, p_a, p_n, p_c, rfl⟩ := hp.litb
  have Ho := Lib.hid (CL.keep Ho.out (Keep.call hb))
  have Xa0 := Lib.hid (Box.pcall hb Xa0.out)
  have HB := Lib.hid (below_call HB.out hb)
  have Hp := Lib.hid hp
  clear hb hp
  obtain ⟨ca00, ca01, ca02, fa00, fa01, fa02⟩ := Xa0.out.c3
  have la0 := Xa0.out.lt
  go_wp2_with fail
  clear ca00 ca01 ca02 fa00 fa01 fa02 la0
  (first | (have hcall := zmk_ai Hz.out Ho.out.ai Hp.out.ai (by decide) (by decide); refine Calls.mono hcall ?_; clear hcall) | refine Calls.mono (zmk_ai Hz.out Ho.out.ai Hp.out.ai (by decide) (by decide)) ?_)
  rintro e w4 ⟨t4, rfl, ⟨v4, rfl, hz⟩, hb⟩
  obtain ⟨z_b, z_a, z_n, z_c, z_d, z_m, z_e, rfl⟩ := hz.litb
  have Xa0 := Lib.hid (Box.pcall hb Xa0.out)
  have HB := Lib.hid (below_call HB.out hb)
  have Hz := Lib.hid hz
  clear hb hz
  obtain ⟨ca00, ca01, ca02, fa00, fa01, fa02⟩ := Xa0.out.c3
  have la0 := Xa0.out.lt
  go_wp2
  clear ca00 ca01 ca02 fa00 fa01 fa02 la0
  obtain ⟨W5, hW⟩ : ∃ W5, W5 = (World.setCell (World.setCell (World.setCell w4 ⟨w.heap.size, 0, none⟩ (.bool z_b)) ⟨w.heap.size, 1, none⟩ (.slice z_a z_n z_c)) ⟨w.heap.size, 2, none⟩ (.slice z_d z_m z_e)) := ⟨_, rfl⟩
  rw [← hW]
  obtain ⟨xa0, hk, hf, hbb, hz⟩ := stored3s hW Xa0.out (by first | exact NoInt.bool _ | exact NoInt.slice _ _ _) (by first | exact NoInt.bool _ | exact NoInt.slice _ _ _) (by first | exact NoInt.bool _ | exact NoInt.slice _ _ _)
  have Hz := Lib.hid (CR.keep Hz.out hk)
  have Xa0 := Lib.hid xa0
  have HB := Lib.hid (hbb _ HB.out Ga0.out)
  clear hW hk hf hbb xa0
  clear hz
  exact ret_re rfl rfl rfl rfl Xa0.out ⟨_, rfl, Hz.out⟩ HB.out
set_option maxRecDepth 100000 in
set_option maxHeartbeats 4000000 in
theorem zsign_p {L : Nat} {ba : Bool} {na da : Nat} {a1 : Option Addr} {a2 a3 : Nat} {ta : Value}  {w : World} (k : Int) (hk : (iv ba na).sign = k) (hna : Is na L w (.slice a1 a2 a3)) (hda : Is da L w ta) :
    Calls Tryz.prog 93 #[.agg #[.bool ba, .slice a1 a2 a3, ta]] w (Ret w (Val (.int .i64 k))) := by
  have Hna := Lib.hid hna
  have Hda := Lib.hid hda
  have Hk := Lib.hid hk
  clear hna hda hk
  go_enter Tryz.func93, Tryz.ntmps93
  have HB := Lib.hid (Below.refl w.heap.size w)
  go_wp2_with fail
  obtain ⟨W1, hW⟩ : ∃ W1, W1 = (World.alloc w (.cells #[.bool ba, .slice a1 a2 a3, ta] 37)) := ⟨_, rfl⟩
  rw [← hW]
  obtain ⟨xa0, hk, hb⟩ := boxes_1 _ _ _ hW
  clear hW
  have Hna := Lib.hid (Is.keep Hna.out hk)
  have Ga0 := Lib.hid (show w.heap.size ≤ w.heap.size from Nat.le_trans HB.out.size (by omega))
  have Xa0 := Lib.hid xa0
  have HB := Lib.hid (below_call HB.out hb)
  clear hk hb xa0
  (first | (have hcall := risign_ai k (AI.mk (n := ba) Hna.out) Hk.out; refine Calls.mono hcall ?_; clear hcall) | refine Calls.mono (risign_ai k (AI.mk (n := ba) Hna.out) Hk.out) ?_)
  rintro e w2 ⟨v2, rfl, rfl, hb⟩
  have Xa0 := Lib.hid (Box.pcall hb Xa0.out)
  have HB := Lib.hid (below_call HB.out hb)
  clear hb
  obtain ⟨ca00, ca01, ca02, fa00, fa01, fa02⟩ := Xa0.out.c3
  have la0 := Xa0.out.lt
  go_wp2
  clear ca00 ca01 ca02 fa00 fa01 fa02 la0
  go_ret
  exact ⟨_, rfl, rfl, HB.out⟩
theorem zsign_ar {q : Rat} {L : Nat} {v : Value} {w : World} (k : Int) (h : AR q L w v) (hk : q.num.sign = k) : Calls Tryz.prog 93 #[v] w (Ret w (Val (.int .i64 k))) := by
  obtain ⟨b, s, t, n, d, rfl, h1, h2, rfl⟩ := h
  obtain ⟨a1, a2, a3, rfl⟩ := h1.lit
  exact zsign_p k (by rw [← hk, rv_sign]) h1 h2
end Go.Proofs.YtikglhmabidjoaaGreatDoor
