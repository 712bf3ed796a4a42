/- Layer 3: the reference: parts and forms. Printed by ratd.py. -/
import Derived.Test.YtfkjhaniglmejaaRatC
namespace Go.Proofs.Ytfkjhaniglmejaa
open Go.RowKit Nt
set_option linter.unusedVariables false
theorem r3one_is {d L : Nat} {t : Value} {w : World} (h : Is d L w t) : Calls Try.prog 61 #[t] w (Ret w (Is (un d) (max L 1))) := by
  rcases Nat.eq_zero_or_pos d with h0 | h0
  · go_enter Try.func61, Try.ntmps61
    go_wp2_with fail
    refine Calls.mono (rmake_is h) ?_
    rintro e w1 ⟨v1, rfl, hn, hb⟩
    obtain ⟨a, n, c, rfl⟩ := hn.is.lit
    have dx : ((n : Int) == 0) = true := hn.len0 true (by rw [h0]; rfl)
    have HB := Lib.hid hb
    have H0 := Lib.hid h0
    clear hb hn h0
    go_wp2
    go_ret
    exact ⟨_, rfl, Is.cast (un_zero H0.out) (Is.mono (Is.one _ _) (Nat.le_max_right _ _)), HB.out.alloc HB.out.size _⟩
  · go_enter Try.func61, Try.ntmps61
    go_wp2_with fail
    refine Calls.mono (rmake_is h) ?_
    rintro e w1 ⟨v1, rfl, hn, hb⟩
    obtain ⟨a, n, c, rfl⟩ := hn.is.lit
    have dx : ((n : Int) == 0) = false := hn.len0 false (beq_eq_false_iff_ne.2 (Nat.ne_of_gt h0))
    have HB := Lib.hid hb
    have Hn := Lib.hid hn
    clear hb hn
    go_wp2
    go_ret
    exact ⟨_, rfl, Is.cast (un_of h0) (Is.mono Hn.out.is (Nat.le_max_left _ _)), HB.out⟩
theorem rdivmod_pos {a b L M : Nat} {u v : Value} {w : World} (hb : 0 < b) (h : Is a L w u) (h' : Is b M w v) (hL : L ≤ 2147483648) (hM : M ≤ 2147483648) :
    Calls Try.prog 95 #[u, v] w (Ret w (Can2E (a / b) (a % b) L L 0)) := by
  have hs := h.sz_le
  obtain ⟨xs, h, rfl, hl⟩ := h
  obtain ⟨ys, h', rfl, hl'⟩ := h'
  have := rdivmod_any _ _ _ _ _ h h' (by omega) (by omega)
  rw [dmR_pos hb, dmE_pos hb] at this
  refine this.mono ?_
  rintro e w' ⟨v, rfl, ⟨q, r, rfl, h1, h2⟩, hB⟩
  exact ⟨_, rfl, ⟨_, _, rfl, ⟨h1, Nat.le_trans (sz_div _ _) hs⟩, ⟨h2, Nat.le_trans (sz_mono (Nat.mod_le _ _)) hs⟩⟩, hB⟩
def PU1 (q L : Nat) (w : World) (v : Value) : Prop := ∃ b o c r, v = .tuple #[.slice (some ⟨b, o, none⟩) 1 c, r, .int .i64 0] ∧ Can q L w (.slice (some ⟨b, o, none⟩) 1 c) ∧ w.cell? ⟨b, o, none⟩ = some (.int .u32 1)
def PUN (q L : Nat) (w : World) (v : Value) : Prop := ∃ a n c r, v = .tuple #[.slice a n c, r, .int .i64 0] ∧ Can q L w (.slice a n c) ∧ ((n : Int) == 1) = false
def PUK (q L : Nat) (w : World) (v : Value) : Prop := ∃ b o c r, ∃ k : Int, v = .tuple #[.slice (some ⟨b, o, none⟩) 1 c, r, .int .i64 0] ∧ Can q L w (.slice (some ⟨b, o, none⟩) 1 c) ∧ w.cell? ⟨b, o, none⟩ = some (.int .u32 k) ∧ (k == 1) = false
theorem one_limb {q L : Nat} {w : World} {v : Value} (hl : ((sz q : Nat) : Int) = 1) (h : Can q L w v) : ∃ b o c, v = .slice (some ⟨b, o, none⟩) 1 c ∧ w.cell? ⟨b, o, none⟩ = some (.int .u32 (q : Int)) := by
  obtain ⟨⟨ad, n, cap, rfl, hn, hnc, hm, hx, hs⟩, -⟩ := h
  have hz : sz q = 1 := by omega
  obtain rfl : n = 1 := by unfold sz at hz; omega
  obtain ⟨b, off, rfl, hb, hc⟩ := hs (by decide)
  have h0 : 0 < q := by
    rcases Nat.eq_zero_or_pos q with rfl | h0
    · rw [sz_zero] at hz; omega
    · exact h0
  have h1 : q < 4294967296 := by
    have := val_lt (xs := limbs q) hx
    rw [val_limbs, hn] at this
    simpa using this
  have := hc 0 (by decide)
  rw [limbs_single h0 h1] at this
  exact ⟨b, off, cap, rfl, this⟩
theorem rdivmod_u1 {a b L M : Nat} {u v : Value} {w : World} (hb : 0 < b) (he : (a / b == 1) = true) (h : Is a L w u) (h' : Is b M w v) (hL : L ≤ 2147483648) (hM : M ≤ 2147483648) :
    Calls Try.prog 95 #[u, v] w (Ret w (PU1 (a / b) L)) := by
  have e1 : a / b = 1 := by simpa using he
  refine (rdivmod_pos hb h h' hL hM).mono fun _ _ k => k.imp fun w' x hx => ?_
  obtain ⟨q, r, rfl, h1, h2⟩ := hx
  rw [e1] at h1 ⊢
  obtain ⟨bb, o, c, rfl, hc⟩ := one_limb (by rw [show sz 1 = 1 by unfold sz; rw [limbs_single (by decide) (by decide)]; rfl]; rfl) h1
  exact ⟨_, _, _, _, rfl, h1, hc⟩
theorem rdivmod_un {a b L M : Nat} {u v : Value} {w : World} (hb : 0 < b) (he : ((sz (a / b) : Nat) : Int) ≠ 1) (h : Is a L w u) (h' : Is b M w v) (hL : L ≤ 2147483648) (hM : M ≤ 2147483648) :
    Calls Try.prog 95 #[u, v] w (Ret w (PUN (a / b) L)) := by
  refine (rdivmod_pos hb h h' hL hM).mono fun _ _ k => k.imp fun w' x hx => ?_
  obtain ⟨q, r, rfl, h1, h2⟩ := hx
  obtain ⟨bb, n, c, rfl⟩ := h1.is.lit
  exact ⟨_, _, _, _, rfl, h1, by rw [h1.len]; simpa using he⟩
theorem rdivmod_uk {a b L M : Nat} {u v : Value} {w : World} (hb : 0 < b) (he : (a / b == 1) = false) (hl : ((sz (a / b) : Nat) : Int) = 1) (h : Is a L w u) (h' : Is b M w v) (hL : L ≤ 2147483648) (hM : M ≤ 2147483648) :
    Calls Try.prog 95 #[u, v] w (Ret w (PUK (a / b) L)) := by
  refine (rdivmod_pos hb h h' hL hM).mono fun _ _ k => k.imp fun w' x hx => ?_
  obtain ⟨q, r, rfl, h1, h2⟩ := hx
  obtain ⟨bb, o, c, rfl, hc⟩ := one_limb hl h1
  refine ⟨_, _, _, _, _, rfl, h1, hc, ?_⟩
  rw [beq_eq_false_iff_ne]
  have : a / b ≠ 1 := by simpa using he
  omega
theorem Can.pos {m L : Nat} {w : World} {a : Option Addr} {n c : Nat} (h : Can m L w (.slice a n c)) (hm : 0 < m) : decide (0 < n) = true := by
  rw [h.len]; simpa using sz_pos hm
theorem Can.posF {m L : Nat} {w : World} {a : Option Addr} {n c : Nat} (h : Can m L w (.slice a n c)) (hm : m = 0) : decide (0 < n) = false := by
  rw [h.len, hm, sz_zero]; rfl
theorem num_pos {n d : Nat} (h : 0 < n) : 0 < n / Nat.gcd n d := Nat.div_pos (Nat.le_of_dvd h (Nat.gcd_dvd_left n d)) (Nat.gcd_pos_of_pos_left d h)
theorem den_zero {n d : Nat} (hz : n = 0) (hd : 0 < d) : (d / Nat.gcd n d == 1) = true := by
  rw [hz, Nat.gcd_zero_left, Nat.div_self hd]; rfl
theorem rquot_zero {neg : Bool} {n d L M : Nat} {w W : World} {s t : Value} (hz : n = 0) (hd : 0 < d) (hs : Can (n / Nat.gcd n d) L W s) (h : Is d M w t) : CR (mkRat (iv neg n) d) (max L M) W (.agg #[.bool false, s, .slice none 0 0]) := by
  have h1 := one_le_of_is hd h
  rw [hz, Nat.zero_div] at hs
  rw [hz, show iv neg 0 = 0 by cases neg <;> rfl, Rat.zero_mkRat]
  refine ⟨⟨s, _, rfl, hs.1, ?_⟩, ?_, ?_⟩
  · show Sl W _ (limbs 0); rw [limbs_zero]; exact Sl.nil W
  · exact sz_zero_le _
  · exact Nat.le_trans (sz_le (by decide) : sz 1 ≤ 1) (by omega)

set_option maxRecDepth 100000 in
set_option maxHeartbeats 4000000 in
theorem r3quot_0t {n d L M : Nat} {s t : Value}  {w : World} (hz : n = 0) (hn : Is n L w s) (hm : Is d M w t) (hd : 0 < d) (hL : L ≤ 1000000) (hM : M ≤ 1000000) :
    Calls Try.prog 63 #[.bool true, s, t] w (Ret w (CR (mkRat (iv true n) d) (max L M))) := by
  have Hn := Lib.hid hn
  have Hm := Lib.hid hm
  have Hd := Lib.hid hd
  have Hz := Lib.hid hz
  clear hn hm hd hz
  go_enter Try.func63, Try.ntmps63
  have HB := Lib.hid (Below.refl w.heap.size w)
  go_wp2_with fail
  obtain ⟨W1, hW⟩ : ∃ W1, W1 = (World.alloc w (.cells #[.bool false, .slice none 0 0, .slice none 0 0] 25)) := ⟨_, rfl⟩
  rw [← hW]
  obtain ⟨xa0, hk, hb⟩ := boxes_1 _ _ _ hW
  clear hW
  have Hn := Lib.hid (Is.keep Hn.out hk)
  have Hm := Lib.hid (Is.keep Hm.out hk)
  have Ga0 := Lib.hid (show w.heap.size ≤ w.heap.size from Nat.le_trans HB.out.size (by omega))
  have Xa0 := Lib.hid xa0
  have HB := Lib.hid (below_call HB.out hb)
  clear hk hb xa0
  (first | (have hcall := rgcd_can Hn.out Hm.out (by omega) (by omega); refine Calls.mono hcall ?_; clear hcall) | refine Calls.mono (rgcd_can Hn.out Hm.out (by omega) (by omega)) ?_)
  rintro e w2 ⟨v2, rfl, hg, hb⟩
  obtain ⟨g_a, g_n, g_c, rfl⟩ := hg.is.lit
  have Hn := Lib.hid (Is.keep Hn.out (Keep.call hb))
  have Hm := Lib.hid (Is.keep Hm.out (Keep.call hb))
  have Xa0 := Lib.hid (Box.pcall hb Xa0.out)
  have HB := Lib.hid (below_call HB.out hb)
  have Hg := Lib.hid hg
  clear hb hg
  obtain ⟨ca00, ca01, ca02, fa00, fa01, fa02⟩ := Xa0.out.c3
  have la0 := Xa0.out.lt
  go_wp2_with fail
  clear ca00 ca01 ca02 fa00 fa01 fa02 la0
  (first | (have hcall := rdivmod_pos (gcd_pos Hd.out) Hn.out Hg.out.is (by omega) (by omega); refine Calls.mono hcall ?_; clear hcall) | refine Calls.mono (rdivmod_pos (gcd_pos Hd.out) Hn.out Hg.out.is (by omega) (by omega)) ?_)
  rintro e w3 ⟨t3, rfl, ⟨v3, u3, rfl, hqa, hra⟩, hb⟩
  obtain ⟨qa_a, qa_n, qa_c, rfl⟩ := hqa.is.lit
  obtain ⟨ra_a, ra_n, ra_c, rfl⟩ := hra.is.lit
  have Hm := Lib.hid (Is.keep Hm.out (Keep.call hb))
  have Hg := Lib.hid (Can.keep Hg.out (Keep.call hb))
  have Xa0 := Lib.hid (Box.pcall hb Xa0.out)
  have HB := Lib.hid (below_call HB.out hb)
  have Hqa := Lib.hid hqa
  have Hra := Lib.hid hra
  clear hb hqa hra
  have hp0 : decide (0 < qa_n) = false := Hqa.out.posF (by rw [Hz.out, Nat.zero_div])
  obtain ⟨ca00, ca01, ca02, fa00, fa01, fa02⟩ := Xa0.out.c3
  have la0 := Xa0.out.lt
  go_wp2_with fail
  clear ca00 ca01 ca02 fa00 fa01 fa02 la0
  (first | (have hcall := rdivmod_u1 (gcd_pos Hd.out) (den_zero Hz.out Hd.out) Hm.out Hg.out.is (by omega) (by omega); refine Calls.mono hcall ?_; clear hcall) | refine Calls.mono (rdivmod_u1 (gcd_pos Hd.out) (den_zero Hz.out Hd.out) Hm.out Hg.out.is (by omega) (by omega)) ?_)
  rintro e w4 ⟨t4, rfl, ⟨qb_b, qb_o, qb_c, u4, rfl, hqb, hcell⟩, hb⟩
  have Hm := Lib.hid (Is.keep Hm.out (Keep.call hb))
  have Hqa := Lib.hid (Can.keep Hqa.out (Keep.call hb))
  have Xa0 := Lib.hid (Box.pcall hb Xa0.out)
  have HB := Lib.hid (below_call HB.out hb)
  have Hqb := Lib.hid hqb
  clear hb hqb
  obtain ⟨ca00, ca01, ca02, fa00, fa01, fa02⟩ := Xa0.out.c3
  have la0 := Xa0.out.lt
  go_wp2
  clear ca00 ca01 ca02 fa00 fa01 fa02 la0
  obtain ⟨W5, hW⟩ : ∃ W5, W5 = (World.setCell (World.setCell (World.setCell w4 ⟨w.heap.size, 0, none⟩ (.bool false)) ⟨w.heap.size, 1, none⟩ (.slice qa_a qa_n qa_c)) ⟨w.heap.size, 2, none⟩ (.slice none 0 0)) := ⟨_, rfl⟩
  rw [← hW]
  obtain ⟨xa0, hk, hf, hbb, hz⟩ := stored3s hW Xa0.out (by first | exact NoInt.bool _ | exact NoInt.slice _ _ _) (by first | exact NoInt.bool _ | exact NoInt.slice _ _ _) (by first | exact NoInt.bool _ | exact NoInt.slice _ _ _)
  have Hm := Lib.hid (Is.keep Hm.out hk)
  have Hqa := Lib.hid (Can.keep Hqa.out hk)
  have Xa0 := Lib.hid xa0
  have HB := Lib.hid (hbb _ HB.out Ga0.out)
  clear hW hk hf hbb xa0
  clear hz
  exact ret_rat1 rfl rfl rfl Xa0.out (rquot_zero (neg := true) Hz.out Hd.out Hqa.out Hm.out) HB.out


set_option maxRecDepth 100000 in
set_option maxHeartbeats 4000000 in
theorem r3quot_1t {n d L M : Nat} {s t : Value}  {w : World} (hz : 0 < n) (he : (d / Nat.gcd n d == 1) = true) (hn : Is n L w s) (hm : Is d M w t) (hd : 0 < d) (hL : L ≤ 1000000) (hM : M ≤ 1000000) :
    Calls Try.prog 63 #[.bool true, s, t] w (Ret w (CR (mkRat (iv true n) d) (max L M))) := by
  have Hn := Lib.hid hn
  have Hm := Lib.hid hm
  have Hd := Lib.hid hd
  have Hz := Lib.hid hz
  have He := Lib.hid he
  clear hn hm hd hz he
  go_enter Try.func63, Try.ntmps63
  have HB := Lib.hid (Below.refl w.heap.size w)
  go_wp2_with fail
  obtain ⟨W1, hW⟩ : ∃ W1, W1 = (World.alloc w (.cells #[.bool false, .slice none 0 0, .slice none 0 0] 25)) := ⟨_, rfl⟩
  rw [← hW]
  obtain ⟨xa0, hk, hb⟩ := boxes_1 _ _ _ hW
  clear hW
  have Hn := Lib.hid (Is.keep Hn.out hk)
  have Hm := Lib.hid (Is.keep Hm.out hk)
  have Ga0 := Lib.hid (show w.heap.size ≤ w.heap.size from Nat.le_trans HB.out.size (by omega))
  have Xa0 := Lib.hid xa0
  have HB := Lib.hid (below_call HB.out hb)
  clear hk hb xa0
  (first | (have hcall := rgcd_can Hn.out Hm.out (by omega) (by omega); refine Calls.mono hcall ?_; clear hcall) | refine Calls.mono (rgcd_can Hn.out Hm.out (by omega) (by omega)) ?_)
  rintro e w2 ⟨v2, rfl, hg, hb⟩
  obtain ⟨g_a, g_n, g_c, rfl⟩ := hg.is.lit
  have Hn := Lib.hid (Is.keep Hn.out (Keep.call hb))
  have Hm := Lib.hid (Is.keep Hm.out (Keep.call hb))
  have Xa0 := Lib.hid (Box.pcall hb Xa0.out)
  have HB := Lib.hid (below_call HB.out hb)
  have Hg := Lib.hid hg
  clear hb hg
  obtain ⟨ca00, ca01, ca02, fa00, fa01, fa02⟩ := Xa0.out.c3
  have la0 := Xa0.out.lt
  go_wp2_with fail
  clear ca00 ca01 ca02 fa00 fa01 fa02 la0
  (first | (have hcall := rdivmod_pos (gcd_pos Hd.out) Hn.out Hg.out.is (by omega) (by omega); refine Calls.mono hcall ?_; clear hcall) | refine Calls.mono (rdivmod_pos (gcd_pos Hd.out) Hn.out Hg.out.is (by omega) (by omega)) ?_)
  rintro e w3 ⟨t3, rfl, ⟨v3, u3, rfl, hqa, hra⟩, hb⟩
  obtain ⟨qa_a, qa_n, qa_c, rfl⟩ := hqa.is.lit
  obtain ⟨ra_a, ra_n, ra_c, rfl⟩ := hra.is.lit
  have Hm := Lib.hid (Is.keep Hm.out (Keep.call hb))
  have Hg := Lib.hid (Can.keep Hg.out (Keep.call hb))
  have Xa0 := Lib.hid (Box.pcall hb Xa0.out)
  have HB := Lib.hid (below_call HB.out hb)
  have Hqa := Lib.hid hqa
  have Hra := Lib.hid hra
  clear hb hqa hra
  have hp0 : decide (0 < qa_n) = true := Hqa.out.pos (num_pos Hz.out)
  obtain ⟨ca00, ca01, ca02, fa00, fa01, fa02⟩ := Xa0.out.c3
  have la0 := Xa0.out.lt
  go_wp2_with fail
  clear ca00 ca01 ca02 fa00 fa01 fa02 la0
  (first | (have hcall := rdivmod_u1 (gcd_pos Hd.out) He.out Hm.out Hg.out.is (by omega) (by omega); refine Calls.mono hcall ?_; clear hcall) | refine Calls.mono (rdivmod_u1 (gcd_pos Hd.out) He.out Hm.out Hg.out.is (by omega) (by omega)) ?_)
  rintro e w4 ⟨t4, rfl, ⟨qb_b, qb_o, qb_c, u4, rfl, hqb, hcell⟩, hb⟩
  have Hm := Lib.hid (Is.keep Hm.out (Keep.call hb))
  have Hqa := Lib.hid (Can.keep Hqa.out (Keep.call hb))
  have Xa0 := Lib.hid (Box.pcall hb Xa0.out)
  have HB := Lib.hid (below_call HB.out hb)
  have Hqb := Lib.hid hqb
  clear hb hqb
  obtain ⟨ca00, ca01, ca02, fa00, fa01, fa02⟩ := Xa0.out.c3
  have la0 := Xa0.out.lt
  go_wp2
  clear ca00 ca01 ca02 fa00 fa01 fa02 la0
  obtain ⟨W5, hW⟩ : ∃ W5, W5 = (World.setCell (World.setCell (World.setCell w4 ⟨w.heap.size, 0, none⟩ (.bool true)) ⟨w.heap.size, 1, none⟩ (.slice qa_a qa_n qa_c)) ⟨w.heap.size, 2, none⟩ (.slice none 0 0)) := ⟨_, rfl⟩
  rw [← hW]
  obtain ⟨xa0, hk, hf, hbb, hz⟩ := stored3s hW Xa0.out (by first | exact NoInt.bool _ | exact NoInt.slice _ _ _) (by first | exact NoInt.bool _ | exact NoInt.slice _ _ _) (by first | exact NoInt.bool _ | exact NoInt.slice _ _ _)
  have Hm := Lib.hid (Is.keep Hm.out hk)
  have Hqa := Lib.hid (Can.keep Hqa.out hk)
  have Xa0 := Lib.hid xa0
  have HB := Lib.hid (hbb _ HB.out Ga0.out)
  clear hW hk hf hbb xa0
  clear hz
  exact ret_rat1 rfl rfl rfl Xa0.out (quot_three Hz.out Hd.out He.out Hqa.out Hm.out) HB.out


set_option maxRecDepth 100000 in
set_option maxHeartbeats 4000000 in
theorem r3quot_2t {n d L M : Nat} {s t : Value}  {w : World} (hz : 0 < n) (he : (d / Nat.gcd n d == 1) = false) (hl : ((sz (d / Nat.gcd n d) : Nat) : Int) ≠ 1) (hn : Is n L w s) (hm : Is d M w t) (hd : 0 < d) (hL : L ≤ 1000000) (hM : M ≤ 1000000) :
    Calls Try.prog 63 #[.bool true, s, t] w (Ret w (CR (mkRat (iv true n) d) (max L M))) := by
  have Hn := Lib.hid hn
  have Hm := Lib.hid hm
  have Hd := Lib.hid hd
  have Hz := Lib.hid hz
  have He := Lib.hid he
  have Hl := Lib.hid hl
  clear hn hm hd hz he hl
  go_enter Try.func63, Try.ntmps63
  have HB := Lib.hid (Below.refl w.heap.size w)
  go_wp2_with fail
  obtain ⟨W1, hW⟩ : ∃ W1, W1 = (World.alloc w (.cells #[.bool false, .slice none 0 0, .slice none 0 0] 25)) := ⟨_, rfl⟩
  rw [← hW]
  obtain ⟨xa0, hk, hb⟩ := boxes_1 _ _ _ hW
  clear hW
  have Hn := Lib.hid (Is.keep Hn.out hk)
  have Hm := Lib.hid (Is.keep Hm.out hk)
  have Ga0 := Lib.hid (show w.heap.size ≤ w.heap.size from Nat.le_trans HB.out.size (by omega))
  have Xa0 := Lib.hid xa0
  have HB := Lib.hid (below_call HB.out hb)
  clear hk hb xa0
  (first | (have hcall := rgcd_can Hn.out Hm.out (by omega) (by omega); refine Calls.mono hcall ?_; clear hcall) | refine Calls.mono (rgcd_can Hn.out Hm.out (by omega) (by omega)) ?_)
  rintro e w2 ⟨v2, rfl, hg, hb⟩
  obtain ⟨g_a, g_n, g_c, rfl⟩ := hg.is.lit
  have Hn := Lib.hid (Is.keep Hn.out (Keep.call hb))
  have Hm := Lib.hid (Is.keep Hm.out (Keep.call hb))
  have Xa0 := Lib.hid (Box.pcall hb Xa0.out)
  have HB := Lib.hid (below_call HB.out hb)
  have Hg := Lib.hid hg
  clear hb hg
  obtain ⟨ca00, ca01, ca02, fa00, fa01, fa02⟩ := Xa0.out.c3
  have la0 := Xa0.out.lt
  go_wp2_with fail
  clear ca00 ca01 ca02 fa00 fa01 fa02 la0
  (first | (have hcall := rdivmod_pos (gcd_pos Hd.out) Hn.out Hg.out.is (by omega) (by omega); refine Calls.mono hcall ?_; clear hcall) | refine Calls.mono (rdivmod_pos (gcd_pos Hd.out) Hn.out Hg.out.is (by omega) (by omega)) ?_)
  rintro e w3 ⟨t3, rfl, ⟨v3, u3, rfl, hqa, hra⟩, hb⟩
  obtain ⟨qa_a, qa_n, qa_c, rfl⟩ := hqa.is.lit
  obtain ⟨ra_a, ra_n, ra_c, rfl⟩ := hra.is.lit
  have Hm := Lib.hid (Is.keep Hm.out (Keep.call hb))
  have Hg := Lib.hid (Can.keep Hg.out (Keep.call hb))
  have Xa0 := Lib.hid (Box.pcall hb Xa0.out)
  have HB := Lib.hid (below_call HB.out hb)
  have Hqa := Lib.hid hqa
  have Hra := Lib.hid hra
  clear hb hqa hra
  have hp0 : decide (0 < qa_n) = true := Hqa.out.pos (num_pos Hz.out)
  obtain ⟨ca00, ca01, ca02, fa00, fa01, fa02⟩ := Xa0.out.c3
  have la0 := Xa0.out.lt
  go_wp2_with fail
  clear ca00 ca01 ca02 fa00 fa01 fa02 la0
  (first | (have hcall := rdivmod_un (gcd_pos Hd.out) Hl.out Hm.out Hg.out.is (by omega) (by omega); refine Calls.mono hcall ?_; clear hcall) | refine Calls.mono (rdivmod_un (gcd_pos Hd.out) Hl.out Hm.out Hg.out.is (by omega) (by omega)) ?_)
  rintro e w4 ⟨t4, rfl, ⟨qb_a, qb_n, qb_c, u4, rfl, hqb, hlen⟩, hb⟩
  have Hqa := Lib.hid (Can.keep Hqa.out (Keep.call hb))
  have Xa0 := Lib.hid (Box.pcall hb Xa0.out)
  have HB := Lib.hid (below_call HB.out hb)
  have Hqb := Lib.hid hqb
  clear hb hqb
  obtain ⟨ca00, ca01, ca02, fa00, fa01, fa02⟩ := Xa0.out.c3
  have la0 := Xa0.out.lt
  go_wp2
  clear ca00 ca01 ca02 fa00 fa01 fa02 la0
  obtain ⟨W5, hW⟩ : ∃ W5, W5 = (World.setCell (World.setCell (World.setCell w4 ⟨w.heap.size, 0, none⟩ (.bool true)) ⟨w.heap.size, 1, none⟩ (.slice qa_a qa_n qa_c)) ⟨w.heap.size, 2, none⟩ (.slice qb_a qb_n qb_c)) := ⟨_, rfl⟩
  rw [← hW]
  obtain ⟨xa0, hk, hf, hbb, hz⟩ := stored3s hW Xa0.out (by first | exact NoInt.bool _ | exact NoInt.slice _ _ _) (by first | exact NoInt.bool _ | exact NoInt.slice _ _ _) (by first | exact NoInt.bool _ | exact NoInt.slice _ _ _)
  have Hqa := Lib.hid (Can.keep Hqa.out hk)
  have Hqb := Lib.hid (Can.keep Hqb.out hk)
  have Xa0 := Lib.hid xa0
  have HB := Lib.hid (hbb _ HB.out Ga0.out)
  clear hW hk hf hbb xa0
  clear hz
  exact ret_rat1 rfl rfl rfl Xa0.out (quot_four Hz.out Hd.out He.out Hqa.out Hqb.out) HB.out


set_option maxRecDepth 100000 in
set_option maxHeartbeats 4000000 in
theorem r3quot_3t {n d L M : Nat} {s t : Value}  {w : World} (hz : 0 < n) (he : (d / Nat.gcd n d == 1) = false) (hl : ((sz (d / Nat.gcd n d) : Nat) : Int) = 1) (hn : Is n L w s) (hm : Is d M w t) (hd : 0 < d) (hL : L ≤ 1000000) (hM : M ≤ 1000000) :
    Calls Try.prog 63 #[.bool true, s, t] w (Ret w (CR (mkRat (iv true n) d) (max L M))) := by
  have Hn := Lib.hid hn
  have Hm := Lib.hid hm
  have Hd := Lib.hid hd
  have Hz := Lib.hid hz
  have He := Lib.hid he
  have Hl := Lib.hid hl
  clear hn hm hd hz he hl
  go_enter Try.func63, Try.ntmps63
  have HB := Lib.hid (Below.refl w.heap.size w)
  go_wp2_with fail
  obtain ⟨W1, hW⟩ : ∃ W1, W1 = (World.alloc w (.cells #[.bool false, .slice none 0 0, .slice none 0 0] 25)) := ⟨_, rfl⟩
  rw [← hW]
  obtain ⟨xa0, hk, hb⟩ := boxes_1 _ _ _ hW
  clear hW
  have Hn := Lib.hid (Is.keep Hn.out hk)
  have Hm := Lib.hid (Is.keep Hm.out hk)
  have Ga0 := Lib.hid (show w.heap.size ≤ w.heap.size from Nat.le_trans HB.out.size (by omega))
  have Xa0 := Lib.hid xa0
  have HB := Lib.hid (below_call HB.out hb)
  clear hk hb xa0
  (first | (have hcall := rgcd_can Hn.out Hm.out (by omega) (by omega); refine Calls.mono hcall ?_; clear hcall) | refine Calls.mono (rgcd_can Hn.out Hm.out (by omega) (by omega)) ?_)
  rintro e w2 ⟨v2, rfl, hg, hb⟩
  obtain ⟨g_a, g_n, g_c, rfl⟩ := hg.is.lit
  have Hn := Lib.hid (Is.keep Hn.out (Keep.call hb))
  have Hm := Lib.hid (Is.keep Hm.out (Keep.call hb))
  have Xa0 := Lib.hid (Box.pcall hb Xa0.out)
  have HB := Lib.hid (below_call HB.out hb)
  have Hg := Lib.hid hg
  clear hb hg
  obtain ⟨ca00, ca01, ca02, fa00, fa01, fa02⟩ := Xa0.out.c3
  have la0 := Xa0.out.lt
  go_wp2_with fail
  clear ca00 ca01 ca02 fa00 fa01 fa02 la0
  (first | (have hcall := rdivmod_pos (gcd_pos Hd.out) Hn.out Hg.out.is (by omega) (by omega); refine Calls.mono hcall ?_; clear hcall) | refine Calls.mono (rdivmod_pos (gcd_pos Hd.out) Hn.out Hg.out.is (by omega) (by omega)) ?_)
  rintro e w3 ⟨t3, rfl, ⟨v3, u3, rfl, hqa, hra⟩, hb⟩
  obtain ⟨qa_a, qa_n, qa_c, rfl⟩ := hqa.is.lit
  obtain ⟨ra_a, ra_n, ra_c, rfl⟩ := hra.is.lit
  have Hm := Lib.hid (Is.keep Hm.out (Keep.call hb))
  have Hg := Lib.hid (Can.keep Hg.out (Keep.call hb))
  have Xa0 := Lib.hid (Box.pcall hb Xa0.out)
  have HB := Lib.hid (below_call HB.out hb)
  have Hqa := Lib.hid hqa
  have Hra := Lib.hid hra
  clear hb hqa hra
  have hp0 : decide (0 < qa_n) = true := Hqa.out.pos (num_pos Hz.out)
  obtain ⟨ca00, ca01, ca02, fa00, fa01, fa02⟩ := Xa0.out.c3
  have la0 := Xa0.out.lt
  go_wp2_with fail
  clear ca00 ca01 ca02 fa00 fa01 fa02 la0
  (first | (have hcall := rdivmod_uk (gcd_pos Hd.out) He.out Hl.out Hm.out Hg.out.is (by omega) (by omega); refine Calls.mono hcall ?_; clear hcall) | refine Calls.mono (rdivmod_uk (gcd_pos Hd.out) He.out Hl.out Hm.out Hg.out.is (by omega) (by omega)) ?_)
  rintro e w4 ⟨t4, rfl, ⟨qb_b, qb_o, qb_c, u4, qb_k, rfl, hqb, hcell, hk1⟩, hb⟩
  have Hqa := Lib.hid (Can.keep Hqa.out (Keep.call hb))
  have Xa0 := Lib.hid (Box.pcall hb Xa0.out)
  have HB := Lib.hid (below_call HB.out hb)
  have Hqb := Lib.hid hqb
  clear hb hqb
  obtain ⟨ca00, ca01, ca02, fa00, fa01, fa02⟩ := Xa0.out.c3
  have la0 := Xa0.out.lt
  go_wp2
  clear ca00 ca01 ca02 fa00 fa01 fa02 la0
  obtain ⟨W5, hW⟩ : ∃ W5, W5 = (World.setCell (World.setCell (World.setCell w4 ⟨w.heap.size, 0, none⟩ (.bool true)) ⟨w.heap.size, 1, none⟩ (.slice qa_a qa_n qa_c)) ⟨w.heap.size, 2, none⟩ (.slice (some ⟨qb_b, qb_o, none⟩) 1 qb_c)) := ⟨_, rfl⟩
  rw [← hW]
  obtain ⟨xa0, hk, hf, hbb, hz⟩ := stored3s hW Xa0.out (by first | exact NoInt.bool _ | exact NoInt.slice _ _ _) (by first | exact NoInt.bool _ | exact NoInt.slice _ _ _) (by first | exact NoInt.bool _ | exact NoInt.slice _ _ _)
  have Hqa := Lib.hid (Can.keep Hqa.out hk)
  have Hqb := Lib.hid (Can.keep Hqb.out hk)
  have Xa0 := Lib.hid xa0
  have HB := Lib.hid (hbb _ HB.out Ga0.out)
  clear hW hk hf hbb xa0
  clear hz
  exact ret_rat1 rfl rfl rfl Xa0.out (quot_four Hz.out Hd.out He.out Hqa.out Hqb.out) HB.out


set_option maxRecDepth 100000 in
set_option maxHeartbeats 4000000 in
theorem r3quot_0f {n d L M : Nat} {s t : Value}  {w : World} (hz : n = 0) (hn : Is n L w s) (hm : Is d M w t) (hd : 0 < d) (hL : L ≤ 1000000) (hM : M ≤ 1000000) :
    Calls Try.prog 63 #[.bool false, s, t] w (Ret w (CR (mkRat (iv false n) d) (max L M))) := by
  have Hn := Lib.hid hn
  have Hm := Lib.hid hm
  have Hd := Lib.hid hd
  have Hz := Lib.hid hz
  clear hn hm hd hz
  go_enter Try.func63, Try.ntmps63
  have HB := Lib.hid (Below.refl w.heap.size w)
  go_wp2_with fail
  obtain ⟨W1, hW⟩ : ∃ W1, W1 = (World.alloc w (.cells #[.bool false, .slice none 0 0, .slice none 0 0] 25)) := ⟨_, rfl⟩
  rw [← hW]
  obtain ⟨xa0, hk, hb⟩ := boxes_1 _ _ _ hW
  clear hW
  have Hn := Lib.hid (Is.keep Hn.out hk)
  have Hm := Lib.hid (Is.keep Hm.out hk)
  have Ga0 := Lib.hid (show w.heap.size ≤ w.heap.size from Nat.le_trans HB.out.size (by omega))
  have Xa0 := Lib.hid xa0
  have HB := Lib.hid (below_call HB.out hb)
  clear hk hb xa0
  (first | (have hcall := rgcd_can Hn.out Hm.out (by omega) (by omega); refine Calls.mono hcall ?_; clear hcall) | refine Calls.mono (rgcd_can Hn.out Hm.out (by omega) (by omega)) ?_)
  rintro e w2 ⟨v2, rfl, hg, hb⟩
  obtain ⟨g_a, g_n, g_c, rfl⟩ := hg.is.lit
  have Hn := Lib.hid (Is.keep Hn.out (Keep.call hb))
  have Hm := Lib.hid (Is.keep Hm.out (Keep.call hb))
  have Xa0 := Lib.hid (Box.pcall hb Xa0.out)
  have HB := Lib.hid (below_call HB.out hb)
  have Hg := Lib.hid hg
  clear hb hg
  obtain ⟨ca00, ca01, ca02, fa00, fa01, fa02⟩ := Xa0.out.c3
  have la0 := Xa0.out.lt
  go_wp2_with fail
  clear ca00 ca01 ca02 fa00 fa01 fa02 la0
  (first | (have hcall := rdivmod_pos (gcd_pos Hd.out) Hn.out Hg.out.is (by omega) (by omega); refine Calls.mono hcall ?_; clear hcall) | refine Calls.mono (rdivmod_pos (gcd_pos Hd.out) Hn.out Hg.out.is (by omega) (by omega)) ?_)
  rintro e w3 ⟨t3, rfl, ⟨v3, u3, rfl, hqa, hra⟩, hb⟩
  obtain ⟨qa_a, qa_n, qa_c, rfl⟩ := hqa.is.lit
  obtain ⟨ra_a, ra_n, ra_c, rfl⟩ := hra.is.lit
  have Hm := Lib.hid (Is.keep Hm.out (Keep.call hb))
  have Hg := Lib.hid (Can.keep Hg.out (Keep.call hb))
  have Xa0 := Lib.hid (Box.pcall hb Xa0.out)
  have HB := Lib.hid (below_call HB.out hb)
  have Hqa := Lib.hid hqa
  have Hra := Lib.hid hra
  clear hb hqa hra
  have hp0 : decide (0 < qa_n) = false := Hqa.out.posF (by rw [Hz.out, Nat.zero_div])
  obtain ⟨ca00, ca01, ca02, fa00, fa01, fa02⟩ := Xa0.out.c3
  have la0 := Xa0.out.lt
  go_wp2_with fail
  clear ca00 ca01 ca02 fa00 fa01 fa02 la0
  (first | (have hcall := rdivmod_u1 (gcd_pos Hd.out) (den_zero Hz.out Hd.out) Hm.out Hg.out.is (by omega) (by omega); refine Calls.mono hcall ?_; clear hcall) | refine Calls.mono (rdivmod_u1 (gcd_pos Hd.out) (den_zero Hz.out Hd.out) Hm.out Hg.out.is (by omega) (by omega)) ?_)
  rintro e w4 ⟨t4, rfl, ⟨qb_b, qb_o, qb_c, u4, rfl, hqb, hcell⟩, hb⟩
  have Hm := Lib.hid (Is.keep Hm.out (Keep.call hb))
  have Hqa := Lib.hid (Can.keep Hqa.out (Keep.call hb))
  have Xa0 := Lib.hid (Box.pcall hb Xa0.out)
  have HB := Lib.hid (below_call HB.out hb)
  have Hqb := Lib.hid hqb
  clear hb hqb
  obtain ⟨ca00, ca01, ca02, fa00, fa01, fa02⟩ := Xa0.out.c3
  have la0 := Xa0.out.lt
  go_wp2
  clear ca00 ca01 ca02 fa00 fa01 fa02 la0
  obtain ⟨W5, hW⟩ : ∃ W5, W5 = (World.setCell (World.setCell (World.setCell w4 ⟨w.heap.size, 0, none⟩ (.bool false)) ⟨w.heap.size, 1, none⟩ (.slice qa_a qa_n qa_c)) ⟨w.heap.size, 2, none⟩ (.slice none 0 0)) := ⟨_, rfl⟩
  rw [← hW]
  obtain ⟨xa0, hk, hf, hbb, hz⟩ := stored3s hW Xa0.out (by first | exact NoInt.bool _ | exact NoInt.slice _ _ _) (by first | exact NoInt.bool _ | exact NoInt.slice _ _ _) (by first | exact NoInt.bool _ | exact NoInt.slice _ _ _)
  have Hm := Lib.hid (Is.keep Hm.out hk)
  have Hqa := Lib.hid (Can.keep Hqa.out hk)
  have Xa0 := Lib.hid xa0
  have HB := Lib.hid (hbb _ HB.out Ga0.out)
  clear hW hk hf hbb xa0
  clear hz
  exact ret_rat1 rfl rfl rfl Xa0.out (rquot_zero (neg := false) Hz.out Hd.out Hqa.out Hm.out) HB.out


set_option maxRecDepth 100000 in
set_option maxHeartbeats 4000000 in
theorem r3quot_1f {n d L M : Nat} {s t : Value}  {w : World} (hz : 0 < n) (he : (d / Nat.gcd n d == 1) = true) (hn : Is n L w s) (hm : Is d M w t) (hd : 0 < d) (hL : L ≤ 1000000) (hM : M ≤ 1000000) :
    Calls Try.prog 63 #[.bool false, s, t] w (Ret w (CR (mkRat (iv false n) d) (max L M))) := by
  have Hn := Lib.hid hn
  have Hm := Lib.hid hm
  have Hd := Lib.hid hd
  have Hz := Lib.hid hz
  have He := Lib.hid he
  clear hn hm hd hz he
  go_enter Try.func63, Try.ntmps63
  have HB := Lib.hid (Below.refl w.heap.size w)
  go_wp2_with fail
  obtain ⟨W1, hW⟩ : ∃ W1, W1 = (World.alloc w (.cells #[.bool false, .slice none 0 0, .slice none 0 0] 25)) := ⟨_, rfl⟩
  rw [← hW]
  obtain ⟨xa0, hk, hb⟩ := boxes_1 _ _ _ hW
  clear hW
  have Hn := Lib.hid (Is.keep Hn.out hk)
  have Hm := Lib.hid (Is.keep Hm.out hk)
  have Ga0 := Lib.hid (show w.heap.size ≤ w.heap.size from Nat.le_trans HB.out.size (by omega))
  have Xa0 := Lib.hid xa0
  have HB := Lib.hid (below_call HB.out hb)
  clear hk hb xa0
  (first | (have hcall := rgcd_can Hn.out Hm.out (by omega) (by omega); refine Calls.mono hcall ?_; clear hcall) | refine Calls.mono (rgcd_can Hn.out Hm.out (by omega) (by omega)) ?_)
  rintro e w2 ⟨v2, rfl, hg, hb⟩
  obtain ⟨g_a, g_n, g_c, rfl⟩ := hg.is.lit
  have Hn := Lib.hid (Is.keep Hn.out (Keep.call hb))
  have Hm := Lib.hid (Is.keep Hm.out (Keep.call hb))
  have Xa0 := Lib.hid (Box.pcall hb Xa0.out)
  have HB := Lib.hid (below_call HB.out hb)
  have Hg := Lib.hid hg
  clear hb hg
  obtain ⟨ca00, ca01, ca02, fa00, fa01, fa02⟩ := Xa0.out.c3
  have la0 := Xa0.out.lt
  go_wp2_with fail
  clear ca00 ca01 ca02 fa00 fa01 fa02 la0
  (first | (have hcall := rdivmod_pos (gcd_pos Hd.out) Hn.out Hg.out.is (by omega) (by omega); refine Calls.mono hcall ?_; clear hcall) | refine Calls.mono (rdivmod_pos (gcd_pos Hd.out) Hn.out Hg.out.is (by omega) (by omega)) ?_)
  rintro e w3 ⟨t3, rfl, ⟨v3, u3, rfl, hqa, hra⟩, hb⟩
  obtain ⟨qa_a, qa_n, qa_c, rfl⟩ := hqa.is.lit
  obtain ⟨ra_a, ra_n, ra_c, rfl⟩ := hra.is.lit
  have Hm := Lib.hid (Is.keep Hm.out (Keep.call hb))
  have Hg := Lib.hid (Can.keep Hg.out (Keep.call hb))
  have Xa0 := Lib.hid (Box.pcall hb Xa0.out)
  have HB := Lib.hid (below_call HB.out hb)
  have Hqa := Lib.hid hqa
  have Hra := Lib.hid hra
  clear hb hqa hra
  have hp0 : decide (0 < qa_n) = true := Hqa.out.pos (num_pos Hz.out)
  obtain ⟨ca00, ca01, ca02, fa00, fa01, fa02⟩ := Xa0.out.c3
  have la0 := Xa0.out.lt
  go_wp2_with fail
  clear ca00 ca01 ca02 fa00 fa01 fa02 la0
  (first | (have hcall := rdivmod_u1 (gcd_pos Hd.out) He.out Hm.out Hg.out.is (by omega) (by omega); refine Calls.mono hcall ?_; clear hcall) | refine Calls.mono (rdivmod_u1 (gcd_pos Hd.out) He.out Hm.out Hg.out.is (by omega) (by omega)) ?_)
  rintro e w4 ⟨t4, rfl, ⟨qb_b, qb_o, qb_c, u4, rfl, hqb, hcell⟩, hb⟩
  have Hm := Lib.hid (Is.keep Hm.out (Keep.call hb))
  have Hqa := Lib.hid (Can.keep Hqa.out (Keep.call hb))
  have Xa0 := Lib.hid (Box.pcall hb Xa0.out)
  have HB := Lib.hid (below_call HB.out hb)
  have Hqb := Lib.hid hqb
  clear hb hqb
  obtain ⟨ca00, ca01, ca02, fa00, fa01, fa02⟩ := Xa0.out.c3
  have la0 := Xa0.out.lt
  go_wp2
  clear ca00 ca01 ca02 fa00 fa01 fa02 la0
  obtain ⟨W5, hW⟩ : ∃ W5, W5 = (World.setCell (World.setCell (World.setCell w4 ⟨w.heap.size, 0, none⟩ (.bool false)) ⟨w.heap.size, 1, none⟩ (.slice qa_a qa_n qa_c)) ⟨w.heap.size, 2, none⟩ (.slice none 0 0)) := ⟨_, rfl⟩
  rw [← hW]
  obtain ⟨xa0, hk, hf, hbb, hz⟩ := stored3s hW Xa0.out (by first | exact NoInt.bool _ | exact NoInt.slice _ _ _) (by first | exact NoInt.bool _ | exact NoInt.slice _ _ _) (by first | exact NoInt.bool _ | exact NoInt.slice _ _ _)
  have Hm := Lib.hid (Is.keep Hm.out hk)
  have Hqa := Lib.hid (Can.keep Hqa.out hk)
  have Xa0 := Lib.hid xa0
  have HB := Lib.hid (hbb _ HB.out Ga0.out)
  clear hW hk hf hbb xa0
  clear hz
  exact ret_rat1 rfl rfl rfl Xa0.out (quot_three Hz.out Hd.out He.out Hqa.out Hm.out) HB.out


set_option maxRecDepth 100000 in
set_option maxHeartbeats 4000000 in
theorem r3quot_2f {n d L M : Nat} {s t : Value}  {w : World} (hz : 0 < n) (he : (d / Nat.gcd n d == 1) = false) (hl : ((sz (d / Nat.gcd n d) : Nat) : Int) ≠ 1) (hn : Is n L w s) (hm : Is d M w t) (hd : 0 < d) (hL : L ≤ 1000000) (hM : M ≤ 1000000) :
    Calls Try.prog 63 #[.bool false, s, t] w (Ret w (CR (mkRat (iv false n) d) (max L M))) := by
  have Hn := Lib.hid hn
  have Hm := Lib.hid hm
  have Hd := Lib.hid hd
  have Hz := Lib.hid hz
  have He := Lib.hid he
  have Hl := Lib.hid hl
  clear hn hm hd hz he hl
  go_enter Try.func63, Try.ntmps63
  have HB := Lib.hid (Below.refl w.heap.size w)
  go_wp2_with fail
  obtain ⟨W1, hW⟩ : ∃ W1, W1 = (World.alloc w (.cells #[.bool false, .slice none 0 0, .slice none 0 0] 25)) := ⟨_, rfl⟩
  rw [← hW]
  obtain ⟨xa0, hk, hb⟩ := boxes_1 _ _ _ hW
  clear hW
  have Hn := Lib.hid (Is.keep Hn.out hk)
  have Hm := Lib.hid (Is.keep Hm.out hk)
  have Ga0 := Lib.hid (show w.heap.size ≤ w.heap.size from Nat.le_trans HB.out.size (by omega))
  have Xa0 := Lib.hid xa0
  have HB := Lib.hid (below_call HB.out hb)
  clear hk hb xa0
  (first | (have hcall := rgcd_can Hn.out Hm.out (by omega) (by omega); refine Calls.mono hcall ?_; clear hcall) | refine Calls.mono (rgcd_can Hn.out Hm.out (by omega) (by omega)) ?_)
  rintro e w2 ⟨v2, rfl, hg, hb⟩
  obtain ⟨g_a, g_n, g_c, rfl⟩ := hg.is.lit
  have Hn := Lib.hid (Is.keep Hn.out (Keep.call hb))
  have Hm := Lib.hid (Is.keep Hm.out (Keep.call hb))
  have Xa0 := Lib.hid (Box.pcall hb Xa0.out)
  have HB := Lib.hid (below_call HB.out hb)
  have Hg := Lib.hid hg
  clear hb hg
  obtain ⟨ca00, ca01, ca02, fa00, fa01, fa02⟩ := Xa0.out.c3
  have la0 := Xa0.out.lt
  go_wp2_with fail
  clear ca00 ca01 ca02 fa00 fa01 fa02 la0
  (first | (have hcall := rdivmod_pos (gcd_pos Hd.out) Hn.out Hg.out.is (by omega) (by omega); refine Calls.mono hcall ?_; clear hcall) | refine Calls.mono (rdivmod_pos (gcd_pos Hd.out) Hn.out Hg.out.is (by omega) (by omega)) ?_)
  rintro e w3 ⟨t3, rfl, ⟨v3, u3, rfl, hqa, hra⟩, hb⟩
  obtain ⟨qa_a, qa_n, qa_c, rfl⟩ := hqa.is.lit
  obtain ⟨ra_a, ra_n, ra_c, rfl⟩ := hra.is.lit
  have Hm := Lib.hid (Is.keep Hm.out (Keep.call hb))
  have Hg := Lib.hid (Can.keep Hg.out (Keep.call hb))
  have Xa0 := Lib.hid (Box.pcall hb Xa0.out)
  have HB := Lib.hid (below_call HB.out hb)
  have Hqa := Lib.hid hqa
  have Hra := Lib.hid hra
  clear hb hqa hra
  have hp0 : decide (0 < qa_n) = true := Hqa.out.pos (num_pos Hz.out)
  obtain ⟨ca00, ca01, ca02, fa00, fa01, fa02⟩ := Xa0.out.c3
  have la0 := Xa0.out.lt
  go_wp2_with fail
  clear ca00 ca01 ca02 fa00 fa01 fa02 la0
  (first | (have hcall := rdivmod_un (gcd_pos Hd.out) Hl.out Hm.out Hg.out.is (by omega) (by omega); refine Calls.mono hcall ?_; clear hcall) | refine Calls.mono (rdivmod_un (gcd_pos Hd.out) Hl.out Hm.out Hg.out.is (by omega) (by omega)) ?_)
  rintro e w4 ⟨t4, rfl, ⟨qb_a, qb_n, qb_c, u4, rfl, hqb, hlen⟩, hb⟩
  have Hqa := Lib.hid (Can.keep Hqa.out (Keep.call hb))
  have Xa0 := Lib.hid (Box.pcall hb Xa0.out)
  have HB := Lib.hid (below_call HB.out hb)
  have Hqb := Lib.hid hqb
  clear hb hqb
  obtain ⟨ca00, ca01, ca02, fa00, fa01, fa02⟩ := Xa0.out.c3
  have la0 := Xa0.out.lt
  go_wp2
  clear ca00 ca01 ca02 fa00 fa01 fa02 la0
  obtain ⟨W5, hW⟩ : ∃ W5, W5 = (World.setCell (World.setCell (World.setCell w4 ⟨w.heap.size, 0, none⟩ (.bool false)) ⟨w.heap.size, 1, none⟩ (.slice qa_a qa_n qa_c)) ⟨w.heap.size, 2, none⟩ (.slice qb_a qb_n qb_c)) := ⟨_, rfl⟩
  rw [← hW]
  obtain ⟨xa0, hk, hf, hbb, hz⟩ := stored3s hW Xa0.out (by first | exact NoInt.bool _ | exact NoInt.slice _ _ _) (by first | exact NoInt.bool _ | exact NoInt.slice _ _ _) (by first | exact NoInt.bool _ | exact NoInt.slice _ _ _)
  have Hqa := Lib.hid (Can.keep Hqa.out hk)
  have Hqb := Lib.hid (Can.keep Hqb.out hk)
  have Xa0 := Lib.hid xa0
  have HB := Lib.hid (hbb _ HB.out Ga0.out)
  clear hW hk hf hbb xa0
  clear hz
  exact ret_rat1 rfl rfl rfl Xa0.out (quot_four Hz.out Hd.out He.out Hqa.out Hqb.out) HB.out


set_option maxRecDepth 100000 in
set_option maxHeartbeats 4000000 in
theorem r3quot_3f {n d L M : Nat} {s t : Value}  {w : World} (hz : 0 < n) (he : (d / Nat.gcd n d == 1) = false) (hl : ((sz (d / Nat.gcd n d) : Nat) : Int) = 1) (hn : Is n L w s) (hm : Is d M w t) (hd : 0 < d) (hL : L ≤ 1000000) (hM : M ≤ 1000000) :
    Calls Try.prog 63 #[.bool false, s, t] w (Ret w (CR (mkRat (iv false n) d) (max L M))) := by
  have Hn := Lib.hid hn
  have Hm := Lib.hid hm
  have Hd := Lib.hid hd
  have Hz := Lib.hid hz
  have He := Lib.hid he
  have Hl := Lib.hid hl
  clear hn hm hd hz he hl
  go_enter Try.func63, Try.ntmps63
  have HB := Lib.hid (Below.refl w.heap.size w)
  go_wp2_with fail
  obtain ⟨W1, hW⟩ : ∃ W1, W1 = (World.alloc w (.cells #[.bool false, .slice none 0 0, .slice none 0 0] 25)) := ⟨_, rfl⟩
  rw [← hW]
  obtain ⟨xa0, hk, hb⟩ := boxes_1 _ _ _ hW
  clear hW
  have Hn := Lib.hid (Is.keep Hn.out hk)
  have Hm := Lib.hid (Is.keep Hm.out hk)
  have Ga0 := Lib.hid (show w.heap.size ≤ w.heap.size from Nat.le_trans HB.out.size (by omega))
  have Xa0 := Lib.hid xa0
  have HB := Lib.hid (below_call HB.out hb)
  clear hk hb xa0
  (first | (have hcall := rgcd_can Hn.out Hm.out (by omega) (by omega); refine Calls.mono hcall ?_; clear hcall) | refine Calls.mono (rgcd_can Hn.out Hm.out (by omega) (by omega)) ?_)
  rintro e w2 ⟨v2, rfl, hg, hb⟩
  obtain ⟨g_a, g_n, g_c, rfl⟩ := hg.is.lit
  have Hn := Lib.hid (Is.keep Hn.out (Keep.call hb))
  have Hm := Lib.hid (Is.keep Hm.out (Keep.call hb))
  have Xa0 := Lib.hid (Box.pcall hb Xa0.out)
  have HB := Lib.hid (below_call HB.out hb)
  have Hg := Lib.hid hg
  clear hb hg
  obtain ⟨ca00, ca01, ca02, fa00, fa01, fa02⟩ := Xa0.out.c3
  have la0 := Xa0.out.lt
  go_wp2_with fail
  clear ca00 ca01 ca02 fa00 fa01 fa02 la0
  (first | (have hcall := rdivmod_pos (gcd_pos Hd.out) Hn.out Hg.out.is (by omega) (by omega); refine Calls.mono hcall ?_; clear hcall) | refine Calls.mono (rdivmod_pos (gcd_pos Hd.out) Hn.out Hg.out.is (by omega) (by omega)) ?_)
  rintro e w3 ⟨t3, rfl, ⟨v3, u3, rfl, hqa, hra⟩, hb⟩
  obtain ⟨qa_a, qa_n, qa_c, rfl⟩ := hqa.is.lit
  obtain ⟨ra_a, ra_n, ra_c, rfl⟩ := hra.is.lit
  have Hm := Lib.hid (Is.keep Hm.out (Keep.call hb))
  have Hg := Lib.hid (Can.keep Hg.out (Keep.call hb))
  have Xa0 := Lib.hid (Box.pcall hb Xa0.out)
  have HB := Lib.hid (below_call HB.out hb)
  have Hqa := Lib.hid hqa
  have Hra := Lib.hid hra
  clear hb hqa hra
  have hp0 : decide (0 < qa_n) = true := Hqa.out.pos (num_pos Hz.out)
  obtain ⟨ca00, ca01, ca02, fa00, fa01, fa02⟩ := Xa0.out.c3
  have la0 := Xa0.out.lt
  go_wp2_with fail
  clear ca00 ca01 ca02 fa00 fa01 fa02 la0
  (first | (have hcall := rdivmod_uk (gcd_pos Hd.out) He.out Hl.out Hm.out Hg.out.is (by omega) (by omega); refine Calls.mono hcall ?_; clear hcall) | refine Calls.mono (rdivmod_uk (gcd_pos Hd.out) He.out Hl.out Hm.out Hg.out.is (by omega) (by omega)) ?_)
  rintro e w4 ⟨t4, rfl, ⟨qb_b, qb_o, qb_c, u4, qb_k, rfl, hqb, hcell, hk1⟩, hb⟩
  have Hqa := Lib.hid (Can.keep Hqa.out (Keep.call hb))
  have Xa0 := Lib.hid (Box.pcall hb Xa0.out)
  have HB := Lib.hid (below_call HB.out hb)
  have Hqb := Lib.hid hqb
  clear hb hqb
  obtain ⟨ca00, ca01, ca02, fa00, fa01, fa02⟩ := Xa0.out.c3
  have la0 := Xa0.out.lt
  go_wp2
  clear ca00 ca01 ca02 fa00 fa01 fa02 la0
  obtain ⟨W5, hW⟩ : ∃ W5, W5 = (World.setCell (World.setCell (World.setCell w4 ⟨w.heap.size, 0, none⟩ (.bool false)) ⟨w.heap.size, 1, none⟩ (.slice qa_a qa_n qa_c)) ⟨w.heap.size, 2, none⟩ (.slice (some ⟨qb_b, qb_o, none⟩) 1 qb_c)) := ⟨_, rfl⟩
  rw [← hW]
  obtain ⟨xa0, hk, hf, hbb, hz⟩ := stored3s hW Xa0.out (by first | exact NoInt.bool _ | exact NoInt.slice _ _ _) (by first | exact NoInt.bool _ | exact NoInt.slice _ _ _) (by first | exact NoInt.bool _ | exact NoInt.slice _ _ _)
  have Hqa := Lib.hid (Can.keep Hqa.out hk)
  have Hqb := Lib.hid (Can.keep Hqb.out hk)
  have Xa0 := Lib.hid xa0
  have HB := Lib.hid (hbb _ HB.out Ga0.out)
  clear hW hk hf hbb xa0
  clear hz
  exact ret_rat1 rfl rfl rfl Xa0.out (quot_four Hz.out Hd.out He.out Hqa.out Hqb.out) HB.out


theorem r3quot_is {neg : Bool} {n d L M : Nat} {s t : Value} {w : World} (hd : 0 < d) (hn : Is n L w s) (hm : Is d M w t) (hL : L ≤ 1000000) (hM : M ≤ 1000000) :
    Calls Try.prog 63 #[.bool neg, s, t] w (Ret w (CR (mkRat (iv neg n) d) (max L M))) := by
  rcases Nat.eq_zero_or_pos n with h0 | h0
  · cases neg
    · exact r3quot_0f h0 hn hm hd hL hM
    · exact r3quot_0t h0 hn hm hd hL hM
  · cases h1 : d / Nat.gcd n d == 1
    · by_cases h2 : ((sz (d / Nat.gcd n d) : Nat) : Int) = 1
      · cases neg
        · exact r3quot_3f h0 h1 h2 hn hm hd hL hM
        · exact r3quot_3t h0 h1 h2 hn hm hd hL hM
      · cases neg
        · exact r3quot_2f h0 h1 h2 hn hm hd hL hM
        · exact r3quot_2t h0 h1 h2 hn hm hd hL hM
    · cases neg
      · exact r3quot_1f h0 h1 hn hm hd hL hM
      · exact r3quot_1t h0 h1 hn hm hd hL hM

end Go.Proofs.Ytfkjhaniglmejaa
