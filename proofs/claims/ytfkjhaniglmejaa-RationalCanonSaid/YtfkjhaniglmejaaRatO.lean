/- Layer 3: Valid of both, RationalCanon. Printed by ratd.py. -/
import Derived.Test.YtfkjhaniglmejaaShelR
namespace Go.Proofs.Ytfkjhaniglmejaa
open Go.RowKit Nt
set_option linter.unusedVariables false

theorem val_inj : ∀ {xs ys : List Nat}, lims xs → lims ys → xs.length = ys.length → val xs = val ys → xs = ys := by
  intro xs
  induction xs with
  | nil => intro ys _ _ h _; cases ys with | nil => rfl | cons y ys => simp at h
  | cons x xs ih =>
    intro ys h1 h2 hl hv
    cases ys with
    | nil => simp at hl
    | cons y ys =>
      have a := h1 x List.mem_cons_self
      have b := h2 y List.mem_cons_self
      simp only [val] at hv
      have e : x = y := by omega
      subst e
      rw [ih (fun z hz => h1 z (List.mem_cons_of_mem _ hz)) (fun z hz => h2 z (List.mem_cons_of_mem _ hz)) (by simpa using hl) (by omega)]
/-- The value reads as the canonical form. -/
def vB (b : Bool) (xs ys : List Nat) (q : Rat) : Bool := b == decide (q < 0) && same xs (limbs q.num.natAbs) && same ys (limbs (dn q))
theorem same_parts {xs : List Nat} {n : Nat} (h : lims xs) : same xs (limbs n) = ((xs.length == (limbs n).length) && (cmpN (val xs) n == 0)) := by
  unfold same
  by_cases e : xs = limbs n
  · rw [decide_eq_true e, e, val_limbs, cmpN_eq rfl]; simp
  · rw [decide_eq_false e]
    symm
    rw [Bool.and_eq_false_iff]
    by_cases hl : xs.length = (limbs n).length
    · right
      rw [beq_eq_false_iff_ne]
      intro hc
      have hv : val xs = n := by
        unfold cmpN at hc
        by_cases h1 : val xs < n
        · rw [if_pos h1] at hc; cases hc
        · rw [if_neg h1] at hc
          by_cases h2 : val xs = n
          · exact h2
          · rw [if_neg h2] at hc; cases hc
      exact e (val_inj h (lims_limbs n) hl (by rw [val_limbs]; exact hv))
    · left; simpa using hl
theorem vB_nil {b : Bool} {xs : List Nat} (h : lims xs) : vB b xs [] (rv b (val xs) 0) = (canon xs && (!b || decide (0 < xs.length))) := by
  have e : rv b (val xs) 0 = ((iv b (val xs) : Int) : Rat) := by unfold rv; rw [show un 0 = 1 from rfl, mkRat_one]
  have e1 : ((iv b (val xs) : Int) : Rat).num.natAbs = val xs := by rw [Rat.num_intCast, iv_abs]
  have e2 : dn ((iv b (val xs) : Int) : Rat) = 0 := by unfold dn; rw [Rat.den_intCast]; rfl
  have e3 : (((iv b (val xs) : Int) : Rat) < 0) ↔ iv b (val xs) < 0 := by rw [Rat.lt_iff]; simp
  unfold vB
  rw [e, e1, e2, limbs_zero]
  by_cases hc : canon xs = true
  · have hl : limbs (val xs) = xs := limbs_val h (by
      unfold canon at hc
      simp only [Bool.or_eq_true, beq_iff_eq, bne_iff_ne] at hc
      rcases hc with h1 | h1
      · left; exact List.length_eq_zero_iff.1 h1
      · right; exact h1)
    rw [hl, hc, show same xs xs = true by simp [same], show same ([] : List Nat) [] = true by simp [same]]
    cases b
    · have : ¬ iv false (val xs) < 0 := by simp [iv]
      rw [decide_eq_false (mt e3.1 this)]; simp
    · by_cases h0 : 0 < xs.length
      · have hv : 0 < val xs := by
          rcases Nat.eq_zero_or_pos (val xs) with h1 | h1
          · rw [h1, limbs_zero] at hl; rw [← hl] at h0; simp at h0
          · exact h1
        rw [decide_eq_true (e3.2 ((iv_neg_iff hv).2 rfl)), decide_eq_true h0]; rfl
      · have hx : xs = [] := List.length_eq_zero_iff.1 (by omega)
        subst hx
        have : ¬ iv true (val []) < 0 := by simp [iv, val]
        rw [decide_eq_false (mt e3.1 this)]; simp
  · have hn : same xs (limbs (val xs)) = false := by
      unfold same; rw [decide_eq_false]; intro h1; rw [h1, canon_limbs] at hc; exact hc rfl
    rw [hn, Bool.eq_false_iff.2 hc]; simp
theorem vB_can (q : Rat) : vB (decide (q < 0)) (limbs q.num.natAbs) (limbs (dn q)) q = true := by simp [vB, same]
theorem Sl.lenE {w : World} {a : Option Addr} {n c : Nat} {xs : List Nat} (h : Sl w (.slice a n c) xs) : n = xs.length := by
  obtain ⟨ad, m, cap, he, hl, _⟩ := h
  injection he with _ e _
  rw [e]; exact hl.symm
theorem same_b {v v' : Value} {xs ys : List Nat} {w : World} (B : Bool) (hB : same xs ys = B) (h : Sl w v xs) (h' : Sl w v' ys) : Calls Try.prog 47 #[v, v'] w (Ret w (Val (.bool B))) := by rw [← hB]; exact same_any _ _ _ _ _ h h'
theorem cmp_slc {xs : List Nat} {b L : Nat} {u v : Value} {w : World} (k : Int) (hk : cmpN (val xs) b = k) (h : Sl w u xs) (h' : Can b L w v) : Calls Try.prog 76 #[u, v] w (Ret w (Val (.int .i64 k))) :=
  cmp_is k ⟨xs, h, rfl, Nat.le_refl _⟩ h'.is hk
theorem eqI {a b c : Nat} {B : Bool} (e : b = c) (h : (a == c) = B) : ((a : Int) == (b : Int)) = B := by
  subst e; rw [← h, Bool.eq_iff_iff]; simp; omega
theorem limbs_one : limbs 1 = [1] := by rw [limbs_pos (by decide)]; simp [limbs_zero]
theorem Can.one (w : World) : Can 1 1 (w.alloc (.cells #[.int .u32 1] 64)) (.slice (some ⟨w.heap.size, 0, none⟩) 1 1) := by
  have h := Is.ofbox (Box.new w 64 #[.int .u32 1])
  obtain ⟨xs, h1, h2, h3⟩ := h
  have hl : xs.length = 1 := h1.lenE.symm
  have hx : xs = limbs 1 := val_inj h1.lims (lims_limbs 1) (by rw [hl, limbs_one]; rfl) (by rw [h2, val_limbs])
  subst hx
  exact ⟨h1, by unfold sz; rw [limbs_one]; decide⟩
theorem r3one_can {d L : Nat} {t : Value} {w : World} (h : Is d L w t) : Calls Try.prog 61 #[t] w (Ret w (Can (un d) (max L 1))) := by
  rcases Nat.eq_zero_or_pos d with h0 | h0
  · go_enter Try.func61, Try.ntmps61
    go_wp2_with fail
    refine Calls.mono (rmake_is h) ?_
    rintro e w1 ⟨v1, rfl, hn, hb⟩
    obtain ⟨a, n, c, rfl⟩ := hn.is.lit
    have dx : ((n : Int) == 0) = true := hn.len0 true (by rw [h0]; rfl)
    have HB := Lib.hid hb
    have H0 := Lib.hid h0
    clear hb hn h0
    go_wp2
    go_ret
    exact ⟨_, rfl, Can.cast (un_zero H0.out) (Can.mono (Can.one _) (Nat.le_max_right _ _)), HB.out.alloc HB.out.size _⟩
  · go_enter Try.func61, Try.ntmps61
    go_wp2_with fail
    refine Calls.mono (rmake_is h) ?_
    rintro e w1 ⟨v1, rfl, hn, hb⟩
    obtain ⟨a, n, c, rfl⟩ := hn.is.lit
    have dx : ((n : Int) == 0) = false := hn.len0 false (beq_eq_false_iff_ne.2 (Nat.ne_of_gt h0))
    have HB := Lib.hid hb
    have Hn := Lib.hid hn
    clear hb hn
    go_wp2
    go_ret
    exact ⟨_, rfl, Can.cast (un_of h0) (Can.mono Hn.out (Nat.le_max_left _ _)), HB.out⟩

set_option maxRecDepth 100000 in
set_option maxHeartbeats 4000000 in
theorem zdenc_p {L : Nat} {qa : Rat} {ba : Bool} {sa ta : Value} {w : World} (ha : AR qa L w (.agg #[.bool ba, sa, ta])) (hL : L ≤ 100000) :
    Calls Try.prog 29 #[.agg #[.bool ba, sa, ta]] w (Ret w (Can qa.den (max L 1))) := by
  have Ha := Lib.hid ha
  clear ha
  have hfld := fun (w : World) (x y : Value) (a : Option Addr) (n c : Nat) => (show (Instr.field 25 (.agg #[x, y, .slice a n c]) 2).run Try.prog w = .ok (.slice a n c) w from by kernel_rfl)
  go_enter Try.func29, Try.ntmps29
  have HB := Lib.hid (Below.refl w.heap.size w)
  go_wp2_with fail
  obtain ⟨W1, hW⟩ : ∃ W1, W1 = (World.alloc w (.cells #[.bool ba, sa, ta] 25)) := ⟨_, rfl⟩
  rw [← hW]
  obtain ⟨xa0, hk, hb⟩ := boxes_1 _ _ _ hW
  clear hW
  have Ha := Lib.hid (AR.keep Ha.out hk)
  have Ga0 := Lib.hid (show w.heap.size ≤ w.heap.size from Nat.le_trans HB.out.size (by omega))
  have Xa0 := Lib.hid xa0
  have HB := Lib.hid (below_call HB.out hb)
  clear hk hb xa0
  (first | (have hcall := zcanon_ar Ha.out (by omega); refine Calls.mono hcall ?_; clear hcall) | refine Calls.mono (zcanon_ar Ha.out (by omega)) ?_)
  rintro e w2 ⟨v2, rfl, hc, hb⟩
  obtain ⟨c_b, c_a, c_n, c_c, c_d, c_m, c_e, rfl⟩ := hc.litb
  have Xa0 := Lib.hid (Box.pcall hb Xa0.out)
  have HB := Lib.hid (below_call HB.out hb)
  have Hc := Lib.hid hc
  clear hb hc
  obtain ⟨ca00, ca01, ca02, fa00, fa01, fa02⟩ := Xa0.out.c3
  have la0 := Xa0.out.lt
  go_wp2_with fail
  clear ca00 ca01 ca02 fa00 fa01 fa02 la0
  (first | (have hcall := r3one_can Hc.out.denC.is; refine Calls.mono hcall ?_; clear hcall) | refine Calls.mono (r3one_can Hc.out.denC.is) ?_)
  rintro e w3 ⟨v3, rfl, hu, hb⟩
  obtain ⟨u_a, u_n, u_c, rfl⟩ := hu.is.lit
  have Xa0 := Lib.hid (Box.pcall hb Xa0.out)
  have HB := Lib.hid (below_call HB.out hb)
  have Hu := Lib.hid hu
  clear hb hu
  obtain ⟨ca00, ca01, ca02, fa00, fa01, fa02⟩ := Xa0.out.c3
  have la0 := Xa0.out.lt
  go_wp2
  clear ca00 ca01 ca02 fa00 fa01 fa02 la0
  go_ret
  exact ⟨_, rfl, Can.mono (Can.cast (un_dn _) Hu.out) (by omega), HB.out⟩


theorem zden_can {q : Rat} {L : Nat} {v : Value} {w : World} (h : AR q L w v) (hL : L ≤ 100000) : Calls Try.prog 29 #[v] w (Ret w (Can q.den (max L 1))) := by
  obtain ⟨b, s, t, rfl⟩ := h.agg
  exact zdenc_p h hL

set_option maxRecDepth 100000 in
set_option maxHeartbeats 4000000 in
theorem zs_1 {ba : Bool} {sa ta : Value} {xa ya : List Nat} {bb : Bool} {sb tb : Value} {xb yb : List Nat}  {w : World} (he : (ba == bb) = false) (hna : Sl w sa xa) (hda : Sl w ta ya) (hnb : Sl w sb xb) (hdb : Sl w tb yb) :
    Calls Try.prog 15 #[.agg #[.bool ba, sa, ta], .agg #[.bool bb, sb, tb]] w (Ret w (Val (.bool false))) := by
  have Hna := Lib.hid hna
  have Hda := Lib.hid hda
  have Hnb := Lib.hid hnb
  have Hdb := Lib.hid hdb
  clear hna hda hnb hdb
  go_enter Try.func15, Try.ntmps15
  have HB := Lib.hid (Below.refl w.heap.size w)
  go_wp2
  obtain ⟨W1, hW⟩ : ∃ W1, W1 = (World.alloc (World.alloc w (.cells #[.bool ba, sa, ta] 25)) (.cells #[.bool bb, sb, tb] 25)) := ⟨_, rfl⟩
  rw [← hW]
  obtain ⟨xa0, xb0, hk, hb⟩ := boxes_2 _ _ _ _ _ hW
  clear hW
  have Ga0 := Lib.hid (show w.heap.size ≤ w.heap.size from Nat.le_trans HB.out.size (by omega))
  have Gb0 := Lib.hid (show w.heap.size ≤ w.heap.size + 1 from Nat.le_trans HB.out.size (by omega))
  have Xa0 := Lib.hid xa0
  have Xb0 := Lib.hid xb0
  have HB := Lib.hid (below_call HB.out hb)
  clear hk hb xa0 xb0
  go_ret
  exact ⟨_, rfl, rfl, HB.out⟩


set_option maxRecDepth 100000 in
set_option maxHeartbeats 4000000 in
theorem zs_2 {ba : Bool} {sa ta : Value} {xa ya : List Nat} {bb : Bool} {sb tb : Value} {xb yb : List Nat}  {w : World} (he : (ba == bb) = true) (h1 : same xa xb = false) (hna : Sl w sa xa) (hda : Sl w ta ya) (hnb : Sl w sb xb) (hdb : Sl w tb yb) :
    Calls Try.prog 15 #[.agg #[.bool ba, sa, ta], .agg #[.bool bb, sb, tb]] w (Ret w (Val (.bool false))) := by
  have Hna := Lib.hid hna
  have Hda := Lib.hid hda
  have Hnb := Lib.hid hnb
  have Hdb := Lib.hid hdb
  have H1 := Lib.hid h1
  clear hna hda hnb hdb h1
  go_enter Try.func15, Try.ntmps15
  have HB := Lib.hid (Below.refl w.heap.size w)
  go_wp2_with fail
  obtain ⟨W1, hW⟩ : ∃ W1, W1 = (World.alloc (World.alloc w (.cells #[.bool ba, sa, ta] 25)) (.cells #[.bool bb, sb, tb] 25)) := ⟨_, rfl⟩
  rw [← hW]
  obtain ⟨xa0, xb0, hk, hb⟩ := boxes_2 _ _ _ _ _ hW
  clear hW
  have Hna := Lib.hid (Sl.keep Hna.out hk)
  have Hnb := Lib.hid (Sl.keep Hnb.out hk)
  have Ga0 := Lib.hid (show w.heap.size ≤ w.heap.size from Nat.le_trans HB.out.size (by omega))
  have Gb0 := Lib.hid (show w.heap.size ≤ w.heap.size + 1 from Nat.le_trans HB.out.size (by omega))
  have Xa0 := Lib.hid xa0
  have Xb0 := Lib.hid xb0
  have HB := Lib.hid (below_call HB.out hb)
  clear hk hb xa0 xb0
  (first | (have hcall := same_b false H1.out Hna.out Hnb.out; refine Calls.mono hcall ?_; clear hcall) | refine Calls.mono (same_b false H1.out Hna.out Hnb.out) ?_)
  rintro e w2 ⟨v2, rfl, rfl, hb⟩
  have Xa0 := Lib.hid (Box.pcall hb Xa0.out)
  have Xb0 := Lib.hid (Box.pcall hb Xb0.out)
  have HB := Lib.hid (below_call HB.out hb)
  clear hb
  obtain ⟨ca00, ca01, ca02, fa00, fa01, fa02⟩ := Xa0.out.c3
  have la0 := Xa0.out.lt
  obtain ⟨cb00, cb01, cb02, fb00, fb01, fb02⟩ := Xb0.out.c3
  have lb0 := Xb0.out.lt
  go_wp2
  clear ca00 ca01 ca02 fa00 fa01 fa02 la0 cb00 cb01 cb02 fb00 fb01 fb02 lb0
  go_ret
  exact ⟨_, rfl, rfl, HB.out⟩


set_option maxRecDepth 100000 in
set_option maxHeartbeats 4000000 in
theorem zs_3 {ba : Bool} {sa ta : Value} {xa ya : List Nat} {bb : Bool} {sb tb : Value} {xb yb : List Nat}  {w : World} {B : Bool} (he : (ba == bb) = true) (h1 : same xa xb = true) (h2 : same ya yb = B) (hna : Sl w sa xa) (hda : Sl w ta ya) (hnb : Sl w sb xb) (hdb : Sl w tb yb) :
    Calls Try.prog 15 #[.agg #[.bool ba, sa, ta], .agg #[.bool bb, sb, tb]] w (Ret w (Val (.bool B))) := by
  have Hna := Lib.hid hna
  have Hda := Lib.hid hda
  have Hnb := Lib.hid hnb
  have Hdb := Lib.hid hdb
  have H1 := Lib.hid h1
  have H2 := Lib.hid h2
  clear hna hda hnb hdb h1 h2
  go_enter Try.func15, Try.ntmps15
  have HB := Lib.hid (Below.refl w.heap.size w)
  go_wp2_with fail
  obtain ⟨W1, hW⟩ : ∃ W1, W1 = (World.alloc (World.alloc w (.cells #[.bool ba, sa, ta] 25)) (.cells #[.bool bb, sb, tb] 25)) := ⟨_, rfl⟩
  rw [← hW]
  obtain ⟨xa0, xb0, hk, hb⟩ := boxes_2 _ _ _ _ _ hW
  clear hW
  have Hna := Lib.hid (Sl.keep Hna.out hk)
  have Hda := Lib.hid (Sl.keep Hda.out hk)
  have Hnb := Lib.hid (Sl.keep Hnb.out hk)
  have Hdb := Lib.hid (Sl.keep Hdb.out hk)
  have Ga0 := Lib.hid (show w.heap.size ≤ w.heap.size from Nat.le_trans HB.out.size (by omega))
  have Gb0 := Lib.hid (show w.heap.size ≤ w.heap.size + 1 from Nat.le_trans HB.out.size (by omega))
  have Xa0 := Lib.hid xa0
  have Xb0 := Lib.hid xb0
  have HB := Lib.hid (below_call HB.out hb)
  clear hk hb xa0 xb0
  (first | (have hcall := same_b true H1.out Hna.out Hnb.out; refine Calls.mono hcall ?_; clear hcall) | refine Calls.mono (same_b true H1.out Hna.out Hnb.out) ?_)
  rintro e w2 ⟨v2, rfl, rfl, hb⟩
  have Hda := Lib.hid (Sl.keep Hda.out (Keep.call hb))
  have Hdb := Lib.hid (Sl.keep Hdb.out (Keep.call hb))
  have Xa0 := Lib.hid (Box.pcall hb Xa0.out)
  have Xb0 := Lib.hid (Box.pcall hb Xb0.out)
  have HB := Lib.hid (below_call HB.out hb)
  clear hb
  obtain ⟨ca00, ca01, ca02, fa00, fa01, fa02⟩ := Xa0.out.c3
  have la0 := Xa0.out.lt
  obtain ⟨cb00, cb01, cb02, fb00, fb01, fb02⟩ := Xb0.out.c3
  have lb0 := Xb0.out.lt
  go_wp2_with fail
  clear ca00 ca01 ca02 fa00 fa01 fa02 la0 cb00 cb01 cb02 fb00 fb01 fb02 lb0
  (first | (have hcall := same_b B H2.out Hda.out Hdb.out; refine Calls.mono hcall ?_; clear hcall) | refine Calls.mono (same_b B H2.out Hda.out Hdb.out) ?_)
  rintro e w3 ⟨v3, rfl, ⟨⟩, hb⟩
  have Xa0 := Lib.hid (Box.pcall hb Xa0.out)
  have Xb0 := Lib.hid (Box.pcall hb Xb0.out)
  have HB := Lib.hid (below_call HB.out hb)
  clear hb
  obtain ⟨ca00, ca01, ca02, fa00, fa01, fa02⟩ := Xa0.out.c3
  have la0 := Xa0.out.lt
  obtain ⟨cb00, cb01, cb02, fb00, fb01, fb02⟩ := Xb0.out.c3
  have lb0 := Xb0.out.lt
  go_wp2
  clear ca00 ca01 ca02 fa00 fa01 fa02 la0 cb00 cb01 cb02 fb00 fb01 fb02 lb0
  go_ret
  exact ⟨_, rfl, rfl, HB.out⟩


theorem zsame_v {B : Bool} {b : Bool} {s t v : Value} {xs ys : List Nat} {q : Rat} {L : Nat} {w : World} (hB : vB b xs ys q = B) (h : Sl w s xs) (h' : Sl w t ys) (hc : CR q L w v) :
    Calls Try.prog 15 #[.agg #[.bool b, s, t], v] w (Ret w (Val (.bool B))) := by
  obtain ⟨c, a1, n1, c1, a2, n2, c2, rfl⟩ := hc.litb
  have k1 := hc.numC.1
  have k2 := hc.denC.1
  have k0 := hc.negC
  subst hB
  unfold vB
  rw [← k0]
  cases e1 : (b == c)
  · exact zs_1 e1 h h' k1 k2
  · cases e2 : same xs (limbs q.num.natAbs)
    · exact zs_2 e1 e2 h h' k1 k2
    · exact zs_3 e1 e2 rfl h h' k1 k2

set_option maxRecDepth 100000 in
set_option maxHeartbeats 4000000 in
theorem zvalid_p {L : Nat} {q : Rat} {xs ys : List Nat} {ba : Bool} {sa ta : Option Addr} {na ca ma ea : Nat}  {w : World} {B : Bool} (hB0 : vB ba xs ys q = B) (hxa : Sl w (.slice sa na ca) xs) (hya : Sl w (.slice ta ma ea) ys) (ha : AR q L w (.agg #[.bool ba, .slice sa na ca, .slice ta ma ea])) (hL : L ≤ 100000) :
    Calls Try.prog 43 #[.agg #[.bool ba, .slice sa na ca, .slice ta ma ea]] w (Ret w (Val (.bool B))) := by
  have Ha := Lib.hid ha
  have Hxa := Lib.hid hxa
  have Hya := Lib.hid hya
  have HB0 := Lib.hid hB0
  clear ha hxa hya hB0
  go_enter Try.func43, Try.ntmps43
  have HB := Lib.hid (Below.refl w.heap.size w)
  go_wp2_with fail
  obtain ⟨W1, hW⟩ : ∃ W1, W1 = (World.alloc w (.cells #[.bool ba, .slice sa na ca, .slice ta ma ea] 25)) := ⟨_, rfl⟩
  rw [← hW]
  obtain ⟨xa0, hk, hb⟩ := boxes_1 _ _ _ hW
  clear hW
  have Ha := Lib.hid (AR.keep Ha.out hk)
  have Hxa := Lib.hid (Sl.keep Hxa.out hk)
  have Hya := Lib.hid (Sl.keep Hya.out hk)
  have Ga0 := Lib.hid (show w.heap.size ≤ w.heap.size from Nat.le_trans HB.out.size (by omega))
  have Xa0 := Lib.hid xa0
  have HB := Lib.hid (below_call HB.out hb)
  clear hk hb xa0
  have Ha := Lib.hid (AR.keep Ha.out (Keep.drew W1))
  have Hxa := Lib.hid (Sl.keep Hxa.out (Keep.drew W1))
  have Hya := Lib.hid (Sl.keep Hya.out (Keep.drew W1))
  have Xa0 := Lib.hid (Box.drew Xa0.out)
  have HB := Lib.hid (Below.drew HB.out)
  refine wp_region_float [] [] (by kernel_rfl) (by kernel_rfl) 7 (by kernel_rfl) Flok.nil ?_
  intro ok
  have Hok := Lib.hid ok
  clear ok
  have HG := Lib.hid (Below.refl (W1.drew).heap.size (W1.drew))
  refine good_pureX 0 (some 3) (Go.Op.load 25 (Go.Operand.tmp 1)) (none) (.agg #[.bool ba, .slice sa na ca, .slice ta ma ea]) (by kernel_rfl) (by kernel_rfl) (by kernel_rfl) (fun _ _ _ h => h) (fun w' hw' => ?_) ?_
  · obtain ⟨ca00, ca01, ca02, fa00, fa01, fa02⟩ := (Box.se hw' Xa0.out notin0).c3
    first | (go_simp; done) | (go_simp; simp_all; done) | (go_simp; rfl)
  simp only [Act.put, List.setIfInBounds_toArray, List.set_cons_zero, List.set_cons_succ]
  refine good_pureX 1 (some 4) (Go.Op.load 25 (Go.Operand.tmp 1)) (none) (.agg #[.bool ba, .slice sa na ca, .slice ta ma ea]) (by kernel_rfl) (by kernel_rfl) (by kernel_rfl) (fun _ _ _ h => h) (fun w' hw' => ?_) ?_
  · obtain ⟨ca00, ca01, ca02, fa00, fa01, fa02⟩ := (Box.se hw' Xa0.out notin0).c3
    first | (go_simp; done) | (go_simp; simp_all; done) | (go_simp; rfl)
  simp only [Act.put, List.setIfInBounds_toArray, List.set_cons_zero, List.set_cons_succ]
  refine good_callX 2 19 (some 5) #[Go.Operand.tmp 4] #[25] (none) #[.agg #[.bool ba, .slice sa na ca, .slice ta ma ea]] (by kernel_rfl) Hok.out (by kernel_rfl) (by kernel_rfl) (by kernel_rfl) (by kernel_rfl) rfl rfl rfl (by kernel_rfl) (fun w2 hb => ?_)
  have HG := Lib.hid (below_call HG.out hb)
  clear hb
  (first | (have hcall := zcanon_ar (AR.keep Ha.out (Keep.call HG.out)) (by omega); refine Calls.mono hcall ?_; clear hcall) | refine Calls.mono (zcanon_ar (AR.keep Ha.out (Keep.call HG.out)) (by omega)) ?_)
  rintro e w3 ⟨v3, rfl, hc, hb⟩
  obtain ⟨c_b, c_a, c_n, c_c, c_d, c_m, c_e, rfl⟩ := hc.litb
  refine ⟨_, rfl, ?_, hb⟩
  have HG := Lib.hid (below_call HG.out hb)
  have Hc := Lib.hid hc
  clear hb hc
  simp only [Act.put, List.setIfInBounds_toArray, List.set_cons_zero, List.set_cons_succ]
  refine good_callX 3 15 (some 6) #[Go.Operand.tmp 3, Go.Operand.tmp 5] #[25, 25] (none) #[.agg #[.bool ba, .slice sa na ca, .slice ta ma ea], .agg #[.bool c_b, .slice c_a c_n c_c, .slice c_d c_m c_e]] (by kernel_rfl) Hok.out (by kernel_rfl) (by kernel_rfl) (by kernel_rfl) (by kernel_rfl) rfl rfl rfl (by kernel_rfl) (fun w4 hb => ?_)
  have Hc := Lib.hid (CR.keep Hc.out (Keep.call hb))
  have HG := Lib.hid (below_call HG.out hb)
  clear hb
  (first | (have hcall := zsame_v HB0.out (Sl.keep Hxa.out (Keep.call HG.out)) (Sl.keep Hya.out (Keep.call HG.out)) Hc.out; refine Calls.mono hcall ?_; clear hcall) | refine Calls.mono (zsame_v HB0.out (Sl.keep Hxa.out (Keep.call HG.out)) (Sl.keep Hya.out (Keep.call HG.out)) Hc.out) ?_)
  rintro e w5 ⟨v5, rfl, ⟨⟩, hb⟩
  refine ⟨_, rfl, ?_, hb⟩
  have HG := Lib.hid (below_call HG.out hb)
  clear hb
  simp only [Act.put, List.setIfInBounds_toArray, List.set_cons_zero, List.set_cons_succ]
  refine good_pureX 4 (some 2) (Go.Op.assign (Go.Operand.tmp 6)) (none) (.bool B) (by kernel_rfl) (by kernel_rfl) (by kernel_rfl) (fun _ _ _ h => h) (fun w' hw' => ?_) ?_
  · first | (go_simp; done) | (go_simp; simp_all; done) | (go_simp; rfl)
  simp only [Act.put, List.setIfInBounds_toArray, List.set_cons_zero, List.set_cons_succ]
  refine good_end0 0 (by kernel_rfl) (fun _ w6 hb => ?_)
  have HG := Lib.hid (below_call HG.out hb)
  clear hb
  have Xa0 := Lib.hid (Box.pcall HG.out Xa0.out)
  have HB := Lib.hid (below_call HB.out HG.out)
  have HS := Lib.hid (SE.of (E := []) HG.out)
  refine wpAnyH_done (by kernel_rfl) ?_ _
  clear HG HS Hok 
  obtain ⟨ca00, ca01, ca02, fa00, fa01, fa02⟩ := Xa0.out.c3
  have la0 := Xa0.out.lt
  go_wp2
  clear ca00 ca01 ca02 fa00 fa01 fa02 la0
  go_ret
  exact ⟨_, rfl, rfl, HB.out⟩


set_option maxRecDepth 100000 in
set_option maxHeartbeats 4000000 in
theorem rv_a1 {xs : List Nat} {ba : Bool} {sa ta : Option Addr} {na ca ma ea : Nat}  {w : World} (hv : canon xs = false) (hd0 : ((ma : Int) == 0) = true) (hxa : Sl w (.slice sa na ca) xs)  :
    Calls Try.prog 42 #[.agg #[.bool ba, .slice sa na ca, .slice ta ma ea]] w (Ret w (Val (.bool false))) := by
  have Hxa := Lib.hid hxa
  have Hv := Lib.hid hv
  clear hxa hv
  go_enter Try.func42, Try.ntmps42
  have HB := Lib.hid (Below.refl w.heap.size w)
  go_wp2_with fail
  obtain ⟨W1, hW⟩ : ∃ W1, W1 = (World.alloc w (.cells #[.bool ba, .slice sa na ca, .slice ta ma ea] 25)) := ⟨_, rfl⟩
  rw [← hW]
  obtain ⟨xa0, hk, hb⟩ := boxes_1 _ _ _ hW
  clear hW
  have Hxa := Lib.hid (Sl.keep Hxa.out hk)
  have Ga0 := Lib.hid (show w.heap.size ≤ w.heap.size from Nat.le_trans HB.out.size (by omega))
  have Xa0 := Lib.hid xa0
  have HB := Lib.hid (below_call HB.out hb)
  clear hk hb xa0
  (first | (have hcall := valid_sl Hv.out Hxa.out; refine Calls.mono hcall ?_; clear hcall) | refine Calls.mono (valid_sl Hv.out Hxa.out) ?_)
  rintro e w2 ⟨v2, rfl, rfl, hb⟩
  have Xa0 := Lib.hid (Box.pcall hb Xa0.out)
  have HB := Lib.hid (below_call HB.out hb)
  clear hb
  obtain ⟨ca00, ca01, ca02, fa00, fa01, fa02⟩ := Xa0.out.c3
  have la0 := Xa0.out.lt
  go_wp2
  clear ca00 ca01 ca02 fa00 fa01 fa02 la0
  go_ret
  exact ⟨_, rfl, rfl, HB.out⟩


set_option maxRecDepth 100000 in
set_option maxHeartbeats 4000000 in
theorem rv_a2 {xs : List Nat} {sa ta : Option Addr} {na ca ma ea : Nat}  {w : World} (hv : canon xs = true) (hd0 : ((ma : Int) == 0) = true) (hxa : Sl w (.slice sa na ca) xs)  :
    Calls Try.prog 42 #[.agg #[.bool false, .slice sa na ca, .slice ta ma ea]] w (Ret w (Val (.bool true))) := by
  have Hxa := Lib.hid hxa
  have Hv := Lib.hid hv
  clear hxa hv
  go_enter Try.func42, Try.ntmps42
  have HB := Lib.hid (Below.refl w.heap.size w)
  go_wp2_with fail
  obtain ⟨W1, hW⟩ : ∃ W1, W1 = (World.alloc w (.cells #[.bool false, .slice sa na ca, .slice ta ma ea] 25)) := ⟨_, rfl⟩
  rw [← hW]
  obtain ⟨xa0, hk, hb⟩ := boxes_1 _ _ _ hW
  clear hW
  have Hxa := Lib.hid (Sl.keep Hxa.out hk)
  have Ga0 := Lib.hid (show w.heap.size ≤ w.heap.size from Nat.le_trans HB.out.size (by omega))
  have Xa0 := Lib.hid xa0
  have HB := Lib.hid (below_call HB.out hb)
  clear hk hb xa0
  (first | (have hcall := valid_sl Hv.out Hxa.out; refine Calls.mono hcall ?_; clear hcall) | refine Calls.mono (valid_sl Hv.out Hxa.out) ?_)
  rintro e w2 ⟨v2, rfl, rfl, hb⟩
  have Xa0 := Lib.hid (Box.pcall hb Xa0.out)
  have HB := Lib.hid (below_call HB.out hb)
  clear hb
  obtain ⟨ca00, ca01, ca02, fa00, fa01, fa02⟩ := Xa0.out.c3
  have la0 := Xa0.out.lt
  go_wp2
  clear ca00 ca01 ca02 fa00 fa01 fa02 la0
  go_ret
  exact ⟨_, rfl, rfl, HB.out⟩


set_option maxRecDepth 100000 in
set_option maxHeartbeats 4000000 in
theorem rv_a3t {xs : List Nat} {sa ta : Option Addr} {na ca ma ea : Nat}  {w : World} (hv : canon xs = true) (hd2 : decide (0 < na) = true) (hd0 : ((ma : Int) == 0) = true) (hxa : Sl w (.slice sa na ca) xs)  :
    Calls Try.prog 42 #[.agg #[.bool true, .slice sa na ca, .slice ta ma ea]] w (Ret w (Val (.bool true))) := by
  have Hxa := Lib.hid hxa
  have Hv := Lib.hid hv
  clear hxa hv
  go_enter Try.func42, Try.ntmps42
  have HB := Lib.hid (Below.refl w.heap.size w)
  go_wp2_with fail
  obtain ⟨W1, hW⟩ : ∃ W1, W1 = (World.alloc w (.cells #[.bool true, .slice sa na ca, .slice ta ma ea] 25)) := ⟨_, rfl⟩
  rw [← hW]
  obtain ⟨xa0, hk, hb⟩ := boxes_1 _ _ _ hW
  clear hW
  have Hxa := Lib.hid (Sl.keep Hxa.out hk)
  have Ga0 := Lib.hid (show w.heap.size ≤ w.heap.size from Nat.le_trans HB.out.size (by omega))
  have Xa0 := Lib.hid xa0
  have HB := Lib.hid (below_call HB.out hb)
  clear hk hb xa0
  (first | (have hcall := valid_sl Hv.out Hxa.out; refine Calls.mono hcall ?_; clear hcall) | refine Calls.mono (valid_sl Hv.out Hxa.out) ?_)
  rintro e w2 ⟨v2, rfl, rfl, hb⟩
  have Xa0 := Lib.hid (Box.pcall hb Xa0.out)
  have HB := Lib.hid (below_call HB.out hb)
  clear hb
  obtain ⟨ca00, ca01, ca02, fa00, fa01, fa02⟩ := Xa0.out.c3
  have la0 := Xa0.out.lt
  go_wp2
  clear ca00 ca01 ca02 fa00 fa01 fa02 la0
  go_ret
  exact ⟨_, rfl, rfl, HB.out⟩


set_option maxRecDepth 100000 in
set_option maxHeartbeats 4000000 in
theorem rv_a3f {xs : List Nat} {sa ta : Option Addr} {na ca ma ea : Nat}  {w : World} (hv : canon xs = true) (hd2 : decide (0 < na) = false) (hd0 : ((ma : Int) == 0) = true) (hxa : Sl w (.slice sa na ca) xs)  :
    Calls Try.prog 42 #[.agg #[.bool true, .slice sa na ca, .slice ta ma ea]] w (Ret w (Val (.bool false))) := by
  have Hxa := Lib.hid hxa
  have Hv := Lib.hid hv
  clear hxa hv
  go_enter Try.func42, Try.ntmps42
  have HB := Lib.hid (Below.refl w.heap.size w)
  go_wp2_with fail
  obtain ⟨W1, hW⟩ : ∃ W1, W1 = (World.alloc w (.cells #[.bool true, .slice sa na ca, .slice ta ma ea] 25)) := ⟨_, rfl⟩
  rw [← hW]
  obtain ⟨xa0, hk, hb⟩ := boxes_1 _ _ _ hW
  clear hW
  have Hxa := Lib.hid (Sl.keep Hxa.out hk)
  have Ga0 := Lib.hid (show w.heap.size ≤ w.heap.size from Nat.le_trans HB.out.size (by omega))
  have Xa0 := Lib.hid xa0
  have HB := Lib.hid (below_call HB.out hb)
  clear hk hb xa0
  (first | (have hcall := valid_sl Hv.out Hxa.out; refine Calls.mono hcall ?_; clear hcall) | refine Calls.mono (valid_sl Hv.out Hxa.out) ?_)
  rintro e w2 ⟨v2, rfl, rfl, hb⟩
  have Xa0 := Lib.hid (Box.pcall hb Xa0.out)
  have HB := Lib.hid (below_call HB.out hb)
  clear hb
  obtain ⟨ca00, ca01, ca02, fa00, fa01, fa02⟩ := Xa0.out.c3
  have la0 := Xa0.out.lt
  go_wp2
  clear ca00 ca01 ca02 fa00 fa01 fa02 la0
  go_ret
  exact ⟨_, rfl, rfl, HB.out⟩


set_option maxRecDepth 100000 in
set_option maxHeartbeats 4000000 in
theorem rv_b0 {L : Nat} {q : Rat} {xs ys : List Nat} {ba : Bool} {sa ta : Option Addr} {na ca ma ea : Nat}  {w : World} (he1 : (ba == decide (q < 0)) = false) (hd0 : ((ma : Int) == 0) = false) (hxa : Sl w (.slice sa na ca) xs) (hya : Sl w (.slice ta ma ea) ys) (ha : AR q L w (.agg #[.bool ba, .slice sa na ca, .slice ta ma ea])) (hL : L ≤ 100000) :
    Calls Try.prog 42 #[.agg #[.bool ba, .slice sa na ca, .slice ta ma ea]] w (Ret w (Val (.bool false))) := by
  have Ha := Lib.hid ha
  have Hxa := Lib.hid hxa
  have Hya := Lib.hid hya
  have He1 := Lib.hid he1
  clear ha hxa hya he1
  go_enter Try.func42, Try.ntmps42
  have HB := Lib.hid (Below.refl w.heap.size w)
  go_wp2_with fail
  obtain ⟨W1, hW⟩ : ∃ W1, W1 = (World.alloc w (.cells #[.bool ba, .slice sa na ca, .slice ta ma ea] 25)) := ⟨_, rfl⟩
  rw [← hW]
  obtain ⟨xa0, hk, hb⟩ := boxes_1 _ _ _ hW
  clear hW
  have Ha := Lib.hid (AR.keep Ha.out hk)
  have Ga0 := Lib.hid (show w.heap.size ≤ w.heap.size from Nat.le_trans HB.out.size (by omega))
  have Xa0 := Lib.hid xa0
  have HB := Lib.hid (below_call HB.out hb)
  clear hk hb xa0
  (first | (have hcall := canon_ar Ha.out (by omega); refine Calls.mono hcall ?_; clear hcall) | refine Calls.mono (canon_ar Ha.out (by omega)) ?_)
  rintro e w2 ⟨v2, rfl, hc, hb⟩
  obtain ⟨c_b, c_a, c_n, c_c, c_d, c_m, c_e, rfl⟩ := hc.litb
  have Xa0 := Lib.hid (Box.pcall hb Xa0.out)
  have HB := Lib.hid (below_call HB.out hb)
  have Hc := Lib.hid hc
  clear hb hc
  have d1 : (ba == c_b) = false := by rw [Hc.out.negC]; exact He1.out
  obtain ⟨ca00, ca01, ca02, fa00, fa01, fa02⟩ := Xa0.out.c3
  have la0 := Xa0.out.lt
  go_wp2
  clear ca00 ca01 ca02 fa00 fa01 fa02 la0
  obtain ⟨W3, hW⟩ : ∃ W3, W3 = (World.alloc w2 (.cells #[.bool c_b, .slice c_a c_n c_c, .slice c_d c_m c_e] 25)) := ⟨_, rfl⟩
  rw [← hW]
  obtain ⟨xb0, hk, hb⟩ := boxes_1 _ _ _ hW
  clear hW
  have Na0b0 := Lib.hid (show w.heap.size ≠ w2.heap.size from Nat.ne_of_lt (Nat.lt_of_lt_of_le Xa0.out.lt (by omega)))
  have Gb0 := Lib.hid (show w.heap.size ≤ w2.heap.size from Nat.le_trans HB.out.size (by omega))
  have Xa0 := Lib.hid (Box.pcall hb Xa0.out)
  have Xb0 := Lib.hid xb0
  have HB := Lib.hid (below_call HB.out hb)
  clear hk hb xb0
  go_ret
  exact ⟨_, rfl, rfl, HB.out⟩


set_option maxRecDepth 100000 in
set_option maxHeartbeats 4000000 in
theorem rv_b1 {L : Nat} {q : Rat} {xs ys : List Nat} {ba : Bool} {sa ta : Option Addr} {na ca ma ea : Nat}  {w : World} (he1 : (ba == decide (q < 0)) = true) (he2 : (na == (limbs q.num.natAbs).length) = false) (hd0 : ((ma : Int) == 0) = false) (hxa : Sl w (.slice sa na ca) xs) (hya : Sl w (.slice ta ma ea) ys) (ha : AR q L w (.agg #[.bool ba, .slice sa na ca, .slice ta ma ea])) (hL : L ≤ 100000) :
    Calls Try.prog 42 #[.agg #[.bool ba, .slice sa na ca, .slice ta ma ea]] w (Ret w (Val (.bool false))) := by
  have Ha := Lib.hid ha
  have Hxa := Lib.hid hxa
  have Hya := Lib.hid hya
  have He1 := Lib.hid he1
  have He2 := Lib.hid he2
  clear ha hxa hya he1 he2
  go_enter Try.func42, Try.ntmps42
  have HB := Lib.hid (Below.refl w.heap.size w)
  go_wp2_with fail
  obtain ⟨W1, hW⟩ : ∃ W1, W1 = (World.alloc w (.cells #[.bool ba, .slice sa na ca, .slice ta ma ea] 25)) := ⟨_, rfl⟩
  rw [← hW]
  obtain ⟨xa0, hk, hb⟩ := boxes_1 _ _ _ hW
  clear hW
  have Ha := Lib.hid (AR.keep Ha.out hk)
  have Ga0 := Lib.hid (show w.heap.size ≤ w.heap.size from Nat.le_trans HB.out.size (by omega))
  have Xa0 := Lib.hid xa0
  have HB := Lib.hid (below_call HB.out hb)
  clear hk hb xa0
  (first | (have hcall := canon_ar Ha.out (by omega); refine Calls.mono hcall ?_; clear hcall) | refine Calls.mono (canon_ar Ha.out (by omega)) ?_)
  rintro e w2 ⟨v2, rfl, hc, hb⟩
  obtain ⟨c_b, c_a, c_n, c_c, c_d, c_m, c_e, rfl⟩ := hc.litb
  have Xa0 := Lib.hid (Box.pcall hb Xa0.out)
  have HB := Lib.hid (below_call HB.out hb)
  have Hc := Lib.hid hc
  clear hb hc
  have d1 : (ba == c_b) = true := by rw [Hc.out.negC]; exact He1.out
  have d2 : ((na : Int) == (c_n : Int)) = false := eqI Hc.out.numC.1.lenE He2.out
  obtain ⟨ca00, ca01, ca02, fa00, fa01, fa02⟩ := Xa0.out.c3
  have la0 := Xa0.out.lt
  go_wp2
  clear ca00 ca01 ca02 fa00 fa01 fa02 la0
  obtain ⟨W3, hW⟩ : ∃ W3, W3 = (World.alloc w2 (.cells #[.bool c_b, .slice c_a c_n c_c, .slice c_d c_m c_e] 25)) := ⟨_, rfl⟩
  rw [← hW]
  obtain ⟨xb0, hk, hb⟩ := boxes_1 _ _ _ hW
  clear hW
  have Na0b0 := Lib.hid (show w.heap.size ≠ w2.heap.size from Nat.ne_of_lt (Nat.lt_of_lt_of_le Xa0.out.lt (by omega)))
  have Gb0 := Lib.hid (show w.heap.size ≤ w2.heap.size from Nat.le_trans HB.out.size (by omega))
  have Xa0 := Lib.hid (Box.pcall hb Xa0.out)
  have Xb0 := Lib.hid xb0
  have HB := Lib.hid (below_call HB.out hb)
  clear hk hb xb0
  go_ret
  exact ⟨_, rfl, rfl, HB.out⟩


set_option maxRecDepth 100000 in
set_option maxHeartbeats 4000000 in
theorem rv_b2 {L : Nat} {q : Rat} {xs ys : List Nat} {ba : Bool} {sa ta : Option Addr} {na ca ma ea : Nat}  {w : World} (he1 : (ba == decide (q < 0)) = true) (he2 : (na == (limbs q.num.natAbs).length) = true) (he3 : (ma == (limbs (dn q)).length) = false) (hd0 : ((ma : Int) == 0) = false) (hxa : Sl w (.slice sa na ca) xs) (hya : Sl w (.slice ta ma ea) ys) (ha : AR q L w (.agg #[.bool ba, .slice sa na ca, .slice ta ma ea])) (hL : L ≤ 100000) :
    Calls Try.prog 42 #[.agg #[.bool ba, .slice sa na ca, .slice ta ma ea]] w (Ret w (Val (.bool false))) := by
  have Ha := Lib.hid ha
  have Hxa := Lib.hid hxa
  have Hya := Lib.hid hya
  have He1 := Lib.hid he1
  have He2 := Lib.hid he2
  have He3 := Lib.hid he3
  clear ha hxa hya he1 he2 he3
  go_enter Try.func42, Try.ntmps42
  have HB := Lib.hid (Below.refl w.heap.size w)
  go_wp2_with fail
  obtain ⟨W1, hW⟩ : ∃ W1, W1 = (World.alloc w (.cells #[.bool ba, .slice sa na ca, .slice ta ma ea] 25)) := ⟨_, rfl⟩
  rw [← hW]
  obtain ⟨xa0, hk, hb⟩ := boxes_1 _ _ _ hW
  clear hW
  have Ha := Lib.hid (AR.keep Ha.out hk)
  have Ga0 := Lib.hid (show w.heap.size ≤ w.heap.size from Nat.le_trans HB.out.size (by omega))
  have Xa0 := Lib.hid xa0
  have HB := Lib.hid (below_call HB.out hb)
  clear hk hb xa0
  (first | (have hcall := canon_ar Ha.out (by omega); refine Calls.mono hcall ?_; clear hcall) | refine Calls.mono (canon_ar Ha.out (by omega)) ?_)
  rintro e w2 ⟨v2, rfl, hc, hb⟩
  obtain ⟨c_b, c_a, c_n, c_c, c_d, c_m, c_e, rfl⟩ := hc.litb
  have Xa0 := Lib.hid (Box.pcall hb Xa0.out)
  have HB := Lib.hid (below_call HB.out hb)
  have Hc := Lib.hid hc
  clear hb hc
  have d1 : (ba == c_b) = true := by rw [Hc.out.negC]; exact He1.out
  have d2 : ((na : Int) == (c_n : Int)) = true := eqI Hc.out.numC.1.lenE He2.out
  have d3 : ((ma : Int) == (c_m : Int)) = false := eqI Hc.out.denC.1.lenE He3.out
  obtain ⟨ca00, ca01, ca02, fa00, fa01, fa02⟩ := Xa0.out.c3
  have la0 := Xa0.out.lt
  go_wp2
  clear ca00 ca01 ca02 fa00 fa01 fa02 la0
  obtain ⟨W3, hW⟩ : ∃ W3, W3 = (World.alloc w2 (.cells #[.bool c_b, .slice c_a c_n c_c, .slice c_d c_m c_e] 25)) := ⟨_, rfl⟩
  rw [← hW]
  obtain ⟨xb0, hk, hb⟩ := boxes_1 _ _ _ hW
  clear hW
  have Na0b0 := Lib.hid (show w.heap.size ≠ w2.heap.size from Nat.ne_of_lt (Nat.lt_of_lt_of_le Xa0.out.lt (by omega)))
  have Gb0 := Lib.hid (show w.heap.size ≤ w2.heap.size from Nat.le_trans HB.out.size (by omega))
  have Xa0 := Lib.hid (Box.pcall hb Xa0.out)
  have Xb0 := Lib.hid xb0
  have HB := Lib.hid (below_call HB.out hb)
  clear hk hb xb0
  go_ret
  exact ⟨_, rfl, rfl, HB.out⟩


set_option maxRecDepth 100000 in
set_option maxHeartbeats 4000000 in
theorem rv_b3 {L : Nat} {q : Rat} {xs ys : List Nat} {ba : Bool} {sa ta : Option Addr} {na ca ma ea : Nat}  {w : World} (he1 : (ba == decide (q < 0)) = true) (he2 : (na == (limbs q.num.natAbs).length) = true) (he3 : (ma == (limbs (dn q)).length) = true) (k : Int) (hk : cmpN (val xs) q.num.natAbs = k) (hk0 : (k == 0) = false) (hd0 : ((ma : Int) == 0) = false) (hxa : Sl w (.slice sa na ca) xs) (hya : Sl w (.slice ta ma ea) ys) (ha : AR q L w (.agg #[.bool ba, .slice sa na ca, .slice ta ma ea])) (hL : L ≤ 100000) :
    Calls Try.prog 42 #[.agg #[.bool ba, .slice sa na ca, .slice ta ma ea]] w (Ret w (Val (.bool false))) := by
  have Ha := Lib.hid ha
  have Hxa := Lib.hid hxa
  have Hya := Lib.hid hya
  have He1 := Lib.hid he1
  have He2 := Lib.hid he2
  have He3 := Lib.hid he3
  have Hk := Lib.hid hk
  clear ha hxa hya he1 he2 he3 hk
  go_enter Try.func42, Try.ntmps42
  have HB := Lib.hid (Below.refl w.heap.size w)
  go_wp2_with fail
  obtain ⟨W1, hW⟩ : ∃ W1, W1 = (World.alloc w (.cells #[.bool ba, .slice sa na ca, .slice ta ma ea] 25)) := ⟨_, rfl⟩
  rw [← hW]
  obtain ⟨xa0, hk, hb⟩ := boxes_1 _ _ _ hW
  clear hW
  have Ha := Lib.hid (AR.keep Ha.out hk)
  have Hxa := Lib.hid (Sl.keep Hxa.out hk)
  have Ga0 := Lib.hid (show w.heap.size ≤ w.heap.size from Nat.le_trans HB.out.size (by omega))
  have Xa0 := Lib.hid xa0
  have HB := Lib.hid (below_call HB.out hb)
  clear hk hb xa0
  (first | (have hcall := canon_ar Ha.out (by omega); refine Calls.mono hcall ?_; clear hcall) | refine Calls.mono (canon_ar Ha.out (by omega)) ?_)
  rintro e w2 ⟨v2, rfl, hc, hb⟩
  obtain ⟨c_b, c_a, c_n, c_c, c_d, c_m, c_e, rfl⟩ := hc.litb
  have Hxa := Lib.hid (Sl.keep Hxa.out (Keep.call hb))
  have Xa0 := Lib.hid (Box.pcall hb Xa0.out)
  have HB := Lib.hid (below_call HB.out hb)
  have Hc := Lib.hid hc
  clear hb hc
  have d1 : (ba == c_b) = true := by rw [Hc.out.negC]; exact He1.out
  have d2 : ((na : Int) == (c_n : Int)) = true := eqI Hc.out.numC.1.lenE He2.out
  have d3 : ((ma : Int) == (c_m : Int)) = true := eqI Hc.out.denC.1.lenE He3.out
  obtain ⟨ca00, ca01, ca02, fa00, fa01, fa02⟩ := Xa0.out.c3
  have la0 := Xa0.out.lt
  go_wp2_with fail
  clear ca00 ca01 ca02 fa00 fa01 fa02 la0
  obtain ⟨W3, hW⟩ : ∃ W3, W3 = (World.alloc w2 (.cells #[.bool c_b, .slice c_a c_n c_c, .slice c_d c_m c_e] 25)) := ⟨_, rfl⟩
  rw [← hW]
  obtain ⟨xb0, hk, hb⟩ := boxes_1 _ _ _ hW
  clear hW
  have Hxa := Lib.hid (Sl.keep Hxa.out hk)
  have Hc := Lib.hid (CR.keep Hc.out hk)
  have Na0b0 := Lib.hid (show w.heap.size ≠ w2.heap.size from Nat.ne_of_lt (Nat.lt_of_lt_of_le Xa0.out.lt (by omega)))
  have Gb0 := Lib.hid (show w.heap.size ≤ w2.heap.size from Nat.le_trans HB.out.size (by omega))
  have Xa0 := Lib.hid (Box.pcall hb Xa0.out)
  have Xb0 := Lib.hid xb0
  have HB := Lib.hid (below_call HB.out hb)
  clear hk hb xb0
  (first | (have hcall := cmp_slc k Hk.out Hxa.out Hc.out.numC; refine Calls.mono hcall ?_; clear hcall) | refine Calls.mono (cmp_slc k Hk.out Hxa.out Hc.out.numC) ?_)
  rintro e w4 ⟨v4, rfl, ⟨⟩, hb⟩
  have Xa0 := Lib.hid (Box.pcall hb Xa0.out)
  have Xb0 := Lib.hid (Box.pcall hb Xb0.out)
  have HB := Lib.hid (below_call HB.out hb)
  clear hb
  obtain ⟨ca00, ca01, ca02, fa00, fa01, fa02⟩ := Xa0.out.c3
  have la0 := Xa0.out.lt
  obtain ⟨cb00, cb01, cb02, fb00, fb01, fb02⟩ := Xb0.out.c3
  have lb0 := Xb0.out.lt
  go_wp2
  clear ca00 ca01 ca02 fa00 fa01 fa02 la0 cb00 cb01 cb02 fb00 fb01 fb02 lb0
  go_ret
  exact ⟨_, rfl, rfl, HB.out⟩


set_option maxRecDepth 100000 in
set_option maxHeartbeats 4000000 in
theorem rv_b4 {L : Nat} {q : Rat} {xs ys : List Nat} {ba : Bool} {sa ta : Option Addr} {na ca ma ea : Nat}  {w : World} (he1 : (ba == decide (q < 0)) = true) (he2 : (na == (limbs q.num.natAbs).length) = true) (he3 : (ma == (limbs (dn q)).length) = true) (hk : cmpN (val xs) q.num.natAbs = 0) (m : Int) (hm : cmpN (val ys) (dn q) = m) (hm0 : (m == 0) = false) (hd0 : ((ma : Int) == 0) = false) (hxa : Sl w (.slice sa na ca) xs) (hya : Sl w (.slice ta ma ea) ys) (ha : AR q L w (.agg #[.bool ba, .slice sa na ca, .slice ta ma ea])) (hL : L ≤ 100000) :
    Calls Try.prog 42 #[.agg #[.bool ba, .slice sa na ca, .slice ta ma ea]] w (Ret w (Val (.bool false))) := by
  have Ha := Lib.hid ha
  have Hxa := Lib.hid hxa
  have Hya := Lib.hid hya
  have He1 := Lib.hid he1
  have He2 := Lib.hid he2
  have He3 := Lib.hid he3
  have Hk := Lib.hid hk
  have Hm := Lib.hid hm
  clear ha hxa hya he1 he2 he3 hk hm
  go_enter Try.func42, Try.ntmps42
  have HB := Lib.hid (Below.refl w.heap.size w)
  go_wp2_with fail
  obtain ⟨W1, hW⟩ : ∃ W1, W1 = (World.alloc w (.cells #[.bool ba, .slice sa na ca, .slice ta ma ea] 25)) := ⟨_, rfl⟩
  rw [← hW]
  obtain ⟨xa0, hk, hb⟩ := boxes_1 _ _ _ hW
  clear hW
  have Ha := Lib.hid (AR.keep Ha.out hk)
  have Hxa := Lib.hid (Sl.keep Hxa.out hk)
  have Hya := Lib.hid (Sl.keep Hya.out hk)
  have Ga0 := Lib.hid (show w.heap.size ≤ w.heap.size from Nat.le_trans HB.out.size (by omega))
  have Xa0 := Lib.hid xa0
  have HB := Lib.hid (below_call HB.out hb)
  clear hk hb xa0
  (first | (have hcall := canon_ar Ha.out (by omega); refine Calls.mono hcall ?_; clear hcall) | refine Calls.mono (canon_ar Ha.out (by omega)) ?_)
  rintro e w2 ⟨v2, rfl, hc, hb⟩
  obtain ⟨c_b, c_a, c_n, c_c, c_d, c_m, c_e, rfl⟩ := hc.litb
  have Hxa := Lib.hid (Sl.keep Hxa.out (Keep.call hb))
  have Hya := Lib.hid (Sl.keep Hya.out (Keep.call hb))
  have Xa0 := Lib.hid (Box.pcall hb Xa0.out)
  have HB := Lib.hid (below_call HB.out hb)
  have Hc := Lib.hid hc
  clear hb hc
  have d1 : (ba == c_b) = true := by rw [Hc.out.negC]; exact He1.out
  have d2 : ((na : Int) == (c_n : Int)) = true := eqI Hc.out.numC.1.lenE He2.out
  have d3 : ((ma : Int) == (c_m : Int)) = true := eqI Hc.out.denC.1.lenE He3.out
  obtain ⟨ca00, ca01, ca02, fa00, fa01, fa02⟩ := Xa0.out.c3
  have la0 := Xa0.out.lt
  go_wp2_with fail
  clear ca00 ca01 ca02 fa00 fa01 fa02 la0
  obtain ⟨W3, hW⟩ : ∃ W3, W3 = (World.alloc w2 (.cells #[.bool c_b, .slice c_a c_n c_c, .slice c_d c_m c_e] 25)) := ⟨_, rfl⟩
  rw [← hW]
  obtain ⟨xb0, hk, hb⟩ := boxes_1 _ _ _ hW
  clear hW
  have Hxa := Lib.hid (Sl.keep Hxa.out hk)
  have Hya := Lib.hid (Sl.keep Hya.out hk)
  have Hc := Lib.hid (CR.keep Hc.out hk)
  have Na0b0 := Lib.hid (show w.heap.size ≠ w2.heap.size from Nat.ne_of_lt (Nat.lt_of_lt_of_le Xa0.out.lt (by omega)))
  have Gb0 := Lib.hid (show w.heap.size ≤ w2.heap.size from Nat.le_trans HB.out.size (by omega))
  have Xa0 := Lib.hid (Box.pcall hb Xa0.out)
  have Xb0 := Lib.hid xb0
  have HB := Lib.hid (below_call HB.out hb)
  clear hk hb xb0
  (first | (have hcall := cmp_slc 0 Hk.out Hxa.out Hc.out.numC; refine Calls.mono hcall ?_; clear hcall) | refine Calls.mono (cmp_slc 0 Hk.out Hxa.out Hc.out.numC) ?_)
  rintro e w4 ⟨v4, rfl, rfl, hb⟩
  have Hya := Lib.hid (Sl.keep Hya.out (Keep.call hb))
  have Hc := Lib.hid (CR.keep Hc.out (Keep.call hb))
  have Xa0 := Lib.hid (Box.pcall hb Xa0.out)
  have Xb0 := Lib.hid (Box.pcall hb Xb0.out)
  have HB := Lib.hid (below_call HB.out hb)
  clear hb
  obtain ⟨ca00, ca01, ca02, fa00, fa01, fa02⟩ := Xa0.out.c3
  have la0 := Xa0.out.lt
  obtain ⟨cb00, cb01, cb02, fb00, fb01, fb02⟩ := Xb0.out.c3
  have lb0 := Xb0.out.lt
  go_wp2_with fail
  clear ca00 ca01 ca02 fa00 fa01 fa02 la0 cb00 cb01 cb02 fb00 fb01 fb02 lb0
  (first | (have hcall := cmp_slc m Hm.out Hya.out Hc.out.denC; refine Calls.mono hcall ?_; clear hcall) | refine Calls.mono (cmp_slc m Hm.out Hya.out Hc.out.denC) ?_)
  rintro e w5 ⟨v5, rfl, ⟨⟩, hb⟩
  have Xa0 := Lib.hid (Box.pcall hb Xa0.out)
  have Xb0 := Lib.hid (Box.pcall hb Xb0.out)
  have HB := Lib.hid (below_call HB.out hb)
  clear hb
  obtain ⟨ca00, ca01, ca02, fa00, fa01, fa02⟩ := Xa0.out.c3
  have la0 := Xa0.out.lt
  obtain ⟨cb00, cb01, cb02, fb00, fb01, fb02⟩ := Xb0.out.c3
  have lb0 := Xb0.out.lt
  go_wp2
  clear ca00 ca01 ca02 fa00 fa01 fa02 la0 cb00 cb01 cb02 fb00 fb01 fb02 lb0
  go_ret
  exact ⟨_, rfl, rfl, HB.out⟩


set_option maxRecDepth 100000 in
set_option maxHeartbeats 4000000 in
theorem rv_b5 {L : Nat} {q : Rat} {xs ys : List Nat} {ba : Bool} {sa ta : Option Addr} {na ca ma ea : Nat}  {w : World} (he1 : (ba == decide (q < 0)) = true) (he2 : (na == (limbs q.num.natAbs).length) = true) (he3 : (ma == (limbs (dn q)).length) = true) (hk : cmpN (val xs) q.num.natAbs = 0) (hm : cmpN (val ys) (dn q) = 0) (hd0 : ((ma : Int) == 0) = false) (hxa : Sl w (.slice sa na ca) xs) (hya : Sl w (.slice ta ma ea) ys) (ha : AR q L w (.agg #[.bool ba, .slice sa na ca, .slice ta ma ea])) (hL : L ≤ 100000) :
    Calls Try.prog 42 #[.agg #[.bool ba, .slice sa na ca, .slice ta ma ea]] w (Ret w (Val (.bool true))) := by
  have Ha := Lib.hid ha
  have Hxa := Lib.hid hxa
  have Hya := Lib.hid hya
  have He1 := Lib.hid he1
  have He2 := Lib.hid he2
  have He3 := Lib.hid he3
  have Hk := Lib.hid hk
  have Hm := Lib.hid hm
  clear ha hxa hya he1 he2 he3 hk hm
  go_enter Try.func42, Try.ntmps42
  have HB := Lib.hid (Below.refl w.heap.size w)
  go_wp2_with fail
  obtain ⟨W1, hW⟩ : ∃ W1, W1 = (World.alloc w (.cells #[.bool ba, .slice sa na ca, .slice ta ma ea] 25)) := ⟨_, rfl⟩
  rw [← hW]
  obtain ⟨xa0, hk, hb⟩ := boxes_1 _ _ _ hW
  clear hW
  have Ha := Lib.hid (AR.keep Ha.out hk)
  have Hxa := Lib.hid (Sl.keep Hxa.out hk)
  have Hya := Lib.hid (Sl.keep Hya.out hk)
  have Ga0 := Lib.hid (show w.heap.size ≤ w.heap.size from Nat.le_trans HB.out.size (by omega))
  have Xa0 := Lib.hid xa0
  have HB := Lib.hid (below_call HB.out hb)
  clear hk hb xa0
  (first | (have hcall := canon_ar Ha.out (by omega); refine Calls.mono hcall ?_; clear hcall) | refine Calls.mono (canon_ar Ha.out (by omega)) ?_)
  rintro e w2 ⟨v2, rfl, hc, hb⟩
  obtain ⟨c_b, c_a, c_n, c_c, c_d, c_m, c_e, rfl⟩ := hc.litb
  have Hxa := Lib.hid (Sl.keep Hxa.out (Keep.call hb))
  have Hya := Lib.hid (Sl.keep Hya.out (Keep.call hb))
  have Xa0 := Lib.hid (Box.pcall hb Xa0.out)
  have HB := Lib.hid (below_call HB.out hb)
  have Hc := Lib.hid hc
  clear hb hc
  have d1 : (ba == c_b) = true := by rw [Hc.out.negC]; exact He1.out
  have d2 : ((na : Int) == (c_n : Int)) = true := eqI Hc.out.numC.1.lenE He2.out
  have d3 : ((ma : Int) == (c_m : Int)) = true := eqI Hc.out.denC.1.lenE He3.out
  obtain ⟨ca00, ca01, ca02, fa00, fa01, fa02⟩ := Xa0.out.c3
  have la0 := Xa0.out.lt
  go_wp2_with fail
  clear ca00 ca01 ca02 fa00 fa01 fa02 la0
  obtain ⟨W3, hW⟩ : ∃ W3, W3 = (World.alloc w2 (.cells #[.bool c_b, .slice c_a c_n c_c, .slice c_d c_m c_e] 25)) := ⟨_, rfl⟩
  rw [← hW]
  obtain ⟨xb0, hk, hb⟩ := boxes_1 _ _ _ hW
  clear hW
  have Hxa := Lib.hid (Sl.keep Hxa.out hk)
  have Hya := Lib.hid (Sl.keep Hya.out hk)
  have Hc := Lib.hid (CR.keep Hc.out hk)
  have Na0b0 := Lib.hid (show w.heap.size ≠ w2.heap.size from Nat.ne_of_lt (Nat.lt_of_lt_of_le Xa0.out.lt (by omega)))
  have Gb0 := Lib.hid (show w.heap.size ≤ w2.heap.size from Nat.le_trans HB.out.size (by omega))
  have Xa0 := Lib.hid (Box.pcall hb Xa0.out)
  have Xb0 := Lib.hid xb0
  have HB := Lib.hid (below_call HB.out hb)
  clear hk hb xb0
  (first | (have hcall := cmp_slc 0 Hk.out Hxa.out Hc.out.numC; refine Calls.mono hcall ?_; clear hcall) | refine Calls.mono (cmp_slc 0 Hk.out Hxa.out Hc.out.numC) ?_)
  rintro e w4 ⟨v4, rfl, rfl, hb⟩
  have Hya := Lib.hid (Sl.keep Hya.out (Keep.call hb))
  have Hc := Lib.hid (CR.keep Hc.out (Keep.call hb))
  have Xa0 := Lib.hid (Box.pcall hb Xa0.out)
  have Xb0 := Lib.hid (Box.pcall hb Xb0.out)
  have HB := Lib.hid (below_call HB.out hb)
  clear hb
  obtain ⟨ca00, ca01, ca02, fa00, fa01, fa02⟩ := Xa0.out.c3
  have la0 := Xa0.out.lt
  obtain ⟨cb00, cb01, cb02, fb00, fb01, fb02⟩ := Xb0.out.c3
  have lb0 := Xb0.out.lt
  go_wp2_with fail
  clear ca00 ca01 ca02 fa00 fa01 fa02 la0 cb00 cb01 cb02 fb00 fb01 fb02 lb0
  (first | (have hcall := cmp_slc 0 Hm.out Hya.out Hc.out.denC; refine Calls.mono hcall ?_; clear hcall) | refine Calls.mono (cmp_slc 0 Hm.out Hya.out Hc.out.denC) ?_)
  rintro e w5 ⟨v5, rfl, rfl, hb⟩
  have Xa0 := Lib.hid (Box.pcall hb Xa0.out)
  have Xb0 := Lib.hid (Box.pcall hb Xb0.out)
  have HB := Lib.hid (below_call HB.out hb)
  clear hb
  obtain ⟨ca00, ca01, ca02, fa00, fa01, fa02⟩ := Xa0.out.c3
  have la0 := Xa0.out.lt
  obtain ⟨cb00, cb01, cb02, fb00, fb01, fb02⟩ := Xb0.out.c3
  have lb0 := Xb0.out.lt
  go_wp2
  clear ca00 ca01 ca02 fa00 fa01 fa02 la0 cb00 cb01 cb02 fb00 fb01 fb02 lb0
  go_ret
  exact ⟨_, rfl, rfl, HB.out⟩


theorem rvalid_v {B ba : Bool} {sa ta : Option Addr} {na ca ma ea : Nat} {xs ys : List Nat} {L : Nat} {w : World} (hB : vB ba xs ys (rv ba (val xs) (val ys)) = B) (h : Sl w (.slice sa na ca) xs) (h' : Sl w (.slice ta ma ea) ys) (hl : xs.length ≤ L) (hl' : ys.length ≤ L) (hL : L ≤ 100000) :
    Calls Try.prog 42 #[.agg #[.bool ba, .slice sa na ca, .slice ta ma ea]] w (Ret w (Val (.bool B))) := by
  have n1 := h.lenE
  have n2 := h'.lenE
  have ha : AR (rv ba (val xs) (val ys)) L w (.agg #[.bool ba, .slice sa na ca, .slice ta ma ea]) := AR.mk ⟨xs, h, rfl, hl⟩ ⟨ys, h', rfl, hl'⟩
  subst hB
  rcases Nat.eq_zero_or_pos ma with hm | hm
  · have hy : ys = [] := List.length_eq_zero_iff.1 (by omega)
    subst hy
    have hd : ((ma : Int) == 0) = true := by simp [hm]
    rw [show val [] = 0 from rfl, vB_nil h.lims, ← n1]
    cases hc : canon xs
    · exact rv_a1 hc hd h
    · cases ba
      · exact rv_a2 hc hd h
      · cases hn : decide (0 < na)
        · exact rv_a3f hc hn hd h
        · exact rv_a3t hc hn hd h
  · have hd : ((ma : Int) == 0) = false := by rw [beq_eq_false_iff_ne]; omega
    generalize rv ba (val xs) (val ys) = q at *
    unfold vB
    rw [same_parts h.lims, same_parts h'.lims, ← n1, ← n2]
    cases e1 : (ba == decide (q < 0))
    · exact rv_b0 e1 hd h h' ha hL
    cases e2 : (na == (limbs q.num.natAbs).length)
    · exact rv_b1 e1 e2 hd h h' ha hL
    cases e3 : (ma == (limbs (dn q)).length)
    · have : ∀ x, (true && (true && x) && (false && (cmpN (val ys) (dn q) == 0))) = false := by intro x; cases x <;> rfl
      rw [this]
      exact rv_b2 e1 e2 e3 hd h h' ha hL
    by_cases k : cmpN (val xs) q.num.natAbs = 0
    · by_cases m : cmpN (val ys) (dn q) = 0
      · rw [k, m]; exact rv_b5 e1 e2 e3 k m hd h h' ha hL
      · rw [k, show (cmpN (val ys) (dn q) == 0) = false from beq_eq_false_iff_ne.2 m]; exact rv_b4 e1 e2 e3 k _ rfl (beq_eq_false_iff_ne.2 m) hd h h' ha hL
    · rw [show (cmpN (val xs) q.num.natAbs == 0) = false from beq_eq_false_iff_ne.2 k]; exact rv_b3 e1 e2 e3 _ rfl (beq_eq_false_iff_ne.2 k) hd h h' ha hL
theorem rvalid_cr {q : Rat} {L : Nat} {v : Value} {w : World} (h : CR q L w v) (hL : L ≤ 100000) : Calls Try.prog 42 #[v] w (Ret w (Val (.bool true))) := by
  obtain ⟨c, a1, n1, c1, a2, n2, c2, rfl⟩ := h.litb
  have k0 := h.negC
  have s := h.2
  subst k0
  refine rvalid_v ?_ h.numC.1 h.denC.1 (L := L) s.1 s.dn hL
  rw [val_limbs, val_limbs, rv_self]
  exact vB_can q

set_option maxRecDepth 100000 in
set_option maxHeartbeats 4000000 in
theorem lrcan_no0 {ba : Bool} {sa ta : Option Addr} {na ca ma ea : Nat}  {w : World}  (hno : 3 < na ∨ 3 < ma) :
    Calls Try.prog 10 #[.agg #[.bool ba, .slice sa na ca, .slice ta ma ea]] w (Ret w (Val (.bool true))) := by
  have Hno := Lib.hid hno
  clear hno
  go_enter Try.func10, Try.ntmps10
  have HB := Lib.hid (Below.refl w.heap.size w)
  go_wp2_with fail
  obtain ⟨W1, hW⟩ : ∃ W1, W1 = (World.alloc w (.cells #[.bool ba, .slice sa na ca, .slice ta ma ea] 25)) := ⟨_, rfl⟩
  rw [← hW]
  obtain ⟨xa0, hk, hb⟩ := boxes_1 _ _ _ hW
  clear hW
  have Ga0 := Lib.hid (show w.heap.size ≤ w.heap.size from Nat.le_trans HB.out.size (by omega))
  have Xa0 := Lib.hid xa0
  have HB := Lib.hid (below_call HB.out hb)
  clear hk hb xa0
  refine Calls.mono (awake3) ?_
  rintro e w2 ⟨v2, rfl, rfl, hb⟩
  have Xa0 := Lib.hid (Box.pcall hb Xa0.out)
  have HB := Lib.hid (below_call HB.out hb)
  clear hb
  obtain ⟨ca00, ca01, ca02, fa00, fa01, fa02⟩ := Xa0.out.c3
  have la0 := Xa0.out.lt
  go_wp2_with fail
  clear ca00 ca01 ca02 fa00 fa01 fa02 la0
  refine Calls.mono (few3_no Hno.out) ?_
  rintro e w3 ⟨v3, rfl, rfl, hb⟩
  have Xa0 := Lib.hid (Box.pcall hb Xa0.out)
  have HB := Lib.hid (below_call HB.out hb)
  clear hb
  obtain ⟨ca00, ca01, ca02, fa00, fa01, fa02⟩ := Xa0.out.c3
  have la0 := Xa0.out.lt
  go_wp2
  clear ca00 ca01 ca02 fa00 fa01 fa02 la0
  go_ret
  exact ⟨_, rfl, rfl, HB.out⟩


set_option maxRecDepth 100000 in
set_option maxHeartbeats 4000000 in
theorem lrcan_yes {xs ys : List Nat} {ba : Bool} {sa ta : Option Addr} {na ca ma ea : Nat}  {w : World} {B : Bool} {k : Int} (hB0 : vB ba xs ys (rv ba (val xs) (val ys)) = B) (hk : (rv ba (val xs) (val ys)).num.sign = k) (hl1 : xs.length ≤ 3) (hl2 : ys.length ≤ 3) (hfa : na ≤ 3) (hga : ma ≤ 3) (hxa : Sl w (.slice sa na ca) xs) (hya : Sl w (.slice ta ma ea) ys) (ha : AR (rv ba (val xs) (val ys)) 3 w (.agg #[.bool ba, .slice sa na ca, .slice ta ma ea])) :
    Calls Try.prog 10 #[.agg #[.bool ba, .slice sa na ca, .slice ta ma ea]] w (Ret w (Val (.bool true))) := by
  have Ha := Lib.hid ha
  have Hxa := Lib.hid hxa
  have Hya := Lib.hid hya
  have HB0 := Lib.hid hB0
  have Hk := Lib.hid hk
  have Hl1 := Lib.hid hl1
  have Hl2 := Lib.hid hl2
  have Hfa := Lib.hid hfa
  have Hga := Lib.hid hga
  clear ha hxa hya hB0 hk hl1 hl2 hfa hga
  go_enter Try.func10, Try.ntmps10
  have HB := Lib.hid (Below.refl w.heap.size w)
  go_wp2_with fail
  obtain ⟨W1, hW⟩ : ∃ W1, W1 = (World.alloc w (.cells #[.bool ba, .slice sa na ca, .slice ta ma ea] 25)) := ⟨_, rfl⟩
  rw [← hW]
  obtain ⟨xa0, hk, hb⟩ := boxes_1 _ _ _ hW
  clear hW
  have Ha := Lib.hid (AR.keep Ha.out hk)
  have Hxa := Lib.hid (Sl.keep Hxa.out hk)
  have Hya := Lib.hid (Sl.keep Hya.out hk)
  have Ga0 := Lib.hid (show w.heap.size ≤ w.heap.size from Nat.le_trans HB.out.size (by omega))
  have Xa0 := Lib.hid xa0
  have HB := Lib.hid (below_call HB.out hb)
  clear hk hb xa0
  refine Calls.mono (awake3) ?_
  rintro e w2 ⟨v2, rfl, rfl, hb⟩
  have Ha := Lib.hid (AR.keep Ha.out (Keep.call hb))
  have Hxa := Lib.hid (Sl.keep Hxa.out (Keep.call hb))
  have Hya := Lib.hid (Sl.keep Hya.out (Keep.call hb))
  have Xa0 := Lib.hid (Box.pcall hb Xa0.out)
  have HB := Lib.hid (below_call HB.out hb)
  clear hb
  obtain ⟨ca00, ca01, ca02, fa00, fa01, fa02⟩ := Xa0.out.c3
  have la0 := Xa0.out.lt
  go_wp2_with fail
  clear ca00 ca01 ca02 fa00 fa01 fa02 la0
  refine Calls.mono (few3_yes Hfa.out Hga.out) ?_
  rintro e w3 ⟨v3, rfl, rfl, hb⟩
  have Ha := Lib.hid (AR.keep Ha.out (Keep.call hb))
  have Hxa := Lib.hid (Sl.keep Hxa.out (Keep.call hb))
  have Hya := Lib.hid (Sl.keep Hya.out (Keep.call hb))
  have Xa0 := Lib.hid (Box.pcall hb Xa0.out)
  have HB := Lib.hid (below_call HB.out hb)
  clear hb
  obtain ⟨ca00, ca01, ca02, fa00, fa01, fa02⟩ := Xa0.out.c3
  have la0 := Xa0.out.lt
  go_wp2_with fail
  clear ca00 ca01 ca02 fa00 fa01 fa02 la0
  (first | (have hcall := canon_ar Ha.out (by decide); refine Calls.mono hcall ?_; clear hcall) | refine Calls.mono (canon_ar Ha.out (by decide)) ?_)
  rintro e w4 ⟨v4, rfl, hc1, hb⟩
  obtain ⟨c1_b, c1_a, c1_n, c1_c, c1_d, c1_m, c1_e, rfl⟩ := hc1.litb
  have Ha := Lib.hid (AR.keep Ha.out (Keep.call hb))
  have Hxa := Lib.hid (Sl.keep Hxa.out (Keep.call hb))
  have Hya := Lib.hid (Sl.keep Hya.out (Keep.call hb))
  have Xa0 := Lib.hid (Box.pcall hb Xa0.out)
  have HB := Lib.hid (below_call HB.out hb)
  have Hc1 := Lib.hid hc1
  clear hb hc1
  obtain ⟨ca00, ca01, ca02, fa00, fa01, fa02⟩ := Xa0.out.c3
  have la0 := Xa0.out.lt
  go_wp2_with fail
  clear ca00 ca01 ca02 fa00 fa01 fa02 la0
  obtain ⟨W5, hW⟩ : ∃ W5, W5 = (World.alloc w4 (.cells #[.bool c1_b, .slice c1_a c1_n c1_c, .slice c1_d c1_m c1_e] 25)) := ⟨_, rfl⟩
  rw [← hW]
  obtain ⟨xb0, hk, hb⟩ := boxes_1 _ _ _ hW
  clear hW
  have Ha := Lib.hid (AR.keep Ha.out hk)
  have Hxa := Lib.hid (Sl.keep Hxa.out hk)
  have Hya := Lib.hid (Sl.keep Hya.out hk)
  have Hc1 := Lib.hid (CR.keep Hc1.out hk)
  have Na0b0 := Lib.hid (show w.heap.size ≠ w4.heap.size from Nat.ne_of_lt (Nat.lt_of_lt_of_le Xa0.out.lt (by omega)))
  have Gb0 := Lib.hid (show w.heap.size ≤ w4.heap.size from Nat.le_trans HB.out.size (by omega))
  have Xa0 := Lib.hid (Box.pcall hb Xa0.out)
  have Xb0 := Lib.hid xb0
  have HB := Lib.hid (below_call HB.out hb)
  clear hk hb xb0
  have Ha := Lib.hid (AR.keep Ha.out (Keep.drew W5))
  have Hxa := Lib.hid (Sl.keep Hxa.out (Keep.drew W5))
  have Hya := Lib.hid (Sl.keep Hya.out (Keep.drew W5))
  have Hc1 := Lib.hid (CR.keep Hc1.out (Keep.drew W5))
  have Xa0 := Lib.hid (Box.drew Xa0.out)
  have Xb0 := Lib.hid (Box.drew Xb0.out)
  have HB := Lib.hid (Below.drew HB.out)
  refine wp_region_float [] [] (by kernel_rfl) (by kernel_rfl) 47 (by kernel_rfl) Flok.nil ?_
  intro ok
  have Hok := Lib.hid ok
  clear ok
  have HG := Lib.hid (Below.refl (W5.drew).heap.size (W5.drew))
  refine good_pureX 0 (some 11) (Go.Op.load 25 (Go.Operand.tmp 3)) (none) (.agg #[.bool c1_b, .slice c1_a c1_n c1_c, .slice c1_d c1_m c1_e]) (by kernel_rfl) (by kernel_rfl) (by kernel_rfl) (fun _ _ _ h => h) (fun w' hw' => ?_) ?_
  · obtain ⟨cb00, cb01, cb02, fb00, fb01, fb02⟩ := (Box.se hw' Xb0.out notin0).c3
    first | (go_simp; done) | (go_simp; simp_all; done) | (go_simp; rfl)
  simp only [Act.put, List.setIfInBounds_toArray, List.set_cons_zero, List.set_cons_succ]
  refine good_pureX 1 (some 12) (Go.Op.load 25 (Go.Operand.tmp 1)) (none) (.agg #[.bool ba, .slice sa na ca, .slice ta ma ea]) (by kernel_rfl) (by kernel_rfl) (by kernel_rfl) (fun _ _ _ h => h) (fun w' hw' => ?_) ?_
  · obtain ⟨ca00, ca01, ca02, fa00, fa01, fa02⟩ := (Box.se hw' Xa0.out notin0).c3
    first | (go_simp; done) | (go_simp; simp_all; done) | (go_simp; rfl)
  simp only [Act.put, List.setIfInBounds_toArray, List.set_cons_zero, List.set_cons_succ]
  refine good_callX 2 19 (some 13) #[Go.Operand.tmp 12] #[25] (none) #[.agg #[.bool ba, .slice sa na ca, .slice ta ma ea]] (by kernel_rfl) Hok.out (by kernel_rfl) (by kernel_rfl) (by kernel_rfl) (by kernel_rfl) rfl rfl rfl (by kernel_rfl) (fun w6 hb => ?_)
  have HG := Lib.hid (below_call HG.out hb)
  clear hb
  (first | (have hcall := zcanon_ar (AR.keep Ha.out (Keep.call HG.out)) (by decide); refine Calls.mono hcall ?_; clear hcall) | refine Calls.mono (zcanon_ar (AR.keep Ha.out (Keep.call HG.out)) (by decide)) ?_)
  rintro e w7 ⟨v7, rfl, hc2, hb⟩
  obtain ⟨c2_b, c2_a, c2_n, c2_c, c2_d, c2_m, c2_e, rfl⟩ := hc2.litb
  refine ⟨_, rfl, ?_, hb⟩
  have HG := Lib.hid (below_call HG.out hb)
  have Hc2 := Lib.hid hc2
  clear hb hc2
  simp only [Act.put, List.setIfInBounds_toArray, List.set_cons_zero, List.set_cons_succ]
  refine good_callX 3 15 (some 14) #[Go.Operand.tmp 11, Go.Operand.tmp 13] #[25, 25] (none) #[.agg #[.bool c1_b, .slice c1_a c1_n c1_c, .slice c1_d c1_m c1_e], .agg #[.bool c2_b, .slice c2_a c2_n c2_c, .slice c2_d c2_m c2_e]] (by kernel_rfl) Hok.out (by kernel_rfl) (by kernel_rfl) (by kernel_rfl) (by kernel_rfl) rfl rfl rfl (by kernel_rfl) (fun w8 hb => ?_)
  have Hc2 := Lib.hid (CR.keep Hc2.out (Keep.call hb))
  have HG := Lib.hid (below_call HG.out hb)
  clear hb
  (first | (have hcall := zsame_cr (CR.keep Hc1.out (Keep.call HG.out)) Hc2.out (rfl); refine Calls.mono hcall ?_; clear hcall) | refine Calls.mono (zsame_cr (CR.keep Hc1.out (Keep.call HG.out)) Hc2.out (rfl)) ?_)
  rintro e w9 ⟨v9, rfl, rfl, hb⟩
  refine ⟨_, rfl, ?_, hb⟩
  have HG := Lib.hid (below_call HG.out hb)
  clear hb
  simp only [Act.put, List.setIfInBounds_toArray, List.set_cons_zero, List.set_cons_succ]
  refine good_pureX 4 (some 15) (Go.Op.move (Go.Operand.tmp 14)) (none) (.bool true) (by kernel_rfl) (by kernel_rfl) (by kernel_rfl) (fun _ _ _ h => h) (fun w' hw' => ?_) ?_
  · first | (go_simp; done) | (go_simp; simp_all; done) | (go_simp; rfl)
  simp only [Act.put, List.setIfInBounds_toArray, List.set_cons_zero, List.set_cons_succ]
  refine good_pureX 5 (some 16) (Go.Op.load 25 (Go.Operand.tmp 1)) (some (4, true)) (.agg #[.bool ba, .slice sa na ca, .slice ta ma ea]) (by kernel_rfl) (by kernel_rfl) (by kernel_rfl) (fun _ _ _ h => h) (fun w' hw' => ?_) ?_
  · obtain ⟨ca00, ca01, ca02, fa00, fa01, fa02⟩ := (Box.se hw' Xa0.out notin0).c3
    first | (go_simp; done) | (go_simp; simp_all; done) | (go_simp; rfl)
  simp only [Act.put, List.setIfInBounds_toArray, List.set_cons_zero, List.set_cons_succ]
  refine good_pureX 7 (some 18) (Go.Op.load 25 (Go.Operand.tmp 1)) (some (4, true)) (.agg #[.bool ba, .slice sa na ca, .slice ta ma ea]) (by kernel_rfl) (by kernel_rfl) (by kernel_rfl) (fun _ _ _ h => h) (fun w' hw' => ?_) ?_
  · obtain ⟨ca00, ca01, ca02, fa00, fa01, fa02⟩ := (Box.se hw' Xa0.out notin0).c3
    first | (go_simp; done) | (go_simp; simp_all; done) | (go_simp; rfl)
  simp only [Act.put, List.setIfInBounds_toArray, List.set_cons_zero, List.set_cons_succ]
  refine good_callX 6 42 (some 17) #[Go.Operand.tmp 16] #[25] (some (4, true)) #[.agg #[.bool ba, .slice sa na ca, .slice ta ma ea]] (by kernel_rfl) Hok.out (by kernel_rfl) (by kernel_rfl) (by kernel_rfl) (by kernel_rfl) rfl rfl rfl (by kernel_rfl) (fun w10 hb => ?_)
  have HG := Lib.hid (below_call HG.out hb)
  clear hb
  (first | (have hcall := rvalid_v HB0.out (Sl.keep Hxa.out (Keep.call HG.out)) (Sl.keep Hya.out (Keep.call HG.out)) Hl1.out Hl2.out (by decide); refine Calls.mono hcall ?_; clear hcall) | refine Calls.mono (rvalid_v HB0.out (Sl.keep Hxa.out (Keep.call HG.out)) (Sl.keep Hya.out (Keep.call HG.out)) Hl1.out Hl2.out (by decide)) ?_)
  rintro e w11 ⟨v11, rfl, ⟨⟩, hb⟩
  refine ⟨_, rfl, ?_, hb⟩
  have HG := Lib.hid (below_call HG.out hb)
  clear hb
  simp only [Act.put, List.setIfInBounds_toArray, List.set_cons_zero, List.set_cons_succ]
  refine good_callX 8 43 (some 19) #[Go.Operand.tmp 18] #[25] (some (4, true)) #[.agg #[.bool ba, .slice sa na ca, .slice ta ma ea]] (by kernel_rfl) Hok.out (by kernel_rfl) (by kernel_rfl) (by kernel_rfl) (by kernel_rfl) rfl rfl rfl (by kernel_rfl) (fun w12 hb => ?_)
  have HG := Lib.hid (below_call HG.out hb)
  clear hb
  (first | (have hcall := zvalid_p HB0.out (Sl.keep Hxa.out (Keep.call HG.out)) (Sl.keep Hya.out (Keep.call HG.out)) (AR.keep Ha.out (Keep.call HG.out)) (by decide); refine Calls.mono hcall ?_; clear hcall) | refine Calls.mono (zvalid_p HB0.out (Sl.keep Hxa.out (Keep.call HG.out)) (Sl.keep Hya.out (Keep.call HG.out)) (AR.keep Ha.out (Keep.call HG.out)) (by decide)) ?_)
  rintro e w13 ⟨v13, rfl, ⟨⟩, hb⟩
  refine ⟨_, rfl, ?_, hb⟩
  have HG := Lib.hid (below_call HG.out hb)
  clear hb
  simp only [Act.put, List.setIfInBounds_toArray, List.set_cons_zero, List.set_cons_succ]
  refine good_pureX 9 (some 20) (Go.Op.binOp Go.BinOp.eql 4 (Go.Operand.tmp 17) (Go.Operand.tmp 19) 4) (some (4, true)) (.bool true) (by kernel_rfl) (by kernel_rfl) (by kernel_rfl) (fun _ _ _ h => h) (fun w' hw' => ?_) ?_
  · first | (go_simp; done) | (go_simp; simp_all; done) | (go_simp; rfl)
  simp only [Act.put, List.setIfInBounds_toArray, List.set_cons_zero, List.set_cons_succ]
  refine good_pureX 10 (some 21) (Go.Op.pick (Go.Operand.tmp 15) (Go.Operand.tmp 20) (Go.Operand.const (Go.Value.bool false))) (none) (.bool true) (by kernel_rfl) (by kernel_rfl) (by kernel_rfl) (fun _ _ _ h => h) (fun w' hw' => ?_) ?_
  · first | (go_simp; done) | (go_simp; simp_all; done) | (go_simp; rfl)
  simp only [Act.put, List.setIfInBounds_toArray, List.set_cons_zero, List.set_cons_succ]
  refine good_pureX 11 (some 22) (Go.Op.move (Go.Operand.tmp 21)) (none) (.bool true) (by kernel_rfl) (by kernel_rfl) (by kernel_rfl) (fun _ _ _ h => h) (fun w' hw' => ?_) ?_
  · first | (go_simp; done) | (go_simp; simp_all; done) | (go_simp; rfl)
  simp only [Act.put, List.setIfInBounds_toArray, List.set_cons_zero, List.set_cons_succ]
  refine good_pureX 12 (some 23) (Go.Op.load 25 (Go.Operand.tmp 3)) (some (11, true)) (.agg #[.bool c1_b, .slice c1_a c1_n c1_c, .slice c1_d c1_m c1_e]) (by kernel_rfl) (by kernel_rfl) (by kernel_rfl) (fun _ _ _ h => h) (fun w' hw' => ?_) ?_
  · obtain ⟨cb00, cb01, cb02, fb00, fb01, fb02⟩ := (Box.se hw' Xb0.out notin0).c3
    first | (go_simp; done) | (go_simp; simp_all; done) | (go_simp; rfl)
  simp only [Act.put, List.setIfInBounds_toArray, List.set_cons_zero, List.set_cons_succ]
  refine good_callX 13 42 (some 24) #[Go.Operand.tmp 23] #[25] (some (11, true)) #[.agg #[.bool c1_b, .slice c1_a c1_n c1_c, .slice c1_d c1_m c1_e]] (by kernel_rfl) Hok.out (by kernel_rfl) (by kernel_rfl) (by kernel_rfl) (by kernel_rfl) rfl rfl rfl (by kernel_rfl) (fun w14 hb => ?_)
  have HG := Lib.hid (below_call HG.out hb)
  clear hb
  (first | (have hcall := rvalid_cr (CR.keep Hc1.out (Keep.call HG.out)) (by decide); refine Calls.mono hcall ?_; clear hcall) | refine Calls.mono (rvalid_cr (CR.keep Hc1.out (Keep.call HG.out)) (by decide)) ?_)
  rintro e w15 ⟨v15, rfl, rfl, hb⟩
  refine ⟨_, rfl, ?_, hb⟩
  have HG := Lib.hid (below_call HG.out hb)
  clear hb
  simp only [Act.put, List.setIfInBounds_toArray, List.set_cons_zero, List.set_cons_succ]
  refine good_pureX 14 (some 25) (Go.Op.pick (Go.Operand.tmp 22) (Go.Operand.tmp 24) (Go.Operand.const (Go.Value.bool false))) (none) (.bool true) (by kernel_rfl) (by kernel_rfl) (by kernel_rfl) (fun _ _ _ h => h) (fun w' hw' => ?_) ?_
  · first | (go_simp; done) | (go_simp; simp_all; done) | (go_simp; rfl)
  simp only [Act.put, List.setIfInBounds_toArray, List.set_cons_zero, List.set_cons_succ]
  refine good_pureX 15 (some 26) (Go.Op.move (Go.Operand.tmp 25)) (none) (.bool true) (by kernel_rfl) (by kernel_rfl) (by kernel_rfl) (fun _ _ _ h => h) (fun w' hw' => ?_) ?_
  · first | (go_simp; done) | (go_simp; simp_all; done) | (go_simp; rfl)
  simp only [Act.put, List.setIfInBounds_toArray, List.set_cons_zero, List.set_cons_succ]
  refine good_pureX 16 (some 27) (Go.Op.load 25 (Go.Operand.tmp 1)) (some (15, true)) (.agg #[.bool ba, .slice sa na ca, .slice ta ma ea]) (by kernel_rfl) (by kernel_rfl) (by kernel_rfl) (fun _ _ _ h => h) (fun w' hw' => ?_) ?_
  · obtain ⟨ca00, ca01, ca02, fa00, fa01, fa02⟩ := (Box.se hw' Xa0.out notin0).c3
    first | (go_simp; done) | (go_simp; simp_all; done) | (go_simp; rfl)
  simp only [Act.put, List.setIfInBounds_toArray, List.set_cons_zero, List.set_cons_succ]
  refine good_pureX 18 (some 29) (Go.Op.load 25 (Go.Operand.tmp 1)) (some (15, true)) (.agg #[.bool ba, .slice sa na ca, .slice ta ma ea]) (by kernel_rfl) (by kernel_rfl) (by kernel_rfl) (fun _ _ _ h => h) (fun w' hw' => ?_) ?_
  · obtain ⟨ca00, ca01, ca02, fa00, fa01, fa02⟩ := (Box.se hw' Xa0.out notin0).c3
    first | (go_simp; done) | (go_simp; simp_all; done) | (go_simp; rfl)
  simp only [Act.put, List.setIfInBounds_toArray, List.set_cons_zero, List.set_cons_succ]
  refine good_callX 17 45 (some 28) #[Go.Operand.tmp 27] #[25] (some (15, true)) #[.agg #[.bool ba, .slice sa na ca, .slice ta ma ea]] (by kernel_rfl) Hok.out (by kernel_rfl) (by kernel_rfl) (by kernel_rfl) (by kernel_rfl) rfl rfl rfl (by kernel_rfl) (fun w16 hb => ?_)
  have HG := Lib.hid (below_call HG.out hb)
  clear hb
  (first | (have hcall := rnum_ar (AR.keep Ha.out (Keep.call HG.out)) (by decide); refine Calls.mono hcall ?_; clear hcall) | refine Calls.mono (rnum_ar (AR.keep Ha.out (Keep.call HG.out)) (by decide)) ?_)
  rintro e w17 ⟨v17, rfl, hn1, hb⟩
  obtain ⟨n1_b, n1_a, n1_n, n1_c, rfl⟩ := hn1.litb
  refine ⟨_, rfl, ?_, hb⟩
  have HG := Lib.hid (below_call HG.out hb)
  have Hn1 := Lib.hid hn1
  clear hb hn1
  simp only [Act.put, List.setIfInBounds_toArray, List.set_cons_zero, List.set_cons_succ]
  refine good_callX 19 46 (some 30) #[Go.Operand.tmp 29] #[25] (some (15, true)) #[.agg #[.bool ba, .slice sa na ca, .slice ta ma ea]] (by kernel_rfl) Hok.out (by kernel_rfl) (by kernel_rfl) (by kernel_rfl) (by kernel_rfl) rfl rfl rfl (by kernel_rfl) (fun w18 hb => ?_)
  have Hn1 := Lib.hid (CL.keep Hn1.out (Keep.call hb))
  have HG := Lib.hid (below_call HG.out hb)
  clear hb
  (first | (have hcall := znum_ar (AR.keep Ha.out (Keep.call HG.out)) (by decide); refine Calls.mono hcall ?_; clear hcall) | refine Calls.mono (znum_ar (AR.keep Ha.out (Keep.call HG.out)) (by decide)) ?_)
  rintro e w19 ⟨v19, rfl, hn2, hb⟩
  obtain ⟨n2_b, n2_a, n2_n, n2_c, rfl⟩ := hn2.litb
  refine ⟨_, rfl, ?_, hb⟩
  have Hn1 := Lib.hid (CL.keep Hn1.out (Keep.call hb))
  have HG := Lib.hid (below_call HG.out hb)
  have Hn2 := Lib.hid hn2
  clear hb hn2
  simp only [Act.put, List.setIfInBounds_toArray, List.set_cons_zero, List.set_cons_succ]
  refine good_callX 20 44 (some 31) #[Go.Operand.tmp 28, Go.Operand.tmp 30] #[33, 33] (some (15, true)) #[.agg #[.bool n1_b, .slice n1_a n1_n n1_c], .agg #[.bool n2_b, .slice n2_a n2_n n2_c]] (by kernel_rfl) Hok.out (by kernel_rfl) (by kernel_rfl) (by kernel_rfl) (by kernel_rfl) rfl rfl rfl (by kernel_rfl) (fun w20 hb => ?_)
  have Hn1 := Lib.hid (CL.keep Hn1.out (Keep.call hb))
  have Hn2 := Lib.hid (CL.keep Hn2.out (Keep.call hb))
  have HG := Lib.hid (below_call HG.out hb)
  clear hb
  (first | (have hcall := isame_cl Hn1.out Hn2.out rfl; refine Calls.mono hcall ?_; clear hcall) | refine Calls.mono (isame_cl Hn1.out Hn2.out rfl) ?_)
  rintro e w21 ⟨v21, rfl, rfl, hb⟩
  refine ⟨_, rfl, ?_, hb⟩
  have HG := Lib.hid (below_call HG.out hb)
  clear hb
  simp only [Act.put, List.setIfInBounds_toArray, List.set_cons_zero, List.set_cons_succ]
  refine good_pureX 21 (some 32) (Go.Op.pick (Go.Operand.tmp 26) (Go.Operand.tmp 31) (Go.Operand.const (Go.Value.bool false))) (none) (.bool true) (by kernel_rfl) (by kernel_rfl) (by kernel_rfl) (fun _ _ _ h => h) (fun w' hw' => ?_) ?_
  · first | (go_simp; done) | (go_simp; simp_all; done) | (go_simp; rfl)
  simp only [Act.put, List.setIfInBounds_toArray, List.set_cons_zero, List.set_cons_succ]
  refine good_pureX 22 (some 33) (Go.Op.move (Go.Operand.tmp 32)) (none) (.bool true) (by kernel_rfl) (by kernel_rfl) (by kernel_rfl) (fun _ _ _ h => h) (fun w' hw' => ?_) ?_
  · first | (go_simp; done) | (go_simp; simp_all; done) | (go_simp; rfl)
  simp only [Act.put, List.setIfInBounds_toArray, List.set_cons_zero, List.set_cons_succ]
  refine good_pureX 23 (some 34) (Go.Op.load 25 (Go.Operand.tmp 1)) (some (22, true)) (.agg #[.bool ba, .slice sa na ca, .slice ta ma ea]) (by kernel_rfl) (by kernel_rfl) (by kernel_rfl) (fun _ _ _ h => h) (fun w' hw' => ?_) ?_
  · obtain ⟨ca00, ca01, ca02, fa00, fa01, fa02⟩ := (Box.se hw' Xa0.out notin0).c3
    first | (go_simp; done) | (go_simp; simp_all; done) | (go_simp; rfl)
  simp only [Act.put, List.setIfInBounds_toArray, List.set_cons_zero, List.set_cons_succ]
  refine good_pureX 25 (some 36) (Go.Op.load 25 (Go.Operand.tmp 1)) (some (22, true)) (.agg #[.bool ba, .slice sa na ca, .slice ta ma ea]) (by kernel_rfl) (by kernel_rfl) (by kernel_rfl) (fun _ _ _ h => h) (fun w' hw' => ?_) ?_
  · obtain ⟨ca00, ca01, ca02, fa00, fa01, fa02⟩ := (Box.se hw' Xa0.out notin0).c3
    first | (go_simp; done) | (go_simp; simp_all; done) | (go_simp; rfl)
  simp only [Act.put, List.setIfInBounds_toArray, List.set_cons_zero, List.set_cons_succ]
  refine good_callX 24 48 (some 35) #[Go.Operand.tmp 34] #[25] (some (22, true)) #[.agg #[.bool ba, .slice sa na ca, .slice ta ma ea]] (by kernel_rfl) Hok.out (by kernel_rfl) (by kernel_rfl) (by kernel_rfl) (by kernel_rfl) rfl rfl rfl (by kernel_rfl) (fun w22 hb => ?_)
  have HG := Lib.hid (below_call HG.out hb)
  clear hb
  (first | (have hcall := rden_ar (AR.keep Ha.out (Keep.call HG.out)) (by decide); refine Calls.mono hcall ?_; clear hcall) | refine Calls.mono (rden_ar (AR.keep Ha.out (Keep.call HG.out)) (by decide)) ?_)
  rintro e w23 ⟨v23, rfl, hd1, hb⟩
  obtain ⟨d1_a, d1_n, d1_c, rfl⟩ := hd1.is.lit
  refine ⟨_, rfl, ?_, hb⟩
  have HG := Lib.hid (below_call HG.out hb)
  have Hd1 := Lib.hid hd1
  clear hb hd1
  simp only [Act.put, List.setIfInBounds_toArray, List.set_cons_zero, List.set_cons_succ]
  refine good_callX 26 29 (some 37) #[Go.Operand.tmp 36] #[25] (some (22, true)) #[.agg #[.bool ba, .slice sa na ca, .slice ta ma ea]] (by kernel_rfl) Hok.out (by kernel_rfl) (by kernel_rfl) (by kernel_rfl) (by kernel_rfl) rfl rfl rfl (by kernel_rfl) (fun w24 hb => ?_)
  have Hd1 := Lib.hid (Can.keep Hd1.out (Keep.call hb))
  have HG := Lib.hid (below_call HG.out hb)
  clear hb
  (first | (have hcall := zden_can (AR.keep Ha.out (Keep.call HG.out)) (by decide); refine Calls.mono hcall ?_; clear hcall) | refine Calls.mono (zden_can (AR.keep Ha.out (Keep.call HG.out)) (by decide)) ?_)
  rintro e w25 ⟨v25, rfl, hd2, hb⟩
  obtain ⟨d2_a, d2_n, d2_c, rfl⟩ := hd2.is.lit
  refine ⟨_, rfl, ?_, hb⟩
  have Hd1 := Lib.hid (Can.keep Hd1.out (Keep.call hb))
  have HG := Lib.hid (below_call HG.out hb)
  have Hd2 := Lib.hid hd2
  clear hb hd2
  simp only [Act.put, List.setIfInBounds_toArray, List.set_cons_zero, List.set_cons_succ]
  refine good_callX 27 47 (some 38) #[Go.Operand.tmp 35, Go.Operand.tmp 37] #[23, 23] (some (22, true)) #[.slice d1_a d1_n d1_c, .slice d2_a d2_n d2_c] (by kernel_rfl) Hok.out (by kernel_rfl) (by kernel_rfl) (by kernel_rfl) (by kernel_rfl) rfl rfl rfl (by kernel_rfl) (fun w26 hb => ?_)
  have Hd1 := Lib.hid (Can.keep Hd1.out (Keep.call hb))
  have Hd2 := Lib.hid (Can.keep Hd2.out (Keep.call hb))
  have HG := Lib.hid (below_call HG.out hb)
  clear hb
  (first | (have hcall := same_can Hd1.out Hd2.out rfl; refine Calls.mono hcall ?_; clear hcall) | refine Calls.mono (same_can Hd1.out Hd2.out rfl) ?_)
  rintro e w27 ⟨v27, rfl, rfl, hb⟩
  refine ⟨_, rfl, ?_, hb⟩
  have HG := Lib.hid (below_call HG.out hb)
  clear hb
  simp only [Act.put, List.setIfInBounds_toArray, List.set_cons_zero, List.set_cons_succ]
  refine good_pureX 28 (some 39) (Go.Op.pick (Go.Operand.tmp 33) (Go.Operand.tmp 38) (Go.Operand.const (Go.Value.bool false))) (none) (.bool true) (by kernel_rfl) (by kernel_rfl) (by kernel_rfl) (fun _ _ _ h => h) (fun w' hw' => ?_) ?_
  · first | (go_simp; done) | (go_simp; simp_all; done) | (go_simp; rfl)
  simp only [Act.put, List.setIfInBounds_toArray, List.set_cons_zero, List.set_cons_succ]
  refine good_pureX 29 (some 40) (Go.Op.move (Go.Operand.tmp 39)) (none) (.bool true) (by kernel_rfl) (by kernel_rfl) (by kernel_rfl) (fun _ _ _ h => h) (fun w' hw' => ?_) ?_
  · first | (go_simp; done) | (go_simp; simp_all; done) | (go_simp; rfl)
  simp only [Act.put, List.setIfInBounds_toArray, List.set_cons_zero, List.set_cons_succ]
  refine good_pureX 30 (some 41) (Go.Op.load 25 (Go.Operand.tmp 1)) (some (29, true)) (.agg #[.bool ba, .slice sa na ca, .slice ta ma ea]) (by kernel_rfl) (by kernel_rfl) (by kernel_rfl) (fun _ _ _ h => h) (fun w' hw' => ?_) ?_
  · obtain ⟨ca00, ca01, ca02, fa00, fa01, fa02⟩ := (Box.se hw' Xa0.out notin0).c3
    first | (go_simp; done) | (go_simp; simp_all; done) | (go_simp; rfl)
  simp only [Act.put, List.setIfInBounds_toArray, List.set_cons_zero, List.set_cons_succ]
  refine good_pureX 32 (some 43) (Go.Op.load 25 (Go.Operand.tmp 1)) (some (29, true)) (.agg #[.bool ba, .slice sa na ca, .slice ta ma ea]) (by kernel_rfl) (by kernel_rfl) (by kernel_rfl) (fun _ _ _ h => h) (fun w' hw' => ?_) ?_
  · obtain ⟨ca00, ca01, ca02, fa00, fa01, fa02⟩ := (Box.se hw' Xa0.out notin0).c3
    first | (go_simp; done) | (go_simp; simp_all; done) | (go_simp; rfl)
  simp only [Act.put, List.setIfInBounds_toArray, List.set_cons_zero, List.set_cons_succ]
  refine good_callX 31 32 (some 42) #[Go.Operand.tmp 41] #[25] (some (29, true)) #[.agg #[.bool ba, .slice sa na ca, .slice ta ma ea]] (by kernel_rfl) Hok.out (by kernel_rfl) (by kernel_rfl) (by kernel_rfl) (by kernel_rfl) rfl rfl rfl (by kernel_rfl) (fun w28 hb => ?_)
  have HG := Lib.hid (below_call HG.out hb)
  clear hb
  (first | (have hcall := rsign_ar k (AR.keep Ha.out (Keep.call HG.out)) Hk.out (by decide); refine Calls.mono hcall ?_; clear hcall) | refine Calls.mono (rsign_ar k (AR.keep Ha.out (Keep.call HG.out)) Hk.out (by decide)) ?_)
  rintro e w29 ⟨v29, rfl, ⟨⟩, hb⟩
  refine ⟨_, rfl, ?_, hb⟩
  have HG := Lib.hid (below_call HG.out hb)
  clear hb
  simp only [Act.put, List.setIfInBounds_toArray, List.set_cons_zero, List.set_cons_succ]
  refine good_callX 33 36 (some 44) #[Go.Operand.tmp 43] #[25] (some (29, true)) #[.agg #[.bool ba, .slice sa na ca, .slice ta ma ea]] (by kernel_rfl) Hok.out (by kernel_rfl) (by kernel_rfl) (by kernel_rfl) (by kernel_rfl) rfl rfl rfl (by kernel_rfl) (fun w30 hb => ?_)
  have HG := Lib.hid (below_call HG.out hb)
  clear hb
  (first | (have hcall := zsign_ar k (AR.keep Ha.out (Keep.call HG.out)) Hk.out; refine Calls.mono hcall ?_; clear hcall) | refine Calls.mono (zsign_ar k (AR.keep Ha.out (Keep.call HG.out)) Hk.out) ?_)
  rintro e w31 ⟨v31, rfl, ⟨⟩, hb⟩
  refine ⟨_, rfl, ?_, hb⟩
  have HG := Lib.hid (below_call HG.out hb)
  clear hb
  simp only [Act.put, List.setIfInBounds_toArray, List.set_cons_zero, List.set_cons_succ]
  refine good_pureX 34 (some 45) (Go.Op.binOp Go.BinOp.eql 3 (Go.Operand.tmp 42) (Go.Operand.tmp 44) 3) (some (29, true)) (.bool true) (by kernel_rfl) (by kernel_rfl) (by kernel_rfl) (fun _ _ _ h => h) (fun w' hw' => ?_) ?_
  · first | (go_simp; done) | (go_simp; simp_all; done) | (go_simp; rfl)
  simp only [Act.put, List.setIfInBounds_toArray, List.set_cons_zero, List.set_cons_succ]
  refine good_pureX 35 (some 46) (Go.Op.pick (Go.Operand.tmp 40) (Go.Operand.tmp 45) (Go.Operand.const (Go.Value.bool false))) (none) (.bool true) (by kernel_rfl) (by kernel_rfl) (by kernel_rfl) (fun _ _ _ h => h) (fun w' hw' => ?_) ?_
  · first | (go_simp; done) | (go_simp; simp_all; done) | (go_simp; rfl)
  simp only [Act.put, List.setIfInBounds_toArray, List.set_cons_zero, List.set_cons_succ]
  refine good_pureX 36 (some 2) (Go.Op.assign (Go.Operand.tmp 46)) (none) (.bool true) (by kernel_rfl) (by kernel_rfl) (by kernel_rfl) (fun _ _ _ h => h) (fun w' hw' => ?_) ?_
  · first | (go_simp; done) | (go_simp; simp_all; done) | (go_simp; rfl)
  simp only [Act.put, List.setIfInBounds_toArray, List.set_cons_zero, List.set_cons_succ]
  refine good_end0 0 (by kernel_rfl) (fun _ w32 hb => ?_)
  have HG := Lib.hid (below_call HG.out hb)
  clear hb
  have Xa0 := Lib.hid (Box.pcall HG.out Xa0.out)
  have Xb0 := Lib.hid (Box.pcall HG.out Xb0.out)
  have HB := Lib.hid (below_call HB.out HG.out)
  have HS := Lib.hid (SE.of (E := []) HG.out)
  refine wpAnyH_done (by kernel_rfl) ?_ _
  clear HG HS Hok 
  obtain ⟨ca00, ca01, ca02, fa00, fa01, fa02⟩ := Xa0.out.c3
  have la0 := Xa0.out.lt
  obtain ⟨cb00, cb01, cb02, fb00, fb01, fb02⟩ := Xb0.out.c3
  have lb0 := Xb0.out.lt
  go_wp2
  clear ca00 ca01 ca02 fa00 fa01 fa02 la0 cb00 cb01 cb02 fb00 fb01 fb02 lb0
  go_ret
  exact ⟨_, rfl, rfl, HB.out⟩


theorem RationalCanon_all (ba : Bool) (sa : Option Addr) (na ca : Nat) (ta : Option Addr) (ma ea : Nat) (w : World) (ra : Row w (.slice sa na ca) na) (ua : Row w (.slice ta ma ea) ma) : Calls Try.prog 10 #[.agg #[.bool ba, .slice sa na ca, .slice ta ma ea]] w (Ret w (Val (.bool true))) := by
  by_cases la : 3 < na ∨ 3 < ma
  · exact lrcan_no0 la
  obtain ⟨xs, h1, h2⟩ := ra (by omega)
  obtain ⟨ys, h3, h4⟩ := ua (by omega)
  exact lrcan_yes rfl rfl (by omega) (by omega) (by omega) (by omega) h1 h3 (AR.mk ⟨xs, h1, rfl, by omega⟩ ⟨ys, h3, rfl, by omega⟩)

end Go.Proofs.Ytfkjhaniglmejaa
