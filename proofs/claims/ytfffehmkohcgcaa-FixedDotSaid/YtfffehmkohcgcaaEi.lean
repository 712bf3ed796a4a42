/- Texts RatO, in this order. -/
import Derived.Test.YtfffehmkohcgcaaCe
namespace Go.Proofs.Ytfffehmkohcgcaa
open Go.RowKit Nt
set_option linter.unusedVariables false

theorem val_inj : ∀ {xs ys : List Nat}, lims xs → lims ys → xs.length = ys.length → val xs = val ys → xs = ys := by
  intro xs
  induction xs with
  | nil => intro ys _ _ h _; cases ys with | nil => rfl | cons y ys => simp at h
  | cons x xs ih =>
    intro ys h1 h2 hl hv
    cases ys with
    | nil => simp at hl
    | cons y ys =>
      have a := h1 x List.mem_cons_self
      have b := h2 y List.mem_cons_self
      simp only [val] at hv
      have e : x = y := by omega
      subst e
      rw [ih (fun z hz => h1 z (List.mem_cons_of_mem _ hz)) (fun z hz => h2 z (List.mem_cons_of_mem _ hz)) (by simpa using hl) (by omega)]
/-- The value reads as the canonical form. -/
def vB (b : Bool) (xs ys : List Nat) (q : Rat) : Bool := b == decide (q < 0) && same xs (limbs q.num.natAbs) && same ys (limbs (dn q))
theorem same_parts {xs : List Nat} {n : Nat} (h : lims xs) : same xs (limbs n) = ((xs.length == (limbs n).length) && (cmpN (val xs) n == 0)) := by
  unfold same
  by_cases e : xs = limbs n
  · rw [decide_eq_true e, e, val_limbs, cmpN_eq rfl]; simp
  · rw [decide_eq_false e]
    symm
    rw [Bool.and_eq_false_iff]
    by_cases hl : xs.length = (limbs n).length
    · right
      rw [beq_eq_false_iff_ne]
      intro hc
      have hv : val xs = n := by
        unfold cmpN at hc
        by_cases h1 : val xs < n
        · rw [if_pos h1] at hc; cases hc
        · rw [if_neg h1] at hc
          by_cases h2 : val xs = n
          · exact h2
          · rw [if_neg h2] at hc; cases hc
      exact e (val_inj h (lims_limbs n) hl (by rw [val_limbs]; exact hv))
    · left; simpa using hl
theorem vB_nil {b : Bool} {xs : List Nat} (h : lims xs) : vB b xs [] (rv b (val xs) 0) = (canon xs && (!b || decide (0 < xs.length))) := by
  have e : rv b (val xs) 0 = ((iv b (val xs) : Int) : Rat) := by unfold rv; rw [show un 0 = 1 from rfl, mkRat_one]
  have e1 : ((iv b (val xs) : Int) : Rat).num.natAbs = val xs := by rw [Rat.num_intCast, iv_abs]
  have e2 : dn ((iv b (val xs) : Int) : Rat) = 0 := by unfold dn; rw [Rat.den_intCast]; rfl
  have e3 : (((iv b (val xs) : Int) : Rat) < 0) ↔ iv b (val xs) < 0 := by rw [Rat.lt_iff]; simp
  unfold vB
  rw [e, e1, e2, limbs_zero]
  by_cases hc : canon xs = true
  · have hl : limbs (val xs) = xs := limbs_val h (by
      unfold canon at hc
      simp only [Bool.or_eq_true, beq_iff_eq, bne_iff_ne] at hc
      rcases hc with h1 | h1
      · left; exact List.length_eq_zero_iff.1 h1
      · right; exact h1)
    rw [hl, hc, show same xs xs = true by simp [same], show same ([] : List Nat) [] = true by simp [same]]
    cases b
    · have : ¬ iv false (val xs) < 0 := by simp [iv]
      rw [decide_eq_false (mt e3.1 this)]; simp
    · by_cases h0 : 0 < xs.length
      · have hv : 0 < val xs := by
          rcases Nat.eq_zero_or_pos (val xs) with h1 | h1
          · rw [h1, limbs_zero] at hl; rw [← hl] at h0; simp at h0
          · exact h1
        rw [decide_eq_true (e3.2 ((iv_neg_iff hv).2 rfl)), decide_eq_true h0]; rfl
      · have hx : xs = [] := List.length_eq_zero_iff.1 (by omega)
        subst hx
        have : ¬ iv true (val []) < 0 := by simp [iv, val]
        rw [decide_eq_false (mt e3.1 this)]; simp
  · have hn : same xs (limbs (val xs)) = false := by
      unfold same; rw [decide_eq_false]; intro h1; rw [h1, canon_limbs] at hc; exact hc rfl
    rw [hn, Bool.eq_false_iff.2 hc]; simp
theorem vB_can (q : Rat) : vB (decide (q < 0)) (limbs q.num.natAbs) (limbs (dn q)) q = true := by simp [vB, same]
theorem Sl.lenE {w : World} {a : Option Addr} {n c : Nat} {xs : List Nat} (h : Sl w (.slice a n c) xs) : n = xs.length := by
  obtain ⟨ad, m, cap, he, hl, _⟩ := h
  injection he with _ e _
  rw [e]; exact hl.symm
theorem same_b {v v' : Value} {xs ys : List Nat} {w : World} (B : Bool) (hB : same xs ys = B) (h : Sl w v xs) (h' : Sl w v' ys) : Calls Try.prog 76 #[v, v'] w (Ret w (Val (.bool B))) := by rw [← hB]; exact same_any _ _ _ _ _ h h'
theorem cmp_slc {xs : List Nat} {b L : Nat} {u v : Value} {w : World} (k : Int) (hk : cmpN (val xs) b = k) (h : Sl w u xs) (h' : Can b L w v) : Calls Try.prog 86 #[u, v] w (Ret w (Val (.int .i64 k))) :=
  cmp_is k ⟨xs, h, rfl, Nat.le_refl _⟩ h'.is hk
theorem eqI {a b c : Nat} {B : Bool} (e : b = c) (h : (a == c) = B) : ((a : Int) == (b : Int)) = B := by
  subst e; rw [← h, Bool.eq_iff_iff]; simp; omega
theorem limbs_one : limbs 1 = [1] := by rw [limbs_pos (by decide)]; simp [limbs_zero]
theorem Can.one (w : World) : Can 1 1 (w.alloc (.cells #[.int .u32 1] 99)) (.slice (some ⟨w.heap.size, 0, none⟩) 1 1) := by
  have h := Is.ofbox (Box.new w 99 #[.int .u32 1])
  obtain ⟨xs, h1, h2, h3⟩ := h
  have hl : xs.length = 1 := h1.lenE.symm
  have hx : xs = limbs 1 := val_inj h1.lims (lims_limbs 1) (by rw [hl, limbs_one]; rfl) (by rw [h2, val_limbs])
  subst hx
  exact ⟨h1, by unfold sz; rw [limbs_one]; decide⟩
theorem r3one_can {d L : Nat} {t : Value} {w : World} (h : Is d L w t) : Calls Try.prog 69 #[t] w (Ret w (Can (un d) (max L 1))) := by
  rcases Nat.eq_zero_or_pos d with h0 | h0
  · go_enter Try.func69, Try.ntmps69
    go_wp2_with fail
    refine Calls.mono (rmake_is h) ?_
    rintro e w1 ⟨v1, rfl, hn, hb⟩
    obtain ⟨a, n, c, rfl⟩ := hn.is.lit
    have dx : ((n : Int) == 0) = true := hn.len0 true (by rw [h0]; rfl)
    have HB := Lib.hid hb
    have H0 := Lib.hid h0
    clear hb hn h0
    go_wp2
    go_ret
    exact ⟨_, rfl, Can.cast (un_zero H0.out) (Can.mono (Can.one _) (Nat.le_max_right _ _)), HB.out.alloc HB.out.size _⟩
  · go_enter Try.func69, Try.ntmps69
    go_wp2_with fail
    refine Calls.mono (rmake_is h) ?_
    rintro e w1 ⟨v1, rfl, hn, hb⟩
    obtain ⟨a, n, c, rfl⟩ := hn.is.lit
    have dx : ((n : Int) == 0) = false := hn.len0 false (beq_eq_false_iff_ne.2 (Nat.ne_of_gt h0))
    have HB := Lib.hid hb
    have Hn := Lib.hid hn
    clear hb hn
    go_wp2
    go_ret
    exact ⟨_, rfl, Can.cast (un_of h0) (Can.mono Hn.out (Nat.le_max_left _ _)), HB.out⟩

set_option maxRecDepth 100000 in
set_option maxHeartbeats 4000000 in
theorem zdenc_p {L : Nat} {qa : Rat} {ba : Bool} {sa ta : Value} {w : World} (ha : AR qa L w (.agg #[.bool ba, sa, ta])) (hL : L ≤ 100000) :
    Calls Try.prog 110 #[.agg #[.bool ba, sa, ta]] w (Ret w (Can qa.den (max L 1))) := by
  have Ha := Lib.hid ha
  clear ha
  have hfld := fun (w : World) (x y : Value) (a : Option Addr) (n c : Nat) => (show (Instr.field 25 (.agg #[x, y, .slice a n c]) 2).run Try.prog w = .ok (.slice a n c) w from by kernel_rfl)
  go_enter Try.func110, Try.ntmps110
  have HB := Lib.hid (Below.refl w.heap.size w)
  go_wp2_with fail
  obtain ⟨W1, hW⟩ : ∃ W1, W1 = (World.alloc w (.cells #[.bool ba, sa, ta] 25)) := ⟨_, rfl⟩
  rw [← hW]
  obtain ⟨xa0, hk, hb⟩ := boxes_1 _ _ _ hW
  clear hW
  have Ha := Lib.hid (AR.keep Ha.out hk)
  have Ga0 := Lib.hid (show w.heap.size ≤ w.heap.size from Nat.le_trans HB.out.size (by omega))
  have Xa0 := Lib.hid xa0
  have HB := Lib.hid (below_call HB.out hb)
  clear hk hb xa0
  (first | (have hcall := zcanon_ar Ha.out (by omega); refine Calls.mono hcall ?_; clear hcall) | refine Calls.mono (zcanon_ar Ha.out (by omega)) ?_)
  rintro e w2 ⟨v2, rfl, hc, hb⟩
  obtain ⟨c_b, c_a, c_n, c_c, c_d, c_m, c_e, rfl⟩ := hc.litb
  have Xa0 := Lib.hid (Box.pcall hb Xa0.out)
  have HB := Lib.hid (below_call HB.out hb)
  have Hc := Lib.hid hc
  clear hb hc
  obtain ⟨ca00, ca01, ca02, fa00, fa01, fa02⟩ := Xa0.out.c3
  have la0 := Xa0.out.lt
  go_wp2_with fail
  clear ca00 ca01 ca02 fa00 fa01 fa02 la0
  (first | (have hcall := r3one_can Hc.out.denC.is; refine Calls.mono hcall ?_; clear hcall) | refine Calls.mono (r3one_can Hc.out.denC.is) ?_)
  rintro e w3 ⟨v3, rfl, hu, hb⟩
  obtain ⟨u_a, u_n, u_c, rfl⟩ := hu.is.lit
  have Xa0 := Lib.hid (Box.pcall hb Xa0.out)
  have HB := Lib.hid (below_call HB.out hb)
  have Hu := Lib.hid hu
  clear hb hu
  obtain ⟨ca00, ca01, ca02, fa00, fa01, fa02⟩ := Xa0.out.c3
  have la0 := Xa0.out.lt
  go_wp2
  clear ca00 ca01 ca02 fa00 fa01 fa02 la0
  go_ret
  exact ⟨_, rfl, Can.mono (Can.cast (un_dn _) Hu.out) (by omega), HB.out⟩


theorem zden_can {q : Rat} {L : Nat} {v : Value} {w : World} (h : AR q L w v) (hL : L ≤ 100000) : Calls Try.prog 110 #[v] w (Ret w (Can q.den (max L 1))) := by
  obtain ⟨b, s, t, rfl⟩ := h.agg
  exact zdenc_p h hL

set_option maxRecDepth 100000 in
set_option maxHeartbeats 4000000 in
theorem zs_1 {ba : Bool} {sa ta : Value} {xa ya : List Nat} {bb : Bool} {sb tb : Value} {xb yb : List Nat}  {w : World} (he : (ba == bb) = false) (hna : Sl w sa xa) (hda : Sl w ta ya) (hnb : Sl w sb xb) (hdb : Sl w tb yb) :
    Calls Try.prog 54 #[.agg #[.bool ba, sa, ta], .agg #[.bool bb, sb, tb]] w (Ret w (Val (.bool false))) := by
  have Hna := Lib.hid hna
  have Hda := Lib.hid hda
  have Hnb := Lib.hid hnb
  have Hdb := Lib.hid hdb
  clear hna hda hnb hdb
  go_enter Try.func54, Try.ntmps54
  have HB := Lib.hid (Below.refl w.heap.size w)
  go_wp2
  obtain ⟨W1, hW⟩ : ∃ W1, W1 = (World.alloc (World.alloc w (.cells #[.bool ba, sa, ta] 25)) (.cells #[.bool bb, sb, tb] 25)) := ⟨_, rfl⟩
  rw [← hW]
  obtain ⟨xa0, xb0, hk, hb⟩ := boxes_2 _ _ _ _ _ hW
  clear hW
  have Ga0 := Lib.hid (show w.heap.size ≤ w.heap.size from Nat.le_trans HB.out.size (by omega))
  have Gb0 := Lib.hid (show w.heap.size ≤ w.heap.size + 1 from Nat.le_trans HB.out.size (by omega))
  have Xa0 := Lib.hid xa0
  have Xb0 := Lib.hid xb0
  have HB := Lib.hid (below_call HB.out hb)
  clear hk hb xa0 xb0
  go_ret
  exact ⟨_, rfl, rfl, HB.out⟩


set_option maxRecDepth 100000 in
set_option maxHeartbeats 4000000 in
theorem zs_2 {ba : Bool} {sa ta : Value} {xa ya : List Nat} {bb : Bool} {sb tb : Value} {xb yb : List Nat}  {w : World} (he : (ba == bb) = true) (h1 : same xa xb = false) (hna : Sl w sa xa) (hda : Sl w ta ya) (hnb : Sl w sb xb) (hdb : Sl w tb yb) :
    Calls Try.prog 54 #[.agg #[.bool ba, sa, ta], .agg #[.bool bb, sb, tb]] w (Ret w (Val (.bool false))) := by
  have Hna := Lib.hid hna
  have Hda := Lib.hid hda
  have Hnb := Lib.hid hnb
  have Hdb := Lib.hid hdb
  have H1 := Lib.hid h1
  clear hna hda hnb hdb h1
  go_enter Try.func54, Try.ntmps54
  have HB := Lib.hid (Below.refl w.heap.size w)
  go_wp2_with fail
  obtain ⟨W1, hW⟩ : ∃ W1, W1 = (World.alloc (World.alloc w (.cells #[.bool ba, sa, ta] 25)) (.cells #[.bool bb, sb, tb] 25)) := ⟨_, rfl⟩
  rw [← hW]
  obtain ⟨xa0, xb0, hk, hb⟩ := boxes_2 _ _ _ _ _ hW
  clear hW
  have Hna := Lib.hid (Sl.keep Hna.out hk)
  have Hnb := Lib.hid (Sl.keep Hnb.out hk)
  have Ga0 := Lib.hid (show w.heap.size ≤ w.heap.size from Nat.le_trans HB.out.size (by omega))
  have Gb0 := Lib.hid (show w.heap.size ≤ w.heap.size + 1 from Nat.le_trans HB.out.size (by omega))
  have Xa0 := Lib.hid xa0
  have Xb0 := Lib.hid xb0
  have HB := Lib.hid (below_call HB.out hb)
  clear hk hb xa0 xb0
  (first | (have hcall := same_b false H1.out Hna.out Hnb.out; refine Calls.mono hcall ?_; clear hcall) | refine Calls.mono (same_b false H1.out Hna.out Hnb.out) ?_)
  rintro e w2 ⟨v2, rfl, rfl, hb⟩
  have Xa0 := Lib.hid (Box.pcall hb Xa0.out)
  have Xb0 := Lib.hid (Box.pcall hb Xb0.out)
  have HB := Lib.hid (below_call HB.out hb)
  clear hb
  obtain ⟨ca00, ca01, ca02, fa00, fa01, fa02⟩ := Xa0.out.c3
  have la0 := Xa0.out.lt
  obtain ⟨cb00, cb01, cb02, fb00, fb01, fb02⟩ := Xb0.out.c3
  have lb0 := Xb0.out.lt
  go_wp2
  clear ca00 ca01 ca02 fa00 fa01 fa02 la0 cb00 cb01 cb02 fb00 fb01 fb02 lb0
  go_ret
  exact ⟨_, rfl, rfl, HB.out⟩


set_option maxRecDepth 100000 in
set_option maxHeartbeats 4000000 in
theorem zs_3 {ba : Bool} {sa ta : Value} {xa ya : List Nat} {bb : Bool} {sb tb : Value} {xb yb : List Nat}  {w : World} {B : Bool} (he : (ba == bb) = true) (h1 : same xa xb = true) (h2 : same ya yb = B) (hna : Sl w sa xa) (hda : Sl w ta ya) (hnb : Sl w sb xb) (hdb : Sl w tb yb) :
    Calls Try.prog 54 #[.agg #[.bool ba, sa, ta], .agg #[.bool bb, sb, tb]] w (Ret w (Val (.bool B))) := by
  have Hna := Lib.hid hna
  have Hda := Lib.hid hda
  have Hnb := Lib.hid hnb
  have Hdb := Lib.hid hdb
  have H1 := Lib.hid h1
  have H2 := Lib.hid h2
  clear hna hda hnb hdb h1 h2
  go_enter Try.func54, Try.ntmps54
  have HB := Lib.hid (Below.refl w.heap.size w)
  go_wp2_with fail
  obtain ⟨W1, hW⟩ : ∃ W1, W1 = (World.alloc (World.alloc w (.cells #[.bool ba, sa, ta] 25)) (.cells #[.bool bb, sb, tb] 25)) := ⟨_, rfl⟩
  rw [← hW]
  obtain ⟨xa0, xb0, hk, hb⟩ := boxes_2 _ _ _ _ _ hW
  clear hW
  have Hna := Lib.hid (Sl.keep Hna.out hk)
  have Hda := Lib.hid (Sl.keep Hda.out hk)
  have Hnb := Lib.hid (Sl.keep Hnb.out hk)
  have Hdb := Lib.hid (Sl.keep Hdb.out hk)
  have Ga0 := Lib.hid (show w.heap.size ≤ w.heap.size from Nat.le_trans HB.out.size (by omega))
  have Gb0 := Lib.hid (show w.heap.size ≤ w.heap.size + 1 from Nat.le_trans HB.out.size (by omega))
  have Xa0 := Lib.hid xa0
  have Xb0 := Lib.hid xb0
  have HB := Lib.hid (below_call HB.out hb)
  clear hk hb xa0 xb0
  (first | (have hcall := same_b true H1.out Hna.out Hnb.out; refine Calls.mono hcall ?_; clear hcall) | refine Calls.mono (same_b true H1.out Hna.out Hnb.out) ?_)
  rintro e w2 ⟨v2, rfl, rfl, hb⟩
  have Hda := Lib.hid (Sl.keep Hda.out (Keep.call hb))
  have Hdb := Lib.hid (Sl.keep Hdb.out (Keep.call hb))
  have Xa0 := Lib.hid (Box.pcall hb Xa0.out)
  have Xb0 := Lib.hid (Box.pcall hb Xb0.out)
  have HB := Lib.hid (below_call HB.out hb)
  clear hb
  obtain ⟨ca00, ca01, ca02, fa00, fa01, fa02⟩ := Xa0.out.c3
  have la0 := Xa0.out.lt
  obtain ⟨cb00, cb01, cb02, fb00, fb01, fb02⟩ := Xb0.out.c3
  have lb0 := Xb0.out.lt
  go_wp2_with fail
  clear ca00 ca01 ca02 fa00 fa01 fa02 la0 cb00 cb01 cb02 fb00 fb01 fb02 lb0
  (first | (have hcall := same_b B H2.out Hda.out Hdb.out; refine Calls.mono hcall ?_; clear hcall) | refine Calls.mono (same_b B H2.out Hda.out Hdb.out) ?_)
  rintro e w3 ⟨v3, rfl, ⟨⟩, hb⟩
  have Xa0 := Lib.hid (Box.pcall hb Xa0.out)
  have Xb0 := Lib.hid (Box.pcall hb Xb0.out)
  have HB := Lib.hid (below_call HB.out hb)
  clear hb
  obtain ⟨ca00, ca01, ca02, fa00, fa01, fa02⟩ := Xa0.out.c3
  have la0 := Xa0.out.lt
  obtain ⟨cb00, cb01, cb02, fb00, fb01, fb02⟩ := Xb0.out.c3
  have lb0 := Xb0.out.lt
  go_wp2
  clear ca00 ca01 ca02 fa00 fa01 fa02 la0 cb00 cb01 cb02 fb00 fb01 fb02 lb0
  go_ret
  exact ⟨_, rfl, rfl, HB.out⟩


theorem zsame_v {B : Bool} {b : Bool} {s t v : Value} {xs ys : List Nat} {q : Rat} {L : Nat} {w : World} (hB : vB b xs ys q = B) (h : Sl w s xs) (h' : Sl w t ys) (hc : CR q L w v) :
    Calls Try.prog 54 #[.agg #[.bool b, s, t], v] w (Ret w (Val (.bool B))) := by
  obtain ⟨c, a1, n1, c1, a2, n2, c2, rfl⟩ := hc.litb
  have k1 := hc.numC.1
  have k2 := hc.denC.1
  have k0 := hc.negC
  subst hB
  unfold vB
  rw [← k0]
  cases e1 : (b == c)
  · exact zs_1 e1 h h' k1 k2
  · cases e2 : same xs (limbs q.num.natAbs)
    · exact zs_2 e1 e2 h h' k1 k2
    · exact zs_3 e1 e2 rfl h h' k1 k2

set_option maxRecDepth 100000 in
set_option maxHeartbeats 4000000 in
theorem zvalid_p {L : Nat} {q : Rat} {xs ys : List Nat} {ba : Bool} {sa ta : Option Addr} {na ca ma ea : Nat}  {w : World} {B : Bool} (hB0 : vB ba xs ys q = B) (hxa : Sl w (.slice sa na ca) xs) (hya : Sl w (.slice ta ma ea) ys) (ha : AR q L w (.agg #[.bool ba, .slice sa na ca, .slice ta ma ea])) (hL : L ≤ 100000) :
    Calls Try.prog 28 #[.agg #[.bool ba, .slice sa na ca, .slice ta ma ea]] w (Ret w (Val (.bool B))) := by
  have Ha := Lib.hid ha
  have Hxa := Lib.hid hxa
  have Hya := Lib.hid hya
  have HB0 := Lib.hid hB0
  clear ha hxa hya hB0
  go_enter Try.func28, Try.ntmps28
  have HB := Lib.hid (Below.refl w.heap.size w)
  go_wp2_with fail
  obtain ⟨W1, hW⟩ : ∃ W1, W1 = (World.alloc w (.cells #[.bool ba, .slice sa na ca, .slice ta ma ea] 25)) := ⟨_, rfl⟩
  rw [← hW]
  obtain ⟨xa0, hk, hb⟩ := boxes_1 _ _ _ hW
  clear hW
  have Ha := Lib.hid (AR.keep Ha.out hk)
  have Hxa := Lib.hid (Sl.keep Hxa.out hk)
  have Hya := Lib.hid (Sl.keep Hya.out hk)
  have Ga0 := Lib.hid (show w.heap.size ≤ w.heap.size from Nat.le_trans HB.out.size (by omega))
  have Xa0 := Lib.hid xa0
  have HB := Lib.hid (below_call HB.out hb)
  clear hk hb xa0
  have Ha := Lib.hid (AR.keep Ha.out (Keep.drew W1))
  have Hxa := Lib.hid (Sl.keep Hxa.out (Keep.drew W1))
  have Hya := Lib.hid (Sl.keep Hya.out (Keep.drew W1))
  have Xa0 := Lib.hid (Box.drew Xa0.out)
  have HB := Lib.hid (Below.drew HB.out)
  refine wp_region_float [] [] (by kernel_rfl) (by kernel_rfl) 7 (by kernel_rfl) Flok.nil ?_
  intro ok
  have Hok := Lib.hid ok
  clear ok
  have HG := Lib.hid (Below.refl (W1.drew).heap.size (W1.drew))
  refine good_pureX 0 (some 3) (Go.Op.load 25 (Go.Operand.tmp 1)) (none) (.agg #[.bool ba, .slice sa na ca, .slice ta ma ea]) (by kernel_rfl) (by kernel_rfl) (by kernel_rfl) (fun _ _ _ h => h) (fun w' hw' => ?_) ?_
  · obtain ⟨ca00, ca01, ca02, fa00, fa01, fa02⟩ := (Box.se hw' Xa0.out notin0).c3
    first | (go_simp; done) | (go_simp; simp_all; done) | (go_simp; rfl)
  simp only [Act.put, List.setIfInBounds_toArray, List.set_cons_zero, List.set_cons_succ]
  refine good_pureX 1 (some 4) (Go.Op.load 25 (Go.Operand.tmp 1)) (none) (.agg #[.bool ba, .slice sa na ca, .slice ta ma ea]) (by kernel_rfl) (by kernel_rfl) (by kernel_rfl) (fun _ _ _ h => h) (fun w' hw' => ?_) ?_
  · obtain ⟨ca00, ca01, ca02, fa00, fa01, fa02⟩ := (Box.se hw' Xa0.out notin0).c3
    first | (go_simp; done) | (go_simp; simp_all; done) | (go_simp; rfl)
  simp only [Act.put, List.setIfInBounds_toArray, List.set_cons_zero, List.set_cons_succ]
  refine good_callX 2 40 (some 5) #[Go.Operand.tmp 4] #[25] (none) #[.agg #[.bool ba, .slice sa na ca, .slice ta ma ea]] (by kernel_rfl) Hok.out (by kernel_rfl) (by kernel_rfl) (by kernel_rfl) (by kernel_rfl) rfl rfl rfl (by kernel_rfl) (fun w2 hb => ?_)
  have HG := Lib.hid (below_call HG.out hb)
  clear hb
  (first | (have hcall := zcanon_ar (AR.keep Ha.out (Keep.call HG.out)) (by omega); refine Calls.mono hcall ?_; clear hcall) | refine Calls.mono (zcanon_ar (AR.keep Ha.out (Keep.call HG.out)) (by omega)) ?_)
  rintro e w3 ⟨v3, rfl, hc, hb⟩
  obtain ⟨c_b, c_a, c_n, c_c, c_d, c_m, c_e, rfl⟩ := hc.litb
  refine ⟨_, rfl, ?_, hb⟩
  have HG := Lib.hid (below_call HG.out hb)
  have Hc := Lib.hid hc
  clear hb hc
  simp only [Act.put, List.setIfInBounds_toArray, List.set_cons_zero, List.set_cons_succ]
  refine good_callX 3 54 (some 6) #[Go.Operand.tmp 3, Go.Operand.tmp 5] #[25, 25] (none) #[.agg #[.bool ba, .slice sa na ca, .slice ta ma ea], .agg #[.bool c_b, .slice c_a c_n c_c, .slice c_d c_m c_e]] (by kernel_rfl) Hok.out (by kernel_rfl) (by kernel_rfl) (by kernel_rfl) (by kernel_rfl) rfl rfl rfl (by kernel_rfl) (fun w4 hb => ?_)
  have Hc := Lib.hid (CR.keep Hc.out (Keep.call hb))
  have HG := Lib.hid (below_call HG.out hb)
  clear hb
  (first | (have hcall := zsame_v HB0.out (Sl.keep Hxa.out (Keep.call HG.out)) (Sl.keep Hya.out (Keep.call HG.out)) Hc.out; refine Calls.mono hcall ?_; clear hcall) | refine Calls.mono (zsame_v HB0.out (Sl.keep Hxa.out (Keep.call HG.out)) (Sl.keep Hya.out (Keep.call HG.out)) Hc.out) ?_)
  rintro e w5 ⟨v5, rfl, ⟨⟩, hb⟩
  refine ⟨_, rfl, ?_, hb⟩
  have HG := Lib.hid (below_call HG.out hb)
  clear hb
  simp only [Act.put, List.setIfInBounds_toArray, List.set_cons_zero, List.set_cons_succ]
  refine good_pureX 4 (some 2) (Go.Op.assign (Go.Operand.tmp 6)) (none) (.bool B) (by kernel_rfl) (by kernel_rfl) (by kernel_rfl) (fun _ _ _ h => h) (fun w' hw' => ?_) ?_
  · first | (go_simp; done) | (go_simp; simp_all; done) | (go_simp; rfl)
  simp only [Act.put, List.setIfInBounds_toArray, List.set_cons_zero, List.set_cons_succ]
  refine good_end0 0 (by kernel_rfl) (fun _ w6 hb => ?_)
  have HG := Lib.hid (below_call HG.out hb)
  clear hb
  have Xa0 := Lib.hid (Box.pcall HG.out Xa0.out)
  have HB := Lib.hid (below_call HB.out HG.out)
  have HS := Lib.hid (SE.of (E := []) HG.out)
  refine wpAnyH_done (by kernel_rfl) ?_ _
  clear HG HS Hok 
  obtain ⟨ca00, ca01, ca02, fa00, fa01, fa02⟩ := Xa0.out.c3
  have la0 := Xa0.out.lt
  go_wp2
  clear ca00 ca01 ca02 fa00 fa01 fa02 la0
  go_ret
  exact ⟨_, rfl, rfl, HB.out⟩


end Go.Proofs.Ytfffehmkohcgcaa
