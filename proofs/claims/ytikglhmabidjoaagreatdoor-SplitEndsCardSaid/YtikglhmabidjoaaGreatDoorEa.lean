/- Texts RatO, in this order. -/
import Derived.Test.YtikglhmabidjoaaGreatDoorCe
namespace Go.Proofs.YtikglhmabidjoaaGreatDoor
open Go.RowKit Nt
set_option linter.unusedVariables false
theorem val_inj : ∀ {xs ys : List Nat}, lims xs → lims ys → xs.length = ys.length → val xs = val ys → xs = ys := by
  intro xs
  induction xs with
  | nil => intro ys _ _ h _; cases ys with | nil => rfl | cons y ys => simp at h
  | cons x xs ih =>
    intro ys h1 h2 hl hv
    cases ys with
    | nil => simp at hl
    | cons y ys =>
      have a := h1 x List.mem_cons_self
      have b := h2 y List.mem_cons_self
      simp only [val] at hv
      have e : x = y := by omega
      subst e
      rw [ih (fun z hz => h1 z (List.mem_cons_of_mem _ hz)) (fun z hz => h2 z (List.mem_cons_of_mem _ hz)) (by simpa using hl) (by omega)]
def vB (b : Bool) (xs ys : List Nat) (q : Rat) : Bool := b == decide (q < 0) && same xs (limbs q.num.natAbs) && same ys (limbs (dn q))
theorem same_parts {xs : List Nat} {n : Nat} (h : lims xs) : same xs (limbs n) = ((xs.length == (limbs n).length) && (cmpN (val xs) n == 0)) := by
  unfold same
  by_cases e : xs = limbs n
  · rw [decide_eq_true e, e, val_limbs, cmpN_eq rfl]; simp
  · rw [decide_eq_false e]
    symm
    rw [Bool.and_eq_false_iff]
    by_cases hl : xs.length = (limbs n).length
    · right
      rw [beq_eq_false_iff_ne]
      intro hc
      have hv : val xs = n := by
        unfold cmpN at hc
        by_cases h1 : val xs < n
        · rw [if_pos h1] at hc; cases hc
        · rw [if_neg h1] at hc
          by_cases h2 : val xs = n
          · exact h2
          · rw [if_neg h2] at hc; cases hc
      exact e (val_inj h (lims_limbs n) hl (by rw [val_limbs]; exact hv))
    · left; simpa using hl
theorem vB_nil {b : Bool} {xs : List Nat} (h : lims xs) : vB b xs [] (rv b (val xs) 0) = (canon xs && (!b || decide (0 < xs.length))) := by
  have e : rv b (val xs) 0 = ((iv b (val xs) : Int) : Rat) := by unfold rv; rw [show un 0 = 1 from rfl, mkRat_one]
  have e1 : ((iv b (val xs) : Int) : Rat).num.natAbs = val xs := by rw [Rat.num_intCast, iv_abs]
  have e2 : dn ((iv b (val xs) : Int) : Rat) = 0 := by unfold dn; rw [Rat.den_intCast]; rfl
  have e3 : (((iv b (val xs) : Int) : Rat) < 0) ↔ iv b (val xs) < 0 := by rw [Rat.lt_iff]; simp
  unfold vB
  rw [e, e1, e2, limbs_zero]
  by_cases hc : canon xs = true
  · have hl : limbs (val xs) = xs := limbs_val h (by
      unfold canon at hc
      simp only [Bool.or_eq_true, beq_iff_eq, bne_iff_ne] at hc
      rcases hc with h1 | h1
      · left; exact List.length_eq_zero_iff.1 h1
      · right; exact h1)
    rw [hl, hc, show same xs xs = true by simp [same], show same ([] : List Nat) [] = true by simp [same]]
    cases b
    · have : ¬ iv false (val xs) < 0 := by simp [iv]
      rw [decide_eq_false (mt e3.1 this)]; simp
    · by_cases h0 : 0 < xs.length
      · have hv : 0 < val xs := by
          rcases Nat.eq_zero_or_pos (val xs) with h1 | h1
          · rw [h1, limbs_zero] at hl; rw [← hl] at h0; simp at h0
          · exact h1
        rw [decide_eq_true (e3.2 ((iv_neg_iff hv).2 rfl)), decide_eq_true h0]; rfl
      · have hx : xs = [] := List.length_eq_zero_iff.1 (by omega)
        subst hx
        have : ¬ iv true (val []) < 0 := by simp [iv, val]
        rw [decide_eq_false (mt e3.1 this)]; simp
  · have hn : same xs (limbs (val xs)) = false := by
      unfold same; rw [decide_eq_false]; intro h1; rw [h1, canon_limbs] at hc; exact hc rfl
    rw [hn, Bool.eq_false_iff.2 hc]; simp
theorem vB_can (q : Rat) : vB (decide (q < 0)) (limbs q.num.natAbs) (limbs (dn q)) q = true := by simp [vB, same]
theorem Sl.lenE {w : World} {a : Option Addr} {n c : Nat} {xs : List Nat} (h : Sl w (.slice a n c) xs) : n = xs.length := by
  obtain ⟨ad, m, cap, he, hl, _⟩ := h
  injection he with _ e _
  rw [e]; exact hl.symm
theorem cmp_slc {xs : List Nat} {b L : Nat} {u v : Value} {w : World} (k : Int) (hk : cmpN (val xs) b = k) (h : Sl w u xs) (h' : Can b L w v) : Calls Tryz.prog 165 #[u, v] w (Ret w (Val (.int .i64 k))) :=
  cmp_is k ⟨xs, h, rfl, Nat.le_refl _⟩ h'.is hk
theorem eqI {a b c : Nat} {B : Bool} (e : b = c) (h : (a == c) = B) : ((a : Int) == (b : Int)) = B := by
  subst e; rw [← h, Bool.eq_iff_iff]; simp; omega
theorem limbs_one : limbs 1 = [1] := by rw [limbs_pos (by decide)]; simp [limbs_zero]
theorem Can.one (w : World) : Can 1 1 (w.alloc (.cells #[.int .u32 1] 156)) (.slice (some ⟨w.heap.size, 0, none⟩) 1 1) := by
  have h := Is.ofbox (Box.new w 156 #[.int .u32 1])
  obtain ⟨xs, h1, h2, h3⟩ := h
  have hl : xs.length = 1 := h1.lenE.symm
  have hx : xs = limbs 1 := val_inj h1.lims (lims_limbs 1) (by rw [hl, limbs_one]; rfl) (by rw [h2, val_limbs])
  subst hx
  exact ⟨h1, by unfold sz; rw [limbs_one]; decide⟩
set_option maxRecDepth 100000 in
set_option maxHeartbeats 4000000 in
theorem rv_a1 {xs : List Nat} {ba : Bool} {sa ta : Option Addr} {na ca ma ea : Nat}  {w : World} (hv : canon xs = false) (hd0 : ((ma : Int) == 0) = true) (hxa : Sl w (.slice sa na ca) xs)  :
    Calls Tryz.prog 119 #[.agg #[.bool ba, .slice sa na ca, .slice ta ma ea]] w (Ret w (Val (.bool false))) := by
  have Hxa := Lib.hid hxa
  have Hv := Lib.hid hv
  clear hxa hv
  go_enter Tryz.func119, Tryz.ntmps119
  have HB := Lib.hid (Below.refl w.heap.size w)
  go_wp2_with fail
  obtain ⟨W1, hW⟩ : ∃ W1, W1 = (World.alloc w (.cells #[.bool ba, .slice sa na ca, .slice ta ma ea] 37)) := ⟨_, rfl⟩
  rw [← hW]
  obtain ⟨xa0, hk, hb⟩ := boxes_1 _ _ _ hW
  clear hW
  have Hxa := Lib.hid (Sl.keep Hxa.out hk)
  have Ga0 := Lib.hid (show w.heap.size ≤ w.heap.size from Nat.le_trans HB.out.size (by omega))
  have Xa0 := Lib.hid xa0
  have HB := Lib.hid (below_call HB.out hb)
  clear hk hb xa0
  (first | (have hcall := valid_sl Hv.out Hxa.out; refine Calls.mono hcall ?_; clear hcall) | refine Calls.mono (valid_sl Hv.out Hxa.out) ?_)
  rintro e w2 ⟨v2, rfl, rfl, hb⟩
  have Xa0 := Lib.hid (Box.pcall hb Xa0.out)
  have HB := Lib.hid (below_call HB.out hb)
  clear hb
  obtain ⟨ca00, ca01, ca02, fa00, fa01, fa02⟩ := Xa0.out.c3
  have la0 := Xa0.out.lt
  go_wp2
  clear ca00 ca01 ca02 fa00 fa01 fa02 la0
  go_ret
  exact ⟨_, rfl, rfl, HB.out⟩
set_option maxRecDepth 100000 in
set_option maxHeartbeats 4000000 in
theorem rv_a2 {xs : List Nat} {sa ta : Option Addr} {na ca ma ea : Nat}  {w : World} (hv : canon xs = true) (hd0 : ((ma : Int) == 0) = true) (hxa : Sl w (.slice sa na ca) xs)  :
    Calls Tryz.prog 119 #[.agg #[.bool false, .slice sa na ca, .slice ta ma ea]] w (Ret w (Val (.bool true))) := by
  have Hxa := Lib.hid hxa
  have Hv := Lib.hid hv
  clear hxa hv
  go_enter Tryz.func119, Tryz.ntmps119
  have HB := Lib.hid (Below.refl w.heap.size w)
  go_wp2_with fail
  obtain ⟨W1, hW⟩ : ∃ W1, W1 = (World.alloc w (.cells #[.bool false, .slice sa na ca, .slice ta ma ea] 37)) := ⟨_, rfl⟩
  rw [← hW]
  obtain ⟨xa0, hk, hb⟩ := boxes_1 _ _ _ hW
  clear hW
  have Hxa := Lib.hid (Sl.keep Hxa.out hk)
  have Ga0 := Lib.hid (show w.heap.size ≤ w.heap.size from Nat.le_trans HB.out.size (by omega))
  have Xa0 := Lib.hid xa0
  have HB := Lib.hid (below_call HB.out hb)
  clear hk hb xa0
  (first | (have hcall := valid_sl Hv.out Hxa.out; refine Calls.mono hcall ?_; clear hcall) | refine Calls.mono (valid_sl Hv.out Hxa.out) ?_)
  rintro e w2 ⟨v2, rfl, rfl, hb⟩
  have Xa0 := Lib.hid (Box.pcall hb Xa0.out)
  have HB := Lib.hid (below_call HB.out hb)
  clear hb
  obtain ⟨ca00, ca01, ca02, fa00, fa01, fa02⟩ := Xa0.out.c3
  have la0 := Xa0.out.lt
  go_wp2
  clear ca00 ca01 ca02 fa00 fa01 fa02 la0
  go_ret
  exact ⟨_, rfl, rfl, HB.out⟩
set_option maxRecDepth 100000 in
set_option maxHeartbeats 4000000 in
theorem rv_a3t {xs : List Nat} {sa ta : Option Addr} {na ca ma ea : Nat}  {w : World} (hv : canon xs = true) (hd2 : decide (0 < na) = true) (hd0 : ((ma : Int) == 0) = true) (hxa : Sl w (.slice sa na ca) xs)  :
    Calls Tryz.prog 119 #[.agg #[.bool true, .slice sa na ca, .slice ta ma ea]] w (Ret w (Val (.bool true))) := by
  have Hxa := Lib.hid hxa
  have Hv := Lib.hid hv
  clear hxa hv
  go_enter Tryz.func119, Tryz.ntmps119
  have HB := Lib.hid (Below.refl w.heap.size w)
  go_wp2_with fail
  obtain ⟨W1, hW⟩ : ∃ W1, W1 = (World.alloc w (.cells #[.bool true, .slice sa na ca, .slice ta ma ea] 37)) := ⟨_, rfl⟩
  rw [← hW]
  obtain ⟨xa0, hk, hb⟩ := boxes_1 _ _ _ hW
  clear hW
  have Hxa := Lib.hid (Sl.keep Hxa.out hk)
  have Ga0 := Lib.hid (show w.heap.size ≤ w.heap.size from Nat.le_trans HB.out.size (by omega))
  have Xa0 := Lib.hid xa0
  have HB := Lib.hid (below_call HB.out hb)
  clear hk hb xa0
  (first | (have hcall := valid_sl Hv.out Hxa.out; refine Calls.mono hcall ?_; clear hcall) | refine Calls.mono (valid_sl Hv.out Hxa.out) ?_)
  rintro e w2 ⟨v2, rfl, rfl, hb⟩
  have Xa0 := Lib.hid (Box.pcall hb Xa0.out)
  have HB := Lib.hid (below_call HB.out hb)
  clear hb
  obtain ⟨ca00, ca01, ca02, fa00, fa01, fa02⟩ := Xa0.out.c3
  have la0 := Xa0.out.lt
  go_wp2
  clear ca00 ca01 ca02 fa00 fa01 fa02 la0
  go_ret
  exact ⟨_, rfl, rfl, HB.out⟩
set_option maxRecDepth 100000 in
set_option maxHeartbeats 4000000 in
theorem rv_a3f {xs : List Nat} {sa ta : Option Addr} {na ca ma ea : Nat}  {w : World} (hv : canon xs = true) (hd2 : decide (0 < na) = false) (hd0 : ((ma : Int) == 0) = true) (hxa : Sl w (.slice sa na ca) xs)  :
    Calls Tryz.prog 119 #[.agg #[.bool true, .slice sa na ca, .slice ta ma ea]] w (Ret w (Val (.bool false))) := by
  have Hxa := Lib.hid hxa
  have Hv := Lib.hid hv
  clear hxa hv
  go_enter Tryz.func119, Tryz.ntmps119
  have HB := Lib.hid (Below.refl w.heap.size w)
  go_wp2_with fail
  obtain ⟨W1, hW⟩ : ∃ W1, W1 = (World.alloc w (.cells #[.bool true, .slice sa na ca, .slice ta ma ea] 37)) := ⟨_, rfl⟩
  rw [← hW]
  obtain ⟨xa0, hk, hb⟩ := boxes_1 _ _ _ hW
  clear hW
  have Hxa := Lib.hid (Sl.keep Hxa.out hk)
  have Ga0 := Lib.hid (show w.heap.size ≤ w.heap.size from Nat.le_trans HB.out.size (by omega))
  have Xa0 := Lib.hid xa0
  have HB := Lib.hid (below_call HB.out hb)
  clear hk hb xa0
  (first | (have hcall := valid_sl Hv.out Hxa.out; refine Calls.mono hcall ?_; clear hcall) | refine Calls.mono (valid_sl Hv.out Hxa.out) ?_)
  rintro e w2 ⟨v2, rfl, rfl, hb⟩
  have Xa0 := Lib.hid (Box.pcall hb Xa0.out)
  have HB := Lib.hid (below_call HB.out hb)
  clear hb
  obtain ⟨ca00, ca01, ca02, fa00, fa01, fa02⟩ := Xa0.out.c3
  have la0 := Xa0.out.lt
  go_wp2
  clear ca00 ca01 ca02 fa00 fa01 fa02 la0
  go_ret
  exact ⟨_, rfl, rfl, HB.out⟩
set_option maxRecDepth 100000 in
set_option maxHeartbeats 4000000 in
theorem rv_b0 {L : Nat} {q : Rat} {xs ys : List Nat} {ba : Bool} {sa ta : Option Addr} {na ca ma ea : Nat}  {w : World} (he1 : (ba == decide (q < 0)) = false) (hd0 : ((ma : Int) == 0) = false) (hxa : Sl w (.slice sa na ca) xs) (hya : Sl w (.slice ta ma ea) ys) (ha : AR q L w (.agg #[.bool ba, .slice sa na ca, .slice ta ma ea])) (hL : L ≤ 100000000) :
    Calls Tryz.prog 119 #[.agg #[.bool ba, .slice sa na ca, .slice ta ma ea]] w (Ret w (Val (.bool false))) := by
  have Ha := Lib.hid ha
  have Hxa := Lib.hid hxa
  have Hya := Lib.hid hya
  have He1 := Lib.hid he1
  clear ha hxa hya he1
  go_enter Tryz.func119, Tryz.ntmps119
  have HB := Lib.hid (Below.refl w.heap.size w)
  go_wp2_with fail
  obtain ⟨W1, hW⟩ : ∃ W1, W1 = (World.alloc w (.cells #[.bool ba, .slice sa na ca, .slice ta ma ea] 37)) := ⟨_, rfl⟩
  rw [← hW]
  obtain ⟨xa0, hk, hb⟩ := boxes_1 _ _ _ hW
  clear hW
  have Ha := Lib.hid (AR.keep Ha.out hk)
  have Ga0 := Lib.hid (show w.heap.size ≤ w.heap.size from Nat.le_trans HB.out.size (by omega))
  have Xa0 := Lib.hid xa0
  have HB := Lib.hid (below_call HB.out hb)
  clear hk hb xa0
  (first | (have hcall := canon_ar Ha.out (by omega); refine Calls.mono hcall ?_; clear hcall) | refine Calls.mono (canon_ar Ha.out (by omega)) ?_)
  rintro e w2 ⟨v2, rfl, hc, hb⟩
  obtain ⟨c_b, c_a, c_n, c_c, c_d, c_m, c_e, rfl⟩ := hc.litb
  have Xa0 := Lib.hid (Box.pcall hb Xa0.out)
  have HB := Lib.hid (below_call HB.out hb)
  have Hc := Lib.hid hc
  clear hb hc
  have d1 : (ba == c_b) = false := by rw [Hc.out.negC]; exact He1.out
  obtain ⟨ca00, ca01, ca02, fa00, fa01, fa02⟩ := Xa0.out.c3
  have la0 := Xa0.out.lt
  go_wp2
  clear ca00 ca01 ca02 fa00 fa01 fa02 la0
  obtain ⟨W3, hW⟩ : ∃ W3, W3 = (World.alloc w2 (.cells #[.bool c_b, .slice c_a c_n c_c, .slice c_d c_m c_e] 37)) := ⟨_, rfl⟩
  rw [← hW]
  obtain ⟨xb0, hk, hb⟩ := boxes_1 _ _ _ hW
  clear hW
  have Na0b0 := Lib.hid (show w.heap.size ≠ w2.heap.size from Nat.ne_of_lt (Nat.lt_of_lt_of_le Xa0.out.lt (by omega)))
  have Gb0 := Lib.hid (show w.heap.size ≤ w2.heap.size from Nat.le_trans HB.out.size (by omega))
  have Xa0 := Lib.hid (Box.pcall hb Xa0.out)
  have Xb0 := Lib.hid xb0
  have HB := Lib.hid (below_call HB.out hb)
  clear hk hb xb0
  go_ret
  exact ⟨_, rfl, rfl, HB.out⟩
set_option maxRecDepth 100000 in
set_option maxHeartbeats 4000000 in
theorem rv_b1 {L : Nat} {q : Rat} {xs ys : List Nat} {ba : Bool} {sa ta : Option Addr} {na ca ma ea : Nat}  {w : World} (he1 : (ba == decide (q < 0)) = true) (he2 : (na == (limbs q.num.natAbs).length) = false) (hd0 : ((ma : Int) == 0) = false) (hxa : Sl w (.slice sa na ca) xs) (hya : Sl w (.slice ta ma ea) ys) (ha : AR q L w (.agg #[.bool ba, .slice sa na ca, .slice ta ma ea])) (hL : L ≤ 100000000) :
    Calls Tryz.prog 119 #[.agg #[.bool ba, .slice sa na ca, .slice ta ma ea]] w (Ret w (Val (.bool false))) := by
  have Ha := Lib.hid ha
  have Hxa := Lib.hid hxa
  have Hya := Lib.hid hya
  have He1 := Lib.hid he1
  have He2 := Lib.hid he2
  clear ha hxa hya he1 he2
  go_enter Tryz.func119, Tryz.ntmps119
  have HB := Lib.hid (Below.refl w.heap.size w)
  go_wp2_with fail
  obtain ⟨W1, hW⟩ : ∃ W1, W1 = (World.alloc w (.cells #[.bool ba, .slice sa na ca, .slice ta ma ea] 37)) := ⟨_, rfl⟩
  rw [← hW]
  obtain ⟨xa0, hk, hb⟩ := boxes_1 _ _ _ hW
  clear hW
  have Ha := Lib.hid (AR.keep Ha.out hk)
  have Ga0 := Lib.hid (show w.heap.size ≤ w.heap.size from Nat.le_trans HB.out.size (by omega))
  have Xa0 := Lib.hid xa0
  have HB := Lib.hid (below_call HB.out hb)
  clear hk hb xa0
  (first | (have hcall := canon_ar Ha.out (by omega); refine Calls.mono hcall ?_; clear hcall) | refine Calls.mono (canon_ar Ha.out (by omega)) ?_)
  rintro e w2 ⟨v2, rfl, hc, hb⟩
  obtain ⟨c_b, c_a, c_n, c_c, c_d, c_m, c_e, rfl⟩ := hc.litb
  have Xa0 := Lib.hid (Box.pcall hb Xa0.out)
  have HB := Lib.hid (below_call HB.out hb)
  have Hc := Lib.hid hc
  clear hb hc
  have d1 : (ba == c_b) = true := by rw [Hc.out.negC]; exact He1.out
  have d2 : ((na : Int) == (c_n : Int)) = false := eqI Hc.out.numC.1.lenE He2.out
  obtain ⟨ca00, ca01, ca02, fa00, fa01, fa02⟩ := Xa0.out.c3
  have la0 := Xa0.out.lt
  go_wp2
  clear ca00 ca01 ca02 fa00 fa01 fa02 la0
  obtain ⟨W3, hW⟩ : ∃ W3, W3 = (World.alloc w2 (.cells #[.bool c_b, .slice c_a c_n c_c, .slice c_d c_m c_e] 37)) := ⟨_, rfl⟩
  rw [← hW]
  obtain ⟨xb0, hk, hb⟩ := boxes_1 _ _ _ hW
  clear hW
  have Na0b0 := Lib.hid (show w.heap.size ≠ w2.heap.size from Nat.ne_of_lt (Nat.lt_of_lt_of_le Xa0.out.lt (by omega)))
  have Gb0 := Lib.hid (show w.heap.size ≤ w2.heap.size from Nat.le_trans HB.out.size (by omega))
  have Xa0 := Lib.hid (Box.pcall hb Xa0.out)
  have Xb0 := Lib.hid xb0
  have HB := Lib.hid (below_call HB.out hb)
  clear hk hb xb0
  go_ret
  exact ⟨_, rfl, rfl, HB.out⟩
set_option maxRecDepth 100000 in
set_option maxHeartbeats 4000000 in
theorem rv_b2 {L : Nat} {q : Rat} {xs ys : List Nat} {ba : Bool} {sa ta : Option Addr} {na ca ma ea : Nat}  {w : World} (he1 : (ba == decide (q < 0)) = true) (he2 : (na == (limbs q.num.natAbs).length) = true) (he3 : (ma == (limbs (dn q)).length) = false) (hd0 : ((ma : Int) == 0) = false) (hxa : Sl w (.slice sa na ca) xs) (hya : Sl w (.slice ta ma ea) ys) (ha : AR q L w (.agg #[.bool ba, .slice sa na ca, .slice ta ma ea])) (hL : L ≤ 100000000) :
    Calls Tryz.prog 119 #[.agg #[.bool ba, .slice sa na ca, .slice ta ma ea]] w (Ret w (Val (.bool false))) := by
  have Ha := Lib.hid ha
  have Hxa := Lib.hid hxa
  have Hya := Lib.hid hya
  have He1 := Lib.hid he1
  have He2 := Lib.hid he2
  have He3 := Lib.hid he3
  clear ha hxa hya he1 he2 he3
  go_enter Tryz.func119, Tryz.ntmps119
  have HB := Lib.hid (Below.refl w.heap.size w)
  go_wp2_with fail
  obtain ⟨W1, hW⟩ : ∃ W1, W1 = (World.alloc w (.cells #[.bool ba, .slice sa na ca, .slice ta ma ea] 37)) := ⟨_, rfl⟩
  rw [← hW]
  obtain ⟨xa0, hk, hb⟩ := boxes_1 _ _ _ hW
  clear hW
  have Ha := Lib.hid (AR.keep Ha.out hk)
  have Ga0 := Lib.hid (show w.heap.size ≤ w.heap.size from Nat.le_trans HB.out.size (by omega))
  have Xa0 := Lib.hid xa0
  have HB := Lib.hid (below_call HB.out hb)
  clear hk hb xa0
  (first | (have hcall := canon_ar Ha.out (by omega); refine Calls.mono hcall ?_; clear hcall) | refine Calls.mono (canon_ar Ha.out (by omega)) ?_)
  rintro e w2 ⟨v2, rfl, hc, hb⟩
  obtain ⟨c_b, c_a, c_n, c_c, c_d, c_m, c_e, rfl⟩ := hc.litb
  have Xa0 := Lib.hid (Box.pcall hb Xa0.out)
  have HB := Lib.hid (below_call HB.out hb)
  have Hc := Lib.hid hc
  clear hb hc
  have d1 : (ba == c_b) = true := by rw [Hc.out.negC]; exact He1.out
  have d2 : ((na : Int) == (c_n : Int)) = true := eqI Hc.out.numC.1.lenE He2.out
  have d3 : ((ma : Int) == (c_m : Int)) = false := eqI Hc.out.denC.1.lenE He3.out
  obtain ⟨ca00, ca01, ca02, fa00, fa01, fa02⟩ := Xa0.out.c3
  have la0 := Xa0.out.lt
  go_wp2
  clear ca00 ca01 ca02 fa00 fa01 fa02 la0
  obtain ⟨W3, hW⟩ : ∃ W3, W3 = (World.alloc w2 (.cells #[.bool c_b, .slice c_a c_n c_c, .slice c_d c_m c_e] 37)) := ⟨_, rfl⟩
  rw [← hW]
  obtain ⟨xb0, hk, hb⟩ := boxes_1 _ _ _ hW
  clear hW
  have Na0b0 := Lib.hid (show w.heap.size ≠ w2.heap.size from Nat.ne_of_lt (Nat.lt_of_lt_of_le Xa0.out.lt (by omega)))
  have Gb0 := Lib.hid (show w.heap.size ≤ w2.heap.size from Nat.le_trans HB.out.size (by omega))
  have Xa0 := Lib.hid (Box.pcall hb Xa0.out)
  have Xb0 := Lib.hid xb0
  have HB := Lib.hid (below_call HB.out hb)
  clear hk hb xb0
  go_ret
  exact ⟨_, rfl, rfl, HB.out⟩
set_option maxRecDepth 100000 in
set_option maxHeartbeats 4000000 in
theorem rv_b3 {L : Nat} {q : Rat} {xs ys : List Nat} {ba : Bool} {sa ta : Option Addr} {na ca ma ea : Nat}  {w : World} (he1 : (ba == decide (q < 0)) = true) (he2 : (na == (limbs q.num.natAbs).length) = true) (he3 : (ma == (limbs (dn q)).length) = true) (k : Int) (hk : cmpN (val xs) q.num.natAbs = k) (hk0 : (k == 0) = false) (hd0 : ((ma : Int) == 0) = false) (hxa : Sl w (.slice sa na ca) xs) (hya : Sl w (.slice ta ma ea) ys) (ha : AR q L w (.agg #[.bool ba, .slice sa na ca, .slice ta ma ea])) (hL : L ≤ 100000000) :
    Calls Tryz.prog 119 #[.agg #[.bool ba, .slice sa na ca, .slice ta ma ea]] w (Ret w (Val (.bool false))) := by
  have Ha := Lib.hid ha
  have Hxa := Lib.hid hxa
  have Hya := Lib.hid hya
  have He1 := Lib.hid he1
  have He2 := Lib.hid he2
  have He3 := Lib.hid he3
  have Hk := Lib.hid hk
  clear ha hxa hya he1 he2 he3 hk
  go_enter Tryz.func119, Tryz.ntmps119
  have HB := Lib.hid (Below.refl w.heap.size w)
  go_wp2_with fail
  obtain ⟨W1, hW⟩ : ∃ W1, W1 = (World.alloc w (.cells #[.bool ba, .slice sa na ca, .slice ta ma ea] 37)) := ⟨_, rfl⟩
  rw [← hW]
  obtain ⟨xa0, hk, hb⟩ := boxes_1 _ _ _ hW
  clear hW
  have Ha := Lib.hid (AR.keep Ha.out hk)
  have Hxa := Lib.hid (Sl.keep Hxa.out hk)
  have Ga0 := Lib.hid (show w.heap.size ≤ w.heap.size from Nat.le_trans HB.out.size (by omega))
  have Xa0 := Lib.hid xa0
  have HB := Lib.hid (below_call HB.out hb)
  clear hk hb xa0
  (first | (have hcall := canon_ar Ha.out (by omega); refine Calls.mono hcall ?_; clear hcall) | refine Calls.mono (canon_ar Ha.out (by omega)) ?_)
  rintro e w2 ⟨v2, rfl, hc, hb⟩
  obtain ⟨c_b, c_a, c_n, c_c, c_d, c_m, c_e, rfl⟩ := hc.litb
  have Hxa := Lib.hid (Sl.keep Hxa.out (Keep.call hb))
  have Xa0 := Lib.hid (Box.pcall hb Xa0.out)
  have HB := Lib.hid (below_call HB.out hb)
  have Hc := Lib.hid hc
  clear hb hc
  have d1 : (ba == c_b) = true := by rw [Hc.out.negC]; exact He1.out
  have d2 : ((na : Int) == (c_n : Int)) = true := eqI Hc.out.numC.1.lenE He2.out
  have d3 : ((ma : Int) == (c_m : Int)) = true := eqI Hc.out.denC.1.lenE He3.out
  obtain ⟨ca00, ca01, ca02, fa00, fa01, fa02⟩ := Xa0.out.c3
  have la0 := Xa0.out.lt
  go_wp2_with fail
  clear ca00 ca01 ca02 fa00 fa01 fa02 la0
  obtain ⟨W3, hW⟩ : ∃ W3, W3 = (World.alloc w2 (.cells #[.bool c_b, .slice c_a c_n c_c, .slice c_d c_m c_e] 37)) := ⟨_, rfl⟩
  rw [← hW]
  obtain ⟨xb0, hk, hb⟩ := boxes_1 _ _ _ hW
  clear hW
  have Hxa := Lib.hid (Sl.keep Hxa.out hk)
  have Hc := Lib.hid (CR.keep Hc.out hk)
  have Na0b0 := Lib.hid (show w.heap.size ≠ w2.heap.size from Nat.ne_of_lt (Nat.lt_of_lt_of_le Xa0.out.lt (by omega)))
  have Gb0 := Lib.hid (show w.heap.size ≤ w2.heap.size from Nat.le_trans HB.out.size (by omega))
  have Xa0 := Lib.hid (Box.pcall hb Xa0.out)
  have Xb0 := Lib.hid xb0
  have HB := Lib.hid (below_call HB.out hb)
  clear hk hb xb0
  (first | (have hcall := cmp_slc k Hk.out Hxa.out Hc.out.numC; refine Calls.mono hcall ?_; clear hcall) | refine Calls.mono (cmp_slc k Hk.out Hxa.out Hc.out.numC) ?_)
  rintro e w4 ⟨v4, rfl, ⟨⟩, hb⟩
  have Xa0 := Lib.hid (Box.pcall hb Xa0.out)
  have Xb0 := Lib.hid (Box.pcall hb Xb0.out)
  have HB := Lib.hid (below_call HB.out hb)
  clear hb
  obtain ⟨ca00, ca01, ca02, fa00, fa01, fa02⟩ := Xa0.out.c3
  have la0 := Xa0.out.lt
  obtain ⟨cb00, cb01, cb02, fb00, fb01, fb02⟩ := Xb0.out.c3
  have lb0 := Xb0.out.lt
  go_wp2
  clear ca00 ca01 ca02 fa00 fa01 fa02 la0 cb00 cb01 cb02 fb00 fb01 fb02 lb0
  go_ret
  exact ⟨_, rfl, rfl, HB.out⟩
set_option maxRecDepth 100000 in
set_option maxHeartbeats 4000000 in
theorem rv_b4 {L : Nat} {q : Rat} {xs ys : List Nat} {ba : Bool} {sa ta : Option Addr} {na ca ma ea : Nat}  {w : World} (he1 : (ba == decide (q < 0)) = true) (he2 : (na == (limbs q.num.natAbs).length) = true) (he3 : (ma == (limbs (dn q)).length) = true) (hk : cmpN (val xs) q.num.natAbs = 0) (m : Int) (hm : cmpN (val ys) (dn q) = m) (hm0 : (m == 0) = false) (hd0 : ((ma : Int) == 0) = false) (hxa : Sl w (.slice sa na ca) xs) (hya : Sl w (.slice ta ma ea) ys) (ha : AR q L w (.agg #[.bool ba, .slice sa na ca, .slice ta ma ea])) (hL : L ≤ 100000000) :
    Calls Tryz.prog 119 #[.agg #[.bool ba, .slice sa na ca, .slice ta ma ea]] w (Ret w (Val (.bool false))) := by
  have Ha := Lib.hid ha
  have Hxa := Lib.hid hxa
  have Hya := Lib.hid hya
  have He1 := Lib.hid he1
  have He2 := Lib.hid he2
  have He3 := Lib.hid he3
  have Hk := Lib.hid hk
  have Hm := Lib.hid hm
  clear ha hxa hya he1 he2 he3 hk hm
  go_enter Tryz.func119, Tryz.ntmps119
  have HB := Lib.hid (Below.refl w.heap.size w)
  go_wp2_with fail
  obtain ⟨W1, hW⟩ : ∃ W1, W1 = (World.alloc w (.cells #[.bool ba, .slice sa na ca, .slice ta ma ea] 37)) := ⟨_, rfl⟩
  rw [← hW]
  obtain ⟨xa0, hk, hb⟩ := boxes_1 _ _ _ hW
  clear hW
  have Ha := Lib.hid (AR.keep Ha.out hk)
  have Hxa := Lib.hid (Sl.keep Hxa.out hk)
  have Hya := Lib.hid (Sl.keep Hya.out hk)
  have Ga0 := Lib.hid (show w.heap.size ≤ w.heap.size from Nat.le_trans HB.out.size (by omega))
  have Xa0 := Lib.hid xa0
  have HB := Lib.hid (below_call HB.out hb)
  clear hk hb xa0
  (first | (have hcall := canon_ar Ha.out (by omega); refine Calls.mono hcall ?_; clear hcall) | refine Calls.mono (canon_ar Ha.out (by omega)) ?_)
  rintro e w2 ⟨v2, rfl, hc, hb⟩
  obtain ⟨c_b, c_a, c_n, c_c, c_d, c_m, c_e, rfl⟩ := hc.litb
  have Hxa := Lib.hid (Sl.keep Hxa.out (Keep.call hb))
  have Hya := Lib.hid (Sl.keep Hya.out (Keep.call hb))
  have Xa0 := Lib.hid (Box.pcall hb Xa0.out)
  have HB := Lib.hid (below_call HB.out hb)
  have Hc := Lib.hid hc
  clear hb hc
  have d1 : (ba == c_b) = true := by rw [Hc.out.negC]; exact He1.out
  have d2 : ((na : Int) == (c_n : Int)) = true := eqI Hc.out.numC.1.lenE He2.out
  have d3 : ((ma : Int) == (c_m : Int)) = true := eqI Hc.out.denC.1.lenE He3.out
  obtain ⟨ca00, ca01, ca02, fa00, fa01, fa02⟩ := Xa0.out.c3
  have la0 := Xa0.out.lt
  go_wp2_with fail
  clear ca00 ca01 ca02 fa00 fa01 fa02 la0
  obtain ⟨W3, hW⟩ : ∃ W3, W3 = (World.alloc w2 (.cells #[.bool c_b, .slice c_a c_n c_c, .slice c_d c_m c_e] 37)) := ⟨_, rfl⟩
  rw [← hW]
  obtain ⟨xb0, hk, hb⟩ := boxes_1 _ _ _ hW
  clear hW
  have Hxa := Lib.hid (Sl.keep Hxa.out hk)
  have Hya := Lib.hid (Sl.keep Hya.out hk)
  have Hc := Lib.hid (CR.keep Hc.out hk)
  have Na0b0 := Lib.hid (show w.heap.size ≠ w2.heap.size from Nat.ne_of_lt (Nat.lt_of_lt_of_le Xa0.out.lt (by omega)))
  have Gb0 := Lib.hid (show w.heap.size ≤ w2.heap.size from Nat.le_trans HB.out.size (by omega))
  have Xa0 := Lib.hid (Box.pcall hb Xa0.out)
  have Xb0 := Lib.hid xb0
  have HB := Lib.hid (below_call HB.out hb)
  clear hk hb xb0
  (first | (have hcall := cmp_slc 0 Hk.out Hxa.out Hc.out.numC; refine Calls.mono hcall ?_; clear hcall) | refine Calls.mono (cmp_slc 0 Hk.out Hxa.out Hc.out.numC) ?_)
  rintro e w4 ⟨v4, rfl, rfl, hb⟩
  have Hya := Lib.hid (Sl.keep Hya.out (Keep.call hb))
  have Hc := Lib.hid (CR.keep Hc.out (Keep.call hb))
  have Xa0 := Lib.hid (Box.pcall hb Xa0.out)
  have Xb0 := Lib.hid (Box.pcall hb Xb0.out)
  have HB := Lib.hid (below_call HB.out hb)
  clear hb
  obtain ⟨ca00, ca01, ca02, fa00, fa01, fa02⟩ := Xa0.out.c3
  have la0 := Xa0.out.lt
  obtain ⟨cb00, cb01, cb02, fb00, fb01, fb02⟩ := Xb0.out.c3
  have lb0 := Xb0.out.lt
  go_wp2_with fail
  clear ca00 ca01 ca02 fa00 fa01 fa02 la0 cb00 cb01 cb02 fb00 fb01 fb02 lb0
  (first | (have hcall := cmp_slc m Hm.out Hya.out Hc.out.denC; refine Calls.mono hcall ?_; clear hcall) | refine Calls.mono (cmp_slc m Hm.out Hya.out Hc.out.denC) ?_)
  rintro e w5 ⟨v5, rfl, ⟨⟩, hb⟩
  have Xa0 := Lib.hid (Box.pcall hb Xa0.out)
  have Xb0 := Lib.hid (Box.pcall hb Xb0.out)
  have HB := Lib.hid (below_call HB.out hb)
  clear hb
  obtain ⟨ca00, ca01, ca02, fa00, fa01, fa02⟩ := Xa0.out.c3
  have la0 := Xa0.out.lt
  obtain ⟨cb00, cb01, cb02, fb00, fb01, fb02⟩ := Xb0.out.c3
  have lb0 := Xb0.out.lt
  go_wp2
  clear ca00 ca01 ca02 fa00 fa01 fa02 la0 cb00 cb01 cb02 fb00 fb01 fb02 lb0
  go_ret
  exact ⟨_, rfl, rfl, HB.out⟩
set_option maxRecDepth 100000 in
set_option maxHeartbeats 4000000 in
theorem rv_b5 {L : Nat} {q : Rat} {xs ys : List Nat} {ba : Bool} {sa ta : Option Addr} {na ca ma ea : Nat}  {w : World} (he1 : (ba == decide (q < 0)) = true) (he2 : (na == (limbs q.num.natAbs).length) = true) (he3 : (ma == (limbs (dn q)).length) = true) (hk : cmpN (val xs) q.num.natAbs = 0) (hm : cmpN (val ys) (dn q) = 0) (hd0 : ((ma : Int) == 0) = false) (hxa : Sl w (.slice sa na ca) xs) (hya : Sl w (.slice ta ma ea) ys) (ha : AR q L w (.agg #[.bool ba, .slice sa na ca, .slice ta ma ea])) (hL : L ≤ 100000000) :
    Calls Tryz.prog 119 #[.agg #[.bool ba, .slice sa na ca, .slice ta ma ea]] w (Ret w (Val (.bool true))) := by
  have Ha := Lib.hid ha
  have Hxa := Lib.hid hxa
  have Hya := Lib.hid hya
  have He1 := Lib.hid he1
  have He2 := Lib.hid he2
  have He3 := Lib.hid he3
  have Hk := Lib.hid hk
  have Hm := Lib.hid hm
  clear ha hxa hya he1 he2 he3 hk hm
  go_enter Tryz.func119, Tryz.ntmps119
  have HB := Lib.hid (Below.refl w.heap.size w)
  go_wp2_with fail
  obtain ⟨W1, hW⟩ : ∃ W1, W1 = (World.alloc w (.cells #[.bool ba, .slice sa na ca, .slice ta ma ea] 37)) := ⟨_, rfl⟩
  rw [← hW]
  obtain ⟨xa0, hk, hb⟩ := boxes_1 _ _ _ hW
  clear hW
  have Ha := Lib.hid (AR.keep Ha.out hk)
  have Hxa := Lib.hid (Sl.keep Hxa.out hk)
  have Hya := Lib.hid (Sl.keep Hya.out hk)
  have Ga0 := Lib.hid (show w.heap.size ≤ w.heap.size from Nat.le_trans HB.out.size (by omega))
  have Xa0 := Lib.hid xa0
  have HB := Lib.hid (below_call HB.out hb)
  clear hk hb xa0
  (first | (have hcall := canon_ar Ha.out (by omega); refine Calls.mono hcall ?_; clear hcall) | refine Calls.mono (canon_ar Ha.out (by omega)) ?_)
  rintro e w2 ⟨v2, rfl, hc, hb⟩
  obtain ⟨c_b, c_a, c_n, c_c, c_d, c_m, c_e, rfl⟩ := hc.litb
  have Hxa := Lib.hid (Sl.keep Hxa.out (Keep.call hb))
  have Hya := Lib.hid (Sl.keep Hya.out (Keep.call hb))
  have Xa0 := Lib.hid (Box.pcall hb Xa0.out)
  have HB := Lib.hid (below_call HB.out hb)
  have Hc := Lib.hid hc
  clear hb hc
  have d1 : (ba == c_b) = true := by rw [Hc.out.negC]; exact He1.out
  have d2 : ((na : Int) == (c_n : Int)) = true := eqI Hc.out.numC.1.lenE He2.out
  have d3 : ((ma : Int) == (c_m : Int)) = true := eqI Hc.out.denC.1.lenE He3.out
  obtain ⟨ca00, ca01, ca02, fa00, fa01, fa02⟩ := Xa0.out.c3
  have la0 := Xa0.out.lt
  go_wp2_with fail
  clear ca00 ca01 ca02 fa00 fa01 fa02 la0
  obtain ⟨W3, hW⟩ : ∃ W3, W3 = (World.alloc w2 (.cells #[.bool c_b, .slice c_a c_n c_c, .slice c_d c_m c_e] 37)) := ⟨_, rfl⟩
  rw [← hW]
  obtain ⟨xb0, hk, hb⟩ := boxes_1 _ _ _ hW
  clear hW
  have Hxa := Lib.hid (Sl.keep Hxa.out hk)
  have Hya := Lib.hid (Sl.keep Hya.out hk)
  have Hc := Lib.hid (CR.keep Hc.out hk)
  have Na0b0 := Lib.hid (show w.heap.size ≠ w2.heap.size from Nat.ne_of_lt (Nat.lt_of_lt_of_le Xa0.out.lt (by omega)))
  have Gb0 := Lib.hid (show w.heap.size ≤ w2.heap.size from Nat.le_trans HB.out.size (by omega))
  have Xa0 := Lib.hid (Box.pcall hb Xa0.out)
  have Xb0 := Lib.hid xb0
  have HB := Lib.hid (below_call HB.out hb)
  clear hk hb xb0
  (first | (have hcall := cmp_slc 0 Hk.out Hxa.out Hc.out.numC; refine Calls.mono hcall ?_; clear hcall) | refine Calls.mono (cmp_slc 0 Hk.out Hxa.out Hc.out.numC) ?_)
  rintro e w4 ⟨v4, rfl, rfl, hb⟩
  have Hya := Lib.hid (Sl.keep Hya.out (Keep.call hb))
  have Hc := Lib.hid (CR.keep Hc.out (Keep.call hb))
  have Xa0 := Lib.hid (Box.pcall hb Xa0.out)
  have Xb0 := Lib.hid (Box.pcall hb Xb0.out)
  have HB := Lib.hid (below_call HB.out hb)
  clear hb
  obtain ⟨ca00, ca01, ca02, fa00, fa01, fa02⟩ := Xa0.out.c3
  have la0 := Xa0.out.lt
  obtain ⟨cb00, cb01, cb02, fb00, fb01, fb02⟩ := Xb0.out.c3
  have lb0 := Xb0.out.lt
  go_wp2_with fail
  clear ca00 ca01 ca02 fa00 fa01 fa02 la0 cb00 cb01 cb02 fb00 fb01 fb02 lb0
  (first | (have hcall := cmp_slc 0 Hm.out Hya.out Hc.out.denC; refine Calls.mono hcall ?_; clear hcall) | refine Calls.mono (cmp_slc 0 Hm.out Hya.out Hc.out.denC) ?_)
  rintro e w5 ⟨v5, rfl, rfl, hb⟩
  have Xa0 := Lib.hid (Box.pcall hb Xa0.out)
  have Xb0 := Lib.hid (Box.pcall hb Xb0.out)
  have HB := Lib.hid (below_call HB.out hb)
  clear hb
  obtain ⟨ca00, ca01, ca02, fa00, fa01, fa02⟩ := Xa0.out.c3
  have la0 := Xa0.out.lt
  obtain ⟨cb00, cb01, cb02, fb00, fb01, fb02⟩ := Xb0.out.c3
  have lb0 := Xb0.out.lt
  go_wp2
  clear ca00 ca01 ca02 fa00 fa01 fa02 la0 cb00 cb01 cb02 fb00 fb01 fb02 lb0
  go_ret
  exact ⟨_, rfl, rfl, HB.out⟩
theorem rvalid_v {B ba : Bool} {sa ta : Option Addr} {na ca ma ea : Nat} {xs ys : List Nat} {L : Nat} {w : World} (hB : vB ba xs ys (rv ba (val xs) (val ys)) = B) (h : Sl w (.slice sa na ca) xs) (h' : Sl w (.slice ta ma ea) ys) (hl : xs.length ≤ L) (hl' : ys.length ≤ L) (hL : L ≤ 100000000) :
    Calls Tryz.prog 119 #[.agg #[.bool ba, .slice sa na ca, .slice ta ma ea]] w (Ret w (Val (.bool B))) := by
  have n1 := h.lenE
  have n2 := h'.lenE
  have ha : AR (rv ba (val xs) (val ys)) L w (.agg #[.bool ba, .slice sa na ca, .slice ta ma ea]) := AR.mk ⟨xs, h, rfl, hl⟩ ⟨ys, h', rfl, hl'⟩
  subst hB
  rcases Nat.eq_zero_or_pos ma with hm | hm
  · have hy : ys = [] := List.length_eq_zero_iff.1 (by omega)
    subst hy
    have hd : ((ma : Int) == 0) = true := by simp [hm]
    rw [show val [] = 0 from rfl, vB_nil h.lims, ← n1]
    cases hc : canon xs
    · exact rv_a1 hc hd h
    · cases ba
      · exact rv_a2 hc hd h
      · cases hn : decide (0 < na)
        · exact rv_a3f hc hn hd h
        · exact rv_a3t hc hn hd h
  · have hd : ((ma : Int) == 0) = false := by rw [beq_eq_false_iff_ne]; omega
    generalize rv ba (val xs) (val ys) = q at *
    unfold vB
    rw [same_parts h.lims, same_parts h'.lims, ← n1, ← n2]
    cases e1 : (ba == decide (q < 0))
    · exact rv_b0 e1 hd h h' ha hL
    cases e2 : (na == (limbs q.num.natAbs).length)
    · exact rv_b1 e1 e2 hd h h' ha hL
    cases e3 : (ma == (limbs (dn q)).length)
    · have : ∀ x, (true && (true && x) && (false && (cmpN (val ys) (dn q) == 0))) = false := by intro x; cases x <;> rfl
      rw [this]
      exact rv_b2 e1 e2 e3 hd h h' ha hL
    by_cases k : cmpN (val xs) q.num.natAbs = 0
    · by_cases m : cmpN (val ys) (dn q) = 0
      · rw [k, m]; exact rv_b5 e1 e2 e3 k m hd h h' ha hL
      · rw [k, show (cmpN (val ys) (dn q) == 0) = false from beq_eq_false_iff_ne.2 m]; exact rv_b4 e1 e2 e3 k _ rfl (beq_eq_false_iff_ne.2 m) hd h h' ha hL
    · rw [show (cmpN (val xs) q.num.natAbs == 0) = false from beq_eq_false_iff_ne.2 k]; exact rv_b3 e1 e2 e3 _ rfl (beq_eq_false_iff_ne.2 k) hd h h' ha hL
end Go.Proofs.YtikglhmabidjoaaGreatDoor
