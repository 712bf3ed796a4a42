/- Texts RelA, in this order. -/
import Derived.Test.YtlpjgncaedffoaaDa
namespace Go.Proofs.Ytlpjgncaedffoaa
open Go.RowKit Nt
set_option linter.unusedVariables false

def areaQ (a b s : Rat) : Rat := (s * (a * a) + (((1 : Int) : Rat) - s) * (b * b)) / ((2 : Int) : Rat)
theorem two_ne : ((2 : Int) : Rat) ≠ 0 := by decide
/-- A slope, the upper line, no error. -/
def LN (k : Int) (p q : Rat) (L : Nat) (w : World) (v : Value) : Prop := ∃ x y, v = .tuple #[.int .i64 k, x, y, .int .i64 0] ∧ CR p L w x ∧ CR q L w y
theorem results_trrt {fn : Func} {i p q r : Tmp} {ty : TypeId} (h : fn.results = #[.tmp i, .cell p ty, .cell q ty, .tmp r]) (tmps : Array Value) (P : Program) (w : World) (g g' : Nat) (cs cs' : List Value) (x z : Value) (d : TypeDesc)
    (hi0 : tmps.getD i undef = x) (hp : tmps.getD p undef = .pointer (some ⟨g, 0, none⟩)) (hq : tmps.getD q undef = .pointer (some ⟨g', 0, none⟩)) (hz : tmps.getD r undef = z) (hc : w.rangeAt g 0 cs) (hc' : w.rangeAt g' 0 cs')
    (hu : P.underlying ty = some d) (hd : d.isRow = true) (hi : (P.info? ty).map (·.size) = some cs.length) (hi' : (P.info? ty).map (·.size) = some cs'.length) :
    (results fn tmps).run P w = .ok (.tuple #[x, .agg cs.toArray, .agg cs'.toArray, z]) w := by
  have hp' : tmps[p]?.getD undef = .pointer (some ⟨g, 0, none⟩) := by simpa using hp
  have hq' : tmps[q]?.getD undef = .pointer (some ⟨g', 0, none⟩) := by simpa using hq
  have hz' : tmps[r]?.getD undef = z := by simpa using hz
  have hi0' : tmps[i]?.getD undef = x := by simpa using hi0
  simp [results, h, hp', hq', hz', hi0', asAddr, run_loadVar_mid w g 0 ty cs d hc hu hd hi, run_loadVar_mid w g' 0 ty cs' d hc' hu hd hi']
theorem ret_trrt {fn : Func} {i p q r : Tmp} {a : Act} {w0 W : World} {R : World → Value → Prop} {g h : Nat} {t t' : TypeId} {x y z x' y' z' k e : Value} (hres : fn.results = #[.tmp i, .cell p 25, .cell q 25, .tmp r])
    (hi : a.tmps.getD i undef = k) (hp : a.tmps.getD p undef = .pointer (some ⟨g, 0, none⟩)) (hq : a.tmps.getD q undef = .pointer (some ⟨h, 0, none⟩)) (he : a.tmps.getD r undef = e) (hd : a.defers = []) (X : Box W g t #[x, y, z]) (Y : Box W h t' #[x', y', z'])
    (hR : R W (.tuple #[k, .agg #[x, y, z], .agg #[x', y', z'], e])) (HB : Below w0.heap.size w0 W) : bodyPost Try.prog fn (Ret w0 R) .ret a W :=
  bodyPost_ret (results_trrt hres _ _ _ g h [x, y, z] [x', y', z'] k e _ hi hp hq he (box_range X) (box_range Y) Try.underlying25 rfl (by kernel_rfl) (by kernel_rfl)) hd ⟨_, rfl, hR, HB⟩

set_option maxRecDepth 100000 in
set_option maxHeartbeats 4000000 in
theorem rlquo_p {L M : Nat} {qa : Rat} {ba : Bool} {sa ta : Value} {qb : Rat} {bb : Bool} {sb tb : Value} {w : World} (h0 : qb ≠ 0) (ha : AR qa L w (.agg #[.bool ba, sa, ta])) (hb : AR qb M w (.agg #[.bool bb, sb, tb])) (hL : L ≤ 100000) (hM : M ≤ 100000) :
    Calls Try.prog 37 #[.agg #[.bool ba, sa, ta], .agg #[.bool bb, sb, tb]] w (Ret w (CR (qa / qb) (L + M + 2))) := by
  have Ha := Lib.hid ha
  have Hb := Lib.hid hb
  have H0 := Lib.hid h0
  clear ha hb h0
  go_enter Try.func37, Try.ntmps37
  have HB := Lib.hid (Below.refl w.heap.size w)
  go_wp2_with fail
  obtain ⟨W1, hW⟩ : ∃ W1, W1 = (World.alloc (World.alloc (World.alloc w (.cells #[.bool ba, sa, ta] 25)) (.cells #[.bool bb, sb, tb] 25)) (.cells #[.bool false, .slice none 0 0, .slice none 0 0] 25)) := ⟨_, rfl⟩
  rw [← hW]
  obtain ⟨xa0, xb0, xc0, hk, hb⟩ := boxes_3 _ _ _ _ _ _ _ hW
  clear hW
  have Ha := Lib.hid (AR.keep Ha.out hk)
  have Hb := Lib.hid (AR.keep Hb.out hk)
  have Ga0 := Lib.hid (show w.heap.size ≤ w.heap.size from Nat.le_trans HB.out.size (by omega))
  have Gb0 := Lib.hid (show w.heap.size ≤ w.heap.size + 1 from Nat.le_trans HB.out.size (by omega))
  have Gc0 := Lib.hid (show w.heap.size ≤ w.heap.size + 1 + 1 from Nat.le_trans HB.out.size (by omega))
  have Xa0 := Lib.hid xa0
  have Xb0 := Lib.hid xb0
  have Xc0 := Lib.hid xc0
  have HB := Lib.hid (below_call HB.out hb)
  clear hk hb xa0 xb0 xc0
  (first | (have hcall := rdiv_ar H0.out Ha.out Hb.out (by omega) (by omega); refine Calls.mono hcall ?_; clear hcall) | refine Calls.mono (rdiv_ar H0.out Ha.out Hb.out (by omega) (by omega)) ?_)
  rintro e w2 ⟨t2, rfl, ⟨v2, rfl, hz⟩, hb⟩
  obtain ⟨z_b, z_a, z_n, z_c, z_d, z_m, z_e, rfl⟩ := hz.litb
  have Xa0 := Lib.hid (Box.pcall hb Xa0.out)
  have Xb0 := Lib.hid (Box.pcall hb Xb0.out)
  have Xc0 := Lib.hid (Box.pcall hb Xc0.out)
  have HB := Lib.hid (below_call HB.out hb)
  have Hz := Lib.hid hz
  clear hb hz
  obtain ⟨ca00, ca01, ca02, fa00, fa01, fa02⟩ := Xa0.out.c3
  have la0 := Xa0.out.lt
  obtain ⟨cb00, cb01, cb02, fb00, fb01, fb02⟩ := Xb0.out.c3
  have lb0 := Xb0.out.lt
  obtain ⟨cc00, cc01, cc02, fc00, fc01, fc02⟩ := Xc0.out.c3
  have lc0 := Xc0.out.lt
  go_wp2
  clear ca00 ca01 ca02 fa00 fa01 fa02 la0 cb00 cb01 cb02 fb00 fb01 fb02 lb0 cc00 cc01 cc02 fc00 fc01 fc02 lc0
  obtain ⟨W3, hW⟩ : ∃ W3, W3 = (World.setCell (World.setCell (World.setCell w2 ⟨w.heap.size + 1 + 1, 0, none⟩ (.bool z_b)) ⟨w.heap.size + 1 + 1, 1, none⟩ (.slice z_a z_n z_c)) ⟨w.heap.size + 1 + 1, 2, none⟩ (.slice z_d z_m z_e)) := ⟨_, rfl⟩
  rw [← hW]
  obtain ⟨xc0, hk, hf, hbb, hz⟩ := stored3s hW Xc0.out (by first | exact NoInt.bool _ | exact NoInt.slice _ _ _) (by first | exact NoInt.bool _ | exact NoInt.slice _ _ _) (by first | exact NoInt.bool _ | exact NoInt.slice _ _ _)
  have Hz := Lib.hid (CR.keep Hz.out hk)
  have Xa0 := Lib.hid (hf _ _ _ Xa0.out (by omega))
  have Xb0 := Lib.hid (hf _ _ _ Xb0.out (by omega))
  have Xc0 := Lib.hid xc0
  have HB := Lib.hid (hbb _ HB.out Gc0.out)
  clear hW hk hf hbb xc0
  have hz3 := hz
  clear hz
  obtain ⟨W4, hW⟩ : ∃ W4, W4 = (World.alloc W3 (.cells #[.bool z_b, .slice z_a z_n z_c, .slice z_d z_m z_e] 25)) := ⟨_, rfl⟩
  rw [← hW]
  obtain ⟨xd0, hk, hb⟩ := boxes_1 _ _ _ hW
  clear hW
  rw [hz3] at xd0
  have Hz := Lib.hid (CR.keep Hz.out hk)
  have Na0d0 := Lib.hid (show w.heap.size ≠ w2.heap.size from Nat.ne_of_lt (Nat.lt_of_lt_of_le Xa0.out.lt (by omega)))
  have Nb0d0 := Lib.hid (show w.heap.size + 1 ≠ w2.heap.size from Nat.ne_of_lt (Nat.lt_of_lt_of_le Xb0.out.lt (by omega)))
  have Nc0d0 := Lib.hid (show w.heap.size + 1 + 1 ≠ w2.heap.size from Nat.ne_of_lt (Nat.lt_of_lt_of_le Xc0.out.lt (by omega)))
  have Gd0 := Lib.hid (show w.heap.size ≤ w2.heap.size from Nat.le_trans HB.out.size (by omega))
  clear hz3
  have Xa0 := Lib.hid (Box.pcall hb Xa0.out)
  have Xb0 := Lib.hid (Box.pcall hb Xb0.out)
  have Xc0 := Lib.hid (Box.pcall hb Xc0.out)
  have Xd0 := Lib.hid xd0
  have HB := Lib.hid (below_call HB.out hb)
  clear hk hb xd0
  exact ret_rat1 rfl rfl rfl Xc0.out Hz.out HB.out


theorem rlquo_ar {a b : Rat} {L M : Nat} {u v : Value} {w : World} (h0 : b ≠ 0) (h : AR a L w u) (h' : AR b M w v) (hL : L ≤ 100000) (hM : M ≤ 100000) : Calls Try.prog 37 #[u, v] w (Ret w (CR (a / b) (L + M + 2))) := by
  obtain ⟨ba, sa, ta, rfl⟩ := h.agg
  obtain ⟨bb, sb, tb, rfl⟩ := h'.agg
  exact rlquo_p h0 h h' hL hM

set_option maxRecDepth 100000 in
set_option maxHeartbeats 4000000 in
theorem rluns_1 {L : Nat} {qa : Rat} {ba : Bool} {sa ta : Value} {qb : Rat} {bb : Bool} {sb tb : Value} {w : World} (s : Int) (hs : qa.num.sign = s) (hs0 : decide (s < 0) = false) (ha : AR qa L w (.agg #[.bool ba, sa, ta])) (hb : AR qb L w (.agg #[.bool bb, sb, tb])) (hL : L ≤ 10000) :
    Calls Try.prog 15 #[.agg #[.bool ba, sa, ta], .agg #[.bool bb, sb, tb]] w (Ret w (Val (.bool false))) := by
  have Ha := Lib.hid ha
  have Hb := Lib.hid hb
  have Hs := Lib.hid hs
  have Hs0 := Lib.hid hs0
  clear ha hb hs hs0
  go_enter Try.func15, Try.ntmps15
  have HB := Lib.hid (Below.refl w.heap.size w)
  go_wp2_with fail
  obtain ⟨W1, hW⟩ : ∃ W1, W1 = (World.alloc (World.alloc w (.cells #[.bool ba, sa, ta] 25)) (.cells #[.bool bb, sb, tb] 25)) := ⟨_, rfl⟩
  rw [← hW]
  obtain ⟨xa0, xb0, hk, hb⟩ := boxes_2 _ _ _ _ _ hW
  clear hW
  have Ha := Lib.hid (AR.keep Ha.out hk)
  have Ga0 := Lib.hid (show w.heap.size ≤ w.heap.size from Nat.le_trans HB.out.size (by omega))
  have Gb0 := Lib.hid (show w.heap.size ≤ w.heap.size + 1 from Nat.le_trans HB.out.size (by omega))
  have Xa0 := Lib.hid xa0
  have Xb0 := Lib.hid xb0
  have HB := Lib.hid (below_call HB.out hb)
  clear hk hb xa0 xb0
  (first | (have hcall := rsign_ar s Ha.out Hs.out (by omega); refine Calls.mono hcall ?_; clear hcall) | refine Calls.mono (rsign_ar s Ha.out Hs.out (by omega)) ?_)
  rintro e w2 ⟨v2, rfl, ⟨⟩, hb⟩
  have Xa0 := Lib.hid (Box.pcall hb Xa0.out)
  have Xb0 := Lib.hid (Box.pcall hb Xb0.out)
  have HB := Lib.hid (below_call HB.out hb)
  clear hb
  have hs0 : decide (s < 0) = false := Hs0.out
  obtain ⟨ca00, ca01, ca02, fa00, fa01, fa02⟩ := Xa0.out.c3
  have la0 := Xa0.out.lt
  obtain ⟨cb00, cb01, cb02, fb00, fb01, fb02⟩ := Xb0.out.c3
  have lb0 := Xb0.out.lt
  go_wp2
  clear ca00 ca01 ca02 fa00 fa01 fa02 la0 cb00 cb01 cb02 fb00 fb01 fb02 lb0
  go_ret
  exact ⟨_, rfl, rfl, HB.out⟩


set_option maxRecDepth 100000 in
set_option maxHeartbeats 4000000 in
theorem rluns_2t {L : Nat} {qa : Rat} {ba : Bool} {sa ta : Value} {qb : Rat} {bb : Bool} {sb tb : Value} {w : World} (s t : Int) (hs : qa.num.sign = s) (hs0 : decide (s < 0) = true) (ht : qb.num.sign = t) (ht0 : decide (0 < t) = true) (ha : AR qa L w (.agg #[.bool ba, sa, ta])) (hb : AR qb L w (.agg #[.bool bb, sb, tb])) (hL : L ≤ 10000) :
    Calls Try.prog 15 #[.agg #[.bool ba, sa, ta], .agg #[.bool bb, sb, tb]] w (Ret w (Val (.bool true))) := by
  have Ha := Lib.hid ha
  have Hb := Lib.hid hb
  have Hs := Lib.hid hs
  have Hs0 := Lib.hid hs0
  have Ht := Lib.hid ht
  have Ht0 := Lib.hid ht0
  clear ha hb hs hs0 ht ht0
  go_enter Try.func15, Try.ntmps15
  have HB := Lib.hid (Below.refl w.heap.size w)
  go_wp2_with fail
  obtain ⟨W1, hW⟩ : ∃ W1, W1 = (World.alloc (World.alloc w (.cells #[.bool ba, sa, ta] 25)) (.cells #[.bool bb, sb, tb] 25)) := ⟨_, rfl⟩
  rw [← hW]
  obtain ⟨xa0, xb0, hk, hb⟩ := boxes_2 _ _ _ _ _ hW
  clear hW
  have Ha := Lib.hid (AR.keep Ha.out hk)
  have Hb := Lib.hid (AR.keep Hb.out hk)
  have Ga0 := Lib.hid (show w.heap.size ≤ w.heap.size from Nat.le_trans HB.out.size (by omega))
  have Gb0 := Lib.hid (show w.heap.size ≤ w.heap.size + 1 from Nat.le_trans HB.out.size (by omega))
  have Xa0 := Lib.hid xa0
  have Xb0 := Lib.hid xb0
  have HB := Lib.hid (below_call HB.out hb)
  clear hk hb xa0 xb0
  (first | (have hcall := rsign_ar s Ha.out Hs.out (by omega); refine Calls.mono hcall ?_; clear hcall) | refine Calls.mono (rsign_ar s Ha.out Hs.out (by omega)) ?_)
  rintro e w2 ⟨v2, rfl, ⟨⟩, hb⟩
  have Hb := Lib.hid (AR.keep Hb.out (Keep.call hb))
  have Xa0 := Lib.hid (Box.pcall hb Xa0.out)
  have Xb0 := Lib.hid (Box.pcall hb Xb0.out)
  have HB := Lib.hid (below_call HB.out hb)
  clear hb
  have hs0 : decide (s < 0) = true := Hs0.out
  obtain ⟨ca00, ca01, ca02, fa00, fa01, fa02⟩ := Xa0.out.c3
  have la0 := Xa0.out.lt
  obtain ⟨cb00, cb01, cb02, fb00, fb01, fb02⟩ := Xb0.out.c3
  have lb0 := Xb0.out.lt
  go_wp2_with fail
  clear ca00 ca01 ca02 fa00 fa01 fa02 la0 cb00 cb01 cb02 fb00 fb01 fb02 lb0
  (first | (have hcall := rsign_ar t Hb.out Ht.out (by omega); refine Calls.mono hcall ?_; clear hcall) | refine Calls.mono (rsign_ar t Hb.out Ht.out (by omega)) ?_)
  rintro e w3 ⟨v3, rfl, ⟨⟩, hb⟩
  have Xa0 := Lib.hid (Box.pcall hb Xa0.out)
  have Xb0 := Lib.hid (Box.pcall hb Xb0.out)
  have HB := Lib.hid (below_call HB.out hb)
  clear hb
  have ht0 : decide (0 < t) = true := Ht0.out
  obtain ⟨ca00, ca01, ca02, fa00, fa01, fa02⟩ := Xa0.out.c3
  have la0 := Xa0.out.lt
  obtain ⟨cb00, cb01, cb02, fb00, fb01, fb02⟩ := Xb0.out.c3
  have lb0 := Xb0.out.lt
  go_wp2
  clear ca00 ca01 ca02 fa00 fa01 fa02 la0 cb00 cb01 cb02 fb00 fb01 fb02 lb0
  go_ret
  exact ⟨_, rfl, rfl, HB.out⟩


set_option maxRecDepth 100000 in
set_option maxHeartbeats 4000000 in
theorem rluns_2f {L : Nat} {qa : Rat} {ba : Bool} {sa ta : Value} {qb : Rat} {bb : Bool} {sb tb : Value} {w : World} (s t : Int) (hs : qa.num.sign = s) (hs0 : decide (s < 0) = true) (ht : qb.num.sign = t) (ht0 : decide (0 < t) = false) (ha : AR qa L w (.agg #[.bool ba, sa, ta])) (hb : AR qb L w (.agg #[.bool bb, sb, tb])) (hL : L ≤ 10000) :
    Calls Try.prog 15 #[.agg #[.bool ba, sa, ta], .agg #[.bool bb, sb, tb]] w (Ret w (Val (.bool false))) := by
  have Ha := Lib.hid ha
  have Hb := Lib.hid hb
  have Hs := Lib.hid hs
  have Hs0 := Lib.hid hs0
  have Ht := Lib.hid ht
  have Ht0 := Lib.hid ht0
  clear ha hb hs hs0 ht ht0
  go_enter Try.func15, Try.ntmps15
  have HB := Lib.hid (Below.refl w.heap.size w)
  go_wp2_with fail
  obtain ⟨W1, hW⟩ : ∃ W1, W1 = (World.alloc (World.alloc w (.cells #[.bool ba, sa, ta] 25)) (.cells #[.bool bb, sb, tb] 25)) := ⟨_, rfl⟩
  rw [← hW]
  obtain ⟨xa0, xb0, hk, hb⟩ := boxes_2 _ _ _ _ _ hW
  clear hW
  have Ha := Lib.hid (AR.keep Ha.out hk)
  have Hb := Lib.hid (AR.keep Hb.out hk)
  have Ga0 := Lib.hid (show w.heap.size ≤ w.heap.size from Nat.le_trans HB.out.size (by omega))
  have Gb0 := Lib.hid (show w.heap.size ≤ w.heap.size + 1 from Nat.le_trans HB.out.size (by omega))
  have Xa0 := Lib.hid xa0
  have Xb0 := Lib.hid xb0
  have HB := Lib.hid (below_call HB.out hb)
  clear hk hb xa0 xb0
  (first | (have hcall := rsign_ar s Ha.out Hs.out (by omega); refine Calls.mono hcall ?_; clear hcall) | refine Calls.mono (rsign_ar s Ha.out Hs.out (by omega)) ?_)
  rintro e w2 ⟨v2, rfl, ⟨⟩, hb⟩
  have Hb := Lib.hid (AR.keep Hb.out (Keep.call hb))
  have Xa0 := Lib.hid (Box.pcall hb Xa0.out)
  have Xb0 := Lib.hid (Box.pcall hb Xb0.out)
  have HB := Lib.hid (below_call HB.out hb)
  clear hb
  have hs0 : decide (s < 0) = true := Hs0.out
  obtain ⟨ca00, ca01, ca02, fa00, fa01, fa02⟩ := Xa0.out.c3
  have la0 := Xa0.out.lt
  obtain ⟨cb00, cb01, cb02, fb00, fb01, fb02⟩ := Xb0.out.c3
  have lb0 := Xb0.out.lt
  go_wp2_with fail
  clear ca00 ca01 ca02 fa00 fa01 fa02 la0 cb00 cb01 cb02 fb00 fb01 fb02 lb0
  (first | (have hcall := rsign_ar t Hb.out Ht.out (by omega); refine Calls.mono hcall ?_; clear hcall) | refine Calls.mono (rsign_ar t Hb.out Ht.out (by omega)) ?_)
  rintro e w3 ⟨v3, rfl, ⟨⟩, hb⟩
  have Xa0 := Lib.hid (Box.pcall hb Xa0.out)
  have Xb0 := Lib.hid (Box.pcall hb Xb0.out)
  have HB := Lib.hid (below_call HB.out hb)
  clear hb
  have ht0 : decide (0 < t) = false := Ht0.out
  obtain ⟨ca00, ca01, ca02, fa00, fa01, fa02⟩ := Xa0.out.c3
  have la0 := Xa0.out.lt
  obtain ⟨cb00, cb01, cb02, fb00, fb01, fb02⟩ := Xb0.out.c3
  have lb0 := Xb0.out.lt
  go_wp2
  clear ca00 ca01 ca02 fa00 fa01 fa02 la0 cb00 cb01 cb02 fb00 fb01 fb02 lb0
  go_ret
  exact ⟨_, rfl, rfl, HB.out⟩


theorem rluns_ar {a b : Rat} {L : Nat} {u v : Value} {w : World} {B : Bool} (hB : unst a b = B) (h : AR a L w u) (h' : AR b L w v) (hL : L ≤ 10000) : Calls Try.prog 15 #[u, v] w (Ret w (Val (.bool B))) := by
  obtain ⟨ba, sa, ta, rfl⟩ := h.agg
  obtain ⟨bb, sb, tb, rfl⟩ := h'.agg
  subst hB
  unfold unst
  by_cases h1 : a < 0
  · have k1 : decide (a.num.sign < 0) = true := decide_eq_true (by have := mt sign_ge.1 (show ¬ 0 ≤ a by grind); omega)
    rw [decide_eq_true h1]
    by_cases h2 : 0 < b
    · rw [decide_eq_true h2]; exact rluns_2t _ _ rfl k1 rfl (decide_eq_true (by have := mt sign_le.1 (show ¬ b ≤ 0 by grind); omega)) h h' hL
    · rw [decide_eq_false h2]; exact rluns_2f _ _ rfl k1 rfl (decide_eq_false (by have := sign_le.2 (show b ≤ 0 by grind); omega)) h h' hL
  · rw [decide_eq_false h1]
    exact rluns_1 _ rfl (decide_eq_false (by have := sign_ge.2 (show 0 ≤ a by grind); omega)) h h' hL

set_option maxRecDepth 100000 in
set_option maxHeartbeats 4000000 in
theorem rlslo_1 {L : Nat} {qa : Rat} {ba : Bool} {sa ta : Value} {qb : Rat} {bb : Bool} {sb tb : Value} {w : World} (hu : unst qa qb = false) (ha : AR qa L w (.agg #[.bool ba, sa, ta])) (hb : AR qb L w (.agg #[.bool bb, sb, tb])) (hL : L ≤ 10000) :
    Calls Try.prog 17 #[.agg #[.bool ba, sa, ta], .agg #[.bool bb, sb, tb]] w (Ret w (Val (.int .i64 0))) := by
  have Ha := Lib.hid ha
  have Hb := Lib.hid hb
  have Hu := Lib.hid hu
  clear ha hb hu
  go_enter Try.func17, Try.ntmps17
  have HB := Lib.hid (Below.refl w.heap.size w)
  go_wp2_with fail
  obtain ⟨W1, hW⟩ : ∃ W1, W1 = (World.alloc (World.alloc w (.cells #[.bool ba, sa, ta] 25)) (.cells #[.bool bb, sb, tb] 25)) := ⟨_, rfl⟩
  rw [← hW]
  obtain ⟨xa0, xb0, hk, hb⟩ := boxes_2 _ _ _ _ _ hW
  clear hW
  have Ha := Lib.hid (AR.keep Ha.out hk)
  have Hb := Lib.hid (AR.keep Hb.out hk)
  have Ga0 := Lib.hid (show w.heap.size ≤ w.heap.size from Nat.le_trans HB.out.size (by omega))
  have Gb0 := Lib.hid (show w.heap.size ≤ w.heap.size + 1 from Nat.le_trans HB.out.size (by omega))
  have Xa0 := Lib.hid xa0
  have Xb0 := Lib.hid xb0
  have HB := Lib.hid (below_call HB.out hb)
  clear hk hb xa0 xb0
  have Ha := Lib.hid (AR.keep Ha.out (Keep.drew W1))
  have Hb := Lib.hid (AR.keep Hb.out (Keep.drew W1))
  have Xa0 := Lib.hid (Box.drew Xa0.out)
  have Xb0 := Lib.hid (Box.drew Xb0.out)
  have HB := Lib.hid (Below.drew HB.out)
  refine wp_region_float [] [] (by kernel_rfl) (by kernel_rfl) 15 (by kernel_rfl) Flok.nil ?_
  intro ok
  have Hok := Lib.hid ok
  clear ok
  have HG := Lib.hid (Below.refl (W1.drew).heap.size (W1.drew))
  refine good_pureX 0 (some 5) (Go.Op.load 25 (Go.Operand.tmp 2)) (none) (.agg #[.bool ba, sa, ta]) (by kernel_rfl) (by kernel_rfl) (by kernel_rfl) (fun _ _ _ h => h) (fun w' hw' => ?_) ?_
  · obtain ⟨ca00, ca01, ca02, fa00, fa01, fa02⟩ := (Box.se hw' Xa0.out notin0).c3
    first | (go_simp; done) | (go_simp; simp_all; done) | (go_simp; rfl)
  simp only [Act.put, List.setIfInBounds_toArray, List.set_cons_zero, List.set_cons_succ]
  refine good_pureX 1 (some 6) (Go.Op.load 25 (Go.Operand.tmp 3)) (none) (.agg #[.bool bb, sb, tb]) (by kernel_rfl) (by kernel_rfl) (by kernel_rfl) (fun _ _ _ h => h) (fun w' hw' => ?_) ?_
  · obtain ⟨cb00, cb01, cb02, fb00, fb01, fb02⟩ := (Box.se hw' Xb0.out notin0).c3
    first | (go_simp; done) | (go_simp; simp_all; done) | (go_simp; rfl)
  simp only [Act.put, List.setIfInBounds_toArray, List.set_cons_zero, List.set_cons_succ]
  refine good_callX 2 15 (some 7) #[Go.Operand.tmp 5, Go.Operand.tmp 6] #[25, 25] (none) #[.agg #[.bool ba, sa, ta], .agg #[.bool bb, sb, tb]] (by kernel_rfl) Hok.out (by kernel_rfl) (by kernel_rfl) (by kernel_rfl) (by kernel_rfl) rfl rfl rfl (by kernel_rfl) (fun w2 hb => ?_)
  have HG := Lib.hid (below_call HG.out hb)
  clear hb
  (first | (have hcall := rluns_ar Hu.out (AR.keep Ha.out (Keep.call HG.out)) (AR.keep Hb.out (Keep.call HG.out)) (by omega); refine Calls.mono hcall ?_; clear hcall) | refine Calls.mono (rluns_ar Hu.out (AR.keep Ha.out (Keep.call HG.out)) (AR.keep Hb.out (Keep.call HG.out)) (by omega)) ?_)
  rintro e w3 ⟨v3, rfl, rfl, hb⟩
  refine ⟨_, rfl, ?_, hb⟩
  have HG := Lib.hid (below_call HG.out hb)
  clear hb
  simp only [Act.put, List.setIfInBounds_toArray, List.set_cons_zero, List.set_cons_succ]
  refine good_pureX 3 (some 8) (Go.Op.move (Go.Operand.tmp 7)) (none) (.bool false) (by kernel_rfl) (by kernel_rfl) (by kernel_rfl) (fun _ _ _ h => h) (fun w' hw' => ?_) ?_
  · first | (go_simp; done) | (go_simp; simp_all; done) | (go_simp; rfl)
  simp only [Act.put, List.setIfInBounds_toArray, List.set_cons_zero, List.set_cons_succ]
  refine good_skipX 4 (some 9) (Go.Op.load 25 (Go.Operand.tmp 3)) (some (3, true)) (by kernel_rfl) (by kernel_rfl) (by kernel_rfl) (fun _ _ _ h => h) ?_
  simp only [Act.put, List.setIfInBounds_toArray, List.set_cons_zero, List.set_cons_succ]
  refine good_skipX 5 (some 10) (Go.Op.load 25 (Go.Operand.tmp 2)) (some (3, true)) (by kernel_rfl) (by kernel_rfl) (by kernel_rfl) (fun _ _ _ h => h) ?_
  simp only [Act.put, List.setIfInBounds_toArray, List.set_cons_zero, List.set_cons_succ]
  refine good_skipX 6 (some 11) (Go.Op.call { callee := Go.Callee.value (Go.Operand.func 43), args := #[Go.Operand.tmp 10], argTypes := #[25] }) (some (3, true)) (by kernel_rfl) (by kernel_rfl) (by kernel_rfl) (fun _ _ _ h => h) ?_
  simp only [Act.put, List.setIfInBounds_toArray, List.set_cons_zero, List.set_cons_succ]
  refine good_skipX 7 (some 12) (Go.Op.call { callee := Go.Callee.value (Go.Operand.func 42), args := #[Go.Operand.tmp 9, Go.Operand.tmp 11], argTypes := #[25, 25] }) (some (3, true)) (by kernel_rfl) (by kernel_rfl) (by kernel_rfl) (fun _ _ _ h => h) ?_
  simp only [Act.put, List.setIfInBounds_toArray, List.set_cons_zero, List.set_cons_succ]
  refine good_skipX 8 (some 13) (Go.Op.binOp Go.BinOp.gtr 3 (Go.Operand.tmp 12) (Go.Operand.const (Go.Value.int Go.IntKind.i64 0)) 3) (some (3, true)) (by kernel_rfl) (by kernel_rfl) (by kernel_rfl) (fun _ _ _ h => h) ?_
  simp only [Act.put, List.setIfInBounds_toArray, List.set_cons_zero, List.set_cons_succ]
  refine good_pureX 9 (some 14) (Go.Op.pick (Go.Operand.tmp 8) (Go.Operand.tmp 13) (Go.Operand.const (Go.Value.bool false))) (none) (.bool false) (by kernel_rfl) (by kernel_rfl) (by kernel_rfl) (fun _ _ _ h => h) (fun w' hw' => ?_) ?_
  · first | (go_simp; done) | (go_simp; simp_all; done) | (go_simp; rfl)
  simp only [Act.put, List.setIfInBounds_toArray, List.set_cons_zero, List.set_cons_succ]
  refine good_end0 0 (by kernel_rfl) (fun _ w4 hb => ?_)
  have HG := Lib.hid (below_call HG.out hb)
  clear hb
  have Xa0 := Lib.hid (Box.pcall HG.out Xa0.out)
  have Xb0 := Lib.hid (Box.pcall HG.out Xb0.out)
  have HB := Lib.hid (below_call HB.out HG.out)
  have HS := Lib.hid (SE.of (E := []) HG.out)
  refine wpAnyH_done (by kernel_rfl) ?_ _
  clear HG HS Hok 
  obtain ⟨ca00, ca01, ca02, fa00, fa01, fa02⟩ := Xa0.out.c3
  have la0 := Xa0.out.lt
  obtain ⟨cb00, cb01, cb02, fb00, fb01, fb02⟩ := Xb0.out.c3
  have lb0 := Xb0.out.lt
  go_wp2
  clear ca00 ca01 ca02 fa00 fa01 fa02 la0 cb00 cb01 cb02 fb00 fb01 fb02 lb0
  go_ret
  exact ⟨_, rfl, rfl, HB.out⟩


set_option maxRecDepth 100000 in
set_option maxHeartbeats 4000000 in
theorem rlslo_2t {L : Nat} {qa : Rat} {ba : Bool} {sa ta : Value} {qb : Rat} {bb : Bool} {sb tb : Value} {w : World} (hu : unst qa qb = true) (m : Int) (hm : cmpQ qb (-qa) = m) (hm0 : decide (0 < m) = true) (ha : AR qa L w (.agg #[.bool ba, sa, ta])) (hb : AR qb L w (.agg #[.bool bb, sb, tb])) (hL : L ≤ 10000) :
    Calls Try.prog 17 #[.agg #[.bool ba, sa, ta], .agg #[.bool bb, sb, tb]] w (Ret w (Val (.int .i64 1))) := by
  have Ha := Lib.hid ha
  have Hb := Lib.hid hb
  have Hu := Lib.hid hu
  have Hm := Lib.hid hm
  have Hm0 := Lib.hid hm0
  clear ha hb hu hm hm0
  go_enter Try.func17, Try.ntmps17
  have HB := Lib.hid (Below.refl w.heap.size w)
  go_wp2_with fail
  obtain ⟨W1, hW⟩ : ∃ W1, W1 = (World.alloc (World.alloc w (.cells #[.bool ba, sa, ta] 25)) (.cells #[.bool bb, sb, tb] 25)) := ⟨_, rfl⟩
  rw [← hW]
  obtain ⟨xa0, xb0, hk, hb⟩ := boxes_2 _ _ _ _ _ hW
  clear hW
  have Ha := Lib.hid (AR.keep Ha.out hk)
  have Hb := Lib.hid (AR.keep Hb.out hk)
  have Ga0 := Lib.hid (show w.heap.size ≤ w.heap.size from Nat.le_trans HB.out.size (by omega))
  have Gb0 := Lib.hid (show w.heap.size ≤ w.heap.size + 1 from Nat.le_trans HB.out.size (by omega))
  have Xa0 := Lib.hid xa0
  have Xb0 := Lib.hid xb0
  have HB := Lib.hid (below_call HB.out hb)
  clear hk hb xa0 xb0
  have Ha := Lib.hid (AR.keep Ha.out (Keep.drew W1))
  have Hb := Lib.hid (AR.keep Hb.out (Keep.drew W1))
  have Xa0 := Lib.hid (Box.drew Xa0.out)
  have Xb0 := Lib.hid (Box.drew Xb0.out)
  have HB := Lib.hid (Below.drew HB.out)
  refine wp_region_float [] [] (by kernel_rfl) (by kernel_rfl) 15 (by kernel_rfl) Flok.nil ?_
  intro ok
  have Hok := Lib.hid ok
  clear ok
  have HG := Lib.hid (Below.refl (W1.drew).heap.size (W1.drew))
  refine good_pureX 0 (some 5) (Go.Op.load 25 (Go.Operand.tmp 2)) (none) (.agg #[.bool ba, sa, ta]) (by kernel_rfl) (by kernel_rfl) (by kernel_rfl) (fun _ _ _ h => h) (fun w' hw' => ?_) ?_
  · obtain ⟨ca00, ca01, ca02, fa00, fa01, fa02⟩ := (Box.se hw' Xa0.out notin0).c3
    first | (go_simp; done) | (go_simp; simp_all; done) | (go_simp; rfl)
  simp only [Act.put, List.setIfInBounds_toArray, List.set_cons_zero, List.set_cons_succ]
  refine good_pureX 1 (some 6) (Go.Op.load 25 (Go.Operand.tmp 3)) (none) (.agg #[.bool bb, sb, tb]) (by kernel_rfl) (by kernel_rfl) (by kernel_rfl) (fun _ _ _ h => h) (fun w' hw' => ?_) ?_
  · obtain ⟨cb00, cb01, cb02, fb00, fb01, fb02⟩ := (Box.se hw' Xb0.out notin0).c3
    first | (go_simp; done) | (go_simp; simp_all; done) | (go_simp; rfl)
  simp only [Act.put, List.setIfInBounds_toArray, List.set_cons_zero, List.set_cons_succ]
  refine good_callX 2 15 (some 7) #[Go.Operand.tmp 5, Go.Operand.tmp 6] #[25, 25] (none) #[.agg #[.bool ba, sa, ta], .agg #[.bool bb, sb, tb]] (by kernel_rfl) Hok.out (by kernel_rfl) (by kernel_rfl) (by kernel_rfl) (by kernel_rfl) rfl rfl rfl (by kernel_rfl) (fun w2 hb => ?_)
  have HG := Lib.hid (below_call HG.out hb)
  clear hb
  (first | (have hcall := rluns_ar Hu.out (AR.keep Ha.out (Keep.call HG.out)) (AR.keep Hb.out (Keep.call HG.out)) (by omega); refine Calls.mono hcall ?_; clear hcall) | refine Calls.mono (rluns_ar Hu.out (AR.keep Ha.out (Keep.call HG.out)) (AR.keep Hb.out (Keep.call HG.out)) (by omega)) ?_)
  rintro e w3 ⟨v3, rfl, rfl, hb⟩
  refine ⟨_, rfl, ?_, hb⟩
  have HG := Lib.hid (below_call HG.out hb)
  clear hb
  simp only [Act.put, List.setIfInBounds_toArray, List.set_cons_zero, List.set_cons_succ]
  refine good_pureX 3 (some 8) (Go.Op.move (Go.Operand.tmp 7)) (none) (.bool true) (by kernel_rfl) (by kernel_rfl) (by kernel_rfl) (fun _ _ _ h => h) (fun w' hw' => ?_) ?_
  · first | (go_simp; done) | (go_simp; simp_all; done) | (go_simp; rfl)
  simp only [Act.put, List.setIfInBounds_toArray, List.set_cons_zero, List.set_cons_succ]
  refine good_pureX 4 (some 9) (Go.Op.load 25 (Go.Operand.tmp 3)) (some (3, true)) (.agg #[.bool bb, sb, tb]) (by kernel_rfl) (by kernel_rfl) (by kernel_rfl) (fun _ _ _ h => h) (fun w' hw' => ?_) ?_
  · obtain ⟨cb00, cb01, cb02, fb00, fb01, fb02⟩ := (Box.se hw' Xb0.out notin0).c3
    first | (go_simp; done) | (go_simp; simp_all; done) | (go_simp; rfl)
  simp only [Act.put, List.setIfInBounds_toArray, List.set_cons_zero, List.set_cons_succ]
  refine good_pureX 5 (some 10) (Go.Op.load 25 (Go.Operand.tmp 2)) (some (3, true)) (.agg #[.bool ba, sa, ta]) (by kernel_rfl) (by kernel_rfl) (by kernel_rfl) (fun _ _ _ h => h) (fun w' hw' => ?_) ?_
  · obtain ⟨ca00, ca01, ca02, fa00, fa01, fa02⟩ := (Box.se hw' Xa0.out notin0).c3
    first | (go_simp; done) | (go_simp; simp_all; done) | (go_simp; rfl)
  simp only [Act.put, List.setIfInBounds_toArray, List.set_cons_zero, List.set_cons_succ]
  refine good_callX 6 43 (some 11) #[Go.Operand.tmp 10] #[25] (some (3, true)) #[.agg #[.bool ba, sa, ta]] (by kernel_rfl) Hok.out (by kernel_rfl) (by kernel_rfl) (by kernel_rfl) (by kernel_rfl) rfl rfl rfl (by kernel_rfl) (fun w4 hb => ?_)
  have HG := Lib.hid (below_call HG.out hb)
  clear hb
  (first | (have hcall := rneg_ar (AR.keep Ha.out (Keep.call HG.out)) (by omega); refine Calls.mono hcall ?_; clear hcall) | refine Calls.mono (rneg_ar (AR.keep Ha.out (Keep.call HG.out)) (by omega)) ?_)
  rintro e w5 ⟨v5, rfl, hn, hb⟩
  obtain ⟨n_b, n_a, n_n, n_c, n_d, n_m, n_e, rfl⟩ := hn.litb
  refine ⟨_, rfl, ?_, hb⟩
  have HG := Lib.hid (below_call HG.out hb)
  have Hn := Lib.hid hn
  clear hb hn
  simp only [Act.put, List.setIfInBounds_toArray, List.set_cons_zero, List.set_cons_succ]
  refine good_callX 7 42 (some 12) #[Go.Operand.tmp 9, Go.Operand.tmp 11] #[25, 25] (some (3, true)) #[.agg #[.bool bb, sb, tb], .agg #[.bool n_b, .slice n_a n_n n_c, .slice n_d n_m n_e]] (by kernel_rfl) Hok.out (by kernel_rfl) (by kernel_rfl) (by kernel_rfl) (by kernel_rfl) rfl rfl rfl (by kernel_rfl) (fun w6 hb => ?_)
  have Hn := Lib.hid (CR.keep Hn.out (Keep.call hb))
  have HG := Lib.hid (below_call HG.out hb)
  clear hb
  (first | (have hcall := rcmp_ar m (AR.keep Hb.out (Keep.call HG.out)) Hn.out.ar Hm.out (by omega) (by omega); refine Calls.mono hcall ?_; clear hcall) | refine Calls.mono (rcmp_ar m (AR.keep Hb.out (Keep.call HG.out)) Hn.out.ar Hm.out (by omega) (by omega)) ?_)
  rintro e w7 ⟨v7, rfl, ⟨⟩, hb⟩
  refine ⟨_, rfl, ?_, hb⟩
  have HG := Lib.hid (below_call HG.out hb)
  clear hb
  simp only [Act.put, List.setIfInBounds_toArray, List.set_cons_zero, List.set_cons_succ]
  have hm0 : decide (0 < m) = true := Hm0.out
  refine good_pureX 8 (some 13) (Go.Op.binOp Go.BinOp.gtr 3 (Go.Operand.tmp 12) (Go.Operand.const (Go.Value.int Go.IntKind.i64 0)) 3) (some (3, true)) (.bool true) (by kernel_rfl) (by kernel_rfl) (by kernel_rfl) (fun _ _ _ h => h) (fun w' hw' => ?_) ?_
  · first | (go_simp; done) | (go_simp; simp_all; done) | (go_simp; rfl)
  simp only [Act.put, List.setIfInBounds_toArray, List.set_cons_zero, List.set_cons_succ]
  refine good_pureX 9 (some 14) (Go.Op.pick (Go.Operand.tmp 8) (Go.Operand.tmp 13) (Go.Operand.const (Go.Value.bool false))) (none) (.bool true) (by kernel_rfl) (by kernel_rfl) (by kernel_rfl) (fun _ _ _ h => h) (fun w' hw' => ?_) ?_
  · first | (go_simp; done) | (go_simp; simp_all; done) | (go_simp; rfl)
  simp only [Act.put, List.setIfInBounds_toArray, List.set_cons_zero, List.set_cons_succ]
  refine good_end0 0 (by kernel_rfl) (fun _ w8 hb => ?_)
  have HG := Lib.hid (below_call HG.out hb)
  clear hb
  have Xa0 := Lib.hid (Box.pcall HG.out Xa0.out)
  have Xb0 := Lib.hid (Box.pcall HG.out Xb0.out)
  have HB := Lib.hid (below_call HB.out HG.out)
  have HS := Lib.hid (SE.of (E := []) HG.out)
  refine wpAnyH_done (by kernel_rfl) ?_ _
  clear HG HS Hok 
  obtain ⟨ca00, ca01, ca02, fa00, fa01, fa02⟩ := Xa0.out.c3
  have la0 := Xa0.out.lt
  obtain ⟨cb00, cb01, cb02, fb00, fb01, fb02⟩ := Xb0.out.c3
  have lb0 := Xb0.out.lt
  go_wp2
  clear ca00 ca01 ca02 fa00 fa01 fa02 la0 cb00 cb01 cb02 fb00 fb01 fb02 lb0
  go_ret
  exact ⟨_, rfl, rfl, HB.out⟩


set_option maxRecDepth 100000 in
set_option maxHeartbeats 4000000 in
theorem rlslo_2f {L : Nat} {qa : Rat} {ba : Bool} {sa ta : Value} {qb : Rat} {bb : Bool} {sb tb : Value} {w : World} (hu : unst qa qb = true) (m : Int) (hm : cmpQ qb (-qa) = m) (hm0 : decide (0 < m) = false) (ha : AR qa L w (.agg #[.bool ba, sa, ta])) (hb : AR qb L w (.agg #[.bool bb, sb, tb])) (hL : L ≤ 10000) :
    Calls Try.prog 17 #[.agg #[.bool ba, sa, ta], .agg #[.bool bb, sb, tb]] w (Ret w (Val (.int .i64 0))) := by
  have Ha := Lib.hid ha
  have Hb := Lib.hid hb
  have Hu := Lib.hid hu
  have Hm := Lib.hid hm
  have Hm0 := Lib.hid hm0
  clear ha hb hu hm hm0
  go_enter Try.func17, Try.ntmps17
  have HB := Lib.hid (Below.refl w.heap.size w)
  go_wp2_with fail
  obtain ⟨W1, hW⟩ : ∃ W1, W1 = (World.alloc (World.alloc w (.cells #[.bool ba, sa, ta] 25)) (.cells #[.bool bb, sb, tb] 25)) := ⟨_, rfl⟩
  rw [← hW]
  obtain ⟨xa0, xb0, hk, hb⟩ := boxes_2 _ _ _ _ _ hW
  clear hW
  have Ha := Lib.hid (AR.keep Ha.out hk)
  have Hb := Lib.hid (AR.keep Hb.out hk)
  have Ga0 := Lib.hid (show w.heap.size ≤ w.heap.size from Nat.le_trans HB.out.size (by omega))
  have Gb0 := Lib.hid (show w.heap.size ≤ w.heap.size + 1 from Nat.le_trans HB.out.size (by omega))
  have Xa0 := Lib.hid xa0
  have Xb0 := Lib.hid xb0
  have HB := Lib.hid (below_call HB.out hb)
  clear hk hb xa0 xb0
  have Ha := Lib.hid (AR.keep Ha.out (Keep.drew W1))
  have Hb := Lib.hid (AR.keep Hb.out (Keep.drew W1))
  have Xa0 := Lib.hid (Box.drew Xa0.out)
  have Xb0 := Lib.hid (Box.drew Xb0.out)
  have HB := Lib.hid (Below.drew HB.out)
  refine wp_region_float [] [] (by kernel_rfl) (by kernel_rfl) 15 (by kernel_rfl) Flok.nil ?_
  intro ok
  have Hok := Lib.hid ok
  clear ok
  have HG := Lib.hid (Below.refl (W1.drew).heap.size (W1.drew))
  refine good_pureX 0 (some 5) (Go.Op.load 25 (Go.Operand.tmp 2)) (none) (.agg #[.bool ba, sa, ta]) (by kernel_rfl) (by kernel_rfl) (by kernel_rfl) (fun _ _ _ h => h) (fun w' hw' => ?_) ?_
  · obtain ⟨ca00, ca01, ca02, fa00, fa01, fa02⟩ := (Box.se hw' Xa0.out notin0).c3
    first | (go_simp; done) | (go_simp; simp_all; done) | (go_simp; rfl)
  simp only [Act.put, List.setIfInBounds_toArray, List.set_cons_zero, List.set_cons_succ]
  refine good_pureX 1 (some 6) (Go.Op.load 25 (Go.Operand.tmp 3)) (none) (.agg #[.bool bb, sb, tb]) (by kernel_rfl) (by kernel_rfl) (by kernel_rfl) (fun _ _ _ h => h) (fun w' hw' => ?_) ?_
  · obtain ⟨cb00, cb01, cb02, fb00, fb01, fb02⟩ := (Box.se hw' Xb0.out notin0).c3
    first | (go_simp; done) | (go_simp; simp_all; done) | (go_simp; rfl)
  simp only [Act.put, List.setIfInBounds_toArray, List.set_cons_zero, List.set_cons_succ]
  refine good_callX 2 15 (some 7) #[Go.Operand.tmp 5, Go.Operand.tmp 6] #[25, 25] (none) #[.agg #[.bool ba, sa, ta], .agg #[.bool bb, sb, tb]] (by kernel_rfl) Hok.out (by kernel_rfl) (by kernel_rfl) (by kernel_rfl) (by kernel_rfl) rfl rfl rfl (by kernel_rfl) (fun w2 hb => ?_)
  have HG := Lib.hid (below_call HG.out hb)
  clear hb
  (first | (have hcall := rluns_ar Hu.out (AR.keep Ha.out (Keep.call HG.out)) (AR.keep Hb.out (Keep.call HG.out)) (by omega); refine Calls.mono hcall ?_; clear hcall) | refine Calls.mono (rluns_ar Hu.out (AR.keep Ha.out (Keep.call HG.out)) (AR.keep Hb.out (Keep.call HG.out)) (by omega)) ?_)
  rintro e w3 ⟨v3, rfl, rfl, hb⟩
  refine ⟨_, rfl, ?_, hb⟩
  have HG := Lib.hid (below_call HG.out hb)
  clear hb
  simp only [Act.put, List.setIfInBounds_toArray, List.set_cons_zero, List.set_cons_succ]
  refine good_pureX 3 (some 8) (Go.Op.move (Go.Operand.tmp 7)) (none) (.bool true) (by kernel_rfl) (by kernel_rfl) (by kernel_rfl) (fun _ _ _ h => h) (fun w' hw' => ?_) ?_
  · first | (go_simp; done) | (go_simp; simp_all; done) | (go_simp; rfl)
  simp only [Act.put, List.setIfInBounds_toArray, List.set_cons_zero, List.set_cons_succ]
  refine good_pureX 4 (some 9) (Go.Op.load 25 (Go.Operand.tmp 3)) (some (3, true)) (.agg #[.bool bb, sb, tb]) (by kernel_rfl) (by kernel_rfl) (by kernel_rfl) (fun _ _ _ h => h) (fun w' hw' => ?_) ?_
  · obtain ⟨cb00, cb01, cb02, fb00, fb01, fb02⟩ := (Box.se hw' Xb0.out notin0).c3
    first | (go_simp; done) | (go_simp; simp_all; done) | (go_simp; rfl)
  simp only [Act.put, List.setIfInBounds_toArray, List.set_cons_zero, List.set_cons_succ]
  refine good_pureX 5 (some 10) (Go.Op.load 25 (Go.Operand.tmp 2)) (some (3, true)) (.agg #[.bool ba, sa, ta]) (by kernel_rfl) (by kernel_rfl) (by kernel_rfl) (fun _ _ _ h => h) (fun w' hw' => ?_) ?_
  · obtain ⟨ca00, ca01, ca02, fa00, fa01, fa02⟩ := (Box.se hw' Xa0.out notin0).c3
    first | (go_simp; done) | (go_simp; simp_all; done) | (go_simp; rfl)
  simp only [Act.put, List.setIfInBounds_toArray, List.set_cons_zero, List.set_cons_succ]
  refine good_callX 6 43 (some 11) #[Go.Operand.tmp 10] #[25] (some (3, true)) #[.agg #[.bool ba, sa, ta]] (by kernel_rfl) Hok.out (by kernel_rfl) (by kernel_rfl) (by kernel_rfl) (by kernel_rfl) rfl rfl rfl (by kernel_rfl) (fun w4 hb => ?_)
  have HG := Lib.hid (below_call HG.out hb)
  clear hb
  (first | (have hcall := rneg_ar (AR.keep Ha.out (Keep.call HG.out)) (by omega); refine Calls.mono hcall ?_; clear hcall) | refine Calls.mono (rneg_ar (AR.keep Ha.out (Keep.call HG.out)) (by omega)) ?_)
  rintro e w5 ⟨v5, rfl, hn, hb⟩
  obtain ⟨n_b, n_a, n_n, n_c, n_d, n_m, n_e, rfl⟩ := hn.litb
  refine ⟨_, rfl, ?_, hb⟩
  have HG := Lib.hid (below_call HG.out hb)
  have Hn := Lib.hid hn
  clear hb hn
  simp only [Act.put, List.setIfInBounds_toArray, List.set_cons_zero, List.set_cons_succ]
  refine good_callX 7 42 (some 12) #[Go.Operand.tmp 9, Go.Operand.tmp 11] #[25, 25] (some (3, true)) #[.agg #[.bool bb, sb, tb], .agg #[.bool n_b, .slice n_a n_n n_c, .slice n_d n_m n_e]] (by kernel_rfl) Hok.out (by kernel_rfl) (by kernel_rfl) (by kernel_rfl) (by kernel_rfl) rfl rfl rfl (by kernel_rfl) (fun w6 hb => ?_)
  have Hn := Lib.hid (CR.keep Hn.out (Keep.call hb))
  have HG := Lib.hid (below_call HG.out hb)
  clear hb
  (first | (have hcall := rcmp_ar m (AR.keep Hb.out (Keep.call HG.out)) Hn.out.ar Hm.out (by omega) (by omega); refine Calls.mono hcall ?_; clear hcall) | refine Calls.mono (rcmp_ar m (AR.keep Hb.out (Keep.call HG.out)) Hn.out.ar Hm.out (by omega) (by omega)) ?_)
  rintro e w7 ⟨v7, rfl, ⟨⟩, hb⟩
  refine ⟨_, rfl, ?_, hb⟩
  have HG := Lib.hid (below_call HG.out hb)
  clear hb
  simp only [Act.put, List.setIfInBounds_toArray, List.set_cons_zero, List.set_cons_succ]
  have hm0 : decide (0 < m) = false := Hm0.out
  refine good_pureX 8 (some 13) (Go.Op.binOp Go.BinOp.gtr 3 (Go.Operand.tmp 12) (Go.Operand.const (Go.Value.int Go.IntKind.i64 0)) 3) (some (3, true)) (.bool false) (by kernel_rfl) (by kernel_rfl) (by kernel_rfl) (fun _ _ _ h => h) (fun w' hw' => ?_) ?_
  · first | (go_simp; done) | (go_simp; simp_all; done) | (go_simp; rfl)
  simp only [Act.put, List.setIfInBounds_toArray, List.set_cons_zero, List.set_cons_succ]
  refine good_pureX 9 (some 14) (Go.Op.pick (Go.Operand.tmp 8) (Go.Operand.tmp 13) (Go.Operand.const (Go.Value.bool false))) (none) (.bool false) (by kernel_rfl) (by kernel_rfl) (by kernel_rfl) (fun _ _ _ h => h) (fun w' hw' => ?_) ?_
  · first | (go_simp; done) | (go_simp; simp_all; done) | (go_simp; rfl)
  simp only [Act.put, List.setIfInBounds_toArray, List.set_cons_zero, List.set_cons_succ]
  refine good_end0 0 (by kernel_rfl) (fun _ w8 hb => ?_)
  have HG := Lib.hid (below_call HG.out hb)
  clear hb
  have Xa0 := Lib.hid (Box.pcall HG.out Xa0.out)
  have Xb0 := Lib.hid (Box.pcall HG.out Xb0.out)
  have HB := Lib.hid (below_call HB.out HG.out)
  have HS := Lib.hid (SE.of (E := []) HG.out)
  refine wpAnyH_done (by kernel_rfl) ?_ _
  clear HG HS Hok 
  obtain ⟨ca00, ca01, ca02, fa00, fa01, fa02⟩ := Xa0.out.c3
  have la0 := Xa0.out.lt
  obtain ⟨cb00, cb01, cb02, fb00, fb01, fb02⟩ := Xb0.out.c3
  have lb0 := Xb0.out.lt
  go_wp2
  clear ca00 ca01 ca02 fa00 fa01 fa02 la0 cb00 cb01 cb02 fb00 fb01 fb02 lb0
  go_ret
  exact ⟨_, rfl, rfl, HB.out⟩


theorem rlslo_ar {a b : Rat} {L : Nat} {u v : Value} {w : World} (k : Int) (hk : slopeQ a b = k) (h : AR a L w u) (h' : AR b L w v) (hL : L ≤ 10000) : Calls Try.prog 17 #[u, v] w (Ret w (Val (.int .i64 k))) := by
  obtain ⟨ba, sa, ta, rfl⟩ := h.agg
  obtain ⟨bb, sb, tb, rfl⟩ := h'.agg
  subst hk
  unfold slopeQ
  cases hu : unst a b
  · exact rlslo_1 hu h h' hL
  · by_cases h2 : 0 < a + b
    · rw [decide_eq_true h2]; exact rlslo_2t hu _ rfl (decide_eq_true (by have := mt (@cmpQ_le b (-a)).1 (show ¬ b ≤ -a by grind); omega)) h h' hL
    · rw [decide_eq_false h2]; exact rlslo_2f hu _ rfl (decide_eq_false (by have := (@cmpQ_le b (-a)).2 (show b ≤ -a by grind); omega)) h h' hL

set_option maxRecDepth 100000 in
set_option maxHeartbeats 4000000 in
theorem rlgap_1 {L : Nat} {qa : Rat} {ba : Bool} {sa ta : Value} {qb : Rat} {bb : Bool} {sb tb : Value} {w : World} (hu : unst qa qb = false) (ha : AR qa L w (.agg #[.bool ba, sa, ta])) (hb : AR qb L w (.agg #[.bool bb, sb, tb])) (hL : L ≤ 10000) :
    Calls Try.prog 19 #[.agg #[.bool ba, sa, ta], .agg #[.bool bb, sb, tb]] w (Ret w (CR 0 1)) := by
  have Ha := Lib.hid ha
  have Hb := Lib.hid hb
  have Hu := Lib.hid hu
  clear ha hb hu
  go_enter Try.func19, Try.ntmps19
  have HB := Lib.hid (Below.refl w.heap.size w)
  go_wp2_with fail
  obtain ⟨W1, hW⟩ : ∃ W1, W1 = (World.alloc (World.alloc (World.alloc w (.cells #[.bool ba, sa, ta] 25)) (.cells #[.bool bb, sb, tb] 25)) (.cells #[.bool false, .slice none 0 0, .slice none 0 0] 25)) := ⟨_, rfl⟩
  rw [← hW]
  obtain ⟨xa0, xb0, xc0, hk, hb⟩ := boxes_3 _ _ _ _ _ _ _ hW
  clear hW
  have Ha := Lib.hid (AR.keep Ha.out hk)
  have Hb := Lib.hid (AR.keep Hb.out hk)
  have Ga0 := Lib.hid (show w.heap.size ≤ w.heap.size from Nat.le_trans HB.out.size (by omega))
  have Gb0 := Lib.hid (show w.heap.size ≤ w.heap.size + 1 from Nat.le_trans HB.out.size (by omega))
  have Gc0 := Lib.hid (show w.heap.size ≤ w.heap.size + 1 + 1 from Nat.le_trans HB.out.size (by omega))
  have Xa0 := Lib.hid xa0
  have Xb0 := Lib.hid xb0
  have Xc0 := Lib.hid xc0
  have HB := Lib.hid (below_call HB.out hb)
  clear hk hb xa0 xb0 xc0
  (first | (have hcall := rluns_ar Hu.out Ha.out Hb.out (by omega); refine Calls.mono hcall ?_; clear hcall) | refine Calls.mono (rluns_ar Hu.out Ha.out Hb.out (by omega)) ?_)
  rintro e w2 ⟨v2, rfl, rfl, hb⟩
  have Xa0 := Lib.hid (Box.pcall hb Xa0.out)
  have Xb0 := Lib.hid (Box.pcall hb Xb0.out)
  have Xc0 := Lib.hid (Box.pcall hb Xc0.out)
  have HB := Lib.hid (below_call HB.out hb)
  clear hb
  obtain ⟨ca00, ca01, ca02, fa00, fa01, fa02⟩ := Xa0.out.c3
  have la0 := Xa0.out.lt
  obtain ⟨cb00, cb01, cb02, fb00, fb01, fb02⟩ := Xb0.out.c3
  have lb0 := Xb0.out.lt
  obtain ⟨cc00, cc01, cc02, fc00, fc01, fc02⟩ := Xc0.out.c3
  have lc0 := Xc0.out.lt
  go_wp2
  clear ca00 ca01 ca02 fa00 fa01 fa02 la0 cb00 cb01 cb02 fb00 fb01 fb02 lb0 cc00 cc01 cc02 fc00 fc01 fc02 lc0
  obtain ⟨W3, hW⟩ : ∃ W3, W3 = (World.setCell (World.setCell (World.setCell w2 ⟨w.heap.size + 1 + 1, 0, none⟩ (.bool false)) ⟨w.heap.size + 1 + 1, 1, none⟩ (.slice none 0 0)) ⟨w.heap.size + 1 + 1, 2, none⟩ (.slice none 0 0)) := ⟨_, rfl⟩
  rw [← hW]
  obtain ⟨xc0, hk, hf, hbb, hz⟩ := stored3s hW Xc0.out (by first | exact NoInt.bool _ | exact NoInt.slice _ _ _) (by first | exact NoInt.bool _ | exact NoInt.slice _ _ _) (by first | exact NoInt.bool _ | exact NoInt.slice _ _ _)
  have Xa0 := Lib.hid (hf _ _ _ Xa0.out (by omega))
  have Xb0 := Lib.hid (hf _ _ _ Xb0.out (by omega))
  have Xc0 := Lib.hid xc0
  have HB := Lib.hid (hbb _ HB.out Gc0.out)
  clear hW hk hf hbb xc0
  clear hz
  exact ret_rat1 rfl rfl rfl Xc0.out (CR.zero _) HB.out


set_option maxRecDepth 100000 in
set_option maxHeartbeats 4000000 in
theorem rlgap_2 {L : Nat} {qa : Rat} {ba : Bool} {sa ta : Value} {qb : Rat} {bb : Bool} {sb tb : Value} {w : World} (hu : unst qa qb = true) (hn0 : qb - qa ≠ 0) (ha : AR qa L w (.agg #[.bool ba, sa, ta])) (hb : AR qb L w (.agg #[.bool bb, sb, tb])) (hL : L ≤ 10000) :
    Calls Try.prog 19 #[.agg #[.bool ba, sa, ta], .agg #[.bool bb, sb, tb]] w (Ret w (CR (-(qa * qb) / (qb - qa)) (L + L + L + L + 20))) := by
  have Ha := Lib.hid ha
  have Hb := Lib.hid hb
  have Hu := Lib.hid hu
  have Hn0 := Lib.hid hn0
  clear ha hb hu hn0
  go_enter Try.func19, Try.ntmps19
  have HB := Lib.hid (Below.refl w.heap.size w)
  go_wp2_with fail
  obtain ⟨W1, hW⟩ : ∃ W1, W1 = (World.alloc (World.alloc (World.alloc w (.cells #[.bool ba, sa, ta] 25)) (.cells #[.bool bb, sb, tb] 25)) (.cells #[.bool false, .slice none 0 0, .slice none 0 0] 25)) := ⟨_, rfl⟩
  rw [← hW]
  obtain ⟨xa0, xb0, xc0, hk, hb⟩ := boxes_3 _ _ _ _ _ _ _ hW
  clear hW
  have Ha := Lib.hid (AR.keep Ha.out hk)
  have Hb := Lib.hid (AR.keep Hb.out hk)
  have Ga0 := Lib.hid (show w.heap.size ≤ w.heap.size from Nat.le_trans HB.out.size (by omega))
  have Gb0 := Lib.hid (show w.heap.size ≤ w.heap.size + 1 from Nat.le_trans HB.out.size (by omega))
  have Gc0 := Lib.hid (show w.heap.size ≤ w.heap.size + 1 + 1 from Nat.le_trans HB.out.size (by omega))
  have Xa0 := Lib.hid xa0
  have Xb0 := Lib.hid xb0
  have Xc0 := Lib.hid xc0
  have HB := Lib.hid (below_call HB.out hb)
  clear hk hb xa0 xb0 xc0
  (first | (have hcall := rluns_ar Hu.out Ha.out Hb.out (by omega); refine Calls.mono hcall ?_; clear hcall) | refine Calls.mono (rluns_ar Hu.out Ha.out Hb.out (by omega)) ?_)
  rintro e w2 ⟨v2, rfl, rfl, hb⟩
  have Ha := Lib.hid (AR.keep Ha.out (Keep.call hb))
  have Hb := Lib.hid (AR.keep Hb.out (Keep.call hb))
  have Xa0 := Lib.hid (Box.pcall hb Xa0.out)
  have Xb0 := Lib.hid (Box.pcall hb Xb0.out)
  have Xc0 := Lib.hid (Box.pcall hb Xc0.out)
  have HB := Lib.hid (below_call HB.out hb)
  clear hb
  obtain ⟨ca00, ca01, ca02, fa00, fa01, fa02⟩ := Xa0.out.c3
  have la0 := Xa0.out.lt
  obtain ⟨cb00, cb01, cb02, fb00, fb01, fb02⟩ := Xb0.out.c3
  have lb0 := Xb0.out.lt
  obtain ⟨cc00, cc01, cc02, fc00, fc01, fc02⟩ := Xc0.out.c3
  have lc0 := Xc0.out.lt
  go_wp2_with fail
  clear ca00 ca01 ca02 fa00 fa01 fa02 la0 cb00 cb01 cb02 fb00 fb01 fb02 lb0 cc00 cc01 cc02 fc00 fc01 fc02 lc0
  have Ha := Lib.hid (AR.keep Ha.out (Keep.drew w2))
  have Hb := Lib.hid (AR.keep Hb.out (Keep.drew w2))
  have Xa0 := Lib.hid (Box.drew Xa0.out)
  have Xb0 := Lib.hid (Box.drew Xb0.out)
  have Xc0 := Lib.hid (Box.drew Xc0.out)
  have HB := Lib.hid (Below.drew HB.out)
  refine wp_region_float [w.heap.size + 1 + 1] [] (by kernel_rfl) (by kernel_rfl) 18 (by kernel_rfl) Flok.nil ?_
  intro ok
  have Hok := Lib.hid ok
  clear ok
  have HG := Lib.hid (Below.refl (w2.drew).heap.size (w2.drew))
  refine good_pureX 0 (some 10) (Go.Op.load 25 (Go.Operand.tmp 2)) (none) (.agg #[.bool ba, sa, ta]) (by kernel_rfl) (by kernel_rfl) (by kernel_rfl) (fun _ _ _ h => h) (fun w' hw' => ?_) ?_
  · obtain ⟨ca00, ca01, ca02, fa00, fa01, fa02⟩ := (Box.se hw' Xa0.out (notin1 (by omega))).c3
    first | (go_simp; done) | (go_simp; simp_all; done) | (go_simp; rfl)
  simp only [Act.put, List.setIfInBounds_toArray, List.set_cons_zero, List.set_cons_succ]
  refine good_pureX 1 (some 11) (Go.Op.load 25 (Go.Operand.tmp 3)) (none) (.agg #[.bool bb, sb, tb]) (by kernel_rfl) (by kernel_rfl) (by kernel_rfl) (fun _ _ _ h => h) (fun w' hw' => ?_) ?_
  · obtain ⟨cb00, cb01, cb02, fb00, fb01, fb02⟩ := (Box.se hw' Xb0.out (notin1 (by omega))).c3
    first | (go_simp; done) | (go_simp; simp_all; done) | (go_simp; rfl)
  simp only [Act.put, List.setIfInBounds_toArray, List.set_cons_zero, List.set_cons_succ]
  refine good_pureX 4 (some 14) (Go.Op.load 25 (Go.Operand.tmp 3)) (none) (.agg #[.bool bb, sb, tb]) (by kernel_rfl) (by kernel_rfl) (by kernel_rfl) (fun _ _ _ h => h) (fun w' hw' => ?_) ?_
  · obtain ⟨cb00, cb01, cb02, fb00, fb01, fb02⟩ := (Box.se hw' Xb0.out (notin1 (by omega))).c3
    first | (go_simp; done) | (go_simp; simp_all; done) | (go_simp; rfl)
  simp only [Act.put, List.setIfInBounds_toArray, List.set_cons_zero, List.set_cons_succ]
  refine good_pureX 5 (some 15) (Go.Op.load 25 (Go.Operand.tmp 2)) (none) (.agg #[.bool ba, sa, ta]) (by kernel_rfl) (by kernel_rfl) (by kernel_rfl) (fun _ _ _ h => h) (fun w' hw' => ?_) ?_
  · obtain ⟨ca00, ca01, ca02, fa00, fa01, fa02⟩ := (Box.se hw' Xa0.out (notin1 (by omega))).c3
    first | (go_simp; done) | (go_simp; simp_all; done) | (go_simp; rfl)
  simp only [Act.put, List.setIfInBounds_toArray, List.set_cons_zero, List.set_cons_succ]
  refine good_callX 2 44 (some 12) #[Go.Operand.tmp 10, Go.Operand.tmp 11] #[25, 25] (none) #[.agg #[.bool ba, sa, ta], .agg #[.bool bb, sb, tb]] (by kernel_rfl) Hok.out (by kernel_rfl) (by kernel_rfl) (by kernel_rfl) (by kernel_rfl) rfl rfl rfl (by kernel_rfl) (fun w3 hb => ?_)
  have HG := Lib.hid (below_call HG.out hb)
  clear hb
  (first | (have hcall := rmul_ar (AR.keep Ha.out (Keep.call HG.out)) (AR.keep Hb.out (Keep.call HG.out)) (by omega) (by omega); refine Calls.mono hcall ?_; clear hcall) | refine Calls.mono (rmul_ar (AR.keep Ha.out (Keep.call HG.out)) (AR.keep Hb.out (Keep.call HG.out)) (by omega) (by omega)) ?_)
  rintro e w4 ⟨v4, rfl, hm, hb⟩
  obtain ⟨m_b, m_a, m_n, m_c, m_d, m_m, m_e, rfl⟩ := hm.litb
  refine ⟨_, rfl, ?_, hb⟩
  have HG := Lib.hid (below_call HG.out hb)
  have Hm := Lib.hid hm
  clear hb hm
  simp only [Act.put, List.setIfInBounds_toArray, List.set_cons_zero, List.set_cons_succ]
  refine good_callX 3 43 (some 13) #[Go.Operand.tmp 12] #[25] (none) #[.agg #[.bool m_b, .slice m_a m_n m_c, .slice m_d m_m m_e]] (by kernel_rfl) Hok.out (by kernel_rfl) (by kernel_rfl) (by kernel_rfl) (by kernel_rfl) rfl rfl rfl (by kernel_rfl) (fun w5 hb => ?_)
  have Hm := Lib.hid (CR.keep Hm.out (Keep.call hb))
  have HG := Lib.hid (below_call HG.out hb)
  clear hb
  (first | (have hcall := rneg_ar Hm.out.ar (by omega); refine Calls.mono hcall ?_; clear hcall) | refine Calls.mono (rneg_ar Hm.out.ar (by omega)) ?_)
  rintro e w6 ⟨v6, rfl, hn, hb⟩
  obtain ⟨n_b, n_a, n_n, n_c, n_d, n_m, n_e, rfl⟩ := hn.litb
  refine ⟨_, rfl, ?_, hb⟩
  have HG := Lib.hid (below_call HG.out hb)
  have Hn := Lib.hid hn
  clear hb hn
  simp only [Act.put, List.setIfInBounds_toArray, List.set_cons_zero, List.set_cons_succ]
  refine good_callX 6 38 (some 16) #[Go.Operand.tmp 14, Go.Operand.tmp 15] #[25, 25] (none) #[.agg #[.bool bb, sb, tb], .agg #[.bool ba, sa, ta]] (by kernel_rfl) Hok.out (by kernel_rfl) (by kernel_rfl) (by kernel_rfl) (by kernel_rfl) rfl rfl rfl (by kernel_rfl) (fun w7 hb => ?_)
  have Hn := Lib.hid (CR.keep Hn.out (Keep.call hb))
  have HG := Lib.hid (below_call HG.out hb)
  clear hb
  (first | (have hcall := rsub_ar (AR.keep Hb.out (Keep.call HG.out)) (AR.keep Ha.out (Keep.call HG.out)) (by omega) (by omega); refine Calls.mono hcall ?_; clear hcall) | refine Calls.mono (rsub_ar (AR.keep Hb.out (Keep.call HG.out)) (AR.keep Ha.out (Keep.call HG.out)) (by omega) (by omega)) ?_)
  rintro e w8 ⟨v8, rfl, hd, hb⟩
  obtain ⟨d_b, d_a, d_n, d_c, d_d, d_m, d_e, rfl⟩ := hd.litb
  refine ⟨_, rfl, ?_, hb⟩
  have Hn := Lib.hid (CR.keep Hn.out (Keep.call hb))
  have HG := Lib.hid (below_call HG.out hb)
  have Hd := Lib.hid hd
  clear hb hd
  simp only [Act.put, List.setIfInBounds_toArray, List.set_cons_zero, List.set_cons_succ]
  refine good_callX 7 37 (some 17) #[Go.Operand.tmp 13, Go.Operand.tmp 16] #[25, 25] (none) #[.agg #[.bool n_b, .slice n_a n_n n_c, .slice n_d n_m n_e], .agg #[.bool d_b, .slice d_a d_n d_c, .slice d_d d_m d_e]] (by kernel_rfl) Hok.out (by kernel_rfl) (by kernel_rfl) (by kernel_rfl) (by kernel_rfl) rfl rfl rfl (by kernel_rfl) (fun w9 hb => ?_)
  have Hn := Lib.hid (CR.keep Hn.out (Keep.call hb))
  have Hd := Lib.hid (CR.keep Hd.out (Keep.call hb))
  have HG := Lib.hid (below_call HG.out hb)
  clear hb
  (first | (have hcall := rlquo_ar Hn0.out Hn.out.ar Hd.out.ar (by omega) (by omega); refine Calls.mono hcall ?_; clear hcall) | refine Calls.mono (rlquo_ar Hn0.out Hn.out.ar Hd.out.ar (by omega) (by omega)) ?_)
  rintro e w10 ⟨v10, rfl, hz, hb⟩
  obtain ⟨z_b, z_a, z_n, z_c, z_d, z_m, z_e, rfl⟩ := hz.litb
  refine ⟨_, rfl, ?_, hb⟩
  have HG := Lib.hid (below_call HG.out hb)
  have Hz := Lib.hid hz
  clear hb hz
  simp only [Act.put, List.setIfInBounds_toArray, List.set_cons_zero, List.set_cons_succ]
  refine good_end0 1 (by kernel_rfl) (fun _ w11 hb => ?_)
  have Hz := Lib.hid (CR.keep Hz.out (Keep.call hb))
  have HG := Lib.hid (below_call HG.out hb)
  clear hb
  have Xa0 := Lib.hid (Box.pcall HG.out Xa0.out)
  have Xb0 := Lib.hid (Box.pcall HG.out Xb0.out)
  have Xc0 := Lib.hid (Box.pcall HG.out Xc0.out)
  have HB := Lib.hid (below_call HB.out HG.out)
  have HS := Lib.hid (SE.of (E := [w.heap.size + 1 + 1]) HG.out)
  refine held_oneX 8 (Go.Op.store 25 (Go.Operand.tmp 4) (Go.Operand.tmp 17)) (none) (World.setCell (World.setCell (World.setCell w11 ⟨w.heap.size + 1 + 1, 0, none⟩ (.bool z_b)) ⟨w.heap.size + 1 + 1, 1, none⟩ (.slice z_a z_n z_c)) ⟨w.heap.size + 1 + 1, 2, none⟩ (.slice z_d z_m z_e)) (by kernel_rfl) (by kernel_rfl) (by kernel_rfl) (by kernel_rfl) ?_ (HS.out.store3 in1) ?_
  · obtain ⟨cc00, cc01, cc02, fc00, fc01, fc02⟩ := Xc0.out.c3
    first | (go_simp; done) | (go_simp; simp_all; done) | (go_simp; rfl)
  obtain ⟨W12, hW⟩ : ∃ W12, W12 = (World.setCell (World.setCell (World.setCell w11 ⟨w.heap.size + 1 + 1, 0, none⟩ (.bool z_b)) ⟨w.heap.size + 1 + 1, 1, none⟩ (.slice z_a z_n z_c)) ⟨w.heap.size + 1 + 1, 2, none⟩ (.slice z_d z_m z_e)) := ⟨_, rfl⟩
  rw [← hW]
  obtain ⟨xc0, hk, hf, hbb, hz⟩ := stored3s hW Xc0.out (by first | exact NoInt.bool _ | exact NoInt.slice _ _ _) (by first | exact NoInt.bool _ | exact NoInt.slice _ _ _) (by first | exact NoInt.bool _ | exact NoInt.slice _ _ _)
  have Hz := Lib.hid (CR.keep Hz.out hk)
  have Xa0 := Lib.hid (hf _ _ _ Xa0.out (by omega))
  have Xb0 := Lib.hid (hf _ _ _ Xb0.out (by omega))
  have Xc0 := Lib.hid xc0
  have HB := Lib.hid (hbb _ HB.out Gc0.out)
  have HS := Lib.hid (show SE (w2.drew) [w.heap.size + 1 + 1] W12 from by rw [hW]; exact HS.out.store3 in1)
  clear hW hk hf hbb xc0
  clear hz
  refine wpAnyH_done (by kernel_rfl) ?_ _
  clear HG HS Hok 
  obtain ⟨ca00, ca01, ca02, fa00, fa01, fa02⟩ := Xa0.out.c3
  have la0 := Xa0.out.lt
  obtain ⟨cb00, cb01, cb02, fb00, fb01, fb02⟩ := Xb0.out.c3
  have lb0 := Xb0.out.lt
  obtain ⟨cc00, cc01, cc02, fc00, fc01, fc02⟩ := Xc0.out.c3
  have lc0 := Xc0.out.lt
  go_wp2
  clear ca00 ca01 ca02 fa00 fa01 fa02 la0 cb00 cb01 cb02 fb00 fb01 fb02 lb0 cc00 cc01 cc02 fc00 fc01 fc02 lc0
  exact ret_rat1 rfl rfl rfl Xc0.out (CR.mono Hz.out (by omega)) HB.out


theorem rlgap_ar {a b : Rat} {L : Nat} {u v : Value} {w : World} (h : AR a L w u) (h' : AR b L w v) (hL : L ≤ 10000) : Calls Try.prog 19 #[u, v] w (Ret w (CR (gapQ a b) (L + L + L + L + 20))) := by
  obtain ⟨ba, sa, ta, rfl⟩ := h.agg
  obtain ⟨bb, sb, tb, rfl⟩ := h'.agg
  cases hu : unst a b
  · rw [gap_f hu]
    exact (rlgap_1 hu h h' hL).mono fun _ _ k => k.imp fun _ _ x => x.mono (by omega)
  · rw [gap_t hu]
    exact rlgap_2 hu (unst_ne hu) h h' hL

set_option maxRecDepth 100000 in
set_option maxHeartbeats 4000000 in
theorem rllin_1 {L : Nat} {qa : Rat} {ba : Bool} {sa ta : Value} {qb : Rat} {bb : Bool} {sb tb : Value} {w : World} (hu : unst qa qb = false) (ha : AR qa L w (.agg #[.bool ba, sa, ta])) (hb : AR qb L w (.agg #[.bool bb, sb, tb])) (hL : L ≤ 10000) :
    Calls Try.prog 12 #[.agg #[.bool ba, sa, ta], .agg #[.bool bb, sb, tb]] w (Ret w (Val (.tuple #[.int .i64 0, .agg #[.bool false, .slice none 0 0, .slice none 0 0], .agg #[.bool false, .slice none 0 0, .slice none 0 0], .int .i64 2]))) := by
  have Ha := Lib.hid ha
  have Hb := Lib.hid hb
  have Hu := Lib.hid hu
  clear ha hb hu
  go_enter Try.func12, Try.ntmps12
  have HB := Lib.hid (Below.refl w.heap.size w)
  go_wp2_with fail
  obtain ⟨W1, hW⟩ : ∃ W1, W1 = (World.alloc (World.alloc (World.alloc (World.alloc w (.cells #[.bool ba, sa, ta] 25)) (.cells #[.bool bb, sb, tb] 25)) (.cells #[.bool false, .slice none 0 0, .slice none 0 0] 25)) (.cells #[.bool false, .slice none 0 0, .slice none 0 0] 25)) := ⟨_, rfl⟩
  rw [← hW]
  obtain ⟨xa0, xb0, xc0, xd0, hk, hb⟩ := boxes_4 _ _ _ _ _ _ _ _ _ hW
  clear hW
  have Ha := Lib.hid (AR.keep Ha.out hk)
  have Hb := Lib.hid (AR.keep Hb.out hk)
  have Ga0 := Lib.hid (show w.heap.size ≤ w.heap.size from Nat.le_trans HB.out.size (by omega))
  have Gb0 := Lib.hid (show w.heap.size ≤ w.heap.size + 1 from Nat.le_trans HB.out.size (by omega))
  have Gc0 := Lib.hid (show w.heap.size ≤ w.heap.size + 1 + 1 from Nat.le_trans HB.out.size (by omega))
  have Gd0 := Lib.hid (show w.heap.size ≤ w.heap.size + 1 + 1 + 1 from Nat.le_trans HB.out.size (by omega))
  have Xa0 := Lib.hid xa0
  have Xb0 := Lib.hid xb0
  have Xc0 := Lib.hid xc0
  have Xd0 := Lib.hid xd0
  have HB := Lib.hid (below_call HB.out hb)
  clear hk hb xa0 xb0 xc0 xd0
  (first | (have hcall := rluns_ar Hu.out Ha.out Hb.out (by omega); refine Calls.mono hcall ?_; clear hcall) | refine Calls.mono (rluns_ar Hu.out Ha.out Hb.out (by omega)) ?_)
  rintro e w2 ⟨v2, rfl, rfl, hb⟩
  have Xa0 := Lib.hid (Box.pcall hb Xa0.out)
  have Xb0 := Lib.hid (Box.pcall hb Xb0.out)
  have Xc0 := Lib.hid (Box.pcall hb Xc0.out)
  have Xd0 := Lib.hid (Box.pcall hb Xd0.out)
  have HB := Lib.hid (below_call HB.out hb)
  clear hb
  obtain ⟨ca00, ca01, ca02, fa00, fa01, fa02⟩ := Xa0.out.c3
  have la0 := Xa0.out.lt
  obtain ⟨cb00, cb01, cb02, fb00, fb01, fb02⟩ := Xb0.out.c3
  have lb0 := Xb0.out.lt
  obtain ⟨cc00, cc01, cc02, fc00, fc01, fc02⟩ := Xc0.out.c3
  have lc0 := Xc0.out.lt
  obtain ⟨cd00, cd01, cd02, fd00, fd01, fd02⟩ := Xd0.out.c3
  have ld0 := Xd0.out.lt
  go_wp2
  clear ca00 ca01 ca02 fa00 fa01 fa02 la0 cb00 cb01 cb02 fb00 fb01 fb02 lb0 cc00 cc01 cc02 fc00 fc01 fc02 lc0 cd00 cd01 cd02 fd00 fd01 fd02 ld0
  obtain ⟨W3, hW⟩ : ∃ W3, W3 = (World.setCell (World.setCell (World.setCell w2 ⟨w.heap.size + 1 + 1, 0, none⟩ (.bool false)) ⟨w.heap.size + 1 + 1, 1, none⟩ (.slice none 0 0)) ⟨w.heap.size + 1 + 1, 2, none⟩ (.slice none 0 0)) := ⟨_, rfl⟩
  rw [← hW]
  obtain ⟨xc0, hk, hf, hbb, hz⟩ := stored3s hW Xc0.out (by first | exact NoInt.bool _ | exact NoInt.slice _ _ _) (by first | exact NoInt.bool _ | exact NoInt.slice _ _ _) (by first | exact NoInt.bool _ | exact NoInt.slice _ _ _)
  have Xa0 := Lib.hid (hf _ _ _ Xa0.out (by omega))
  have Xb0 := Lib.hid (hf _ _ _ Xb0.out (by omega))
  have Xc0 := Lib.hid xc0
  have Xd0 := Lib.hid (hf _ _ _ Xd0.out (by omega))
  have HB := Lib.hid (hbb _ HB.out Gc0.out)
  clear hW hk hf hbb xc0
  clear hz
  obtain ⟨W4, hW⟩ : ∃ W4, W4 = (World.setCell (World.setCell (World.setCell W3 ⟨w.heap.size + 1 + 1 + 1, 0, none⟩ (.bool false)) ⟨w.heap.size + 1 + 1 + 1, 1, none⟩ (.slice none 0 0)) ⟨w.heap.size + 1 + 1 + 1, 2, none⟩ (.slice none 0 0)) := ⟨_, rfl⟩
  rw [← hW]
  obtain ⟨xd0, hk, hf, hbb, hz⟩ := stored3s hW Xd0.out (by first | exact NoInt.bool _ | exact NoInt.slice _ _ _) (by first | exact NoInt.bool _ | exact NoInt.slice _ _ _) (by first | exact NoInt.bool _ | exact NoInt.slice _ _ _)
  have Xa0 := Lib.hid (hf _ _ _ Xa0.out (by omega))
  have Xb0 := Lib.hid (hf _ _ _ Xb0.out (by omega))
  have Xc0 := Lib.hid (hf _ _ _ Xc0.out (by omega))
  have Xd0 := Lib.hid xd0
  have HB := Lib.hid (hbb _ HB.out Gd0.out)
  clear hW hk hf hbb xd0
  clear hz
  exact ret_trrt rfl rfl rfl rfl rfl rfl Xc0.out Xd0.out rfl HB.out


set_option maxRecDepth 100000 in
set_option maxHeartbeats 4000000 in
theorem rllin_2 {L : Nat} {qa : Rat} {ba : Bool} {sa ta : Value} {qb : Rat} {bb : Bool} {sb tb : Value} {w : World} (hu : unst qa qb = true) (k : Int) (hk : slopeQ qa qb = k) (hn0 : qb - qa ≠ 0) (ha : AR qa L w (.agg #[.bool ba, sa, ta])) (hb : AR qb L w (.agg #[.bool bb, sb, tb])) (hL : L ≤ 10000) :
    Calls Try.prog 12 #[.agg #[.bool ba, sa, ta], .agg #[.bool bb, sb, tb]] w (Ret w (LN k (qb / (qb - qa)) (gapQ qa qb) (L + L + L + L + 20))) := by
  have Ha := Lib.hid ha
  have Hb := Lib.hid hb
  have Hu := Lib.hid hu
  have Hk := Lib.hid hk
  have Hn0 := Lib.hid hn0
  clear ha hb hu hk hn0
  go_enter Try.func12, Try.ntmps12
  have HB := Lib.hid (Below.refl w.heap.size w)
  go_wp2_with fail
  obtain ⟨W1, hW⟩ : ∃ W1, W1 = (World.alloc (World.alloc (World.alloc (World.alloc w (.cells #[.bool ba, sa, ta] 25)) (.cells #[.bool bb, sb, tb] 25)) (.cells #[.bool false, .slice none 0 0, .slice none 0 0] 25)) (.cells #[.bool false, .slice none 0 0, .slice none 0 0] 25)) := ⟨_, rfl⟩
  rw [← hW]
  obtain ⟨xa0, xb0, xc0, xd0, hk, hb⟩ := boxes_4 _ _ _ _ _ _ _ _ _ hW
  clear hW
  have Ha := Lib.hid (AR.keep Ha.out hk)
  have Hb := Lib.hid (AR.keep Hb.out hk)
  have Ga0 := Lib.hid (show w.heap.size ≤ w.heap.size from Nat.le_trans HB.out.size (by omega))
  have Gb0 := Lib.hid (show w.heap.size ≤ w.heap.size + 1 from Nat.le_trans HB.out.size (by omega))
  have Gc0 := Lib.hid (show w.heap.size ≤ w.heap.size + 1 + 1 from Nat.le_trans HB.out.size (by omega))
  have Gd0 := Lib.hid (show w.heap.size ≤ w.heap.size + 1 + 1 + 1 from Nat.le_trans HB.out.size (by omega))
  have Xa0 := Lib.hid xa0
  have Xb0 := Lib.hid xb0
  have Xc0 := Lib.hid xc0
  have Xd0 := Lib.hid xd0
  have HB := Lib.hid (below_call HB.out hb)
  clear hk hb xa0 xb0 xc0 xd0
  (first | (have hcall := rluns_ar Hu.out Ha.out Hb.out (by omega); refine Calls.mono hcall ?_; clear hcall) | refine Calls.mono (rluns_ar Hu.out Ha.out Hb.out (by omega)) ?_)
  rintro e w2 ⟨v2, rfl, rfl, hb⟩
  have Ha := Lib.hid (AR.keep Ha.out (Keep.call hb))
  have Hb := Lib.hid (AR.keep Hb.out (Keep.call hb))
  have Xa0 := Lib.hid (Box.pcall hb Xa0.out)
  have Xb0 := Lib.hid (Box.pcall hb Xb0.out)
  have Xc0 := Lib.hid (Box.pcall hb Xc0.out)
  have Xd0 := Lib.hid (Box.pcall hb Xd0.out)
  have HB := Lib.hid (below_call HB.out hb)
  clear hb
  obtain ⟨ca00, ca01, ca02, fa00, fa01, fa02⟩ := Xa0.out.c3
  have la0 := Xa0.out.lt
  obtain ⟨cb00, cb01, cb02, fb00, fb01, fb02⟩ := Xb0.out.c3
  have lb0 := Xb0.out.lt
  obtain ⟨cc00, cc01, cc02, fc00, fc01, fc02⟩ := Xc0.out.c3
  have lc0 := Xc0.out.lt
  obtain ⟨cd00, cd01, cd02, fd00, fd01, fd02⟩ := Xd0.out.c3
  have ld0 := Xd0.out.lt
  go_wp2_with fail
  clear ca00 ca01 ca02 fa00 fa01 fa02 la0 cb00 cb01 cb02 fb00 fb01 fb02 lb0 cc00 cc01 cc02 fc00 fc01 fc02 lc0 cd00 cd01 cd02 fd00 fd01 fd02 ld0
  have Ha := Lib.hid (AR.keep Ha.out (Keep.drew w2))
  have Hb := Lib.hid (AR.keep Hb.out (Keep.drew w2))
  have Xa0 := Lib.hid (Box.drew Xa0.out)
  have Xb0 := Lib.hid (Box.drew Xb0.out)
  have Xc0 := Lib.hid (Box.drew Xc0.out)
  have Xd0 := Lib.hid (Box.drew Xd0.out)
  have HB := Lib.hid (Below.drew HB.out)
  refine wp_region_float [w.heap.size + 1 + 1, w.heap.size + 1 + 1 + 1] [] (by kernel_rfl) (by kernel_rfl) 25 (by kernel_rfl) Flok.nil ?_
  intro ok
  have Hok := Lib.hid ok
  clear ok
  have HG := Lib.hid (Below.refl (w2.drew).heap.size (w2.drew))
  refine good_pureX 0 (some 14) (Go.Op.load 25 (Go.Operand.tmp 2)) (none) (.agg #[.bool ba, sa, ta]) (by kernel_rfl) (by kernel_rfl) (by kernel_rfl) (fun _ _ _ h => h) (fun w' hw' => ?_) ?_
  · obtain ⟨ca00, ca01, ca02, fa00, fa01, fa02⟩ := (Box.se hw' Xa0.out (notin2 (by omega) (by omega))).c3
    first | (go_simp; done) | (go_simp; simp_all; done) | (go_simp; rfl)
  simp only [Act.put, List.setIfInBounds_toArray, List.set_cons_zero, List.set_cons_succ]
  refine good_pureX 1 (some 15) (Go.Op.load 25 (Go.Operand.tmp 3)) (none) (.agg #[.bool bb, sb, tb]) (by kernel_rfl) (by kernel_rfl) (by kernel_rfl) (fun _ _ _ h => h) (fun w' hw' => ?_) ?_
  · obtain ⟨cb00, cb01, cb02, fb00, fb01, fb02⟩ := (Box.se hw' Xb0.out (notin2 (by omega) (by omega))).c3
    first | (go_simp; done) | (go_simp; simp_all; done) | (go_simp; rfl)
  simp only [Act.put, List.setIfInBounds_toArray, List.set_cons_zero, List.set_cons_succ]
  refine good_pureX 3 (some 17) (Go.Op.load 25 (Go.Operand.tmp 3)) (none) (.agg #[.bool bb, sb, tb]) (by kernel_rfl) (by kernel_rfl) (by kernel_rfl) (fun _ _ _ h => h) (fun w' hw' => ?_) ?_
  · obtain ⟨cb00, cb01, cb02, fb00, fb01, fb02⟩ := (Box.se hw' Xb0.out (notin2 (by omega) (by omega))).c3
    first | (go_simp; done) | (go_simp; simp_all; done) | (go_simp; rfl)
  simp only [Act.put, List.setIfInBounds_toArray, List.set_cons_zero, List.set_cons_succ]
  refine good_pureX 4 (some 18) (Go.Op.load 25 (Go.Operand.tmp 3)) (none) (.agg #[.bool bb, sb, tb]) (by kernel_rfl) (by kernel_rfl) (by kernel_rfl) (fun _ _ _ h => h) (fun w' hw' => ?_) ?_
  · obtain ⟨cb00, cb01, cb02, fb00, fb01, fb02⟩ := (Box.se hw' Xb0.out (notin2 (by omega) (by omega))).c3
    first | (go_simp; done) | (go_simp; simp_all; done) | (go_simp; rfl)
  simp only [Act.put, List.setIfInBounds_toArray, List.set_cons_zero, List.set_cons_succ]
  refine good_pureX 5 (some 19) (Go.Op.load 25 (Go.Operand.tmp 2)) (none) (.agg #[.bool ba, sa, ta]) (by kernel_rfl) (by kernel_rfl) (by kernel_rfl) (fun _ _ _ h => h) (fun w' hw' => ?_) ?_
  · obtain ⟨ca00, ca01, ca02, fa00, fa01, fa02⟩ := (Box.se hw' Xa0.out (notin2 (by omega) (by omega))).c3
    first | (go_simp; done) | (go_simp; simp_all; done) | (go_simp; rfl)
  simp only [Act.put, List.setIfInBounds_toArray, List.set_cons_zero, List.set_cons_succ]
  refine good_pureX 8 (some 22) (Go.Op.load 25 (Go.Operand.tmp 2)) (none) (.agg #[.bool ba, sa, ta]) (by kernel_rfl) (by kernel_rfl) (by kernel_rfl) (fun _ _ _ h => h) (fun w' hw' => ?_) ?_
  · obtain ⟨ca00, ca01, ca02, fa00, fa01, fa02⟩ := (Box.se hw' Xa0.out (notin2 (by omega) (by omega))).c3
    first | (go_simp; done) | (go_simp; simp_all; done) | (go_simp; rfl)
  simp only [Act.put, List.setIfInBounds_toArray, List.set_cons_zero, List.set_cons_succ]
  refine good_pureX 9 (some 23) (Go.Op.load 25 (Go.Operand.tmp 3)) (none) (.agg #[.bool bb, sb, tb]) (by kernel_rfl) (by kernel_rfl) (by kernel_rfl) (fun _ _ _ h => h) (fun w' hw' => ?_) ?_
  · obtain ⟨cb00, cb01, cb02, fb00, fb01, fb02⟩ := (Box.se hw' Xb0.out (notin2 (by omega) (by omega))).c3
    first | (go_simp; done) | (go_simp; simp_all; done) | (go_simp; rfl)
  simp only [Act.put, List.setIfInBounds_toArray, List.set_cons_zero, List.set_cons_succ]
  refine good_callX 2 17 (some 16) #[Go.Operand.tmp 14, Go.Operand.tmp 15] #[25, 25] (none) #[.agg #[.bool ba, sa, ta], .agg #[.bool bb, sb, tb]] (by kernel_rfl) Hok.out (by kernel_rfl) (by kernel_rfl) (by kernel_rfl) (by kernel_rfl) rfl rfl rfl (by kernel_rfl) (fun w3 hb => ?_)
  have HG := Lib.hid (below_call HG.out hb)
  clear hb
  (first | (have hcall := rlslo_ar k Hk.out (AR.keep Ha.out (Keep.call HG.out)) (AR.keep Hb.out (Keep.call HG.out)) (by omega); refine Calls.mono hcall ?_; clear hcall) | refine Calls.mono (rlslo_ar k Hk.out (AR.keep Ha.out (Keep.call HG.out)) (AR.keep Hb.out (Keep.call HG.out)) (by omega)) ?_)
  rintro e w4 ⟨v4, rfl, ⟨⟩, hb⟩
  refine ⟨_, rfl, ?_, hb⟩
  have HG := Lib.hid (below_call HG.out hb)
  clear hb
  simp only [Act.put, List.setIfInBounds_toArray, List.set_cons_zero, List.set_cons_succ]
  refine good_callX 6 38 (some 20) #[Go.Operand.tmp 18, Go.Operand.tmp 19] #[25, 25] (none) #[.agg #[.bool bb, sb, tb], .agg #[.bool ba, sa, ta]] (by kernel_rfl) Hok.out (by kernel_rfl) (by kernel_rfl) (by kernel_rfl) (by kernel_rfl) rfl rfl rfl (by kernel_rfl) (fun w5 hb => ?_)
  have HG := Lib.hid (below_call HG.out hb)
  clear hb
  (first | (have hcall := rsub_ar (AR.keep Hb.out (Keep.call HG.out)) (AR.keep Ha.out (Keep.call HG.out)) (by omega) (by omega); refine Calls.mono hcall ?_; clear hcall) | refine Calls.mono (rsub_ar (AR.keep Hb.out (Keep.call HG.out)) (AR.keep Ha.out (Keep.call HG.out)) (by omega) (by omega)) ?_)
  rintro e w6 ⟨v6, rfl, hd, hb⟩
  obtain ⟨d_b, d_a, d_n, d_c, d_d, d_m, d_e, rfl⟩ := hd.litb
  refine ⟨_, rfl, ?_, hb⟩
  have HG := Lib.hid (below_call HG.out hb)
  have Hd := Lib.hid hd
  clear hb hd
  simp only [Act.put, List.setIfInBounds_toArray, List.set_cons_zero, List.set_cons_succ]
  refine good_callX 7 37 (some 21) #[Go.Operand.tmp 17, Go.Operand.tmp 20] #[25, 25] (none) #[.agg #[.bool bb, sb, tb], .agg #[.bool d_b, .slice d_a d_n d_c, .slice d_d d_m d_e]] (by kernel_rfl) Hok.out (by kernel_rfl) (by kernel_rfl) (by kernel_rfl) (by kernel_rfl) rfl rfl rfl (by kernel_rfl) (fun w7 hb => ?_)
  have Hd := Lib.hid (CR.keep Hd.out (Keep.call hb))
  have HG := Lib.hid (below_call HG.out hb)
  clear hb
  (first | (have hcall := rlquo_ar Hn0.out (AR.keep Hb.out (Keep.call HG.out)) Hd.out.ar (by omega) (by omega); refine Calls.mono hcall ?_; clear hcall) | refine Calls.mono (rlquo_ar Hn0.out (AR.keep Hb.out (Keep.call HG.out)) Hd.out.ar (by omega) (by omega)) ?_)
  rintro e w8 ⟨v8, rfl, hp, hb⟩
  obtain ⟨p_b, p_a, p_n, p_c, p_d, p_m, p_e, rfl⟩ := hp.litb
  refine ⟨_, rfl, ?_, hb⟩
  have HG := Lib.hid (below_call HG.out hb)
  have Hp := Lib.hid hp
  clear hb hp
  simp only [Act.put, List.setIfInBounds_toArray, List.set_cons_zero, List.set_cons_succ]
  refine good_callX 10 19 (some 24) #[Go.Operand.tmp 22, Go.Operand.tmp 23] #[25, 25] (none) #[.agg #[.bool ba, sa, ta], .agg #[.bool bb, sb, tb]] (by kernel_rfl) Hok.out (by kernel_rfl) (by kernel_rfl) (by kernel_rfl) (by kernel_rfl) rfl rfl rfl (by kernel_rfl) (fun w9 hb => ?_)
  have Hp := Lib.hid (CR.keep Hp.out (Keep.call hb))
  have HG := Lib.hid (below_call HG.out hb)
  clear hb
  (first | (have hcall := rlgap_ar (AR.keep Ha.out (Keep.call HG.out)) (AR.keep Hb.out (Keep.call HG.out)) (by omega); refine Calls.mono hcall ?_; clear hcall) | refine Calls.mono (rlgap_ar (AR.keep Ha.out (Keep.call HG.out)) (AR.keep Hb.out (Keep.call HG.out)) (by omega)) ?_)
  rintro e w10 ⟨v10, rfl, hg, hb⟩
  obtain ⟨g_b, g_a, g_n, g_c, g_d, g_m, g_e, rfl⟩ := hg.litb
  refine ⟨_, rfl, ?_, hb⟩
  have Hp := Lib.hid (CR.keep Hp.out (Keep.call hb))
  have HG := Lib.hid (below_call HG.out hb)
  have Hg := Lib.hid hg
  clear hb hg
  simp only [Act.put, List.setIfInBounds_toArray, List.set_cons_zero, List.set_cons_succ]
  refine good_pureX 11 (some 4) (Go.Op.assign (Go.Operand.tmp 16)) (none) (.int .i64 k) (by kernel_rfl) (by kernel_rfl) (by kernel_rfl) (fun _ _ _ h => h) (fun w' hw' => ?_) ?_
  · first | (go_simp; done) | (go_simp; simp_all; done) | (go_simp; rfl)
  simp only [Act.put, List.setIfInBounds_toArray, List.set_cons_zero, List.set_cons_succ]
  refine good_end0 3 (by kernel_rfl) (fun _ w11 hb => ?_)
  have Hp := Lib.hid (CR.keep Hp.out (Keep.call hb))
  have Hg := Lib.hid (CR.keep Hg.out (Keep.call hb))
  have HG := Lib.hid (below_call HG.out hb)
  clear hb
  have Xa0 := Lib.hid (Box.pcall HG.out Xa0.out)
  have Xb0 := Lib.hid (Box.pcall HG.out Xb0.out)
  have Xc0 := Lib.hid (Box.pcall HG.out Xc0.out)
  have Xd0 := Lib.hid (Box.pcall HG.out Xd0.out)
  have HB := Lib.hid (below_call HB.out HG.out)
  have HS := Lib.hid (SE.of (E := [w.heap.size + 1 + 1, w.heap.size + 1 + 1 + 1]) HG.out)
  refine held_oneX 12 (Go.Op.store 25 (Go.Operand.tmp 5) (Go.Operand.tmp 21)) (none) (World.setCell (World.setCell (World.setCell w11 ⟨w.heap.size + 1 + 1, 0, none⟩ (.bool p_b)) ⟨w.heap.size + 1 + 1, 1, none⟩ (.slice p_a p_n p_c)) ⟨w.heap.size + 1 + 1, 2, none⟩ (.slice p_d p_m p_e)) (by kernel_rfl) (by kernel_rfl) (by kernel_rfl) (by kernel_rfl) ?_ (HS.out.store3 in21) ?_
  · obtain ⟨cc00, cc01, cc02, fc00, fc01, fc02⟩ := Xc0.out.c3
    first | (go_simp; done) | (go_simp; simp_all; done) | (go_simp; rfl)
  obtain ⟨W12, hW⟩ : ∃ W12, W12 = (World.setCell (World.setCell (World.setCell w11 ⟨w.heap.size + 1 + 1, 0, none⟩ (.bool p_b)) ⟨w.heap.size + 1 + 1, 1, none⟩ (.slice p_a p_n p_c)) ⟨w.heap.size + 1 + 1, 2, none⟩ (.slice p_d p_m p_e)) := ⟨_, rfl⟩
  rw [← hW]
  obtain ⟨xc0, hk, hf, hbb, hz⟩ := stored3s hW Xc0.out (by first | exact NoInt.bool _ | exact NoInt.slice _ _ _) (by first | exact NoInt.bool _ | exact NoInt.slice _ _ _) (by first | exact NoInt.bool _ | exact NoInt.slice _ _ _)
  have Hp := Lib.hid (CR.keep Hp.out hk)
  have Hg := Lib.hid (CR.keep Hg.out hk)
  have Xa0 := Lib.hid (hf _ _ _ Xa0.out (by omega))
  have Xb0 := Lib.hid (hf _ _ _ Xb0.out (by omega))
  have Xc0 := Lib.hid xc0
  have Xd0 := Lib.hid (hf _ _ _ Xd0.out (by omega))
  have HB := Lib.hid (hbb _ HB.out Gc0.out)
  have HS := Lib.hid (show SE (w2.drew) [w.heap.size + 1 + 1, w.heap.size + 1 + 1 + 1] W12 from by rw [hW]; exact HS.out.store3 in21)
  clear hW hk hf hbb xc0
  clear hz
  refine held_oneX 13 (Go.Op.store 25 (Go.Operand.tmp 6) (Go.Operand.tmp 24)) (none) (World.setCell (World.setCell (World.setCell W12 ⟨w.heap.size + 1 + 1 + 1, 0, none⟩ (.bool g_b)) ⟨w.heap.size + 1 + 1 + 1, 1, none⟩ (.slice g_a g_n g_c)) ⟨w.heap.size + 1 + 1 + 1, 2, none⟩ (.slice g_d g_m g_e)) (by kernel_rfl) (by kernel_rfl) (by kernel_rfl) (by kernel_rfl) ?_ (HS.out.store3 in22) ?_
  · obtain ⟨cd00, cd01, cd02, fd00, fd01, fd02⟩ := Xd0.out.c3
    first | (go_simp; done) | (go_simp; simp_all; done) | (go_simp; rfl)
  obtain ⟨W13, hW⟩ : ∃ W13, W13 = (World.setCell (World.setCell (World.setCell W12 ⟨w.heap.size + 1 + 1 + 1, 0, none⟩ (.bool g_b)) ⟨w.heap.size + 1 + 1 + 1, 1, none⟩ (.slice g_a g_n g_c)) ⟨w.heap.size + 1 + 1 + 1, 2, none⟩ (.slice g_d g_m g_e)) := ⟨_, rfl⟩
  rw [← hW]
  obtain ⟨xd0, hk, hf, hbb, hz⟩ := stored3s hW Xd0.out (by first | exact NoInt.bool _ | exact NoInt.slice _ _ _) (by first | exact NoInt.bool _ | exact NoInt.slice _ _ _) (by first | exact NoInt.bool _ | exact NoInt.slice _ _ _)
  have Hp := Lib.hid (CR.keep Hp.out hk)
  have Hg := Lib.hid (CR.keep Hg.out hk)
  have Xa0 := Lib.hid (hf _ _ _ Xa0.out (by omega))
  have Xb0 := Lib.hid (hf _ _ _ Xb0.out (by omega))
  have Xc0 := Lib.hid (hf _ _ _ Xc0.out (by omega))
  have Xd0 := Lib.hid xd0
  have HB := Lib.hid (hbb _ HB.out Gd0.out)
  have HS := Lib.hid (show SE (w2.drew) [w.heap.size + 1 + 1, w.heap.size + 1 + 1 + 1] W13 from by rw [hW]; exact HS.out.store3 in22)
  clear hW hk hf hbb xd0
  clear hz
  refine held_pureX 14 (some 7) (Go.Op.assign (Go.Operand.const (Go.Value.int Go.IntKind.i64 0))) (none) (.int .i64 0) (by kernel_rfl) (by kernel_rfl) (by kernel_rfl) (fun _ _ _ h => h) (fun w' => by first | (go_simp; done) | (go_simp; simp_all; done) | (go_simp; rfl)) HS.out ?_
  simp only [Act.put, List.setIfInBounds_toArray, List.set_cons_zero, List.set_cons_succ]
  refine wpAnyH_done (by kernel_rfl) ?_ _
  clear HG HS Hok 
  obtain ⟨ca00, ca01, ca02, fa00, fa01, fa02⟩ := Xa0.out.c3
  have la0 := Xa0.out.lt
  obtain ⟨cb00, cb01, cb02, fb00, fb01, fb02⟩ := Xb0.out.c3
  have lb0 := Xb0.out.lt
  obtain ⟨cc00, cc01, cc02, fc00, fc01, fc02⟩ := Xc0.out.c3
  have lc0 := Xc0.out.lt
  obtain ⟨cd00, cd01, cd02, fd00, fd01, fd02⟩ := Xd0.out.c3
  have ld0 := Xd0.out.lt
  go_wp2
  clear ca00 ca01 ca02 fa00 fa01 fa02 la0 cb00 cb01 cb02 fb00 fb01 fb02 lb0 cc00 cc01 cc02 fc00 fc01 fc02 lc0 cd00 cd01 cd02 fd00 fd01 fd02 ld0
  exact ret_trrt rfl rfl rfl rfl rfl rfl Xc0.out Xd0.out ⟨_, _, rfl, CR.mono Hp.out (by omega), Hg.out⟩ HB.out


theorem rllin_ar {a b : Rat} {L : Nat} {u v : Value} {w : World} (hu : unst a b = true) (h : AR a L w u) (h' : AR b L w v) (hL : L ≤ 10000) : Calls Try.prog 12 #[u, v] w (Ret w (LN (slopeQ a b) (upQ a b) (gapQ a b) (L + L + L + L + 20))) := by
  obtain ⟨ba, sa, ta, rfl⟩ := h.agg
  obtain ⟨bb, sb, tb, rfl⟩ := h'.agg
  exact rllin_2 hu _ rfl (unst_ne hu) h h' hL

theorem rllin_no_ar {a b : Rat} {L : Nat} {u v : Value} {w : World} (hu : unst a b = false) (h : AR a L w u) (h' : AR b L w v) (hL : L ≤ 10000) : Calls Try.prog 12 #[u, v] w (Ret w (Val (.tuple #[.int .i64 0, .agg #[.bool false, .slice none 0 0, .slice none 0 0], .agg #[.bool false, .slice none 0 0, .slice none 0 0], .int .i64 2]))) := by
  obtain ⟨ba, sa, ta, rfl⟩ := h.agg
  obtain ⟨bb, sb, tb, rfl⟩ := h'.agg
  exact rllin_1 hu h h' hL

set_option maxRecDepth 100000 in
set_option maxHeartbeats 4000000 in
theorem part_ar {L M : Nat} {qa : Rat} {ba : Bool} {sa ta : Value} {qb : Rat} {bb : Bool} {sb tb : Value} {w : World} (ha : AR qa L w (.agg #[.bool ba, sa, ta])) (hb : AR qb M w (.agg #[.bool bb, sb, tb])) (hL : L ≤ 40000) (hM : M ≤ 40000) :
    Calls Try.prog 47 #[.agg #[.bool ba, sa, ta], .agg #[.bool bb, sb, tb]] w (Ret w (CR (qa * (qb * qb)) (L + M + M + 4))) := by
  have Ha := Lib.hid ha
  have Hb := Lib.hid hb
  clear ha hb
  go_enter Try.func47, Try.ntmps47
  have HB := Lib.hid (Below.refl w.heap.size w)
  go_wp2_with fail
  obtain ⟨W1, hW⟩ : ∃ W1, W1 = (World.alloc (World.alloc (World.alloc w (.cells #[.bool ba, sa, ta] 25)) (.cells #[.bool bb, sb, tb] 25)) (.cells #[.bool false, .slice none 0 0, .slice none 0 0] 25)) := ⟨_, rfl⟩
  rw [← hW]
  obtain ⟨xa0, xb0, xc0, hk, hb⟩ := boxes_3 _ _ _ _ _ _ _ hW
  clear hW
  have Ha := Lib.hid (AR.keep Ha.out hk)
  have Hb := Lib.hid (AR.keep Hb.out hk)
  have Ga0 := Lib.hid (show w.heap.size ≤ w.heap.size from Nat.le_trans HB.out.size (by omega))
  have Gb0 := Lib.hid (show w.heap.size ≤ w.heap.size + 1 from Nat.le_trans HB.out.size (by omega))
  have Gc0 := Lib.hid (show w.heap.size ≤ w.heap.size + 1 + 1 from Nat.le_trans HB.out.size (by omega))
  have Xa0 := Lib.hid xa0
  have Xb0 := Lib.hid xb0
  have Xc0 := Lib.hid xc0
  have HB := Lib.hid (below_call HB.out hb)
  clear hk hb xa0 xb0 xc0
  have Ha := Lib.hid (AR.keep Ha.out (Keep.drew W1))
  have Hb := Lib.hid (AR.keep Hb.out (Keep.drew W1))
  have Xa0 := Lib.hid (Box.drew Xa0.out)
  have Xb0 := Lib.hid (Box.drew Xb0.out)
  have Xc0 := Lib.hid (Box.drew Xc0.out)
  have HB := Lib.hid (Below.drew HB.out)
  refine wp_region_float [w.heap.size + 1 + 1] [] (by kernel_rfl) (by kernel_rfl) 10 (by kernel_rfl) Flok.nil ?_
  intro ok
  have Hok := Lib.hid ok
  clear ok
  have HG := Lib.hid (Below.refl (W1.drew).heap.size (W1.drew))
  refine good_pureX 0 (some 5) (Go.Op.load 25 (Go.Operand.tmp 2)) (none) (.agg #[.bool ba, sa, ta]) (by kernel_rfl) (by kernel_rfl) (by kernel_rfl) (fun _ _ _ h => h) (fun w' hw' => ?_) ?_
  · obtain ⟨ca00, ca01, ca02, fa00, fa01, fa02⟩ := (Box.se hw' Xa0.out (notin1 (by omega))).c3
    first | (go_simp; done) | (go_simp; simp_all; done) | (go_simp; rfl)
  simp only [Act.put, List.setIfInBounds_toArray, List.set_cons_zero, List.set_cons_succ]
  refine good_pureX 1 (some 6) (Go.Op.load 25 (Go.Operand.tmp 3)) (none) (.agg #[.bool bb, sb, tb]) (by kernel_rfl) (by kernel_rfl) (by kernel_rfl) (fun _ _ _ h => h) (fun w' hw' => ?_) ?_
  · obtain ⟨cb00, cb01, cb02, fb00, fb01, fb02⟩ := (Box.se hw' Xb0.out (notin1 (by omega))).c3
    first | (go_simp; done) | (go_simp; simp_all; done) | (go_simp; rfl)
  simp only [Act.put, List.setIfInBounds_toArray, List.set_cons_zero, List.set_cons_succ]
  refine good_pureX 2 (some 7) (Go.Op.load 25 (Go.Operand.tmp 3)) (none) (.agg #[.bool bb, sb, tb]) (by kernel_rfl) (by kernel_rfl) (by kernel_rfl) (fun _ _ _ h => h) (fun w' hw' => ?_) ?_
  · obtain ⟨cb00, cb01, cb02, fb00, fb01, fb02⟩ := (Box.se hw' Xb0.out (notin1 (by omega))).c3
    first | (go_simp; done) | (go_simp; simp_all; done) | (go_simp; rfl)
  simp only [Act.put, List.setIfInBounds_toArray, List.set_cons_zero, List.set_cons_succ]
  refine good_callX 3 44 (some 8) #[Go.Operand.tmp 6, Go.Operand.tmp 7] #[25, 25] (none) #[.agg #[.bool bb, sb, tb], .agg #[.bool bb, sb, tb]] (by kernel_rfl) Hok.out (by kernel_rfl) (by kernel_rfl) (by kernel_rfl) (by kernel_rfl) rfl rfl rfl (by kernel_rfl) (fun w2 hb => ?_)
  have HG := Lib.hid (below_call HG.out hb)
  clear hb
  (first | (have hcall := rmul_ar (AR.keep Hb.out (Keep.call HG.out)) (AR.keep Hb.out (Keep.call HG.out)) (by omega) (by omega); refine Calls.mono hcall ?_; clear hcall) | refine Calls.mono (rmul_ar (AR.keep Hb.out (Keep.call HG.out)) (AR.keep Hb.out (Keep.call HG.out)) (by omega) (by omega)) ?_)
  rintro e w3 ⟨v3, rfl, hy, hb⟩
  obtain ⟨y_b, y_a, y_n, y_c, y_d, y_m, y_e, rfl⟩ := hy.litb
  refine ⟨_, rfl, ?_, hb⟩
  have HG := Lib.hid (below_call HG.out hb)
  have Hy := Lib.hid hy
  clear hb hy
  simp only [Act.put, List.setIfInBounds_toArray, List.set_cons_zero, List.set_cons_succ]
  refine good_callX 4 44 (some 9) #[Go.Operand.tmp 5, Go.Operand.tmp 8] #[25, 25] (none) #[.agg #[.bool ba, sa, ta], .agg #[.bool y_b, .slice y_a y_n y_c, .slice y_d y_m y_e]] (by kernel_rfl) Hok.out (by kernel_rfl) (by kernel_rfl) (by kernel_rfl) (by kernel_rfl) rfl rfl rfl (by kernel_rfl) (fun w4 hb => ?_)
  have Hy := Lib.hid (CR.keep Hy.out (Keep.call hb))
  have HG := Lib.hid (below_call HG.out hb)
  clear hb
  (first | (have hcall := rmul_ar (AR.keep Ha.out (Keep.call HG.out)) Hy.out.ar (by omega) (by omega); refine Calls.mono hcall ?_; clear hcall) | refine Calls.mono (rmul_ar (AR.keep Ha.out (Keep.call HG.out)) Hy.out.ar (by omega) (by omega)) ?_)
  rintro e w5 ⟨v5, rfl, hz, hb⟩
  obtain ⟨z_b, z_a, z_n, z_c, z_d, z_m, z_e, rfl⟩ := hz.litb
  refine ⟨_, rfl, ?_, hb⟩
  have HG := Lib.hid (below_call HG.out hb)
  have Hz := Lib.hid hz
  clear hb hz
  simp only [Act.put, List.setIfInBounds_toArray, List.set_cons_zero, List.set_cons_succ]
  refine good_end0 1 (by kernel_rfl) (fun _ w6 hb => ?_)
  have Hz := Lib.hid (CR.keep Hz.out (Keep.call hb))
  have HG := Lib.hid (below_call HG.out hb)
  clear hb
  have Xa0 := Lib.hid (Box.pcall HG.out Xa0.out)
  have Xb0 := Lib.hid (Box.pcall HG.out Xb0.out)
  have Xc0 := Lib.hid (Box.pcall HG.out Xc0.out)
  have HB := Lib.hid (below_call HB.out HG.out)
  have HS := Lib.hid (SE.of (E := [w.heap.size + 1 + 1]) HG.out)
  refine held_oneX 5 (Go.Op.store 25 (Go.Operand.tmp 4) (Go.Operand.tmp 9)) (none) (World.setCell (World.setCell (World.setCell w6 ⟨w.heap.size + 1 + 1, 0, none⟩ (.bool z_b)) ⟨w.heap.size + 1 + 1, 1, none⟩ (.slice z_a z_n z_c)) ⟨w.heap.size + 1 + 1, 2, none⟩ (.slice z_d z_m z_e)) (by kernel_rfl) (by kernel_rfl) (by kernel_rfl) (by kernel_rfl) ?_ (HS.out.store3 in1) ?_
  · obtain ⟨cc00, cc01, cc02, fc00, fc01, fc02⟩ := Xc0.out.c3
    first | (go_simp; done) | (go_simp; simp_all; done) | (go_simp; rfl)
  obtain ⟨W7, hW⟩ : ∃ W7, W7 = (World.setCell (World.setCell (World.setCell w6 ⟨w.heap.size + 1 + 1, 0, none⟩ (.bool z_b)) ⟨w.heap.size + 1 + 1, 1, none⟩ (.slice z_a z_n z_c)) ⟨w.heap.size + 1 + 1, 2, none⟩ (.slice z_d z_m z_e)) := ⟨_, rfl⟩
  rw [← hW]
  obtain ⟨xc0, hk, hf, hbb, hz⟩ := stored3s hW Xc0.out (by first | exact NoInt.bool _ | exact NoInt.slice _ _ _) (by first | exact NoInt.bool _ | exact NoInt.slice _ _ _) (by first | exact NoInt.bool _ | exact NoInt.slice _ _ _)
  have Hz := Lib.hid (CR.keep Hz.out hk)
  have Xa0 := Lib.hid (hf _ _ _ Xa0.out (by omega))
  have Xb0 := Lib.hid (hf _ _ _ Xb0.out (by omega))
  have Xc0 := Lib.hid xc0
  have HB := Lib.hid (hbb _ HB.out Gc0.out)
  have HS := Lib.hid (show SE (W1.drew) [w.heap.size + 1 + 1] W7 from by rw [hW]; exact HS.out.store3 in1)
  clear hW hk hf hbb xc0
  clear hz
  refine wpAnyH_done (by kernel_rfl) ?_ _
  clear HG HS Hok 
  obtain ⟨ca00, ca01, ca02, fa00, fa01, fa02⟩ := Xa0.out.c3
  have la0 := Xa0.out.lt
  obtain ⟨cb00, cb01, cb02, fb00, fb01, fb02⟩ := Xb0.out.c3
  have lb0 := Xb0.out.lt
  obtain ⟨cc00, cc01, cc02, fc00, fc01, fc02⟩ := Xc0.out.c3
  have lc0 := Xc0.out.lt
  go_wp2
  clear ca00 ca01 ca02 fa00 fa01 fa02 la0 cb00 cb01 cb02 fb00 fb01 fb02 lb0 cc00 cc01 cc02 fc00 fc01 fc02 lc0
  exact ret_rat1 rfl rfl rfl Xc0.out (CR.mono Hz.out (by omega)) HB.out


set_option maxRecDepth 100000 in
set_option maxHeartbeats 4000000 in
theorem rlare_1 {L : Nat} {qa : Rat} {ba : Bool} {sa ta : Value} {qb : Rat} {bb : Bool} {sb tb : Value} {qc : Rat} {bc : Bool} {sc tc : Value} {w : World} (hu : unst qa qb = false) (ha : AR qa L w (.agg #[.bool ba, sa, ta])) (hb : AR qb L w (.agg #[.bool bb, sb, tb])) (hc : AR qc L w (.agg #[.bool bc, sc, tc])) (hL : L ≤ 10000) :
    Calls Try.prog 21 #[.agg #[.bool ba, sa, ta], .agg #[.bool bb, sb, tb], .agg #[.bool bc, sc, tc]] w (Ret w (Val (.tuple #[.agg #[.bool false, .slice none 0 0, .slice none 0 0], .int .i64 2]))) := by
  have Ha := Lib.hid ha
  have Hb := Lib.hid hb
  have Hc := Lib.hid hc
  have Hu := Lib.hid hu
  clear ha hb hc hu
  go_enter Try.func21, Try.ntmps21
  have HB := Lib.hid (Below.refl w.heap.size w)
  go_wp2_with fail
  obtain ⟨W1, hW⟩ : ∃ W1, W1 = (World.alloc (World.alloc (World.alloc (World.alloc w (.cells #[.bool ba, sa, ta] 25)) (.cells #[.bool bb, sb, tb] 25)) (.cells #[.bool bc, sc, tc] 25)) (.cells #[.bool false, .slice none 0 0, .slice none 0 0] 25)) := ⟨_, rfl⟩
  rw [← hW]
  obtain ⟨xa0, xb0, xc0, xd0, hk, hb⟩ := boxes_4 _ _ _ _ _ _ _ _ _ hW
  clear hW
  have Ha := Lib.hid (AR.keep Ha.out hk)
  have Hb := Lib.hid (AR.keep Hb.out hk)
  have Ga0 := Lib.hid (show w.heap.size ≤ w.heap.size from Nat.le_trans HB.out.size (by omega))
  have Gb0 := Lib.hid (show w.heap.size ≤ w.heap.size + 1 from Nat.le_trans HB.out.size (by omega))
  have Gc0 := Lib.hid (show w.heap.size ≤ w.heap.size + 1 + 1 from Nat.le_trans HB.out.size (by omega))
  have Gd0 := Lib.hid (show w.heap.size ≤ w.heap.size + 1 + 1 + 1 from Nat.le_trans HB.out.size (by omega))
  have Xa0 := Lib.hid xa0
  have Xb0 := Lib.hid xb0
  have Xc0 := Lib.hid xc0
  have Xd0 := Lib.hid xd0
  have HB := Lib.hid (below_call HB.out hb)
  clear hk hb xa0 xb0 xc0 xd0
  refine Calls.mono (of_rat (x := 1) (by decide) (by decide)) ?_
  rintro e w2 ⟨v2, rfl, ho, hb⟩
  obtain ⟨o_b, o_a, o_n, o_c, o_d, o_m, o_e, rfl⟩ := ho.litb
  have Ha := Lib.hid (AR.keep Ha.out (Keep.call hb))
  have Hb := Lib.hid (AR.keep Hb.out (Keep.call hb))
  have Xa0 := Lib.hid (Box.pcall hb Xa0.out)
  have Xb0 := Lib.hid (Box.pcall hb Xb0.out)
  have Xc0 := Lib.hid (Box.pcall hb Xc0.out)
  have Xd0 := Lib.hid (Box.pcall hb Xd0.out)
  have HB := Lib.hid (below_call HB.out hb)
  have Ho := Lib.hid ho
  clear hb ho
  obtain ⟨ca00, ca01, ca02, fa00, fa01, fa02⟩ := Xa0.out.c3
  have la0 := Xa0.out.lt
  obtain ⟨cb00, cb01, cb02, fb00, fb01, fb02⟩ := Xb0.out.c3
  have lb0 := Xb0.out.lt
  obtain ⟨cc00, cc01, cc02, fc00, fc01, fc02⟩ := Xc0.out.c3
  have lc0 := Xc0.out.lt
  obtain ⟨cd00, cd01, cd02, fd00, fd01, fd02⟩ := Xd0.out.c3
  have ld0 := Xd0.out.lt
  go_wp2_with fail
  clear ca00 ca01 ca02 fa00 fa01 fa02 la0 cb00 cb01 cb02 fb00 fb01 fb02 lb0 cc00 cc01 cc02 fc00 fc01 fc02 lc0 cd00 cd01 cd02 fd00 fd01 fd02 ld0
  obtain ⟨W3, hW⟩ : ∃ W3, W3 = (World.alloc w2 (.cells #[.bool o_b, .slice o_a o_n o_c, .slice o_d o_m o_e] 25)) := ⟨_, rfl⟩
  rw [← hW]
  obtain ⟨xe0, hk, hb⟩ := boxes_1 _ _ _ hW
  clear hW
  have Ha := Lib.hid (AR.keep Ha.out hk)
  have Hb := Lib.hid (AR.keep Hb.out hk)
  have Na0e0 := Lib.hid (show w.heap.size ≠ w2.heap.size from Nat.ne_of_lt (Nat.lt_of_lt_of_le Xa0.out.lt (by omega)))
  have Nb0e0 := Lib.hid (show w.heap.size + 1 ≠ w2.heap.size from Nat.ne_of_lt (Nat.lt_of_lt_of_le Xb0.out.lt (by omega)))
  have Nc0e0 := Lib.hid (show w.heap.size + 1 + 1 ≠ w2.heap.size from Nat.ne_of_lt (Nat.lt_of_lt_of_le Xc0.out.lt (by omega)))
  have Nd0e0 := Lib.hid (show w.heap.size + 1 + 1 + 1 ≠ w2.heap.size from Nat.ne_of_lt (Nat.lt_of_lt_of_le Xd0.out.lt (by omega)))
  have Ge0 := Lib.hid (show w.heap.size ≤ w2.heap.size from Nat.le_trans HB.out.size (by omega))
  have Xa0 := Lib.hid (Box.pcall hb Xa0.out)
  have Xb0 := Lib.hid (Box.pcall hb Xb0.out)
  have Xc0 := Lib.hid (Box.pcall hb Xc0.out)
  have Xd0 := Lib.hid (Box.pcall hb Xd0.out)
  have Xe0 := Lib.hid xe0
  have HB := Lib.hid (below_call HB.out hb)
  clear hk hb xe0
  (first | (have hcall := rluns_ar Hu.out Ha.out Hb.out (by omega); refine Calls.mono hcall ?_; clear hcall) | refine Calls.mono (rluns_ar Hu.out Ha.out Hb.out (by omega)) ?_)
  rintro e w4 ⟨v4, rfl, rfl, hb⟩
  have Xa0 := Lib.hid (Box.pcall hb Xa0.out)
  have Xb0 := Lib.hid (Box.pcall hb Xb0.out)
  have Xc0 := Lib.hid (Box.pcall hb Xc0.out)
  have Xd0 := Lib.hid (Box.pcall hb Xd0.out)
  have Xe0 := Lib.hid (Box.pcall hb Xe0.out)
  have HB := Lib.hid (below_call HB.out hb)
  clear hb
  obtain ⟨ca00, ca01, ca02, fa00, fa01, fa02⟩ := Xa0.out.c3
  have la0 := Xa0.out.lt
  obtain ⟨cb00, cb01, cb02, fb00, fb01, fb02⟩ := Xb0.out.c3
  have lb0 := Xb0.out.lt
  obtain ⟨cc00, cc01, cc02, fc00, fc01, fc02⟩ := Xc0.out.c3
  have lc0 := Xc0.out.lt
  obtain ⟨cd00, cd01, cd02, fd00, fd01, fd02⟩ := Xd0.out.c3
  have ld0 := Xd0.out.lt
  obtain ⟨ce00, ce01, ce02, fe00, fe01, fe02⟩ := Xe0.out.c3
  have le0 := Xe0.out.lt
  go_wp2
  clear ca00 ca01 ca02 fa00 fa01 fa02 la0 cb00 cb01 cb02 fb00 fb01 fb02 lb0 cc00 cc01 cc02 fc00 fc01 fc02 lc0 cd00 cd01 cd02 fd00 fd01 fd02 ld0 ce00 ce01 ce02 fe00 fe01 fe02 le0
  obtain ⟨W5, hW⟩ : ∃ W5, W5 = (World.setCell (World.setCell (World.setCell w4 ⟨w.heap.size + 1 + 1 + 1, 0, none⟩ (.bool false)) ⟨w.heap.size + 1 + 1 + 1, 1, none⟩ (.slice none 0 0)) ⟨w.heap.size + 1 + 1 + 1, 2, none⟩ (.slice none 0 0)) := ⟨_, rfl⟩
  rw [← hW]
  obtain ⟨xd0, hk, hf, hbb, hz⟩ := stored3s hW Xd0.out (by first | exact NoInt.bool _ | exact NoInt.slice _ _ _) (by first | exact NoInt.bool _ | exact NoInt.slice _ _ _) (by first | exact NoInt.bool _ | exact NoInt.slice _ _ _)
  have Xa0 := Lib.hid (hf _ _ _ Xa0.out (by omega))
  have Xb0 := Lib.hid (hf _ _ _ Xb0.out (by omega))
  have Xc0 := Lib.hid (hf _ _ _ Xc0.out (by omega))
  have Xd0 := Lib.hid xd0
  have Xe0 := Lib.hid (hf _ _ _ Xe0.out Nd0e0.out.symm)
  have HB := Lib.hid (hbb _ HB.out Gd0.out)
  clear hW hk hf hbb xd0
  clear hz
  exact ret_re rfl rfl rfl rfl Xd0.out rfl HB.out


set_option maxRecDepth 100000 in
set_option maxHeartbeats 4000000 in
theorem rlare_2 {L : Nat} {qa : Rat} {ba : Bool} {sa ta : Value} {qb : Rat} {bb : Bool} {sb tb : Value} {qc : Rat} {bc : Bool} {sc tc : Value} {w : World} (hu : unst qa qb = true) (j : Int) (hj : qc.num.sign = j) (hj0 : decide (j < 0) = true) (ha : AR qa L w (.agg #[.bool ba, sa, ta])) (hb : AR qb L w (.agg #[.bool bb, sb, tb])) (hc : AR qc L w (.agg #[.bool bc, sc, tc])) (hL : L ≤ 10000) :
    Calls Try.prog 21 #[.agg #[.bool ba, sa, ta], .agg #[.bool bb, sb, tb], .agg #[.bool bc, sc, tc]] w (Ret w (Val (.tuple #[.agg #[.bool false, .slice none 0 0, .slice none 0 0], .int .i64 2]))) := by
  have Ha := Lib.hid ha
  have Hb := Lib.hid hb
  have Hc := Lib.hid hc
  have Hu := Lib.hid hu
  have Hj := Lib.hid hj
  have Hj0 := Lib.hid hj0
  clear ha hb hc hu hj hj0
  go_enter Try.func21, Try.ntmps21
  have HB := Lib.hid (Below.refl w.heap.size w)
  go_wp2_with fail
  obtain ⟨W1, hW⟩ : ∃ W1, W1 = (World.alloc (World.alloc (World.alloc (World.alloc w (.cells #[.bool ba, sa, ta] 25)) (.cells #[.bool bb, sb, tb] 25)) (.cells #[.bool bc, sc, tc] 25)) (.cells #[.bool false, .slice none 0 0, .slice none 0 0] 25)) := ⟨_, rfl⟩
  rw [← hW]
  obtain ⟨xa0, xb0, xc0, xd0, hk, hb⟩ := boxes_4 _ _ _ _ _ _ _ _ _ hW
  clear hW
  have Ha := Lib.hid (AR.keep Ha.out hk)
  have Hb := Lib.hid (AR.keep Hb.out hk)
  have Hc := Lib.hid (AR.keep Hc.out hk)
  have Ga0 := Lib.hid (show w.heap.size ≤ w.heap.size from Nat.le_trans HB.out.size (by omega))
  have Gb0 := Lib.hid (show w.heap.size ≤ w.heap.size + 1 from Nat.le_trans HB.out.size (by omega))
  have Gc0 := Lib.hid (show w.heap.size ≤ w.heap.size + 1 + 1 from Nat.le_trans HB.out.size (by omega))
  have Gd0 := Lib.hid (show w.heap.size ≤ w.heap.size + 1 + 1 + 1 from Nat.le_trans HB.out.size (by omega))
  have Xa0 := Lib.hid xa0
  have Xb0 := Lib.hid xb0
  have Xc0 := Lib.hid xc0
  have Xd0 := Lib.hid xd0
  have HB := Lib.hid (below_call HB.out hb)
  clear hk hb xa0 xb0 xc0 xd0
  refine Calls.mono (of_rat (x := 1) (by decide) (by decide)) ?_
  rintro e w2 ⟨v2, rfl, ho, hb⟩
  obtain ⟨o_b, o_a, o_n, o_c, o_d, o_m, o_e, rfl⟩ := ho.litb
  have Ha := Lib.hid (AR.keep Ha.out (Keep.call hb))
  have Hb := Lib.hid (AR.keep Hb.out (Keep.call hb))
  have Hc := Lib.hid (AR.keep Hc.out (Keep.call hb))
  have Xa0 := Lib.hid (Box.pcall hb Xa0.out)
  have Xb0 := Lib.hid (Box.pcall hb Xb0.out)
  have Xc0 := Lib.hid (Box.pcall hb Xc0.out)
  have Xd0 := Lib.hid (Box.pcall hb Xd0.out)
  have HB := Lib.hid (below_call HB.out hb)
  have Ho := Lib.hid ho
  clear hb ho
  obtain ⟨ca00, ca01, ca02, fa00, fa01, fa02⟩ := Xa0.out.c3
  have la0 := Xa0.out.lt
  obtain ⟨cb00, cb01, cb02, fb00, fb01, fb02⟩ := Xb0.out.c3
  have lb0 := Xb0.out.lt
  obtain ⟨cc00, cc01, cc02, fc00, fc01, fc02⟩ := Xc0.out.c3
  have lc0 := Xc0.out.lt
  obtain ⟨cd00, cd01, cd02, fd00, fd01, fd02⟩ := Xd0.out.c3
  have ld0 := Xd0.out.lt
  go_wp2_with fail
  clear ca00 ca01 ca02 fa00 fa01 fa02 la0 cb00 cb01 cb02 fb00 fb01 fb02 lb0 cc00 cc01 cc02 fc00 fc01 fc02 lc0 cd00 cd01 cd02 fd00 fd01 fd02 ld0
  obtain ⟨W3, hW⟩ : ∃ W3, W3 = (World.alloc w2 (.cells #[.bool o_b, .slice o_a o_n o_c, .slice o_d o_m o_e] 25)) := ⟨_, rfl⟩
  rw [← hW]
  obtain ⟨xe0, hk, hb⟩ := boxes_1 _ _ _ hW
  clear hW
  have Ha := Lib.hid (AR.keep Ha.out hk)
  have Hb := Lib.hid (AR.keep Hb.out hk)
  have Hc := Lib.hid (AR.keep Hc.out hk)
  have Na0e0 := Lib.hid (show w.heap.size ≠ w2.heap.size from Nat.ne_of_lt (Nat.lt_of_lt_of_le Xa0.out.lt (by omega)))
  have Nb0e0 := Lib.hid (show w.heap.size + 1 ≠ w2.heap.size from Nat.ne_of_lt (Nat.lt_of_lt_of_le Xb0.out.lt (by omega)))
  have Nc0e0 := Lib.hid (show w.heap.size + 1 + 1 ≠ w2.heap.size from Nat.ne_of_lt (Nat.lt_of_lt_of_le Xc0.out.lt (by omega)))
  have Nd0e0 := Lib.hid (show w.heap.size + 1 + 1 + 1 ≠ w2.heap.size from Nat.ne_of_lt (Nat.lt_of_lt_of_le Xd0.out.lt (by omega)))
  have Ge0 := Lib.hid (show w.heap.size ≤ w2.heap.size from Nat.le_trans HB.out.size (by omega))
  have Xa0 := Lib.hid (Box.pcall hb Xa0.out)
  have Xb0 := Lib.hid (Box.pcall hb Xb0.out)
  have Xc0 := Lib.hid (Box.pcall hb Xc0.out)
  have Xd0 := Lib.hid (Box.pcall hb Xd0.out)
  have Xe0 := Lib.hid xe0
  have HB := Lib.hid (below_call HB.out hb)
  clear hk hb xe0
  (first | (have hcall := rluns_ar Hu.out Ha.out Hb.out (by omega); refine Calls.mono hcall ?_; clear hcall) | refine Calls.mono (rluns_ar Hu.out Ha.out Hb.out (by omega)) ?_)
  rintro e w4 ⟨v4, rfl, rfl, hb⟩
  have Hc := Lib.hid (AR.keep Hc.out (Keep.call hb))
  have Xa0 := Lib.hid (Box.pcall hb Xa0.out)
  have Xb0 := Lib.hid (Box.pcall hb Xb0.out)
  have Xc0 := Lib.hid (Box.pcall hb Xc0.out)
  have Xd0 := Lib.hid (Box.pcall hb Xd0.out)
  have Xe0 := Lib.hid (Box.pcall hb Xe0.out)
  have HB := Lib.hid (below_call HB.out hb)
  clear hb
  obtain ⟨ca00, ca01, ca02, fa00, fa01, fa02⟩ := Xa0.out.c3
  have la0 := Xa0.out.lt
  obtain ⟨cb00, cb01, cb02, fb00, fb01, fb02⟩ := Xb0.out.c3
  have lb0 := Xb0.out.lt
  obtain ⟨cc00, cc01, cc02, fc00, fc01, fc02⟩ := Xc0.out.c3
  have lc0 := Xc0.out.lt
  obtain ⟨cd00, cd01, cd02, fd00, fd01, fd02⟩ := Xd0.out.c3
  have ld0 := Xd0.out.lt
  obtain ⟨ce00, ce01, ce02, fe00, fe01, fe02⟩ := Xe0.out.c3
  have le0 := Xe0.out.lt
  go_wp2_with fail
  clear ca00 ca01 ca02 fa00 fa01 fa02 la0 cb00 cb01 cb02 fb00 fb01 fb02 lb0 cc00 cc01 cc02 fc00 fc01 fc02 lc0 cd00 cd01 cd02 fd00 fd01 fd02 ld0 ce00 ce01 ce02 fe00 fe01 fe02 le0
  (first | (have hcall := rsign_ar j Hc.out Hj.out (by omega); refine Calls.mono hcall ?_; clear hcall) | refine Calls.mono (rsign_ar j Hc.out Hj.out (by omega)) ?_)
  rintro e w5 ⟨v5, rfl, ⟨⟩, hb⟩
  have Xa0 := Lib.hid (Box.pcall hb Xa0.out)
  have Xb0 := Lib.hid (Box.pcall hb Xb0.out)
  have Xc0 := Lib.hid (Box.pcall hb Xc0.out)
  have Xd0 := Lib.hid (Box.pcall hb Xd0.out)
  have Xe0 := Lib.hid (Box.pcall hb Xe0.out)
  have HB := Lib.hid (below_call HB.out hb)
  clear hb
  have hj0 : decide (j < 0) = true := Hj0.out
  obtain ⟨ca00, ca01, ca02, fa00, fa01, fa02⟩ := Xa0.out.c3
  have la0 := Xa0.out.lt
  obtain ⟨cb00, cb01, cb02, fb00, fb01, fb02⟩ := Xb0.out.c3
  have lb0 := Xb0.out.lt
  obtain ⟨cc00, cc01, cc02, fc00, fc01, fc02⟩ := Xc0.out.c3
  have lc0 := Xc0.out.lt
  obtain ⟨cd00, cd01, cd02, fd00, fd01, fd02⟩ := Xd0.out.c3
  have ld0 := Xd0.out.lt
  obtain ⟨ce00, ce01, ce02, fe00, fe01, fe02⟩ := Xe0.out.c3
  have le0 := Xe0.out.lt
  go_wp2
  clear ca00 ca01 ca02 fa00 fa01 fa02 la0 cb00 cb01 cb02 fb00 fb01 fb02 lb0 cc00 cc01 cc02 fc00 fc01 fc02 lc0 cd00 cd01 cd02 fd00 fd01 fd02 ld0 ce00 ce01 ce02 fe00 fe01 fe02 le0
  obtain ⟨W6, hW⟩ : ∃ W6, W6 = (World.setCell (World.setCell (World.setCell w5 ⟨w.heap.size + 1 + 1 + 1, 0, none⟩ (.bool false)) ⟨w.heap.size + 1 + 1 + 1, 1, none⟩ (.slice none 0 0)) ⟨w.heap.size + 1 + 1 + 1, 2, none⟩ (.slice none 0 0)) := ⟨_, rfl⟩
  rw [← hW]
  obtain ⟨xd0, hk, hf, hbb, hz⟩ := stored3s hW Xd0.out (by first | exact NoInt.bool _ | exact NoInt.slice _ _ _) (by first | exact NoInt.bool _ | exact NoInt.slice _ _ _) (by first | exact NoInt.bool _ | exact NoInt.slice _ _ _)
  have Xa0 := Lib.hid (hf _ _ _ Xa0.out (by omega))
  have Xb0 := Lib.hid (hf _ _ _ Xb0.out (by omega))
  have Xc0 := Lib.hid (hf _ _ _ Xc0.out (by omega))
  have Xd0 := Lib.hid xd0
  have Xe0 := Lib.hid (hf _ _ _ Xe0.out Nd0e0.out.symm)
  have HB := Lib.hid (hbb _ HB.out Gd0.out)
  clear hW hk hf hbb xd0
  clear hz
  exact ret_re rfl rfl rfl rfl Xd0.out rfl HB.out


set_option maxRecDepth 100000 in
set_option maxHeartbeats 4000000 in
theorem rlare_3 {L : Nat} {qa : Rat} {ba : Bool} {sa ta : Value} {qb : Rat} {bb : Bool} {sb tb : Value} {qc : Rat} {bc : Bool} {sc tc : Value} {w : World} (hu : unst qa qb = true) (j : Int) (hj : qc.num.sign = j) (hj0 : decide (j < 0) = false) (m : Int) (hm : cmpQ qc ((1 : Int) : Rat) = m) (hm0 : decide (0 < m) = true) (ha : AR qa L w (.agg #[.bool ba, sa, ta])) (hb : AR qb L w (.agg #[.bool bb, sb, tb])) (hc : AR qc L w (.agg #[.bool bc, sc, tc])) (hL : L ≤ 10000) :
    Calls Try.prog 21 #[.agg #[.bool ba, sa, ta], .agg #[.bool bb, sb, tb], .agg #[.bool bc, sc, tc]] w (Ret w (Val (.tuple #[.agg #[.bool false, .slice none 0 0, .slice none 0 0], .int .i64 2]))) := by
  have Ha := Lib.hid ha
  have Hb := Lib.hid hb
  have Hc := Lib.hid hc
  have Hu := Lib.hid hu
  have Hj := Lib.hid hj
  have Hj0 := Lib.hid hj0
  have Hm := Lib.hid hm
  have Hm0 := Lib.hid hm0
  clear ha hb hc hu hj hj0 hm hm0
  go_enter Try.func21, Try.ntmps21
  have HB := Lib.hid (Below.refl w.heap.size w)
  go_wp2_with fail
  obtain ⟨W1, hW⟩ : ∃ W1, W1 = (World.alloc (World.alloc (World.alloc (World.alloc w (.cells #[.bool ba, sa, ta] 25)) (.cells #[.bool bb, sb, tb] 25)) (.cells #[.bool bc, sc, tc] 25)) (.cells #[.bool false, .slice none 0 0, .slice none 0 0] 25)) := ⟨_, rfl⟩
  rw [← hW]
  obtain ⟨xa0, xb0, xc0, xd0, hk, hb⟩ := boxes_4 _ _ _ _ _ _ _ _ _ hW
  clear hW
  have Ha := Lib.hid (AR.keep Ha.out hk)
  have Hb := Lib.hid (AR.keep Hb.out hk)
  have Hc := Lib.hid (AR.keep Hc.out hk)
  have Ga0 := Lib.hid (show w.heap.size ≤ w.heap.size from Nat.le_trans HB.out.size (by omega))
  have Gb0 := Lib.hid (show w.heap.size ≤ w.heap.size + 1 from Nat.le_trans HB.out.size (by omega))
  have Gc0 := Lib.hid (show w.heap.size ≤ w.heap.size + 1 + 1 from Nat.le_trans HB.out.size (by omega))
  have Gd0 := Lib.hid (show w.heap.size ≤ w.heap.size + 1 + 1 + 1 from Nat.le_trans HB.out.size (by omega))
  have Xa0 := Lib.hid xa0
  have Xb0 := Lib.hid xb0
  have Xc0 := Lib.hid xc0
  have Xd0 := Lib.hid xd0
  have HB := Lib.hid (below_call HB.out hb)
  clear hk hb xa0 xb0 xc0 xd0
  refine Calls.mono (of_rat (x := 1) (by decide) (by decide)) ?_
  rintro e w2 ⟨v2, rfl, ho, hb⟩
  obtain ⟨o_b, o_a, o_n, o_c, o_d, o_m, o_e, rfl⟩ := ho.litb
  have Ha := Lib.hid (AR.keep Ha.out (Keep.call hb))
  have Hb := Lib.hid (AR.keep Hb.out (Keep.call hb))
  have Hc := Lib.hid (AR.keep Hc.out (Keep.call hb))
  have Xa0 := Lib.hid (Box.pcall hb Xa0.out)
  have Xb0 := Lib.hid (Box.pcall hb Xb0.out)
  have Xc0 := Lib.hid (Box.pcall hb Xc0.out)
  have Xd0 := Lib.hid (Box.pcall hb Xd0.out)
  have HB := Lib.hid (below_call HB.out hb)
  have Ho := Lib.hid ho
  clear hb ho
  obtain ⟨ca00, ca01, ca02, fa00, fa01, fa02⟩ := Xa0.out.c3
  have la0 := Xa0.out.lt
  obtain ⟨cb00, cb01, cb02, fb00, fb01, fb02⟩ := Xb0.out.c3
  have lb0 := Xb0.out.lt
  obtain ⟨cc00, cc01, cc02, fc00, fc01, fc02⟩ := Xc0.out.c3
  have lc0 := Xc0.out.lt
  obtain ⟨cd00, cd01, cd02, fd00, fd01, fd02⟩ := Xd0.out.c3
  have ld0 := Xd0.out.lt
  go_wp2_with fail
  clear ca00 ca01 ca02 fa00 fa01 fa02 la0 cb00 cb01 cb02 fb00 fb01 fb02 lb0 cc00 cc01 cc02 fc00 fc01 fc02 lc0 cd00 cd01 cd02 fd00 fd01 fd02 ld0
  obtain ⟨W3, hW⟩ : ∃ W3, W3 = (World.alloc w2 (.cells #[.bool o_b, .slice o_a o_n o_c, .slice o_d o_m o_e] 25)) := ⟨_, rfl⟩
  rw [← hW]
  obtain ⟨xe0, hk, hb⟩ := boxes_1 _ _ _ hW
  clear hW
  have Ha := Lib.hid (AR.keep Ha.out hk)
  have Hb := Lib.hid (AR.keep Hb.out hk)
  have Hc := Lib.hid (AR.keep Hc.out hk)
  have Ho := Lib.hid (CR.keep Ho.out hk)
  have Na0e0 := Lib.hid (show w.heap.size ≠ w2.heap.size from Nat.ne_of_lt (Nat.lt_of_lt_of_le Xa0.out.lt (by omega)))
  have Nb0e0 := Lib.hid (show w.heap.size + 1 ≠ w2.heap.size from Nat.ne_of_lt (Nat.lt_of_lt_of_le Xb0.out.lt (by omega)))
  have Nc0e0 := Lib.hid (show w.heap.size + 1 + 1 ≠ w2.heap.size from Nat.ne_of_lt (Nat.lt_of_lt_of_le Xc0.out.lt (by omega)))
  have Nd0e0 := Lib.hid (show w.heap.size + 1 + 1 + 1 ≠ w2.heap.size from Nat.ne_of_lt (Nat.lt_of_lt_of_le Xd0.out.lt (by omega)))
  have Ge0 := Lib.hid (show w.heap.size ≤ w2.heap.size from Nat.le_trans HB.out.size (by omega))
  have Xa0 := Lib.hid (Box.pcall hb Xa0.out)
  have Xb0 := Lib.hid (Box.pcall hb Xb0.out)
  have Xc0 := Lib.hid (Box.pcall hb Xc0.out)
  have Xd0 := Lib.hid (Box.pcall hb Xd0.out)
  have Xe0 := Lib.hid xe0
  have HB := Lib.hid (below_call HB.out hb)
  clear hk hb xe0
  (first | (have hcall := rluns_ar Hu.out Ha.out Hb.out (by omega); refine Calls.mono hcall ?_; clear hcall) | refine Calls.mono (rluns_ar Hu.out Ha.out Hb.out (by omega)) ?_)
  rintro e w4 ⟨v4, rfl, rfl, hb⟩
  have Hc := Lib.hid (AR.keep Hc.out (Keep.call hb))
  have Ho := Lib.hid (CR.keep Ho.out (Keep.call hb))
  have Xa0 := Lib.hid (Box.pcall hb Xa0.out)
  have Xb0 := Lib.hid (Box.pcall hb Xb0.out)
  have Xc0 := Lib.hid (Box.pcall hb Xc0.out)
  have Xd0 := Lib.hid (Box.pcall hb Xd0.out)
  have Xe0 := Lib.hid (Box.pcall hb Xe0.out)
  have HB := Lib.hid (below_call HB.out hb)
  clear hb
  obtain ⟨ca00, ca01, ca02, fa00, fa01, fa02⟩ := Xa0.out.c3
  have la0 := Xa0.out.lt
  obtain ⟨cb00, cb01, cb02, fb00, fb01, fb02⟩ := Xb0.out.c3
  have lb0 := Xb0.out.lt
  obtain ⟨cc00, cc01, cc02, fc00, fc01, fc02⟩ := Xc0.out.c3
  have lc0 := Xc0.out.lt
  obtain ⟨cd00, cd01, cd02, fd00, fd01, fd02⟩ := Xd0.out.c3
  have ld0 := Xd0.out.lt
  obtain ⟨ce00, ce01, ce02, fe00, fe01, fe02⟩ := Xe0.out.c3
  have le0 := Xe0.out.lt
  go_wp2_with fail
  clear ca00 ca01 ca02 fa00 fa01 fa02 la0 cb00 cb01 cb02 fb00 fb01 fb02 lb0 cc00 cc01 cc02 fc00 fc01 fc02 lc0 cd00 cd01 cd02 fd00 fd01 fd02 ld0 ce00 ce01 ce02 fe00 fe01 fe02 le0
  (first | (have hcall := rsign_ar j Hc.out Hj.out (by omega); refine Calls.mono hcall ?_; clear hcall) | refine Calls.mono (rsign_ar j Hc.out Hj.out (by omega)) ?_)
  rintro e w5 ⟨v5, rfl, ⟨⟩, hb⟩
  have Hc := Lib.hid (AR.keep Hc.out (Keep.call hb))
  have Ho := Lib.hid (CR.keep Ho.out (Keep.call hb))
  have Xa0 := Lib.hid (Box.pcall hb Xa0.out)
  have Xb0 := Lib.hid (Box.pcall hb Xb0.out)
  have Xc0 := Lib.hid (Box.pcall hb Xc0.out)
  have Xd0 := Lib.hid (Box.pcall hb Xd0.out)
  have Xe0 := Lib.hid (Box.pcall hb Xe0.out)
  have HB := Lib.hid (below_call HB.out hb)
  clear hb
  have hj0 : decide (j < 0) = false := Hj0.out
  obtain ⟨ca00, ca01, ca02, fa00, fa01, fa02⟩ := Xa0.out.c3
  have la0 := Xa0.out.lt
  obtain ⟨cb00, cb01, cb02, fb00, fb01, fb02⟩ := Xb0.out.c3
  have lb0 := Xb0.out.lt
  obtain ⟨cc00, cc01, cc02, fc00, fc01, fc02⟩ := Xc0.out.c3
  have lc0 := Xc0.out.lt
  obtain ⟨cd00, cd01, cd02, fd00, fd01, fd02⟩ := Xd0.out.c3
  have ld0 := Xd0.out.lt
  obtain ⟨ce00, ce01, ce02, fe00, fe01, fe02⟩ := Xe0.out.c3
  have le0 := Xe0.out.lt
  go_wp2_with fail
  clear ca00 ca01 ca02 fa00 fa01 fa02 la0 cb00 cb01 cb02 fb00 fb01 fb02 lb0 cc00 cc01 cc02 fc00 fc01 fc02 lc0 cd00 cd01 cd02 fd00 fd01 fd02 ld0 ce00 ce01 ce02 fe00 fe01 fe02 le0
  (first | (have hcall := rcmp_ar m Hc.out Ho.out.ar Hm.out (by omega) (by omega); refine Calls.mono hcall ?_; clear hcall) | refine Calls.mono (rcmp_ar m Hc.out Ho.out.ar Hm.out (by omega) (by omega)) ?_)
  rintro e w6 ⟨v6, rfl, ⟨⟩, hb⟩
  have Xa0 := Lib.hid (Box.pcall hb Xa0.out)
  have Xb0 := Lib.hid (Box.pcall hb Xb0.out)
  have Xc0 := Lib.hid (Box.pcall hb Xc0.out)
  have Xd0 := Lib.hid (Box.pcall hb Xd0.out)
  have Xe0 := Lib.hid (Box.pcall hb Xe0.out)
  have HB := Lib.hid (below_call HB.out hb)
  clear hb
  have hm0 : decide (0 < m) = true := Hm0.out
  obtain ⟨ca00, ca01, ca02, fa00, fa01, fa02⟩ := Xa0.out.c3
  have la0 := Xa0.out.lt
  obtain ⟨cb00, cb01, cb02, fb00, fb01, fb02⟩ := Xb0.out.c3
  have lb0 := Xb0.out.lt
  obtain ⟨cc00, cc01, cc02, fc00, fc01, fc02⟩ := Xc0.out.c3
  have lc0 := Xc0.out.lt
  obtain ⟨cd00, cd01, cd02, fd00, fd01, fd02⟩ := Xd0.out.c3
  have ld0 := Xd0.out.lt
  obtain ⟨ce00, ce01, ce02, fe00, fe01, fe02⟩ := Xe0.out.c3
  have le0 := Xe0.out.lt
  go_wp2
  clear ca00 ca01 ca02 fa00 fa01 fa02 la0 cb00 cb01 cb02 fb00 fb01 fb02 lb0 cc00 cc01 cc02 fc00 fc01 fc02 lc0 cd00 cd01 cd02 fd00 fd01 fd02 ld0 ce00 ce01 ce02 fe00 fe01 fe02 le0
  obtain ⟨W7, hW⟩ : ∃ W7, W7 = (World.setCell (World.setCell (World.setCell w6 ⟨w.heap.size + 1 + 1 + 1, 0, none⟩ (.bool false)) ⟨w.heap.size + 1 + 1 + 1, 1, none⟩ (.slice none 0 0)) ⟨w.heap.size + 1 + 1 + 1, 2, none⟩ (.slice none 0 0)) := ⟨_, rfl⟩
  rw [← hW]
  obtain ⟨xd0, hk, hf, hbb, hz⟩ := stored3s hW Xd0.out (by first | exact NoInt.bool _ | exact NoInt.slice _ _ _) (by first | exact NoInt.bool _ | exact NoInt.slice _ _ _) (by first | exact NoInt.bool _ | exact NoInt.slice _ _ _)
  have Xa0 := Lib.hid (hf _ _ _ Xa0.out (by omega))
  have Xb0 := Lib.hid (hf _ _ _ Xb0.out (by omega))
  have Xc0 := Lib.hid (hf _ _ _ Xc0.out (by omega))
  have Xd0 := Lib.hid xd0
  have Xe0 := Lib.hid (hf _ _ _ Xe0.out Nd0e0.out.symm)
  have HB := Lib.hid (hbb _ HB.out Gd0.out)
  clear hW hk hf hbb xd0
  clear hz
  exact ret_re rfl rfl rfl rfl Xd0.out rfl HB.out


set_option maxRecDepth 100000 in
set_option maxHeartbeats 4000000 in
theorem rlare_4 {L : Nat} {qa : Rat} {ba : Bool} {sa ta : Value} {qb : Rat} {bb : Bool} {sb tb : Value} {qc : Rat} {bc : Bool} {sc tc : Value} {w : World} (hu : unst qa qb = true) (j : Int) (hj : qc.num.sign = j) (hj0 : decide (j < 0) = false) (m : Int) (hm : cmpQ qc ((1 : Int) : Rat) = m) (hm0 : decide (0 < m) = false) (ha : AR qa L w (.agg #[.bool ba, sa, ta])) (hb : AR qb L w (.agg #[.bool bb, sb, tb])) (hc : AR qc L w (.agg #[.bool bc, sc, tc])) (hL : L ≤ 10000) :
    Calls Try.prog 21 #[.agg #[.bool ba, sa, ta], .agg #[.bool bb, sb, tb], .agg #[.bool bc, sc, tc]] w (Ret w (CRE (areaQ qa qb qc) (20 * L + 100) 0)) := by
  have Ha := Lib.hid ha
  have Hb := Lib.hid hb
  have Hc := Lib.hid hc
  have Hu := Lib.hid hu
  have Hj := Lib.hid hj
  have Hj0 := Lib.hid hj0
  have Hm := Lib.hid hm
  have Hm0 := Lib.hid hm0
  clear ha hb hc hu hj hj0 hm hm0
  go_enter Try.func21, Try.ntmps21
  have HB := Lib.hid (Below.refl w.heap.size w)
  go_wp2_with fail
  obtain ⟨W1, hW⟩ : ∃ W1, W1 = (World.alloc (World.alloc (World.alloc (World.alloc w (.cells #[.bool ba, sa, ta] 25)) (.cells #[.bool bb, sb, tb] 25)) (.cells #[.bool bc, sc, tc] 25)) (.cells #[.bool false, .slice none 0 0, .slice none 0 0] 25)) := ⟨_, rfl⟩
  rw [← hW]
  obtain ⟨xa0, xb0, xc0, xd0, hk, hb⟩ := boxes_4 _ _ _ _ _ _ _ _ _ hW
  clear hW
  have Ha := Lib.hid (AR.keep Ha.out hk)
  have Hb := Lib.hid (AR.keep Hb.out hk)
  have Hc := Lib.hid (AR.keep Hc.out hk)
  have Ga0 := Lib.hid (show w.heap.size ≤ w.heap.size from Nat.le_trans HB.out.size (by omega))
  have Gb0 := Lib.hid (show w.heap.size ≤ w.heap.size + 1 from Nat.le_trans HB.out.size (by omega))
  have Gc0 := Lib.hid (show w.heap.size ≤ w.heap.size + 1 + 1 from Nat.le_trans HB.out.size (by omega))
  have Gd0 := Lib.hid (show w.heap.size ≤ w.heap.size + 1 + 1 + 1 from Nat.le_trans HB.out.size (by omega))
  have Xa0 := Lib.hid xa0
  have Xb0 := Lib.hid xb0
  have Xc0 := Lib.hid xc0
  have Xd0 := Lib.hid xd0
  have HB := Lib.hid (below_call HB.out hb)
  clear hk hb xa0 xb0 xc0 xd0
  refine Calls.mono (of_rat (x := 1) (by decide) (by decide)) ?_
  rintro e w2 ⟨v2, rfl, ho, hb⟩
  obtain ⟨o_b, o_a, o_n, o_c, o_d, o_m, o_e, rfl⟩ := ho.litb
  have Ha := Lib.hid (AR.keep Ha.out (Keep.call hb))
  have Hb := Lib.hid (AR.keep Hb.out (Keep.call hb))
  have Hc := Lib.hid (AR.keep Hc.out (Keep.call hb))
  have Xa0 := Lib.hid (Box.pcall hb Xa0.out)
  have Xb0 := Lib.hid (Box.pcall hb Xb0.out)
  have Xc0 := Lib.hid (Box.pcall hb Xc0.out)
  have Xd0 := Lib.hid (Box.pcall hb Xd0.out)
  have HB := Lib.hid (below_call HB.out hb)
  have Ho := Lib.hid ho
  clear hb ho
  obtain ⟨ca00, ca01, ca02, fa00, fa01, fa02⟩ := Xa0.out.c3
  have la0 := Xa0.out.lt
  obtain ⟨cb00, cb01, cb02, fb00, fb01, fb02⟩ := Xb0.out.c3
  have lb0 := Xb0.out.lt
  obtain ⟨cc00, cc01, cc02, fc00, fc01, fc02⟩ := Xc0.out.c3
  have lc0 := Xc0.out.lt
  obtain ⟨cd00, cd01, cd02, fd00, fd01, fd02⟩ := Xd0.out.c3
  have ld0 := Xd0.out.lt
  go_wp2_with fail
  clear ca00 ca01 ca02 fa00 fa01 fa02 la0 cb00 cb01 cb02 fb00 fb01 fb02 lb0 cc00 cc01 cc02 fc00 fc01 fc02 lc0 cd00 cd01 cd02 fd00 fd01 fd02 ld0
  obtain ⟨W3, hW⟩ : ∃ W3, W3 = (World.alloc w2 (.cells #[.bool o_b, .slice o_a o_n o_c, .slice o_d o_m o_e] 25)) := ⟨_, rfl⟩
  rw [← hW]
  obtain ⟨xe0, hk, hb⟩ := boxes_1 _ _ _ hW
  clear hW
  have Ha := Lib.hid (AR.keep Ha.out hk)
  have Hb := Lib.hid (AR.keep Hb.out hk)
  have Hc := Lib.hid (AR.keep Hc.out hk)
  have Ho := Lib.hid (CR.keep Ho.out hk)
  have Na0e0 := Lib.hid (show w.heap.size ≠ w2.heap.size from Nat.ne_of_lt (Nat.lt_of_lt_of_le Xa0.out.lt (by omega)))
  have Nb0e0 := Lib.hid (show w.heap.size + 1 ≠ w2.heap.size from Nat.ne_of_lt (Nat.lt_of_lt_of_le Xb0.out.lt (by omega)))
  have Nc0e0 := Lib.hid (show w.heap.size + 1 + 1 ≠ w2.heap.size from Nat.ne_of_lt (Nat.lt_of_lt_of_le Xc0.out.lt (by omega)))
  have Nd0e0 := Lib.hid (show w.heap.size + 1 + 1 + 1 ≠ w2.heap.size from Nat.ne_of_lt (Nat.lt_of_lt_of_le Xd0.out.lt (by omega)))
  have Ge0 := Lib.hid (show w.heap.size ≤ w2.heap.size from Nat.le_trans HB.out.size (by omega))
  have Xa0 := Lib.hid (Box.pcall hb Xa0.out)
  have Xb0 := Lib.hid (Box.pcall hb Xb0.out)
  have Xc0 := Lib.hid (Box.pcall hb Xc0.out)
  have Xd0 := Lib.hid (Box.pcall hb Xd0.out)
  have Xe0 := Lib.hid xe0
  have HB := Lib.hid (below_call HB.out hb)
  clear hk hb xe0
  (first | (have hcall := rluns_ar Hu.out Ha.out Hb.out (by omega); refine Calls.mono hcall ?_; clear hcall) | refine Calls.mono (rluns_ar Hu.out Ha.out Hb.out (by omega)) ?_)
  rintro e w4 ⟨v4, rfl, rfl, hb⟩
  have Ha := Lib.hid (AR.keep Ha.out (Keep.call hb))
  have Hb := Lib.hid (AR.keep Hb.out (Keep.call hb))
  have Hc := Lib.hid (AR.keep Hc.out (Keep.call hb))
  have Ho := Lib.hid (CR.keep Ho.out (Keep.call hb))
  have Xa0 := Lib.hid (Box.pcall hb Xa0.out)
  have Xb0 := Lib.hid (Box.pcall hb Xb0.out)
  have Xc0 := Lib.hid (Box.pcall hb Xc0.out)
  have Xd0 := Lib.hid (Box.pcall hb Xd0.out)
  have Xe0 := Lib.hid (Box.pcall hb Xe0.out)
  have HB := Lib.hid (below_call HB.out hb)
  clear hb
  obtain ⟨ca00, ca01, ca02, fa00, fa01, fa02⟩ := Xa0.out.c3
  have la0 := Xa0.out.lt
  obtain ⟨cb00, cb01, cb02, fb00, fb01, fb02⟩ := Xb0.out.c3
  have lb0 := Xb0.out.lt
  obtain ⟨cc00, cc01, cc02, fc00, fc01, fc02⟩ := Xc0.out.c3
  have lc0 := Xc0.out.lt
  obtain ⟨cd00, cd01, cd02, fd00, fd01, fd02⟩ := Xd0.out.c3
  have ld0 := Xd0.out.lt
  obtain ⟨ce00, ce01, ce02, fe00, fe01, fe02⟩ := Xe0.out.c3
  have le0 := Xe0.out.lt
  go_wp2_with fail
  clear ca00 ca01 ca02 fa00 fa01 fa02 la0 cb00 cb01 cb02 fb00 fb01 fb02 lb0 cc00 cc01 cc02 fc00 fc01 fc02 lc0 cd00 cd01 cd02 fd00 fd01 fd02 ld0 ce00 ce01 ce02 fe00 fe01 fe02 le0
  (first | (have hcall := rsign_ar j Hc.out Hj.out (by omega); refine Calls.mono hcall ?_; clear hcall) | refine Calls.mono (rsign_ar j Hc.out Hj.out (by omega)) ?_)
  rintro e w5 ⟨v5, rfl, ⟨⟩, hb⟩
  have Ha := Lib.hid (AR.keep Ha.out (Keep.call hb))
  have Hb := Lib.hid (AR.keep Hb.out (Keep.call hb))
  have Hc := Lib.hid (AR.keep Hc.out (Keep.call hb))
  have Ho := Lib.hid (CR.keep Ho.out (Keep.call hb))
  have Xa0 := Lib.hid (Box.pcall hb Xa0.out)
  have Xb0 := Lib.hid (Box.pcall hb Xb0.out)
  have Xc0 := Lib.hid (Box.pcall hb Xc0.out)
  have Xd0 := Lib.hid (Box.pcall hb Xd0.out)
  have Xe0 := Lib.hid (Box.pcall hb Xe0.out)
  have HB := Lib.hid (below_call HB.out hb)
  clear hb
  have hj0 : decide (j < 0) = false := Hj0.out
  obtain ⟨ca00, ca01, ca02, fa00, fa01, fa02⟩ := Xa0.out.c3
  have la0 := Xa0.out.lt
  obtain ⟨cb00, cb01, cb02, fb00, fb01, fb02⟩ := Xb0.out.c3
  have lb0 := Xb0.out.lt
  obtain ⟨cc00, cc01, cc02, fc00, fc01, fc02⟩ := Xc0.out.c3
  have lc0 := Xc0.out.lt
  obtain ⟨cd00, cd01, cd02, fd00, fd01, fd02⟩ := Xd0.out.c3
  have ld0 := Xd0.out.lt
  obtain ⟨ce00, ce01, ce02, fe00, fe01, fe02⟩ := Xe0.out.c3
  have le0 := Xe0.out.lt
  go_wp2_with fail
  clear ca00 ca01 ca02 fa00 fa01 fa02 la0 cb00 cb01 cb02 fb00 fb01 fb02 lb0 cc00 cc01 cc02 fc00 fc01 fc02 lc0 cd00 cd01 cd02 fd00 fd01 fd02 ld0 ce00 ce01 ce02 fe00 fe01 fe02 le0
  (first | (have hcall := rcmp_ar m Hc.out Ho.out.ar Hm.out (by omega) (by omega); refine Calls.mono hcall ?_; clear hcall) | refine Calls.mono (rcmp_ar m Hc.out Ho.out.ar Hm.out (by omega) (by omega)) ?_)
  rintro e w6 ⟨v6, rfl, ⟨⟩, hb⟩
  have Ha := Lib.hid (AR.keep Ha.out (Keep.call hb))
  have Hb := Lib.hid (AR.keep Hb.out (Keep.call hb))
  have Hc := Lib.hid (AR.keep Hc.out (Keep.call hb))
  have Ho := Lib.hid (CR.keep Ho.out (Keep.call hb))
  have Xa0 := Lib.hid (Box.pcall hb Xa0.out)
  have Xb0 := Lib.hid (Box.pcall hb Xb0.out)
  have Xc0 := Lib.hid (Box.pcall hb Xc0.out)
  have Xd0 := Lib.hid (Box.pcall hb Xd0.out)
  have Xe0 := Lib.hid (Box.pcall hb Xe0.out)
  have HB := Lib.hid (below_call HB.out hb)
  clear hb
  have hm0 : decide (0 < m) = false := Hm0.out
  obtain ⟨ca00, ca01, ca02, fa00, fa01, fa02⟩ := Xa0.out.c3
  have la0 := Xa0.out.lt
  obtain ⟨cb00, cb01, cb02, fb00, fb01, fb02⟩ := Xb0.out.c3
  have lb0 := Xb0.out.lt
  obtain ⟨cc00, cc01, cc02, fc00, fc01, fc02⟩ := Xc0.out.c3
  have lc0 := Xc0.out.lt
  obtain ⟨cd00, cd01, cd02, fd00, fd01, fd02⟩ := Xd0.out.c3
  have ld0 := Xd0.out.lt
  obtain ⟨ce00, ce01, ce02, fe00, fe01, fe02⟩ := Xe0.out.c3
  have le0 := Xe0.out.lt
  go_wp2_with fail
  clear ca00 ca01 ca02 fa00 fa01 fa02 la0 cb00 cb01 cb02 fb00 fb01 fb02 lb0 cc00 cc01 cc02 fc00 fc01 fc02 lc0 cd00 cd01 cd02 fd00 fd01 fd02 ld0 ce00 ce01 ce02 fe00 fe01 fe02 le0
  have Ha := Lib.hid (AR.keep Ha.out (Keep.drew w6))
  have Hb := Lib.hid (AR.keep Hb.out (Keep.drew w6))
  have Hc := Lib.hid (AR.keep Hc.out (Keep.drew w6))
  have Ho := Lib.hid (CR.keep Ho.out (Keep.drew w6))
  have Xa0 := Lib.hid (Box.drew Xa0.out)
  have Xb0 := Lib.hid (Box.drew Xb0.out)
  have Xc0 := Lib.hid (Box.drew Xc0.out)
  have Xd0 := Lib.hid (Box.drew Xd0.out)
  have Xe0 := Lib.hid (Box.drew Xe0.out)
  have HB := Lib.hid (Below.drew HB.out)
  refine wp_region_float [w.heap.size + 1 + 1 + 1] [] (by kernel_rfl) (by kernel_rfl) 40 (by kernel_rfl) Flok.nil ?_
  intro ok
  have Hok := Lib.hid ok
  clear ok
  have HG := Lib.hid (Below.refl (w6.drew).heap.size (w6.drew))
  refine good_pureX 0 (some 27) (Go.Op.move (Go.Operand.tmp 9)) (none) (.func (.func 47) #[] #[]) (by kernel_rfl) (by kernel_rfl) (by kernel_rfl) (fun _ _ _ h => h) (fun w' hw' => ?_) ?_
  · first | (go_simp; done) | (go_simp; simp_all; done) | (go_simp; rfl)
  simp only [Act.put, List.setIfInBounds_toArray, List.set_cons_zero, List.set_cons_succ]
  refine good_pureX 1 (some 28) (Go.Op.load 25 (Go.Operand.tmp 5)) (none) (.agg #[.bool bc, sc, tc]) (by kernel_rfl) (by kernel_rfl) (by kernel_rfl) (fun _ _ _ h => h) (fun w' hw' => ?_) ?_
  · obtain ⟨cc00, cc01, cc02, fc00, fc01, fc02⟩ := (Box.se hw' Xc0.out (notin1 (by omega))).c3
    first | (go_simp; done) | (go_simp; simp_all; done) | (go_simp; rfl)
  simp only [Act.put, List.setIfInBounds_toArray, List.set_cons_zero, List.set_cons_succ]
  refine good_pureX 2 (some 29) (Go.Op.load 25 (Go.Operand.tmp 3)) (none) (.agg #[.bool ba, sa, ta]) (by kernel_rfl) (by kernel_rfl) (by kernel_rfl) (fun _ _ _ h => h) (fun w' hw' => ?_) ?_
  · obtain ⟨ca00, ca01, ca02, fa00, fa01, fa02⟩ := (Box.se hw' Xa0.out (notin1 (by omega))).c3
    first | (go_simp; done) | (go_simp; simp_all; done) | (go_simp; rfl)
  simp only [Act.put, List.setIfInBounds_toArray, List.set_cons_zero, List.set_cons_succ]
  refine good_pureX 4 (some 31) (Go.Op.move (Go.Operand.tmp 9)) (none) (.func (.func 47) #[] #[]) (by kernel_rfl) (by kernel_rfl) (by kernel_rfl) (fun _ _ _ h => h) (fun w' hw' => ?_) ?_
  · first | (go_simp; done) | (go_simp; simp_all; done) | (go_simp; rfl)
  simp only [Act.put, List.setIfInBounds_toArray, List.set_cons_zero, List.set_cons_succ]
  refine good_pureX 5 (some 32) (Go.Op.load 25 (Go.Operand.tmp 8)) (none) (.agg #[.bool o_b, .slice o_a o_n o_c, .slice o_d o_m o_e]) (by kernel_rfl) (by kernel_rfl) (by kernel_rfl) (fun _ _ _ h => h) (fun w' hw' => ?_) ?_
  · obtain ⟨ce00, ce01, ce02, fe00, fe01, fe02⟩ := (Box.se hw' Xe0.out (notin1 Nd0e0.out.symm)).c3
    first | (go_simp; done) | (go_simp; simp_all; done) | (go_simp; rfl)
  simp only [Act.put, List.setIfInBounds_toArray, List.set_cons_zero, List.set_cons_succ]
  refine good_pureX 6 (some 33) (Go.Op.load 25 (Go.Operand.tmp 5)) (none) (.agg #[.bool bc, sc, tc]) (by kernel_rfl) (by kernel_rfl) (by kernel_rfl) (fun _ _ _ h => h) (fun w' hw' => ?_) ?_
  · obtain ⟨cc00, cc01, cc02, fc00, fc01, fc02⟩ := (Box.se hw' Xc0.out (notin1 (by omega))).c3
    first | (go_simp; done) | (go_simp; simp_all; done) | (go_simp; rfl)
  simp only [Act.put, List.setIfInBounds_toArray, List.set_cons_zero, List.set_cons_succ]
  refine good_pureX 8 (some 35) (Go.Op.load 25 (Go.Operand.tmp 4)) (none) (.agg #[.bool bb, sb, tb]) (by kernel_rfl) (by kernel_rfl) (by kernel_rfl) (fun _ _ _ h => h) (fun w' hw' => ?_) ?_
  · obtain ⟨cb00, cb01, cb02, fb00, fb01, fb02⟩ := (Box.se hw' Xb0.out (notin1 (by omega))).c3
    first | (go_simp; done) | (go_simp; simp_all; done) | (go_simp; rfl)
  simp only [Act.put, List.setIfInBounds_toArray, List.set_cons_zero, List.set_cons_succ]
  refine good_callV 3 47 (some 30) 27 #[Go.Operand.tmp 28, Go.Operand.tmp 29] #[25, 25] (none) #[.agg #[.bool bc, sc, tc], .agg #[.bool ba, sa, ta]] (by kernel_rfl) Hok.out (by kernel_rfl) (by kernel_rfl) (by kernel_rfl) (by kernel_rfl) (by kernel_rfl) rfl rfl rfl (by kernel_rfl) (fun w7 hb => ?_)
  have HG := Lib.hid (below_call HG.out hb)
  clear hb
  (first | (have hcall := part_ar (AR.keep Hc.out (Keep.call HG.out)) (AR.keep Ha.out (Keep.call HG.out)) (by omega) (by omega); refine Calls.mono hcall ?_; clear hcall) | refine Calls.mono (part_ar (AR.keep Hc.out (Keep.call HG.out)) (AR.keep Ha.out (Keep.call HG.out)) (by omega) (by omega)) ?_)
  rintro e w8 ⟨v8, rfl, hp1, hb⟩
  obtain ⟨p1_b, p1_a, p1_n, p1_c, p1_d, p1_m, p1_e, rfl⟩ := hp1.litb
  refine ⟨_, rfl, ?_, hb⟩
  have HG := Lib.hid (below_call HG.out hb)
  have Hp1 := Lib.hid hp1
  clear hb hp1
  simp only [Act.put, List.setIfInBounds_toArray, List.set_cons_zero, List.set_cons_succ]
  refine good_callX 7 38 (some 34) #[Go.Operand.tmp 32, Go.Operand.tmp 33] #[25, 25] (none) #[.agg #[.bool o_b, .slice o_a o_n o_c, .slice o_d o_m o_e], .agg #[.bool bc, sc, tc]] (by kernel_rfl) Hok.out (by kernel_rfl) (by kernel_rfl) (by kernel_rfl) (by kernel_rfl) rfl rfl rfl (by kernel_rfl) (fun w9 hb => ?_)
  have Hp1 := Lib.hid (CR.keep Hp1.out (Keep.call hb))
  have HG := Lib.hid (below_call HG.out hb)
  clear hb
  (first | (have hcall := rsub_ar (CR.keep Ho.out (Keep.call HG.out)).ar (AR.keep Hc.out (Keep.call HG.out)) (by omega) (by omega); refine Calls.mono hcall ?_; clear hcall) | refine Calls.mono (rsub_ar (CR.keep Ho.out (Keep.call HG.out)).ar (AR.keep Hc.out (Keep.call HG.out)) (by omega) (by omega)) ?_)
  rintro e w10 ⟨v10, rfl, hd1, hb⟩
  obtain ⟨d1_b, d1_a, d1_n, d1_c, d1_d, d1_m, d1_e, rfl⟩ := hd1.litb
  refine ⟨_, rfl, ?_, hb⟩
  have Hp1 := Lib.hid (CR.keep Hp1.out (Keep.call hb))
  have HG := Lib.hid (below_call HG.out hb)
  have Hd1 := Lib.hid hd1
  clear hb hd1
  simp only [Act.put, List.setIfInBounds_toArray, List.set_cons_zero, List.set_cons_succ]
  refine good_callV 9 47 (some 36) 31 #[Go.Operand.tmp 34, Go.Operand.tmp 35] #[25, 25] (none) #[.agg #[.bool d1_b, .slice d1_a d1_n d1_c, .slice d1_d d1_m d1_e], .agg #[.bool bb, sb, tb]] (by kernel_rfl) Hok.out (by kernel_rfl) (by kernel_rfl) (by kernel_rfl) (by kernel_rfl) (by kernel_rfl) rfl rfl rfl (by kernel_rfl) (fun w11 hb => ?_)
  have Hp1 := Lib.hid (CR.keep Hp1.out (Keep.call hb))
  have Hd1 := Lib.hid (CR.keep Hd1.out (Keep.call hb))
  have HG := Lib.hid (below_call HG.out hb)
  clear hb
  (first | (have hcall := part_ar Hd1.out.ar (AR.keep Hb.out (Keep.call HG.out)) (by omega) (by omega); refine Calls.mono hcall ?_; clear hcall) | refine Calls.mono (part_ar Hd1.out.ar (AR.keep Hb.out (Keep.call HG.out)) (by omega) (by omega)) ?_)
  rintro e w12 ⟨v12, rfl, hp2, hb⟩
  obtain ⟨p2_b, p2_a, p2_n, p2_c, p2_d, p2_m, p2_e, rfl⟩ := hp2.litb
  refine ⟨_, rfl, ?_, hb⟩
  have Hp1 := Lib.hid (CR.keep Hp1.out (Keep.call hb))
  have HG := Lib.hid (below_call HG.out hb)
  have Hp2 := Lib.hid hp2
  clear hb hp2
  simp only [Act.put, List.setIfInBounds_toArray, List.set_cons_zero, List.set_cons_succ]
  refine good_callX 10 48 (some 37) #[Go.Operand.tmp 30, Go.Operand.tmp 36] #[25, 25] (none) #[.agg #[.bool p1_b, .slice p1_a p1_n p1_c, .slice p1_d p1_m p1_e], .agg #[.bool p2_b, .slice p2_a p2_n p2_c, .slice p2_d p2_m p2_e]] (by kernel_rfl) Hok.out (by kernel_rfl) (by kernel_rfl) (by kernel_rfl) (by kernel_rfl) rfl rfl rfl (by kernel_rfl) (fun w13 hb => ?_)
  have Hp1 := Lib.hid (CR.keep Hp1.out (Keep.call hb))
  have Hp2 := Lib.hid (CR.keep Hp2.out (Keep.call hb))
  have HG := Lib.hid (below_call HG.out hb)
  clear hb
  (first | (have hcall := radd_ar Hp1.out.ar Hp2.out.ar (by omega) (by omega); refine Calls.mono hcall ?_; clear hcall) | refine Calls.mono (radd_ar Hp1.out.ar Hp2.out.ar (by omega) (by omega)) ?_)
  rintro e w14 ⟨v14, rfl, hq1, hb⟩
  obtain ⟨q1_b, q1_a, q1_n, q1_c, q1_d, q1_m, q1_e, rfl⟩ := hq1.litb
  refine ⟨_, rfl, ?_, hb⟩
  have HG := Lib.hid (below_call HG.out hb)
  have Hq1 := Lib.hid hq1
  clear hb hq1
  simp only [Act.put, List.setIfInBounds_toArray, List.set_cons_zero, List.set_cons_succ]
  refine good_callX 11 46 (some 38) #[Go.Operand.const (Go.Value.int Go.IntKind.i64 2)] #[3] (none) #[.int .i64 2] (by kernel_rfl) Hok.out (by kernel_rfl) (by kernel_rfl) (by kernel_rfl) (by kernel_rfl) rfl rfl rfl (by kernel_rfl) (fun w15 hb => ?_)
  have Hq1 := Lib.hid (CR.keep Hq1.out (Keep.call hb))
  have HG := Lib.hid (below_call HG.out hb)
  clear hb
  refine Calls.mono (of_rat (x := 2) (by decide) (by decide)) ?_
  rintro e w16 ⟨v16, rfl, ht2, hb⟩
  obtain ⟨t2_b, t2_a, t2_n, t2_c, t2_d, t2_m, t2_e, rfl⟩ := ht2.litb
  refine ⟨_, rfl, ?_, hb⟩
  have Hq1 := Lib.hid (CR.keep Hq1.out (Keep.call hb))
  have HG := Lib.hid (below_call HG.out hb)
  have Ht2 := Lib.hid ht2
  clear hb ht2
  simp only [Act.put, List.setIfInBounds_toArray, List.set_cons_zero, List.set_cons_succ]
  refine good_callX 12 37 (some 39) #[Go.Operand.tmp 37, Go.Operand.tmp 38] #[25, 25] (none) #[.agg #[.bool q1_b, .slice q1_a q1_n q1_c, .slice q1_d q1_m q1_e], .agg #[.bool t2_b, .slice t2_a t2_n t2_c, .slice t2_d t2_m t2_e]] (by kernel_rfl) Hok.out (by kernel_rfl) (by kernel_rfl) (by kernel_rfl) (by kernel_rfl) rfl rfl rfl (by kernel_rfl) (fun w17 hb => ?_)
  have Hq1 := Lib.hid (CR.keep Hq1.out (Keep.call hb))
  have Ht2 := Lib.hid (CR.keep Ht2.out (Keep.call hb))
  have HG := Lib.hid (below_call HG.out hb)
  clear hb
  (first | (have hcall := rlquo_ar two_ne Hq1.out.ar Ht2.out.ar (by omega) (by omega); refine Calls.mono hcall ?_; clear hcall) | refine Calls.mono (rlquo_ar two_ne Hq1.out.ar Ht2.out.ar (by omega) (by omega)) ?_)
  rintro e w18 ⟨v18, rfl, hz, hb⟩
  obtain ⟨z_b, z_a, z_n, z_c, z_d, z_m, z_e, rfl⟩ := hz.litb
  refine ⟨_, rfl, ?_, hb⟩
  have HG := Lib.hid (below_call HG.out hb)
  have Hz := Lib.hid hz
  clear hb hz
  simp only [Act.put, List.setIfInBounds_toArray, List.set_cons_zero, List.set_cons_succ]
  refine good_end0 2 (by kernel_rfl) (fun _ w19 hb => ?_)
  have Hz := Lib.hid (CR.keep Hz.out (Keep.call hb))
  have HG := Lib.hid (below_call HG.out hb)
  clear hb
  have Xa0 := Lib.hid (Box.pcall HG.out Xa0.out)
  have Xb0 := Lib.hid (Box.pcall HG.out Xb0.out)
  have Xc0 := Lib.hid (Box.pcall HG.out Xc0.out)
  have Xd0 := Lib.hid (Box.pcall HG.out Xd0.out)
  have Xe0 := Lib.hid (Box.pcall HG.out Xe0.out)
  have HB := Lib.hid (below_call HB.out HG.out)
  have HS := Lib.hid (SE.of (E := [w.heap.size + 1 + 1 + 1]) HG.out)
  refine held_oneX 13 (Go.Op.store 25 (Go.Operand.tmp 6) (Go.Operand.tmp 39)) (none) (World.setCell (World.setCell (World.setCell w19 ⟨w.heap.size + 1 + 1 + 1, 0, none⟩ (.bool z_b)) ⟨w.heap.size + 1 + 1 + 1, 1, none⟩ (.slice z_a z_n z_c)) ⟨w.heap.size + 1 + 1 + 1, 2, none⟩ (.slice z_d z_m z_e)) (by kernel_rfl) (by kernel_rfl) (by kernel_rfl) (by kernel_rfl) ?_ (HS.out.store3 in1) ?_
  · obtain ⟨cd00, cd01, cd02, fd00, fd01, fd02⟩ := Xd0.out.c3
    first | (go_simp; done) | (go_simp; simp_all; done) | (go_simp; rfl)
  obtain ⟨W20, hW⟩ : ∃ W20, W20 = (World.setCell (World.setCell (World.setCell w19 ⟨w.heap.size + 1 + 1 + 1, 0, none⟩ (.bool z_b)) ⟨w.heap.size + 1 + 1 + 1, 1, none⟩ (.slice z_a z_n z_c)) ⟨w.heap.size + 1 + 1 + 1, 2, none⟩ (.slice z_d z_m z_e)) := ⟨_, rfl⟩
  rw [← hW]
  obtain ⟨xd0, hk, hf, hbb, hz⟩ := stored3s hW Xd0.out (by first | exact NoInt.bool _ | exact NoInt.slice _ _ _) (by first | exact NoInt.bool _ | exact NoInt.slice _ _ _) (by first | exact NoInt.bool _ | exact NoInt.slice _ _ _)
  have Hz := Lib.hid (CR.keep Hz.out hk)
  have Xa0 := Lib.hid (hf _ _ _ Xa0.out (by omega))
  have Xb0 := Lib.hid (hf _ _ _ Xb0.out (by omega))
  have Xc0 := Lib.hid (hf _ _ _ Xc0.out (by omega))
  have Xd0 := Lib.hid xd0
  have Xe0 := Lib.hid (hf _ _ _ Xe0.out Nd0e0.out.symm)
  have HB := Lib.hid (hbb _ HB.out Gd0.out)
  have HS := Lib.hid (show SE (w6.drew) [w.heap.size + 1 + 1 + 1] W20 from by rw [hW]; exact HS.out.store3 in1)
  clear hW hk hf hbb xd0
  clear hz
  refine held_pureX 14 (some 7) (Go.Op.assign (Go.Operand.const (Go.Value.int Go.IntKind.i64 0))) (none) (.int .i64 0) (by kernel_rfl) (by kernel_rfl) (by kernel_rfl) (fun _ _ _ h => h) (fun w' => by first | (go_simp; done) | (go_simp; simp_all; done) | (go_simp; rfl)) HS.out ?_
  simp only [Act.put, List.setIfInBounds_toArray, List.set_cons_zero, List.set_cons_succ]
  refine wpAnyH_done (by kernel_rfl) ?_ _
  clear HG HS Hok 
  obtain ⟨ca00, ca01, ca02, fa00, fa01, fa02⟩ := Xa0.out.c3
  have la0 := Xa0.out.lt
  obtain ⟨cb00, cb01, cb02, fb00, fb01, fb02⟩ := Xb0.out.c3
  have lb0 := Xb0.out.lt
  obtain ⟨cc00, cc01, cc02, fc00, fc01, fc02⟩ := Xc0.out.c3
  have lc0 := Xc0.out.lt
  obtain ⟨cd00, cd01, cd02, fd00, fd01, fd02⟩ := Xd0.out.c3
  have ld0 := Xd0.out.lt
  obtain ⟨ce00, ce01, ce02, fe00, fe01, fe02⟩ := Xe0.out.c3
  have le0 := Xe0.out.lt
  go_wp2
  clear ca00 ca01 ca02 fa00 fa01 fa02 la0 cb00 cb01 cb02 fb00 fb01 fb02 lb0 cc00 cc01 cc02 fc00 fc01 fc02 lc0 cd00 cd01 cd02 fd00 fd01 fd02 ld0 ce00 ce01 ce02 fe00 fe01 fe02 le0
  exact ret_re rfl rfl rfl rfl Xd0.out ⟨_, rfl, CR.mono Hz.out (by omega)⟩ HB.out


theorem rlare_ar {a b c : Rat} {L : Nat} {u v x : Value} {w : World} (hu : unst a b = true) (h0 : 0 ≤ c) (h1 : c ≤ ((1 : Int) : Rat)) (h : AR a L w u) (h' : AR b L w v) (h'' : AR c L w x) (hL : L ≤ 10000) : Calls Try.prog 21 #[u, v, x] w (Ret w (CRE (areaQ a b c) (20 * L + 100) 0)) := by
  obtain ⟨ba, sa, ta, rfl⟩ := h.agg
  obtain ⟨bb, sb, tb, rfl⟩ := h'.agg
  obtain ⟨bc, sc, tc, rfl⟩ := h''.agg
  exact rlare_4 hu _ rfl (decide_eq_false (by have := sign_ge.2 h0; omega)) _ rfl (decide_eq_false (by have := cmpQ_le.2 h1; omega)) h h' h'' hL

theorem rlare_no_ar {a b c : Rat} {L : Nat} {u v x : Value} {w : World} (hu : unst a b = false ∨ c < 0 ∨ ((1 : Int) : Rat) < c) (h : AR a L w u) (h' : AR b L w v) (h'' : AR c L w x) (hL : L ≤ 10000) : Calls Try.prog 21 #[u, v, x] w (Ret w (Val (.tuple #[.agg #[.bool false, .slice none 0 0, .slice none 0 0], .int .i64 2]))) := by
  obtain ⟨ba, sa, ta, rfl⟩ := h.agg
  obtain ⟨bb, sb, tb, rfl⟩ := h'.agg
  obtain ⟨bc, sc, tc, rfl⟩ := h''.agg
  cases h1 : unst a b
  · exact rlare_1 h1 h h' h'' hL
  · rw [h1] at hu
    by_cases h2 : c < 0
    · exact rlare_2 h1 _ rfl (decide_eq_true (by have := mt sign_ge.1 (show ¬ 0 ≤ c by grind); omega)) h h' h'' hL
    · have h3 : ((1 : Int) : Rat) < c := by
        rcases hu with k | k | k
        · cases k
        · exact absurd k h2
        · exact k
      exact rlare_3 h1 _ rfl (decide_eq_false (by have := sign_ge.2 (show 0 ≤ c by grind); omega)) _ rfl (decide_eq_true (by have := mt (@cmpQ_le c ((1 : Int) : Rat)).1 (by grind); omega)) h h' h'' hL

set_option maxRecDepth 100000 in
set_option maxHeartbeats 4000000 in
theorem zlquo_p {L M : Nat} {qa : Rat} {ba : Bool} {sa ta : Value} {qb : Rat} {bb : Bool} {sb tb : Value} {w : World} (h0 : qb ≠ 0) (ha : AR qa L w (.agg #[.bool ba, sa, ta])) (hb : AR qb M w (.agg #[.bool bb, sb, tb])) (hL : L ≤ 100000) (hM : M ≤ 100000) :
    Calls Try.prog 39 #[.agg #[.bool ba, sa, ta], .agg #[.bool bb, sb, tb]] w (Ret w (CR (qa / qb) (L + M + 2))) := by
  have Ha := Lib.hid ha
  have Hb := Lib.hid hb
  have H0 := Lib.hid h0
  clear ha hb h0
  go_enter Try.func39, Try.ntmps39
  have HB := Lib.hid (Below.refl w.heap.size w)
  go_wp2_with fail
  obtain ⟨W1, hW⟩ : ∃ W1, W1 = (World.alloc (World.alloc (World.alloc w (.cells #[.bool ba, sa, ta] 25)) (.cells #[.bool bb, sb, tb] 25)) (.cells #[.bool false, .slice none 0 0, .slice none 0 0] 25)) := ⟨_, rfl⟩
  rw [← hW]
  obtain ⟨xa0, xb0, xc0, hk, hb⟩ := boxes_3 _ _ _ _ _ _ _ hW
  clear hW
  have Ha := Lib.hid (AR.keep Ha.out hk)
  have Hb := Lib.hid (AR.keep Hb.out hk)
  have Ga0 := Lib.hid (show w.heap.size ≤ w.heap.size from Nat.le_trans HB.out.size (by omega))
  have Gb0 := Lib.hid (show w.heap.size ≤ w.heap.size + 1 from Nat.le_trans HB.out.size (by omega))
  have Gc0 := Lib.hid (show w.heap.size ≤ w.heap.size + 1 + 1 from Nat.le_trans HB.out.size (by omega))
  have Xa0 := Lib.hid xa0
  have Xb0 := Lib.hid xb0
  have Xc0 := Lib.hid xc0
  have HB := Lib.hid (below_call HB.out hb)
  clear hk hb xa0 xb0 xc0
  (first | (have hcall := zdiv_ar H0.out Ha.out Hb.out (by omega) (by omega); refine Calls.mono hcall ?_; clear hcall) | refine Calls.mono (zdiv_ar H0.out Ha.out Hb.out (by omega) (by omega)) ?_)
  rintro e w2 ⟨t2, rfl, ⟨v2, rfl, hz⟩, hb⟩
  obtain ⟨z_b, z_a, z_n, z_c, z_d, z_m, z_e, rfl⟩ := hz.litb
  have Xa0 := Lib.hid (Box.pcall hb Xa0.out)
  have Xb0 := Lib.hid (Box.pcall hb Xb0.out)
  have Xc0 := Lib.hid (Box.pcall hb Xc0.out)
  have HB := Lib.hid (below_call HB.out hb)
  have Hz := Lib.hid hz
  clear hb hz
  obtain ⟨ca00, ca01, ca02, fa00, fa01, fa02⟩ := Xa0.out.c3
  have la0 := Xa0.out.lt
  obtain ⟨cb00, cb01, cb02, fb00, fb01, fb02⟩ := Xb0.out.c3
  have lb0 := Xb0.out.lt
  obtain ⟨cc00, cc01, cc02, fc00, fc01, fc02⟩ := Xc0.out.c3
  have lc0 := Xc0.out.lt
  go_wp2
  clear ca00 ca01 ca02 fa00 fa01 fa02 la0 cb00 cb01 cb02 fb00 fb01 fb02 lb0 cc00 cc01 cc02 fc00 fc01 fc02 lc0
  obtain ⟨W3, hW⟩ : ∃ W3, W3 = (World.setCell (World.setCell (World.setCell w2 ⟨w.heap.size + 1 + 1, 0, none⟩ (.bool z_b)) ⟨w.heap.size + 1 + 1, 1, none⟩ (.slice z_a z_n z_c)) ⟨w.heap.size + 1 + 1, 2, none⟩ (.slice z_d z_m z_e)) := ⟨_, rfl⟩
  rw [← hW]
  obtain ⟨xc0, hk, hf, hbb, hz⟩ := stored3s hW Xc0.out (by first | exact NoInt.bool _ | exact NoInt.slice _ _ _) (by first | exact NoInt.bool _ | exact NoInt.slice _ _ _) (by first | exact NoInt.bool _ | exact NoInt.slice _ _ _)
  have Hz := Lib.hid (CR.keep Hz.out hk)
  have Xa0 := Lib.hid (hf _ _ _ Xa0.out (by omega))
  have Xb0 := Lib.hid (hf _ _ _ Xb0.out (by omega))
  have Xc0 := Lib.hid xc0
  have HB := Lib.hid (hbb _ HB.out Gc0.out)
  clear hW hk hf hbb xc0
  have hz3 := hz
  clear hz
  obtain ⟨W4, hW⟩ : ∃ W4, W4 = (World.alloc W3 (.cells #[.bool z_b, .slice z_a z_n z_c, .slice z_d z_m z_e] 25)) := ⟨_, rfl⟩
  rw [← hW]
  obtain ⟨xd0, hk, hb⟩ := boxes_1 _ _ _ hW
  clear hW
  rw [hz3] at xd0
  have Hz := Lib.hid (CR.keep Hz.out hk)
  have Na0d0 := Lib.hid (show w.heap.size ≠ w2.heap.size from Nat.ne_of_lt (Nat.lt_of_lt_of_le Xa0.out.lt (by omega)))
  have Nb0d0 := Lib.hid (show w.heap.size + 1 ≠ w2.heap.size from Nat.ne_of_lt (Nat.lt_of_lt_of_le Xb0.out.lt (by omega)))
  have Nc0d0 := Lib.hid (show w.heap.size + 1 + 1 ≠ w2.heap.size from Nat.ne_of_lt (Nat.lt_of_lt_of_le Xc0.out.lt (by omega)))
  have Gd0 := Lib.hid (show w.heap.size ≤ w2.heap.size from Nat.le_trans HB.out.size (by omega))
  clear hz3
  have Xa0 := Lib.hid (Box.pcall hb Xa0.out)
  have Xb0 := Lib.hid (Box.pcall hb Xb0.out)
  have Xc0 := Lib.hid (Box.pcall hb Xc0.out)
  have Xd0 := Lib.hid xd0
  have HB := Lib.hid (below_call HB.out hb)
  clear hk hb xd0
  exact ret_rat1 rfl rfl rfl Xc0.out Hz.out HB.out


theorem zlquo_ar {a b : Rat} {L M : Nat} {u v : Value} {w : World} (h0 : b ≠ 0) (h : AR a L w u) (h' : AR b M w v) (hL : L ≤ 100000) (hM : M ≤ 100000) : Calls Try.prog 39 #[u, v] w (Ret w (CR (a / b) (L + M + 2))) := by
  obtain ⟨ba, sa, ta, rfl⟩ := h.agg
  obtain ⟨bb, sb, tb, rfl⟩ := h'.agg
  exact zlquo_p h0 h h' hL hM

set_option maxRecDepth 100000 in
set_option maxHeartbeats 4000000 in
theorem zluns_1 {L : Nat} {qa : Rat} {ba : Bool} {sa ta : Value} {qb : Rat} {bb : Bool} {sb tb : Value} {w : World} (s : Int) (hs : qa.num.sign = s) (hs0 : decide (s < 0) = false) (ha : AR qa L w (.agg #[.bool ba, sa, ta])) (hb : AR qb L w (.agg #[.bool bb, sb, tb])) (hL : L ≤ 10000) :
    Calls Try.prog 16 #[.agg #[.bool ba, sa, ta], .agg #[.bool bb, sb, tb]] w (Ret w (Val (.bool false))) := by
  have Ha := Lib.hid ha
  have Hb := Lib.hid hb
  have Hs := Lib.hid hs
  have Hs0 := Lib.hid hs0
  clear ha hb hs hs0
  go_enter Try.func16, Try.ntmps16
  have HB := Lib.hid (Below.refl w.heap.size w)
  go_wp2_with fail
  obtain ⟨W1, hW⟩ : ∃ W1, W1 = (World.alloc (World.alloc w (.cells #[.bool ba, sa, ta] 25)) (.cells #[.bool bb, sb, tb] 25)) := ⟨_, rfl⟩
  rw [← hW]
  obtain ⟨xa0, xb0, hk, hb⟩ := boxes_2 _ _ _ _ _ hW
  clear hW
  have Ha := Lib.hid (AR.keep Ha.out hk)
  have Ga0 := Lib.hid (show w.heap.size ≤ w.heap.size from Nat.le_trans HB.out.size (by omega))
  have Gb0 := Lib.hid (show w.heap.size ≤ w.heap.size + 1 from Nat.le_trans HB.out.size (by omega))
  have Xa0 := Lib.hid xa0
  have Xb0 := Lib.hid xb0
  have HB := Lib.hid (below_call HB.out hb)
  clear hk hb xa0 xb0
  (first | (have hcall := zsign_ar s Ha.out Hs.out ; refine Calls.mono hcall ?_; clear hcall) | refine Calls.mono (zsign_ar s Ha.out Hs.out ) ?_)
  rintro e w2 ⟨v2, rfl, ⟨⟩, hb⟩
  have Xa0 := Lib.hid (Box.pcall hb Xa0.out)
  have Xb0 := Lib.hid (Box.pcall hb Xb0.out)
  have HB := Lib.hid (below_call HB.out hb)
  clear hb
  have hs0 : decide (s < 0) = false := Hs0.out
  obtain ⟨ca00, ca01, ca02, fa00, fa01, fa02⟩ := Xa0.out.c3
  have la0 := Xa0.out.lt
  obtain ⟨cb00, cb01, cb02, fb00, fb01, fb02⟩ := Xb0.out.c3
  have lb0 := Xb0.out.lt
  go_wp2
  clear ca00 ca01 ca02 fa00 fa01 fa02 la0 cb00 cb01 cb02 fb00 fb01 fb02 lb0
  go_ret
  exact ⟨_, rfl, rfl, HB.out⟩


set_option maxRecDepth 100000 in
set_option maxHeartbeats 4000000 in
theorem zluns_2t {L : Nat} {qa : Rat} {ba : Bool} {sa ta : Value} {qb : Rat} {bb : Bool} {sb tb : Value} {w : World} (s t : Int) (hs : qa.num.sign = s) (hs0 : decide (s < 0) = true) (ht : qb.num.sign = t) (ht0 : decide (0 < t) = true) (ha : AR qa L w (.agg #[.bool ba, sa, ta])) (hb : AR qb L w (.agg #[.bool bb, sb, tb])) (hL : L ≤ 10000) :
    Calls Try.prog 16 #[.agg #[.bool ba, sa, ta], .agg #[.bool bb, sb, tb]] w (Ret w (Val (.bool true))) := by
  have Ha := Lib.hid ha
  have Hb := Lib.hid hb
  have Hs := Lib.hid hs
  have Hs0 := Lib.hid hs0
  have Ht := Lib.hid ht
  have Ht0 := Lib.hid ht0
  clear ha hb hs hs0 ht ht0
  go_enter Try.func16, Try.ntmps16
  have HB := Lib.hid (Below.refl w.heap.size w)
  go_wp2_with fail
  obtain ⟨W1, hW⟩ : ∃ W1, W1 = (World.alloc (World.alloc w (.cells #[.bool ba, sa, ta] 25)) (.cells #[.bool bb, sb, tb] 25)) := ⟨_, rfl⟩
  rw [← hW]
  obtain ⟨xa0, xb0, hk, hb⟩ := boxes_2 _ _ _ _ _ hW
  clear hW
  have Ha := Lib.hid (AR.keep Ha.out hk)
  have Hb := Lib.hid (AR.keep Hb.out hk)
  have Ga0 := Lib.hid (show w.heap.size ≤ w.heap.size from Nat.le_trans HB.out.size (by omega))
  have Gb0 := Lib.hid (show w.heap.size ≤ w.heap.size + 1 from Nat.le_trans HB.out.size (by omega))
  have Xa0 := Lib.hid xa0
  have Xb0 := Lib.hid xb0
  have HB := Lib.hid (below_call HB.out hb)
  clear hk hb xa0 xb0
  (first | (have hcall := zsign_ar s Ha.out Hs.out ; refine Calls.mono hcall ?_; clear hcall) | refine Calls.mono (zsign_ar s Ha.out Hs.out ) ?_)
  rintro e w2 ⟨v2, rfl, ⟨⟩, hb⟩
  have Hb := Lib.hid (AR.keep Hb.out (Keep.call hb))
  have Xa0 := Lib.hid (Box.pcall hb Xa0.out)
  have Xb0 := Lib.hid (Box.pcall hb Xb0.out)
  have HB := Lib.hid (below_call HB.out hb)
  clear hb
  have hs0 : decide (s < 0) = true := Hs0.out
  obtain ⟨ca00, ca01, ca02, fa00, fa01, fa02⟩ := Xa0.out.c3
  have la0 := Xa0.out.lt
  obtain ⟨cb00, cb01, cb02, fb00, fb01, fb02⟩ := Xb0.out.c3
  have lb0 := Xb0.out.lt
  go_wp2_with fail
  clear ca00 ca01 ca02 fa00 fa01 fa02 la0 cb00 cb01 cb02 fb00 fb01 fb02 lb0
  (first | (have hcall := zsign_ar t Hb.out Ht.out ; refine Calls.mono hcall ?_; clear hcall) | refine Calls.mono (zsign_ar t Hb.out Ht.out ) ?_)
  rintro e w3 ⟨v3, rfl, ⟨⟩, hb⟩
  have Xa0 := Lib.hid (Box.pcall hb Xa0.out)
  have Xb0 := Lib.hid (Box.pcall hb Xb0.out)
  have HB := Lib.hid (below_call HB.out hb)
  clear hb
  have ht0 : decide (0 < t) = true := Ht0.out
  obtain ⟨ca00, ca01, ca02, fa00, fa01, fa02⟩ := Xa0.out.c3
  have la0 := Xa0.out.lt
  obtain ⟨cb00, cb01, cb02, fb00, fb01, fb02⟩ := Xb0.out.c3
  have lb0 := Xb0.out.lt
  go_wp2
  clear ca00 ca01 ca02 fa00 fa01 fa02 la0 cb00 cb01 cb02 fb00 fb01 fb02 lb0
  go_ret
  exact ⟨_, rfl, rfl, HB.out⟩


set_option maxRecDepth 100000 in
set_option maxHeartbeats 4000000 in
theorem zluns_2f {L : Nat} {qa : Rat} {ba : Bool} {sa ta : Value} {qb : Rat} {bb : Bool} {sb tb : Value} {w : World} (s t : Int) (hs : qa.num.sign = s) (hs0 : decide (s < 0) = true) (ht : qb.num.sign = t) (ht0 : decide (0 < t) = false) (ha : AR qa L w (.agg #[.bool ba, sa, ta])) (hb : AR qb L w (.agg #[.bool bb, sb, tb])) (hL : L ≤ 10000) :
    Calls Try.prog 16 #[.agg #[.bool ba, sa, ta], .agg #[.bool bb, sb, tb]] w (Ret w (Val (.bool false))) := by
  have Ha := Lib.hid ha
  have Hb := Lib.hid hb
  have Hs := Lib.hid hs
  have Hs0 := Lib.hid hs0
  have Ht := Lib.hid ht
  have Ht0 := Lib.hid ht0
  clear ha hb hs hs0 ht ht0
  go_enter Try.func16, Try.ntmps16
  have HB := Lib.hid (Below.refl w.heap.size w)
  go_wp2_with fail
  obtain ⟨W1, hW⟩ : ∃ W1, W1 = (World.alloc (World.alloc w (.cells #[.bool ba, sa, ta] 25)) (.cells #[.bool bb, sb, tb] 25)) := ⟨_, rfl⟩
  rw [← hW]
  obtain ⟨xa0, xb0, hk, hb⟩ := boxes_2 _ _ _ _ _ hW
  clear hW
  have Ha := Lib.hid (AR.keep Ha.out hk)
  have Hb := Lib.hid (AR.keep Hb.out hk)
  have Ga0 := Lib.hid (show w.heap.size ≤ w.heap.size from Nat.le_trans HB.out.size (by omega))
  have Gb0 := Lib.hid (show w.heap.size ≤ w.heap.size + 1 from Nat.le_trans HB.out.size (by omega))
  have Xa0 := Lib.hid xa0
  have Xb0 := Lib.hid xb0
  have HB := Lib.hid (below_call HB.out hb)
  clear hk hb xa0 xb0
  (first | (have hcall := zsign_ar s Ha.out Hs.out ; refine Calls.mono hcall ?_; clear hcall) | refine Calls.mono (zsign_ar s Ha.out Hs.out ) ?_)
  rintro e w2 ⟨v2, rfl, ⟨⟩, hb⟩
  have Hb := Lib.hid (AR.keep Hb.out (Keep.call hb))
  have Xa0 := Lib.hid (Box.pcall hb Xa0.out)
  have Xb0 := Lib.hid (Box.pcall hb Xb0.out)
  have HB := Lib.hid (below_call HB.out hb)
  clear hb
  have hs0 : decide (s < 0) = true := Hs0.out
  obtain ⟨ca00, ca01, ca02, fa00, fa01, fa02⟩ := Xa0.out.c3
  have la0 := Xa0.out.lt
  obtain ⟨cb00, cb01, cb02, fb00, fb01, fb02⟩ := Xb0.out.c3
  have lb0 := Xb0.out.lt
  go_wp2_with fail
  clear ca00 ca01 ca02 fa00 fa01 fa02 la0 cb00 cb01 cb02 fb00 fb01 fb02 lb0
  (first | (have hcall := zsign_ar t Hb.out Ht.out ; refine Calls.mono hcall ?_; clear hcall) | refine Calls.mono (zsign_ar t Hb.out Ht.out ) ?_)
  rintro e w3 ⟨v3, rfl, ⟨⟩, hb⟩
  have Xa0 := Lib.hid (Box.pcall hb Xa0.out)
  have Xb0 := Lib.hid (Box.pcall hb Xb0.out)
  have HB := Lib.hid (below_call HB.out hb)
  clear hb
  have ht0 : decide (0 < t) = false := Ht0.out
  obtain ⟨ca00, ca01, ca02, fa00, fa01, fa02⟩ := Xa0.out.c3
  have la0 := Xa0.out.lt
  obtain ⟨cb00, cb01, cb02, fb00, fb01, fb02⟩ := Xb0.out.c3
  have lb0 := Xb0.out.lt
  go_wp2
  clear ca00 ca01 ca02 fa00 fa01 fa02 la0 cb00 cb01 cb02 fb00 fb01 fb02 lb0
  go_ret
  exact ⟨_, rfl, rfl, HB.out⟩


theorem zluns_ar {a b : Rat} {L : Nat} {u v : Value} {w : World} {B : Bool} (hB : unst a b = B) (h : AR a L w u) (h' : AR b L w v) (hL : L ≤ 10000) : Calls Try.prog 16 #[u, v] w (Ret w (Val (.bool B))) := by
  obtain ⟨ba, sa, ta, rfl⟩ := h.agg
  obtain ⟨bb, sb, tb, rfl⟩ := h'.agg
  subst hB
  unfold unst
  by_cases h1 : a < 0
  · have k1 : decide (a.num.sign < 0) = true := decide_eq_true (by have := mt sign_ge.1 (show ¬ 0 ≤ a by grind); omega)
    rw [decide_eq_true h1]
    by_cases h2 : 0 < b
    · rw [decide_eq_true h2]; exact zluns_2t _ _ rfl k1 rfl (decide_eq_true (by have := mt sign_le.1 (show ¬ b ≤ 0 by grind); omega)) h h' hL
    · rw [decide_eq_false h2]; exact zluns_2f _ _ rfl k1 rfl (decide_eq_false (by have := sign_le.2 (show b ≤ 0 by grind); omega)) h h' hL
  · rw [decide_eq_false h1]
    exact zluns_1 _ rfl (decide_eq_false (by have := sign_ge.2 (show 0 ≤ a by grind); omega)) h h' hL

set_option maxRecDepth 100000 in
set_option maxHeartbeats 4000000 in
theorem zlslo_1 {L : Nat} {qa : Rat} {ba : Bool} {sa ta : Value} {qb : Rat} {bb : Bool} {sb tb : Value} {w : World} (hu : unst qa qb = false) (ha : AR qa L w (.agg #[.bool ba, sa, ta])) (hb : AR qb L w (.agg #[.bool bb, sb, tb])) (hL : L ≤ 10000) :
    Calls Try.prog 18 #[.agg #[.bool ba, sa, ta], .agg #[.bool bb, sb, tb]] w (Ret w (Val (.int .i64 0))) := by
  have Ha := Lib.hid ha
  have Hb := Lib.hid hb
  have Hu := Lib.hid hu
  clear ha hb hu
  go_enter Try.func18, Try.ntmps18
  have HB := Lib.hid (Below.refl w.heap.size w)
  go_wp2_with fail
  obtain ⟨W1, hW⟩ : ∃ W1, W1 = (World.alloc (World.alloc w (.cells #[.bool ba, sa, ta] 25)) (.cells #[.bool bb, sb, tb] 25)) := ⟨_, rfl⟩
  rw [← hW]
  obtain ⟨xa0, xb0, hk, hb⟩ := boxes_2 _ _ _ _ _ hW
  clear hW
  have Ha := Lib.hid (AR.keep Ha.out hk)
  have Hb := Lib.hid (AR.keep Hb.out hk)
  have Ga0 := Lib.hid (show w.heap.size ≤ w.heap.size from Nat.le_trans HB.out.size (by omega))
  have Gb0 := Lib.hid (show w.heap.size ≤ w.heap.size + 1 from Nat.le_trans HB.out.size (by omega))
  have Xa0 := Lib.hid xa0
  have Xb0 := Lib.hid xb0
  have HB := Lib.hid (below_call HB.out hb)
  clear hk hb xa0 xb0
  (first | (have hcall := zluns_ar Hu.out Ha.out Hb.out (by omega); refine Calls.mono hcall ?_; clear hcall) | refine Calls.mono (zluns_ar Hu.out Ha.out Hb.out (by omega)) ?_)
  rintro e w2 ⟨v2, rfl, rfl, hb⟩
  have Xa0 := Lib.hid (Box.pcall hb Xa0.out)
  have Xb0 := Lib.hid (Box.pcall hb Xb0.out)
  have HB := Lib.hid (below_call HB.out hb)
  clear hb
  obtain ⟨ca00, ca01, ca02, fa00, fa01, fa02⟩ := Xa0.out.c3
  have la0 := Xa0.out.lt
  obtain ⟨cb00, cb01, cb02, fb00, fb01, fb02⟩ := Xb0.out.c3
  have lb0 := Xb0.out.lt
  go_wp2
  clear ca00 ca01 ca02 fa00 fa01 fa02 la0 cb00 cb01 cb02 fb00 fb01 fb02 lb0
  go_ret
  exact ⟨_, rfl, rfl, HB.out⟩


set_option maxRecDepth 100000 in
set_option maxHeartbeats 4000000 in
theorem zlslo_2t {L : Nat} {qa : Rat} {ba : Bool} {sa ta : Value} {qb : Rat} {bb : Bool} {sb tb : Value} {w : World} (hu : unst qa qb = true) (m : Int) (hm : (qa + qb).num.sign = m) (hm0 : decide (0 < m) = true) (ha : AR qa L w (.agg #[.bool ba, sa, ta])) (hb : AR qb L w (.agg #[.bool bb, sb, tb])) (hL : L ≤ 10000) :
    Calls Try.prog 18 #[.agg #[.bool ba, sa, ta], .agg #[.bool bb, sb, tb]] w (Ret w (Val (.int .i64 1))) := by
  have Ha := Lib.hid ha
  have Hb := Lib.hid hb
  have Hu := Lib.hid hu
  have Hm := Lib.hid hm
  have Hm0 := Lib.hid hm0
  clear ha hb hu hm hm0
  go_enter Try.func18, Try.ntmps18
  have HB := Lib.hid (Below.refl w.heap.size w)
  go_wp2_with fail
  obtain ⟨W1, hW⟩ : ∃ W1, W1 = (World.alloc (World.alloc w (.cells #[.bool ba, sa, ta] 25)) (.cells #[.bool bb, sb, tb] 25)) := ⟨_, rfl⟩
  rw [← hW]
  obtain ⟨xa0, xb0, hk, hb⟩ := boxes_2 _ _ _ _ _ hW
  clear hW
  have Ha := Lib.hid (AR.keep Ha.out hk)
  have Hb := Lib.hid (AR.keep Hb.out hk)
  have Ga0 := Lib.hid (show w.heap.size ≤ w.heap.size from Nat.le_trans HB.out.size (by omega))
  have Gb0 := Lib.hid (show w.heap.size ≤ w.heap.size + 1 from Nat.le_trans HB.out.size (by omega))
  have Xa0 := Lib.hid xa0
  have Xb0 := Lib.hid xb0
  have HB := Lib.hid (below_call HB.out hb)
  clear hk hb xa0 xb0
  (first | (have hcall := zluns_ar Hu.out Ha.out Hb.out (by omega); refine Calls.mono hcall ?_; clear hcall) | refine Calls.mono (zluns_ar Hu.out Ha.out Hb.out (by omega)) ?_)
  rintro e w2 ⟨v2, rfl, rfl, hb⟩
  have Ha := Lib.hid (AR.keep Ha.out (Keep.call hb))
  have Hb := Lib.hid (AR.keep Hb.out (Keep.call hb))
  have Xa0 := Lib.hid (Box.pcall hb Xa0.out)
  have Xb0 := Lib.hid (Box.pcall hb Xb0.out)
  have HB := Lib.hid (below_call HB.out hb)
  clear hb
  obtain ⟨ca00, ca01, ca02, fa00, fa01, fa02⟩ := Xa0.out.c3
  have la0 := Xa0.out.lt
  obtain ⟨cb00, cb01, cb02, fb00, fb01, fb02⟩ := Xb0.out.c3
  have lb0 := Xb0.out.lt
  go_wp2_with fail
  clear ca00 ca01 ca02 fa00 fa01 fa02 la0 cb00 cb01 cb02 fb00 fb01 fb02 lb0
  (first | (have hcall := zadd_ar Ha.out Hb.out (by omega) (by omega); refine Calls.mono hcall ?_; clear hcall) | refine Calls.mono (zadd_ar Ha.out Hb.out (by omega) (by omega)) ?_)
  rintro e w3 ⟨v3, rfl, hn, hb⟩
  obtain ⟨n_b, n_a, n_n, n_c, n_d, n_m, n_e, rfl⟩ := hn.litb
  have Xa0 := Lib.hid (Box.pcall hb Xa0.out)
  have Xb0 := Lib.hid (Box.pcall hb Xb0.out)
  have HB := Lib.hid (below_call HB.out hb)
  have Hn := Lib.hid hn
  clear hb hn
  obtain ⟨ca00, ca01, ca02, fa00, fa01, fa02⟩ := Xa0.out.c3
  have la0 := Xa0.out.lt
  obtain ⟨cb00, cb01, cb02, fb00, fb01, fb02⟩ := Xb0.out.c3
  have lb0 := Xb0.out.lt
  go_wp2_with fail
  clear ca00 ca01 ca02 fa00 fa01 fa02 la0 cb00 cb01 cb02 fb00 fb01 fb02 lb0
  (first | (have hcall := zsign_ar m Hn.out.ar Hm.out; refine Calls.mono hcall ?_; clear hcall) | refine Calls.mono (zsign_ar m Hn.out.ar Hm.out) ?_)
  rintro e w4 ⟨v4, rfl, ⟨⟩, hb⟩
  have Xa0 := Lib.hid (Box.pcall hb Xa0.out)
  have Xb0 := Lib.hid (Box.pcall hb Xb0.out)
  have HB := Lib.hid (below_call HB.out hb)
  clear hb
  have hm0 : decide (0 < m) = true := Hm0.out
  obtain ⟨ca00, ca01, ca02, fa00, fa01, fa02⟩ := Xa0.out.c3
  have la0 := Xa0.out.lt
  obtain ⟨cb00, cb01, cb02, fb00, fb01, fb02⟩ := Xb0.out.c3
  have lb0 := Xb0.out.lt
  go_wp2
  clear ca00 ca01 ca02 fa00 fa01 fa02 la0 cb00 cb01 cb02 fb00 fb01 fb02 lb0
  go_ret
  exact ⟨_, rfl, rfl, HB.out⟩


set_option maxRecDepth 100000 in
set_option maxHeartbeats 4000000 in
theorem zlslo_2f {L : Nat} {qa : Rat} {ba : Bool} {sa ta : Value} {qb : Rat} {bb : Bool} {sb tb : Value} {w : World} (hu : unst qa qb = true) (m : Int) (hm : (qa + qb).num.sign = m) (hm0 : decide (0 < m) = false) (ha : AR qa L w (.agg #[.bool ba, sa, ta])) (hb : AR qb L w (.agg #[.bool bb, sb, tb])) (hL : L ≤ 10000) :
    Calls Try.prog 18 #[.agg #[.bool ba, sa, ta], .agg #[.bool bb, sb, tb]] w (Ret w (Val (.int .i64 0))) := by
  have Ha := Lib.hid ha
  have Hb := Lib.hid hb
  have Hu := Lib.hid hu
  have Hm := Lib.hid hm
  have Hm0 := Lib.hid hm0
  clear ha hb hu hm hm0
  go_enter Try.func18, Try.ntmps18
  have HB := Lib.hid (Below.refl w.heap.size w)
  go_wp2_with fail
  obtain ⟨W1, hW⟩ : ∃ W1, W1 = (World.alloc (World.alloc w (.cells #[.bool ba, sa, ta] 25)) (.cells #[.bool bb, sb, tb] 25)) := ⟨_, rfl⟩
  rw [← hW]
  obtain ⟨xa0, xb0, hk, hb⟩ := boxes_2 _ _ _ _ _ hW
  clear hW
  have Ha := Lib.hid (AR.keep Ha.out hk)
  have Hb := Lib.hid (AR.keep Hb.out hk)
  have Ga0 := Lib.hid (show w.heap.size ≤ w.heap.size from Nat.le_trans HB.out.size (by omega))
  have Gb0 := Lib.hid (show w.heap.size ≤ w.heap.size + 1 from Nat.le_trans HB.out.size (by omega))
  have Xa0 := Lib.hid xa0
  have Xb0 := Lib.hid xb0
  have HB := Lib.hid (below_call HB.out hb)
  clear hk hb xa0 xb0
  (first | (have hcall := zluns_ar Hu.out Ha.out Hb.out (by omega); refine Calls.mono hcall ?_; clear hcall) | refine Calls.mono (zluns_ar Hu.out Ha.out Hb.out (by omega)) ?_)
  rintro e w2 ⟨v2, rfl, rfl, hb⟩
  have Ha := Lib.hid (AR.keep Ha.out (Keep.call hb))
  have Hb := Lib.hid (AR.keep Hb.out (Keep.call hb))
  have Xa0 := Lib.hid (Box.pcall hb Xa0.out)
  have Xb0 := Lib.hid (Box.pcall hb Xb0.out)
  have HB := Lib.hid (below_call HB.out hb)
  clear hb
  obtain ⟨ca00, ca01, ca02, fa00, fa01, fa02⟩ := Xa0.out.c3
  have la0 := Xa0.out.lt
  obtain ⟨cb00, cb01, cb02, fb00, fb01, fb02⟩ := Xb0.out.c3
  have lb0 := Xb0.out.lt
  go_wp2_with fail
  clear ca00 ca01 ca02 fa00 fa01 fa02 la0 cb00 cb01 cb02 fb00 fb01 fb02 lb0
  (first | (have hcall := zadd_ar Ha.out Hb.out (by omega) (by omega); refine Calls.mono hcall ?_; clear hcall) | refine Calls.mono (zadd_ar Ha.out Hb.out (by omega) (by omega)) ?_)
  rintro e w3 ⟨v3, rfl, hn, hb⟩
  obtain ⟨n_b, n_a, n_n, n_c, n_d, n_m, n_e, rfl⟩ := hn.litb
  have Xa0 := Lib.hid (Box.pcall hb Xa0.out)
  have Xb0 := Lib.hid (Box.pcall hb Xb0.out)
  have HB := Lib.hid (below_call HB.out hb)
  have Hn := Lib.hid hn
  clear hb hn
  obtain ⟨ca00, ca01, ca02, fa00, fa01, fa02⟩ := Xa0.out.c3
  have la0 := Xa0.out.lt
  obtain ⟨cb00, cb01, cb02, fb00, fb01, fb02⟩ := Xb0.out.c3
  have lb0 := Xb0.out.lt
  go_wp2_with fail
  clear ca00 ca01 ca02 fa00 fa01 fa02 la0 cb00 cb01 cb02 fb00 fb01 fb02 lb0
  (first | (have hcall := zsign_ar m Hn.out.ar Hm.out; refine Calls.mono hcall ?_; clear hcall) | refine Calls.mono (zsign_ar m Hn.out.ar Hm.out) ?_)
  rintro e w4 ⟨v4, rfl, ⟨⟩, hb⟩
  have Xa0 := Lib.hid (Box.pcall hb Xa0.out)
  have Xb0 := Lib.hid (Box.pcall hb Xb0.out)
  have HB := Lib.hid (below_call HB.out hb)
  clear hb
  have hm0 : decide (0 < m) = false := Hm0.out
  obtain ⟨ca00, ca01, ca02, fa00, fa01, fa02⟩ := Xa0.out.c3
  have la0 := Xa0.out.lt
  obtain ⟨cb00, cb01, cb02, fb00, fb01, fb02⟩ := Xb0.out.c3
  have lb0 := Xb0.out.lt
  go_wp2
  clear ca00 ca01 ca02 fa00 fa01 fa02 la0 cb00 cb01 cb02 fb00 fb01 fb02 lb0
  go_ret
  exact ⟨_, rfl, rfl, HB.out⟩


theorem zlslo_ar {a b : Rat} {L : Nat} {u v : Value} {w : World} (k : Int) (hk : slopeQ a b = k) (h : AR a L w u) (h' : AR b L w v) (hL : L ≤ 10000) : Calls Try.prog 18 #[u, v] w (Ret w (Val (.int .i64 k))) := by
  obtain ⟨ba, sa, ta, rfl⟩ := h.agg
  obtain ⟨bb, sb, tb, rfl⟩ := h'.agg
  subst hk
  unfold slopeQ
  cases hu : unst a b
  · exact zlslo_1 hu h h' hL
  · by_cases h2 : 0 < a + b
    · rw [decide_eq_true h2]; exact zlslo_2t hu _ rfl (decide_eq_true (by have := mt (@sign_le (a + b)).1 (show ¬ a + b ≤ 0 by grind); omega)) h h' hL
    · rw [decide_eq_false h2]; exact zlslo_2f hu _ rfl (decide_eq_false (by have := (@sign_le (a + b)).2 (show a + b ≤ 0 by grind); omega)) h h' hL

set_option maxRecDepth 100000 in
set_option maxHeartbeats 4000000 in
theorem zlgap_1 {L : Nat} {qa : Rat} {ba : Bool} {sa ta : Value} {qb : Rat} {bb : Bool} {sb tb : Value} {w : World} (hu : unst qa qb = false) (ha : AR qa L w (.agg #[.bool ba, sa, ta])) (hb : AR qb L w (.agg #[.bool bb, sb, tb])) (hL : L ≤ 10000) :
    Calls Try.prog 20 #[.agg #[.bool ba, sa, ta], .agg #[.bool bb, sb, tb]] w (Ret w (CR 0 1)) := by
  have Ha := Lib.hid ha
  have Hb := Lib.hid hb
  have Hu := Lib.hid hu
  clear ha hb hu
  go_enter Try.func20, Try.ntmps20
  have HB := Lib.hid (Below.refl w.heap.size w)
  go_wp2_with fail
  obtain ⟨W1, hW⟩ : ∃ W1, W1 = (World.alloc (World.alloc (World.alloc w (.cells #[.bool ba, sa, ta] 25)) (.cells #[.bool bb, sb, tb] 25)) (.cells #[.bool false, .slice none 0 0, .slice none 0 0] 25)) := ⟨_, rfl⟩
  rw [← hW]
  obtain ⟨xa0, xb0, xc0, hk, hb⟩ := boxes_3 _ _ _ _ _ _ _ hW
  clear hW
  have Ha := Lib.hid (AR.keep Ha.out hk)
  have Hb := Lib.hid (AR.keep Hb.out hk)
  have Ga0 := Lib.hid (show w.heap.size ≤ w.heap.size from Nat.le_trans HB.out.size (by omega))
  have Gb0 := Lib.hid (show w.heap.size ≤ w.heap.size + 1 from Nat.le_trans HB.out.size (by omega))
  have Gc0 := Lib.hid (show w.heap.size ≤ w.heap.size + 1 + 1 from Nat.le_trans HB.out.size (by omega))
  have Xa0 := Lib.hid xa0
  have Xb0 := Lib.hid xb0
  have Xc0 := Lib.hid xc0
  have HB := Lib.hid (below_call HB.out hb)
  clear hk hb xa0 xb0 xc0
  (first | (have hcall := zluns_ar Hu.out Ha.out Hb.out (by omega); refine Calls.mono hcall ?_; clear hcall) | refine Calls.mono (zluns_ar Hu.out Ha.out Hb.out (by omega)) ?_)
  rintro e w2 ⟨v2, rfl, rfl, hb⟩
  have Xa0 := Lib.hid (Box.pcall hb Xa0.out)
  have Xb0 := Lib.hid (Box.pcall hb Xb0.out)
  have Xc0 := Lib.hid (Box.pcall hb Xc0.out)
  have HB := Lib.hid (below_call HB.out hb)
  clear hb
  obtain ⟨ca00, ca01, ca02, fa00, fa01, fa02⟩ := Xa0.out.c3
  have la0 := Xa0.out.lt
  obtain ⟨cb00, cb01, cb02, fb00, fb01, fb02⟩ := Xb0.out.c3
  have lb0 := Xb0.out.lt
  obtain ⟨cc00, cc01, cc02, fc00, fc01, fc02⟩ := Xc0.out.c3
  have lc0 := Xc0.out.lt
  go_wp2
  clear ca00 ca01 ca02 fa00 fa01 fa02 la0 cb00 cb01 cb02 fb00 fb01 fb02 lb0 cc00 cc01 cc02 fc00 fc01 fc02 lc0
  obtain ⟨W3, hW⟩ : ∃ W3, W3 = (World.setCell (World.setCell (World.setCell w2 ⟨w.heap.size + 1 + 1, 0, none⟩ (.bool false)) ⟨w.heap.size + 1 + 1, 1, none⟩ (.slice none 0 0)) ⟨w.heap.size + 1 + 1, 2, none⟩ (.slice none 0 0)) := ⟨_, rfl⟩
  rw [← hW]
  obtain ⟨xc0, hk, hf, hbb, hz⟩ := stored3s hW Xc0.out (by first | exact NoInt.bool _ | exact NoInt.slice _ _ _) (by first | exact NoInt.bool _ | exact NoInt.slice _ _ _) (by first | exact NoInt.bool _ | exact NoInt.slice _ _ _)
  have Xa0 := Lib.hid (hf _ _ _ Xa0.out (by omega))
  have Xb0 := Lib.hid (hf _ _ _ Xb0.out (by omega))
  have Xc0 := Lib.hid xc0
  have HB := Lib.hid (hbb _ HB.out Gc0.out)
  clear hW hk hf hbb xc0
  clear hz
  exact ret_rat1 rfl rfl rfl Xc0.out (CR.zero _) HB.out


set_option maxRecDepth 100000 in
set_option maxHeartbeats 4000000 in
theorem zlgap_2 {L : Nat} {qa : Rat} {ba : Bool} {sa ta : Value} {qb : Rat} {bb : Bool} {sb tb : Value} {w : World} (hu : unst qa qb = true) (hn0 : qb - qa ≠ 0) (ha : AR qa L w (.agg #[.bool ba, sa, ta])) (hb : AR qb L w (.agg #[.bool bb, sb, tb])) (hL : L ≤ 10000) :
    Calls Try.prog 20 #[.agg #[.bool ba, sa, ta], .agg #[.bool bb, sb, tb]] w (Ret w (CR (-(qa * qb) / (qb - qa)) (L + L + L + L + 20))) := by
  have Ha := Lib.hid ha
  have Hb := Lib.hid hb
  have Hu := Lib.hid hu
  have Hn0 := Lib.hid hn0
  clear ha hb hu hn0
  go_enter Try.func20, Try.ntmps20
  have HB := Lib.hid (Below.refl w.heap.size w)
  go_wp2_with fail
  obtain ⟨W1, hW⟩ : ∃ W1, W1 = (World.alloc (World.alloc (World.alloc w (.cells #[.bool ba, sa, ta] 25)) (.cells #[.bool bb, sb, tb] 25)) (.cells #[.bool false, .slice none 0 0, .slice none 0 0] 25)) := ⟨_, rfl⟩
  rw [← hW]
  obtain ⟨xa0, xb0, xc0, hk, hb⟩ := boxes_3 _ _ _ _ _ _ _ hW
  clear hW
  have Ha := Lib.hid (AR.keep Ha.out hk)
  have Hb := Lib.hid (AR.keep Hb.out hk)
  have Ga0 := Lib.hid (show w.heap.size ≤ w.heap.size from Nat.le_trans HB.out.size (by omega))
  have Gb0 := Lib.hid (show w.heap.size ≤ w.heap.size + 1 from Nat.le_trans HB.out.size (by omega))
  have Gc0 := Lib.hid (show w.heap.size ≤ w.heap.size + 1 + 1 from Nat.le_trans HB.out.size (by omega))
  have Xa0 := Lib.hid xa0
  have Xb0 := Lib.hid xb0
  have Xc0 := Lib.hid xc0
  have HB := Lib.hid (below_call HB.out hb)
  clear hk hb xa0 xb0 xc0
  (first | (have hcall := zluns_ar Hu.out Ha.out Hb.out (by omega); refine Calls.mono hcall ?_; clear hcall) | refine Calls.mono (zluns_ar Hu.out Ha.out Hb.out (by omega)) ?_)
  rintro e w2 ⟨v2, rfl, rfl, hb⟩
  have Ha := Lib.hid (AR.keep Ha.out (Keep.call hb))
  have Hb := Lib.hid (AR.keep Hb.out (Keep.call hb))
  have Xa0 := Lib.hid (Box.pcall hb Xa0.out)
  have Xb0 := Lib.hid (Box.pcall hb Xb0.out)
  have Xc0 := Lib.hid (Box.pcall hb Xc0.out)
  have HB := Lib.hid (below_call HB.out hb)
  clear hb
  obtain ⟨ca00, ca01, ca02, fa00, fa01, fa02⟩ := Xa0.out.c3
  have la0 := Xa0.out.lt
  obtain ⟨cb00, cb01, cb02, fb00, fb01, fb02⟩ := Xb0.out.c3
  have lb0 := Xb0.out.lt
  obtain ⟨cc00, cc01, cc02, fc00, fc01, fc02⟩ := Xc0.out.c3
  have lc0 := Xc0.out.lt
  go_wp2_with fail
  clear ca00 ca01 ca02 fa00 fa01 fa02 la0 cb00 cb01 cb02 fb00 fb01 fb02 lb0 cc00 cc01 cc02 fc00 fc01 fc02 lc0
  have Ha := Lib.hid (AR.keep Ha.out (Keep.drew w2))
  have Hb := Lib.hid (AR.keep Hb.out (Keep.drew w2))
  have Xa0 := Lib.hid (Box.drew Xa0.out)
  have Xb0 := Lib.hid (Box.drew Xb0.out)
  have Xc0 := Lib.hid (Box.drew Xc0.out)
  have HB := Lib.hid (Below.drew HB.out)
  refine wp_region_float [w.heap.size + 1 + 1] [] (by kernel_rfl) (by kernel_rfl) 18 (by kernel_rfl) Flok.nil ?_
  intro ok
  have Hok := Lib.hid ok
  clear ok
  have HG := Lib.hid (Below.refl (w2.drew).heap.size (w2.drew))
  refine good_pureX 0 (some 10) (Go.Op.load 25 (Go.Operand.tmp 2)) (none) (.agg #[.bool ba, sa, ta]) (by kernel_rfl) (by kernel_rfl) (by kernel_rfl) (fun _ _ _ h => h) (fun w' hw' => ?_) ?_
  · obtain ⟨ca00, ca01, ca02, fa00, fa01, fa02⟩ := (Box.se hw' Xa0.out (notin1 (by omega))).c3
    first | (go_simp; done) | (go_simp; simp_all; done) | (go_simp; rfl)
  simp only [Act.put, List.setIfInBounds_toArray, List.set_cons_zero, List.set_cons_succ]
  refine good_pureX 1 (some 11) (Go.Op.load 25 (Go.Operand.tmp 3)) (none) (.agg #[.bool bb, sb, tb]) (by kernel_rfl) (by kernel_rfl) (by kernel_rfl) (fun _ _ _ h => h) (fun w' hw' => ?_) ?_
  · obtain ⟨cb00, cb01, cb02, fb00, fb01, fb02⟩ := (Box.se hw' Xb0.out (notin1 (by omega))).c3
    first | (go_simp; done) | (go_simp; simp_all; done) | (go_simp; rfl)
  simp only [Act.put, List.setIfInBounds_toArray, List.set_cons_zero, List.set_cons_succ]
  refine good_pureX 4 (some 14) (Go.Op.load 25 (Go.Operand.tmp 3)) (none) (.agg #[.bool bb, sb, tb]) (by kernel_rfl) (by kernel_rfl) (by kernel_rfl) (fun _ _ _ h => h) (fun w' hw' => ?_) ?_
  · obtain ⟨cb00, cb01, cb02, fb00, fb01, fb02⟩ := (Box.se hw' Xb0.out (notin1 (by omega))).c3
    first | (go_simp; done) | (go_simp; simp_all; done) | (go_simp; rfl)
  simp only [Act.put, List.setIfInBounds_toArray, List.set_cons_zero, List.set_cons_succ]
  refine good_pureX 5 (some 15) (Go.Op.load 25 (Go.Operand.tmp 2)) (none) (.agg #[.bool ba, sa, ta]) (by kernel_rfl) (by kernel_rfl) (by kernel_rfl) (fun _ _ _ h => h) (fun w' hw' => ?_) ?_
  · obtain ⟨ca00, ca01, ca02, fa00, fa01, fa02⟩ := (Box.se hw' Xa0.out (notin1 (by omega))).c3
    first | (go_simp; done) | (go_simp; simp_all; done) | (go_simp; rfl)
  simp only [Act.put, List.setIfInBounds_toArray, List.set_cons_zero, List.set_cons_succ]
  refine good_callX 2 29 (some 12) #[Go.Operand.tmp 10, Go.Operand.tmp 11] #[25, 25] (none) #[.agg #[.bool ba, sa, ta], .agg #[.bool bb, sb, tb]] (by kernel_rfl) Hok.out (by kernel_rfl) (by kernel_rfl) (by kernel_rfl) (by kernel_rfl) rfl rfl rfl (by kernel_rfl) (fun w3 hb => ?_)
  have HG := Lib.hid (below_call HG.out hb)
  clear hb
  (first | (have hcall := zmul_ar (AR.keep Ha.out (Keep.call HG.out)) (AR.keep Hb.out (Keep.call HG.out)) (by omega) (by omega); refine Calls.mono hcall ?_; clear hcall) | refine Calls.mono (zmul_ar (AR.keep Ha.out (Keep.call HG.out)) (AR.keep Hb.out (Keep.call HG.out)) (by omega) (by omega)) ?_)
  rintro e w4 ⟨v4, rfl, hm, hb⟩
  obtain ⟨m_b, m_a, m_n, m_c, m_d, m_m, m_e, rfl⟩ := hm.litb
  refine ⟨_, rfl, ?_, hb⟩
  have HG := Lib.hid (below_call HG.out hb)
  have Hm := Lib.hid hm
  clear hb hm
  simp only [Act.put, List.setIfInBounds_toArray, List.set_cons_zero, List.set_cons_succ]
  refine good_callX 3 45 (some 13) #[Go.Operand.tmp 12] #[25] (none) #[.agg #[.bool m_b, .slice m_a m_n m_c, .slice m_d m_m m_e]] (by kernel_rfl) Hok.out (by kernel_rfl) (by kernel_rfl) (by kernel_rfl) (by kernel_rfl) rfl rfl rfl (by kernel_rfl) (fun w5 hb => ?_)
  have Hm := Lib.hid (CR.keep Hm.out (Keep.call hb))
  have HG := Lib.hid (below_call HG.out hb)
  clear hb
  (first | (have hcall := zneg_ar Hm.out.ar (by omega); refine Calls.mono hcall ?_; clear hcall) | refine Calls.mono (zneg_ar Hm.out.ar (by omega)) ?_)
  rintro e w6 ⟨v6, rfl, hn, hb⟩
  obtain ⟨n_b, n_a, n_n, n_c, n_d, n_m, n_e, rfl⟩ := hn.litb
  refine ⟨_, rfl, ?_, hb⟩
  have HG := Lib.hid (below_call HG.out hb)
  have Hn := Lib.hid hn
  clear hb hn
  simp only [Act.put, List.setIfInBounds_toArray, List.set_cons_zero, List.set_cons_succ]
  refine good_callX 6 30 (some 16) #[Go.Operand.tmp 14, Go.Operand.tmp 15] #[25, 25] (none) #[.agg #[.bool bb, sb, tb], .agg #[.bool ba, sa, ta]] (by kernel_rfl) Hok.out (by kernel_rfl) (by kernel_rfl) (by kernel_rfl) (by kernel_rfl) rfl rfl rfl (by kernel_rfl) (fun w7 hb => ?_)
  have Hn := Lib.hid (CR.keep Hn.out (Keep.call hb))
  have HG := Lib.hid (below_call HG.out hb)
  clear hb
  (first | (have hcall := zsub_ar (AR.keep Hb.out (Keep.call HG.out)) (AR.keep Ha.out (Keep.call HG.out)) (by omega) (by omega); refine Calls.mono hcall ?_; clear hcall) | refine Calls.mono (zsub_ar (AR.keep Hb.out (Keep.call HG.out)) (AR.keep Ha.out (Keep.call HG.out)) (by omega) (by omega)) ?_)
  rintro e w8 ⟨v8, rfl, hd, hb⟩
  obtain ⟨d_b, d_a, d_n, d_c, d_d, d_m, d_e, rfl⟩ := hd.litb
  refine ⟨_, rfl, ?_, hb⟩
  have Hn := Lib.hid (CR.keep Hn.out (Keep.call hb))
  have HG := Lib.hid (below_call HG.out hb)
  have Hd := Lib.hid hd
  clear hb hd
  simp only [Act.put, List.setIfInBounds_toArray, List.set_cons_zero, List.set_cons_succ]
  refine good_callX 7 39 (some 17) #[Go.Operand.tmp 13, Go.Operand.tmp 16] #[25, 25] (none) #[.agg #[.bool n_b, .slice n_a n_n n_c, .slice n_d n_m n_e], .agg #[.bool d_b, .slice d_a d_n d_c, .slice d_d d_m d_e]] (by kernel_rfl) Hok.out (by kernel_rfl) (by kernel_rfl) (by kernel_rfl) (by kernel_rfl) rfl rfl rfl (by kernel_rfl) (fun w9 hb => ?_)
  have Hn := Lib.hid (CR.keep Hn.out (Keep.call hb))
  have Hd := Lib.hid (CR.keep Hd.out (Keep.call hb))
  have HG := Lib.hid (below_call HG.out hb)
  clear hb
  (first | (have hcall := zlquo_ar Hn0.out Hn.out.ar Hd.out.ar (by omega) (by omega); refine Calls.mono hcall ?_; clear hcall) | refine Calls.mono (zlquo_ar Hn0.out Hn.out.ar Hd.out.ar (by omega) (by omega)) ?_)
  rintro e w10 ⟨v10, rfl, hz, hb⟩
  obtain ⟨z_b, z_a, z_n, z_c, z_d, z_m, z_e, rfl⟩ := hz.litb
  refine ⟨_, rfl, ?_, hb⟩
  have HG := Lib.hid (below_call HG.out hb)
  have Hz := Lib.hid hz
  clear hb hz
  simp only [Act.put, List.setIfInBounds_toArray, List.set_cons_zero, List.set_cons_succ]
  refine good_end0 1 (by kernel_rfl) (fun _ w11 hb => ?_)
  have Hz := Lib.hid (CR.keep Hz.out (Keep.call hb))
  have HG := Lib.hid (below_call HG.out hb)
  clear hb
  have Xa0 := Lib.hid (Box.pcall HG.out Xa0.out)
  have Xb0 := Lib.hid (Box.pcall HG.out Xb0.out)
  have Xc0 := Lib.hid (Box.pcall HG.out Xc0.out)
  have HB := Lib.hid (below_call HB.out HG.out)
  have HS := Lib.hid (SE.of (E := [w.heap.size + 1 + 1]) HG.out)
  refine held_oneX 8 (Go.Op.store 25 (Go.Operand.tmp 4) (Go.Operand.tmp 17)) (none) (World.setCell (World.setCell (World.setCell w11 ⟨w.heap.size + 1 + 1, 0, none⟩ (.bool z_b)) ⟨w.heap.size + 1 + 1, 1, none⟩ (.slice z_a z_n z_c)) ⟨w.heap.size + 1 + 1, 2, none⟩ (.slice z_d z_m z_e)) (by kernel_rfl) (by kernel_rfl) (by kernel_rfl) (by kernel_rfl) ?_ (HS.out.store3 in1) ?_
  · obtain ⟨cc00, cc01, cc02, fc00, fc01, fc02⟩ := Xc0.out.c3
    first | (go_simp; done) | (go_simp; simp_all; done) | (go_simp; rfl)
  obtain ⟨W12, hW⟩ : ∃ W12, W12 = (World.setCell (World.setCell (World.setCell w11 ⟨w.heap.size + 1 + 1, 0, none⟩ (.bool z_b)) ⟨w.heap.size + 1 + 1, 1, none⟩ (.slice z_a z_n z_c)) ⟨w.heap.size + 1 + 1, 2, none⟩ (.slice z_d z_m z_e)) := ⟨_, rfl⟩
  rw [← hW]
  obtain ⟨xc0, hk, hf, hbb, hz⟩ := stored3s hW Xc0.out (by first | exact NoInt.bool _ | exact NoInt.slice _ _ _) (by first | exact NoInt.bool _ | exact NoInt.slice _ _ _) (by first | exact NoInt.bool _ | exact NoInt.slice _ _ _)
  have Hz := Lib.hid (CR.keep Hz.out hk)
  have Xa0 := Lib.hid (hf _ _ _ Xa0.out (by omega))
  have Xb0 := Lib.hid (hf _ _ _ Xb0.out (by omega))
  have Xc0 := Lib.hid xc0
  have HB := Lib.hid (hbb _ HB.out Gc0.out)
  have HS := Lib.hid (show SE (w2.drew) [w.heap.size + 1 + 1] W12 from by rw [hW]; exact HS.out.store3 in1)
  clear hW hk hf hbb xc0
  clear hz
  refine wpAnyH_done (by kernel_rfl) ?_ _
  clear HG HS Hok 
  obtain ⟨ca00, ca01, ca02, fa00, fa01, fa02⟩ := Xa0.out.c3
  have la0 := Xa0.out.lt
  obtain ⟨cb00, cb01, cb02, fb00, fb01, fb02⟩ := Xb0.out.c3
  have lb0 := Xb0.out.lt
  obtain ⟨cc00, cc01, cc02, fc00, fc01, fc02⟩ := Xc0.out.c3
  have lc0 := Xc0.out.lt
  go_wp2
  clear ca00 ca01 ca02 fa00 fa01 fa02 la0 cb00 cb01 cb02 fb00 fb01 fb02 lb0 cc00 cc01 cc02 fc00 fc01 fc02 lc0
  exact ret_rat1 rfl rfl rfl Xc0.out (CR.mono Hz.out (by omega)) HB.out


theorem zlgap_ar {a b : Rat} {L : Nat} {u v : Value} {w : World} (h : AR a L w u) (h' : AR b L w v) (hL : L ≤ 10000) : Calls Try.prog 20 #[u, v] w (Ret w (CR (gapQ a b) (L + L + L + L + 20))) := by
  obtain ⟨ba, sa, ta, rfl⟩ := h.agg
  obtain ⟨bb, sb, tb, rfl⟩ := h'.agg
  cases hu : unst a b
  · rw [gap_f hu]
    exact (zlgap_1 hu h h' hL).mono fun _ _ k => k.imp fun _ _ x => x.mono (by omega)
  · rw [gap_t hu]
    exact zlgap_2 hu (unst_ne hu) h h' hL

set_option maxRecDepth 100000 in
set_option maxHeartbeats 4000000 in
theorem zllin_1 {L : Nat} {qa : Rat} {ba : Bool} {sa ta : Value} {qb : Rat} {bb : Bool} {sb tb : Value} {w : World} (hu : unst qa qb = false) (ha : AR qa L w (.agg #[.bool ba, sa, ta])) (hb : AR qb L w (.agg #[.bool bb, sb, tb])) (hL : L ≤ 10000) :
    Calls Try.prog 13 #[.agg #[.bool ba, sa, ta], .agg #[.bool bb, sb, tb]] w (Ret w (Val (.tuple #[.int .i64 0, .agg #[.bool false, .slice none 0 0, .slice none 0 0], .agg #[.bool false, .slice none 0 0, .slice none 0 0], .int .i64 2]))) := by
  have Ha := Lib.hid ha
  have Hb := Lib.hid hb
  have Hu := Lib.hid hu
  clear ha hb hu
  go_enter Try.func13, Try.ntmps13
  have HB := Lib.hid (Below.refl w.heap.size w)
  go_wp2_with fail
  obtain ⟨W1, hW⟩ : ∃ W1, W1 = (World.alloc (World.alloc (World.alloc (World.alloc w (.cells #[.bool ba, sa, ta] 25)) (.cells #[.bool bb, sb, tb] 25)) (.cells #[.bool false, .slice none 0 0, .slice none 0 0] 25)) (.cells #[.bool false, .slice none 0 0, .slice none 0 0] 25)) := ⟨_, rfl⟩
  rw [← hW]
  obtain ⟨xa0, xb0, xc0, xd0, hk, hb⟩ := boxes_4 _ _ _ _ _ _ _ _ _ hW
  clear hW
  have Ha := Lib.hid (AR.keep Ha.out hk)
  have Hb := Lib.hid (AR.keep Hb.out hk)
  have Ga0 := Lib.hid (show w.heap.size ≤ w.heap.size from Nat.le_trans HB.out.size (by omega))
  have Gb0 := Lib.hid (show w.heap.size ≤ w.heap.size + 1 from Nat.le_trans HB.out.size (by omega))
  have Gc0 := Lib.hid (show w.heap.size ≤ w.heap.size + 1 + 1 from Nat.le_trans HB.out.size (by omega))
  have Gd0 := Lib.hid (show w.heap.size ≤ w.heap.size + 1 + 1 + 1 from Nat.le_trans HB.out.size (by omega))
  have Xa0 := Lib.hid xa0
  have Xb0 := Lib.hid xb0
  have Xc0 := Lib.hid xc0
  have Xd0 := Lib.hid xd0
  have HB := Lib.hid (below_call HB.out hb)
  clear hk hb xa0 xb0 xc0 xd0
  (first | (have hcall := zluns_ar Hu.out Ha.out Hb.out (by omega); refine Calls.mono hcall ?_; clear hcall) | refine Calls.mono (zluns_ar Hu.out Ha.out Hb.out (by omega)) ?_)
  rintro e w2 ⟨v2, rfl, rfl, hb⟩
  have Xa0 := Lib.hid (Box.pcall hb Xa0.out)
  have Xb0 := Lib.hid (Box.pcall hb Xb0.out)
  have Xc0 := Lib.hid (Box.pcall hb Xc0.out)
  have Xd0 := Lib.hid (Box.pcall hb Xd0.out)
  have HB := Lib.hid (below_call HB.out hb)
  clear hb
  obtain ⟨ca00, ca01, ca02, fa00, fa01, fa02⟩ := Xa0.out.c3
  have la0 := Xa0.out.lt
  obtain ⟨cb00, cb01, cb02, fb00, fb01, fb02⟩ := Xb0.out.c3
  have lb0 := Xb0.out.lt
  obtain ⟨cc00, cc01, cc02, fc00, fc01, fc02⟩ := Xc0.out.c3
  have lc0 := Xc0.out.lt
  obtain ⟨cd00, cd01, cd02, fd00, fd01, fd02⟩ := Xd0.out.c3
  have ld0 := Xd0.out.lt
  go_wp2
  clear ca00 ca01 ca02 fa00 fa01 fa02 la0 cb00 cb01 cb02 fb00 fb01 fb02 lb0 cc00 cc01 cc02 fc00 fc01 fc02 lc0 cd00 cd01 cd02 fd00 fd01 fd02 ld0
  obtain ⟨W3, hW⟩ : ∃ W3, W3 = (World.setCell (World.setCell (World.setCell w2 ⟨w.heap.size + 1 + 1, 0, none⟩ (.bool false)) ⟨w.heap.size + 1 + 1, 1, none⟩ (.slice none 0 0)) ⟨w.heap.size + 1 + 1, 2, none⟩ (.slice none 0 0)) := ⟨_, rfl⟩
  rw [← hW]
  obtain ⟨xc0, hk, hf, hbb, hz⟩ := stored3s hW Xc0.out (by first | exact NoInt.bool _ | exact NoInt.slice _ _ _) (by first | exact NoInt.bool _ | exact NoInt.slice _ _ _) (by first | exact NoInt.bool _ | exact NoInt.slice _ _ _)
  have Xa0 := Lib.hid (hf _ _ _ Xa0.out (by omega))
  have Xb0 := Lib.hid (hf _ _ _ Xb0.out (by omega))
  have Xc0 := Lib.hid xc0
  have Xd0 := Lib.hid (hf _ _ _ Xd0.out (by omega))
  have HB := Lib.hid (hbb _ HB.out Gc0.out)
  clear hW hk hf hbb xc0
  clear hz
  obtain ⟨W4, hW⟩ : ∃ W4, W4 = (World.setCell (World.setCell (World.setCell W3 ⟨w.heap.size + 1 + 1 + 1, 0, none⟩ (.bool false)) ⟨w.heap.size + 1 + 1 + 1, 1, none⟩ (.slice none 0 0)) ⟨w.heap.size + 1 + 1 + 1, 2, none⟩ (.slice none 0 0)) := ⟨_, rfl⟩
  rw [← hW]
  obtain ⟨xd0, hk, hf, hbb, hz⟩ := stored3s hW Xd0.out (by first | exact NoInt.bool _ | exact NoInt.slice _ _ _) (by first | exact NoInt.bool _ | exact NoInt.slice _ _ _) (by first | exact NoInt.bool _ | exact NoInt.slice _ _ _)
  have Xa0 := Lib.hid (hf _ _ _ Xa0.out (by omega))
  have Xb0 := Lib.hid (hf _ _ _ Xb0.out (by omega))
  have Xc0 := Lib.hid (hf _ _ _ Xc0.out (by omega))
  have Xd0 := Lib.hid xd0
  have HB := Lib.hid (hbb _ HB.out Gd0.out)
  clear hW hk hf hbb xd0
  clear hz
  exact ret_trrt rfl rfl rfl rfl rfl rfl Xc0.out Xd0.out rfl HB.out


set_option maxRecDepth 100000 in
set_option maxHeartbeats 4000000 in
theorem zllin_2 {L : Nat} {qa : Rat} {ba : Bool} {sa ta : Value} {qb : Rat} {bb : Bool} {sb tb : Value} {w : World} (hu : unst qa qb = true) (k : Int) (hk : slopeQ qa qb = k) (hn0 : qb - qa ≠ 0) (ha : AR qa L w (.agg #[.bool ba, sa, ta])) (hb : AR qb L w (.agg #[.bool bb, sb, tb])) (hL : L ≤ 10000) :
    Calls Try.prog 13 #[.agg #[.bool ba, sa, ta], .agg #[.bool bb, sb, tb]] w (Ret w (LN k (qb / (qb - qa)) (gapQ qa qb) (L + L + L + L + 20))) := by
  have Ha := Lib.hid ha
  have Hb := Lib.hid hb
  have Hu := Lib.hid hu
  have Hk := Lib.hid hk
  have Hn0 := Lib.hid hn0
  clear ha hb hu hk hn0
  go_enter Try.func13, Try.ntmps13
  have HB := Lib.hid (Below.refl w.heap.size w)
  go_wp2_with fail
  obtain ⟨W1, hW⟩ : ∃ W1, W1 = (World.alloc (World.alloc (World.alloc (World.alloc w (.cells #[.bool ba, sa, ta] 25)) (.cells #[.bool bb, sb, tb] 25)) (.cells #[.bool false, .slice none 0 0, .slice none 0 0] 25)) (.cells #[.bool false, .slice none 0 0, .slice none 0 0] 25)) := ⟨_, rfl⟩
  rw [← hW]
  obtain ⟨xa0, xb0, xc0, xd0, hk, hb⟩ := boxes_4 _ _ _ _ _ _ _ _ _ hW
  clear hW
  have Ha := Lib.hid (AR.keep Ha.out hk)
  have Hb := Lib.hid (AR.keep Hb.out hk)
  have Ga0 := Lib.hid (show w.heap.size ≤ w.heap.size from Nat.le_trans HB.out.size (by omega))
  have Gb0 := Lib.hid (show w.heap.size ≤ w.heap.size + 1 from Nat.le_trans HB.out.size (by omega))
  have Gc0 := Lib.hid (show w.heap.size ≤ w.heap.size + 1 + 1 from Nat.le_trans HB.out.size (by omega))
  have Gd0 := Lib.hid (show w.heap.size ≤ w.heap.size + 1 + 1 + 1 from Nat.le_trans HB.out.size (by omega))
  have Xa0 := Lib.hid xa0
  have Xb0 := Lib.hid xb0
  have Xc0 := Lib.hid xc0
  have Xd0 := Lib.hid xd0
  have HB := Lib.hid (below_call HB.out hb)
  clear hk hb xa0 xb0 xc0 xd0
  (first | (have hcall := zluns_ar Hu.out Ha.out Hb.out (by omega); refine Calls.mono hcall ?_; clear hcall) | refine Calls.mono (zluns_ar Hu.out Ha.out Hb.out (by omega)) ?_)
  rintro e w2 ⟨v2, rfl, rfl, hb⟩
  have Ha := Lib.hid (AR.keep Ha.out (Keep.call hb))
  have Hb := Lib.hid (AR.keep Hb.out (Keep.call hb))
  have Xa0 := Lib.hid (Box.pcall hb Xa0.out)
  have Xb0 := Lib.hid (Box.pcall hb Xb0.out)
  have Xc0 := Lib.hid (Box.pcall hb Xc0.out)
  have Xd0 := Lib.hid (Box.pcall hb Xd0.out)
  have HB := Lib.hid (below_call HB.out hb)
  clear hb
  obtain ⟨ca00, ca01, ca02, fa00, fa01, fa02⟩ := Xa0.out.c3
  have la0 := Xa0.out.lt
  obtain ⟨cb00, cb01, cb02, fb00, fb01, fb02⟩ := Xb0.out.c3
  have lb0 := Xb0.out.lt
  obtain ⟨cc00, cc01, cc02, fc00, fc01, fc02⟩ := Xc0.out.c3
  have lc0 := Xc0.out.lt
  obtain ⟨cd00, cd01, cd02, fd00, fd01, fd02⟩ := Xd0.out.c3
  have ld0 := Xd0.out.lt
  go_wp2_with fail
  clear ca00 ca01 ca02 fa00 fa01 fa02 la0 cb00 cb01 cb02 fb00 fb01 fb02 lb0 cc00 cc01 cc02 fc00 fc01 fc02 lc0 cd00 cd01 cd02 fd00 fd01 fd02 ld0
  have Ha := Lib.hid (AR.keep Ha.out (Keep.drew w2))
  have Hb := Lib.hid (AR.keep Hb.out (Keep.drew w2))
  have Xa0 := Lib.hid (Box.drew Xa0.out)
  have Xb0 := Lib.hid (Box.drew Xb0.out)
  have Xc0 := Lib.hid (Box.drew Xc0.out)
  have Xd0 := Lib.hid (Box.drew Xd0.out)
  have HB := Lib.hid (Below.drew HB.out)
  refine wp_region_float [w.heap.size + 1 + 1, w.heap.size + 1 + 1 + 1] [] (by kernel_rfl) (by kernel_rfl) 25 (by kernel_rfl) Flok.nil ?_
  intro ok
  have Hok := Lib.hid ok
  clear ok
  have HG := Lib.hid (Below.refl (w2.drew).heap.size (w2.drew))
  refine good_pureX 0 (some 14) (Go.Op.load 25 (Go.Operand.tmp 2)) (none) (.agg #[.bool ba, sa, ta]) (by kernel_rfl) (by kernel_rfl) (by kernel_rfl) (fun _ _ _ h => h) (fun w' hw' => ?_) ?_
  · obtain ⟨ca00, ca01, ca02, fa00, fa01, fa02⟩ := (Box.se hw' Xa0.out (notin2 (by omega) (by omega))).c3
    first | (go_simp; done) | (go_simp; simp_all; done) | (go_simp; rfl)
  simp only [Act.put, List.setIfInBounds_toArray, List.set_cons_zero, List.set_cons_succ]
  refine good_pureX 1 (some 15) (Go.Op.load 25 (Go.Operand.tmp 3)) (none) (.agg #[.bool bb, sb, tb]) (by kernel_rfl) (by kernel_rfl) (by kernel_rfl) (fun _ _ _ h => h) (fun w' hw' => ?_) ?_
  · obtain ⟨cb00, cb01, cb02, fb00, fb01, fb02⟩ := (Box.se hw' Xb0.out (notin2 (by omega) (by omega))).c3
    first | (go_simp; done) | (go_simp; simp_all; done) | (go_simp; rfl)
  simp only [Act.put, List.setIfInBounds_toArray, List.set_cons_zero, List.set_cons_succ]
  refine good_pureX 3 (some 17) (Go.Op.load 25 (Go.Operand.tmp 3)) (none) (.agg #[.bool bb, sb, tb]) (by kernel_rfl) (by kernel_rfl) (by kernel_rfl) (fun _ _ _ h => h) (fun w' hw' => ?_) ?_
  · obtain ⟨cb00, cb01, cb02, fb00, fb01, fb02⟩ := (Box.se hw' Xb0.out (notin2 (by omega) (by omega))).c3
    first | (go_simp; done) | (go_simp; simp_all; done) | (go_simp; rfl)
  simp only [Act.put, List.setIfInBounds_toArray, List.set_cons_zero, List.set_cons_succ]
  refine good_pureX 4 (some 18) (Go.Op.load 25 (Go.Operand.tmp 3)) (none) (.agg #[.bool bb, sb, tb]) (by kernel_rfl) (by kernel_rfl) (by kernel_rfl) (fun _ _ _ h => h) (fun w' hw' => ?_) ?_
  · obtain ⟨cb00, cb01, cb02, fb00, fb01, fb02⟩ := (Box.se hw' Xb0.out (notin2 (by omega) (by omega))).c3
    first | (go_simp; done) | (go_simp; simp_all; done) | (go_simp; rfl)
  simp only [Act.put, List.setIfInBounds_toArray, List.set_cons_zero, List.set_cons_succ]
  refine good_pureX 5 (some 19) (Go.Op.load 25 (Go.Operand.tmp 2)) (none) (.agg #[.bool ba, sa, ta]) (by kernel_rfl) (by kernel_rfl) (by kernel_rfl) (fun _ _ _ h => h) (fun w' hw' => ?_) ?_
  · obtain ⟨ca00, ca01, ca02, fa00, fa01, fa02⟩ := (Box.se hw' Xa0.out (notin2 (by omega) (by omega))).c3
    first | (go_simp; done) | (go_simp; simp_all; done) | (go_simp; rfl)
  simp only [Act.put, List.setIfInBounds_toArray, List.set_cons_zero, List.set_cons_succ]
  refine good_pureX 8 (some 22) (Go.Op.load 25 (Go.Operand.tmp 2)) (none) (.agg #[.bool ba, sa, ta]) (by kernel_rfl) (by kernel_rfl) (by kernel_rfl) (fun _ _ _ h => h) (fun w' hw' => ?_) ?_
  · obtain ⟨ca00, ca01, ca02, fa00, fa01, fa02⟩ := (Box.se hw' Xa0.out (notin2 (by omega) (by omega))).c3
    first | (go_simp; done) | (go_simp; simp_all; done) | (go_simp; rfl)
  simp only [Act.put, List.setIfInBounds_toArray, List.set_cons_zero, List.set_cons_succ]
  refine good_pureX 9 (some 23) (Go.Op.load 25 (Go.Operand.tmp 3)) (none) (.agg #[.bool bb, sb, tb]) (by kernel_rfl) (by kernel_rfl) (by kernel_rfl) (fun _ _ _ h => h) (fun w' hw' => ?_) ?_
  · obtain ⟨cb00, cb01, cb02, fb00, fb01, fb02⟩ := (Box.se hw' Xb0.out (notin2 (by omega) (by omega))).c3
    first | (go_simp; done) | (go_simp; simp_all; done) | (go_simp; rfl)
  simp only [Act.put, List.setIfInBounds_toArray, List.set_cons_zero, List.set_cons_succ]
  refine good_callX 2 18 (some 16) #[Go.Operand.tmp 14, Go.Operand.tmp 15] #[25, 25] (none) #[.agg #[.bool ba, sa, ta], .agg #[.bool bb, sb, tb]] (by kernel_rfl) Hok.out (by kernel_rfl) (by kernel_rfl) (by kernel_rfl) (by kernel_rfl) rfl rfl rfl (by kernel_rfl) (fun w3 hb => ?_)
  have HG := Lib.hid (below_call HG.out hb)
  clear hb
  (first | (have hcall := zlslo_ar k Hk.out (AR.keep Ha.out (Keep.call HG.out)) (AR.keep Hb.out (Keep.call HG.out)) (by omega); refine Calls.mono hcall ?_; clear hcall) | refine Calls.mono (zlslo_ar k Hk.out (AR.keep Ha.out (Keep.call HG.out)) (AR.keep Hb.out (Keep.call HG.out)) (by omega)) ?_)
  rintro e w4 ⟨v4, rfl, ⟨⟩, hb⟩
  refine ⟨_, rfl, ?_, hb⟩
  have HG := Lib.hid (below_call HG.out hb)
  clear hb
  simp only [Act.put, List.setIfInBounds_toArray, List.set_cons_zero, List.set_cons_succ]
  refine good_callX 6 30 (some 20) #[Go.Operand.tmp 18, Go.Operand.tmp 19] #[25, 25] (none) #[.agg #[.bool bb, sb, tb], .agg #[.bool ba, sa, ta]] (by kernel_rfl) Hok.out (by kernel_rfl) (by kernel_rfl) (by kernel_rfl) (by kernel_rfl) rfl rfl rfl (by kernel_rfl) (fun w5 hb => ?_)
  have HG := Lib.hid (below_call HG.out hb)
  clear hb
  (first | (have hcall := zsub_ar (AR.keep Hb.out (Keep.call HG.out)) (AR.keep Ha.out (Keep.call HG.out)) (by omega) (by omega); refine Calls.mono hcall ?_; clear hcall) | refine Calls.mono (zsub_ar (AR.keep Hb.out (Keep.call HG.out)) (AR.keep Ha.out (Keep.call HG.out)) (by omega) (by omega)) ?_)
  rintro e w6 ⟨v6, rfl, hd, hb⟩
  obtain ⟨d_b, d_a, d_n, d_c, d_d, d_m, d_e, rfl⟩ := hd.litb
  refine ⟨_, rfl, ?_, hb⟩
  have HG := Lib.hid (below_call HG.out hb)
  have Hd := Lib.hid hd
  clear hb hd
  simp only [Act.put, List.setIfInBounds_toArray, List.set_cons_zero, List.set_cons_succ]
  refine good_callX 7 39 (some 21) #[Go.Operand.tmp 17, Go.Operand.tmp 20] #[25, 25] (none) #[.agg #[.bool bb, sb, tb], .agg #[.bool d_b, .slice d_a d_n d_c, .slice d_d d_m d_e]] (by kernel_rfl) Hok.out (by kernel_rfl) (by kernel_rfl) (by kernel_rfl) (by kernel_rfl) rfl rfl rfl (by kernel_rfl) (fun w7 hb => ?_)
  have Hd := Lib.hid (CR.keep Hd.out (Keep.call hb))
  have HG := Lib.hid (below_call HG.out hb)
  clear hb
  (first | (have hcall := zlquo_ar Hn0.out (AR.keep Hb.out (Keep.call HG.out)) Hd.out.ar (by omega) (by omega); refine Calls.mono hcall ?_; clear hcall) | refine Calls.mono (zlquo_ar Hn0.out (AR.keep Hb.out (Keep.call HG.out)) Hd.out.ar (by omega) (by omega)) ?_)
  rintro e w8 ⟨v8, rfl, hp, hb⟩
  obtain ⟨p_b, p_a, p_n, p_c, p_d, p_m, p_e, rfl⟩ := hp.litb
  refine ⟨_, rfl, ?_, hb⟩
  have HG := Lib.hid (below_call HG.out hb)
  have Hp := Lib.hid hp
  clear hb hp
  simp only [Act.put, List.setIfInBounds_toArray, List.set_cons_zero, List.set_cons_succ]
  refine good_callX 10 20 (some 24) #[Go.Operand.tmp 22, Go.Operand.tmp 23] #[25, 25] (none) #[.agg #[.bool ba, sa, ta], .agg #[.bool bb, sb, tb]] (by kernel_rfl) Hok.out (by kernel_rfl) (by kernel_rfl) (by kernel_rfl) (by kernel_rfl) rfl rfl rfl (by kernel_rfl) (fun w9 hb => ?_)
  have Hp := Lib.hid (CR.keep Hp.out (Keep.call hb))
  have HG := Lib.hid (below_call HG.out hb)
  clear hb
  (first | (have hcall := zlgap_ar (AR.keep Ha.out (Keep.call HG.out)) (AR.keep Hb.out (Keep.call HG.out)) (by omega); refine Calls.mono hcall ?_; clear hcall) | refine Calls.mono (zlgap_ar (AR.keep Ha.out (Keep.call HG.out)) (AR.keep Hb.out (Keep.call HG.out)) (by omega)) ?_)
  rintro e w10 ⟨v10, rfl, hg, hb⟩
  obtain ⟨g_b, g_a, g_n, g_c, g_d, g_m, g_e, rfl⟩ := hg.litb
  refine ⟨_, rfl, ?_, hb⟩
  have Hp := Lib.hid (CR.keep Hp.out (Keep.call hb))
  have HG := Lib.hid (below_call HG.out hb)
  have Hg := Lib.hid hg
  clear hb hg
  simp only [Act.put, List.setIfInBounds_toArray, List.set_cons_zero, List.set_cons_succ]
  refine good_pureX 11 (some 4) (Go.Op.assign (Go.Operand.tmp 16)) (none) (.int .i64 k) (by kernel_rfl) (by kernel_rfl) (by kernel_rfl) (fun _ _ _ h => h) (fun w' hw' => ?_) ?_
  · first | (go_simp; done) | (go_simp; simp_all; done) | (go_simp; rfl)
  simp only [Act.put, List.setIfInBounds_toArray, List.set_cons_zero, List.set_cons_succ]
  refine good_end0 3 (by kernel_rfl) (fun _ w11 hb => ?_)
  have Hp := Lib.hid (CR.keep Hp.out (Keep.call hb))
  have Hg := Lib.hid (CR.keep Hg.out (Keep.call hb))
  have HG := Lib.hid (below_call HG.out hb)
  clear hb
  have Xa0 := Lib.hid (Box.pcall HG.out Xa0.out)
  have Xb0 := Lib.hid (Box.pcall HG.out Xb0.out)
  have Xc0 := Lib.hid (Box.pcall HG.out Xc0.out)
  have Xd0 := Lib.hid (Box.pcall HG.out Xd0.out)
  have HB := Lib.hid (below_call HB.out HG.out)
  have HS := Lib.hid (SE.of (E := [w.heap.size + 1 + 1, w.heap.size + 1 + 1 + 1]) HG.out)
  refine held_oneX 12 (Go.Op.store 25 (Go.Operand.tmp 5) (Go.Operand.tmp 21)) (none) (World.setCell (World.setCell (World.setCell w11 ⟨w.heap.size + 1 + 1, 0, none⟩ (.bool p_b)) ⟨w.heap.size + 1 + 1, 1, none⟩ (.slice p_a p_n p_c)) ⟨w.heap.size + 1 + 1, 2, none⟩ (.slice p_d p_m p_e)) (by kernel_rfl) (by kernel_rfl) (by kernel_rfl) (by kernel_rfl) ?_ (HS.out.store3 in21) ?_
  · obtain ⟨cc00, cc01, cc02, fc00, fc01, fc02⟩ := Xc0.out.c3
    first | (go_simp; done) | (go_simp; simp_all; done) | (go_simp; rfl)
  obtain ⟨W12, hW⟩ : ∃ W12, W12 = (World.setCell (World.setCell (World.setCell w11 ⟨w.heap.size + 1 + 1, 0, none⟩ (.bool p_b)) ⟨w.heap.size + 1 + 1, 1, none⟩ (.slice p_a p_n p_c)) ⟨w.heap.size + 1 + 1, 2, none⟩ (.slice p_d p_m p_e)) := ⟨_, rfl⟩
  rw [← hW]
  obtain ⟨xc0, hk, hf, hbb, hz⟩ := stored3s hW Xc0.out (by first | exact NoInt.bool _ | exact NoInt.slice _ _ _) (by first | exact NoInt.bool _ | exact NoInt.slice _ _ _) (by first | exact NoInt.bool _ | exact NoInt.slice _ _ _)
  have Hp := Lib.hid (CR.keep Hp.out hk)
  have Hg := Lib.hid (CR.keep Hg.out hk)
  have Xa0 := Lib.hid (hf _ _ _ Xa0.out (by omega))
  have Xb0 := Lib.hid (hf _ _ _ Xb0.out (by omega))
  have Xc0 := Lib.hid xc0
  have Xd0 := Lib.hid (hf _ _ _ Xd0.out (by omega))
  have HB := Lib.hid (hbb _ HB.out Gc0.out)
  have HS := Lib.hid (show SE (w2.drew) [w.heap.size + 1 + 1, w.heap.size + 1 + 1 + 1] W12 from by rw [hW]; exact HS.out.store3 in21)
  clear hW hk hf hbb xc0
  clear hz
  refine held_oneX 13 (Go.Op.store 25 (Go.Operand.tmp 6) (Go.Operand.tmp 24)) (none) (World.setCell (World.setCell (World.setCell W12 ⟨w.heap.size + 1 + 1 + 1, 0, none⟩ (.bool g_b)) ⟨w.heap.size + 1 + 1 + 1, 1, none⟩ (.slice g_a g_n g_c)) ⟨w.heap.size + 1 + 1 + 1, 2, none⟩ (.slice g_d g_m g_e)) (by kernel_rfl) (by kernel_rfl) (by kernel_rfl) (by kernel_rfl) ?_ (HS.out.store3 in22) ?_
  · obtain ⟨cd00, cd01, cd02, fd00, fd01, fd02⟩ := Xd0.out.c3
    first | (go_simp; done) | (go_simp; simp_all; done) | (go_simp; rfl)
  obtain ⟨W13, hW⟩ : ∃ W13, W13 = (World.setCell (World.setCell (World.setCell W12 ⟨w.heap.size + 1 + 1 + 1, 0, none⟩ (.bool g_b)) ⟨w.heap.size + 1 + 1 + 1, 1, none⟩ (.slice g_a g_n g_c)) ⟨w.heap.size + 1 + 1 + 1, 2, none⟩ (.slice g_d g_m g_e)) := ⟨_, rfl⟩
  rw [← hW]
  obtain ⟨xd0, hk, hf, hbb, hz⟩ := stored3s hW Xd0.out (by first | exact NoInt.bool _ | exact NoInt.slice _ _ _) (by first | exact NoInt.bool _ | exact NoInt.slice _ _ _) (by first | exact NoInt.bool _ | exact NoInt.slice _ _ _)
  have Hp := Lib.hid (CR.keep Hp.out hk)
  have Hg := Lib.hid (CR.keep Hg.out hk)
  have Xa0 := Lib.hid (hf _ _ _ Xa0.out (by omega))
  have Xb0 := Lib.hid (hf _ _ _ Xb0.out (by omega))
  have Xc0 := Lib.hid (hf _ _ _ Xc0.out (by omega))
  have Xd0 := Lib.hid xd0
  have HB := Lib.hid (hbb _ HB.out Gd0.out)
  have HS := Lib.hid (show SE (w2.drew) [w.heap.size + 1 + 1, w.heap.size + 1 + 1 + 1] W13 from by rw [hW]; exact HS.out.store3 in22)
  clear hW hk hf hbb xd0
  clear hz
  refine held_pureX 14 (some 7) (Go.Op.assign (Go.Operand.const (Go.Value.int Go.IntKind.i64 0))) (none) (.int .i64 0) (by kernel_rfl) (by kernel_rfl) (by kernel_rfl) (fun _ _ _ h => h) (fun w' => by first | (go_simp; done) | (go_simp; simp_all; done) | (go_simp; rfl)) HS.out ?_
  simp only [Act.put, List.setIfInBounds_toArray, List.set_cons_zero, List.set_cons_succ]
  refine wpAnyH_done (by kernel_rfl) ?_ _
  clear HG HS Hok 
  obtain ⟨ca00, ca01, ca02, fa00, fa01, fa02⟩ := Xa0.out.c3
  have la0 := Xa0.out.lt
  obtain ⟨cb00, cb01, cb02, fb00, fb01, fb02⟩ := Xb0.out.c3
  have lb0 := Xb0.out.lt
  obtain ⟨cc00, cc01, cc02, fc00, fc01, fc02⟩ := Xc0.out.c3
  have lc0 := Xc0.out.lt
  obtain ⟨cd00, cd01, cd02, fd00, fd01, fd02⟩ := Xd0.out.c3
  have ld0 := Xd0.out.lt
  go_wp2
  clear ca00 ca01 ca02 fa00 fa01 fa02 la0 cb00 cb01 cb02 fb00 fb01 fb02 lb0 cc00 cc01 cc02 fc00 fc01 fc02 lc0 cd00 cd01 cd02 fd00 fd01 fd02 ld0
  exact ret_trrt rfl rfl rfl rfl rfl rfl Xc0.out Xd0.out ⟨_, _, rfl, CR.mono Hp.out (by omega), Hg.out⟩ HB.out


theorem zllin_ar {a b : Rat} {L : Nat} {u v : Value} {w : World} (hu : unst a b = true) (h : AR a L w u) (h' : AR b L w v) (hL : L ≤ 10000) : Calls Try.prog 13 #[u, v] w (Ret w (LN (slopeQ a b) (upQ a b) (gapQ a b) (L + L + L + L + 20))) := by
  obtain ⟨ba, sa, ta, rfl⟩ := h.agg
  obtain ⟨bb, sb, tb, rfl⟩ := h'.agg
  exact zllin_2 hu _ rfl (unst_ne hu) h h' hL

theorem zllin_no_ar {a b : Rat} {L : Nat} {u v : Value} {w : World} (hu : unst a b = false) (h : AR a L w u) (h' : AR b L w v) (hL : L ≤ 10000) : Calls Try.prog 13 #[u, v] w (Ret w (Val (.tuple #[.int .i64 0, .agg #[.bool false, .slice none 0 0, .slice none 0 0], .agg #[.bool false, .slice none 0 0, .slice none 0 0], .int .i64 2]))) := by
  obtain ⟨ba, sa, ta, rfl⟩ := h.agg
  obtain ⟨bb, sb, tb, rfl⟩ := h'.agg
  exact zllin_1 hu h h' hL

set_option maxRecDepth 100000 in
set_option maxHeartbeats 4000000 in
theorem zlare_1 {L : Nat} {qa : Rat} {ba : Bool} {sa ta : Value} {qb : Rat} {bb : Bool} {sb tb : Value} {qc : Rat} {bc : Bool} {sc tc : Value} {w : World} (hu : unst qa qb = false) (ha : AR qa L w (.agg #[.bool ba, sa, ta])) (hb : AR qb L w (.agg #[.bool bb, sb, tb])) (hc : AR qc L w (.agg #[.bool bc, sc, tc])) (hL : L ≤ 10000) :
    Calls Try.prog 22 #[.agg #[.bool ba, sa, ta], .agg #[.bool bb, sb, tb], .agg #[.bool bc, sc, tc]] w (Ret w (Val (.tuple #[.agg #[.bool false, .slice none 0 0, .slice none 0 0], .int .i64 2]))) := by
  have Ha := Lib.hid ha
  have Hb := Lib.hid hb
  have Hc := Lib.hid hc
  have Hu := Lib.hid hu
  clear ha hb hc hu
  go_enter Try.func22, Try.ntmps22
  have HB := Lib.hid (Below.refl w.heap.size w)
  go_wp2_with fail
  obtain ⟨W1, hW⟩ : ∃ W1, W1 = (World.alloc (World.alloc (World.alloc (World.alloc w (.cells #[.bool ba, sa, ta] 25)) (.cells #[.bool bb, sb, tb] 25)) (.cells #[.bool bc, sc, tc] 25)) (.cells #[.bool false, .slice none 0 0, .slice none 0 0] 25)) := ⟨_, rfl⟩
  rw [← hW]
  obtain ⟨xa0, xb0, xc0, xd0, hk, hb⟩ := boxes_4 _ _ _ _ _ _ _ _ _ hW
  clear hW
  have Ha := Lib.hid (AR.keep Ha.out hk)
  have Hb := Lib.hid (AR.keep Hb.out hk)
  have Ga0 := Lib.hid (show w.heap.size ≤ w.heap.size from Nat.le_trans HB.out.size (by omega))
  have Gb0 := Lib.hid (show w.heap.size ≤ w.heap.size + 1 from Nat.le_trans HB.out.size (by omega))
  have Gc0 := Lib.hid (show w.heap.size ≤ w.heap.size + 1 + 1 from Nat.le_trans HB.out.size (by omega))
  have Gd0 := Lib.hid (show w.heap.size ≤ w.heap.size + 1 + 1 + 1 from Nat.le_trans HB.out.size (by omega))
  have Xa0 := Lib.hid xa0
  have Xb0 := Lib.hid xb0
  have Xc0 := Lib.hid xc0
  have Xd0 := Lib.hid xd0
  have HB := Lib.hid (below_call HB.out hb)
  clear hk hb xa0 xb0 xc0 xd0
  refine Calls.mono (zof (x := 1) (by decide) (by decide)) ?_
  rintro e w2 ⟨v2, rfl, ho, hb⟩
  obtain ⟨o_b, o_a, o_n, o_c, o_d, o_m, o_e, rfl⟩ := ho.litb
  have Ha := Lib.hid (AR.keep Ha.out (Keep.call hb))
  have Hb := Lib.hid (AR.keep Hb.out (Keep.call hb))
  have Xa0 := Lib.hid (Box.pcall hb Xa0.out)
  have Xb0 := Lib.hid (Box.pcall hb Xb0.out)
  have Xc0 := Lib.hid (Box.pcall hb Xc0.out)
  have Xd0 := Lib.hid (Box.pcall hb Xd0.out)
  have HB := Lib.hid (below_call HB.out hb)
  have Ho := Lib.hid ho
  clear hb ho
  obtain ⟨ca00, ca01, ca02, fa00, fa01, fa02⟩ := Xa0.out.c3
  have la0 := Xa0.out.lt
  obtain ⟨cb00, cb01, cb02, fb00, fb01, fb02⟩ := Xb0.out.c3
  have lb0 := Xb0.out.lt
  obtain ⟨cc00, cc01, cc02, fc00, fc01, fc02⟩ := Xc0.out.c3
  have lc0 := Xc0.out.lt
  obtain ⟨cd00, cd01, cd02, fd00, fd01, fd02⟩ := Xd0.out.c3
  have ld0 := Xd0.out.lt
  go_wp2_with fail
  clear ca00 ca01 ca02 fa00 fa01 fa02 la0 cb00 cb01 cb02 fb00 fb01 fb02 lb0 cc00 cc01 cc02 fc00 fc01 fc02 lc0 cd00 cd01 cd02 fd00 fd01 fd02 ld0
  obtain ⟨W3, hW⟩ : ∃ W3, W3 = (World.alloc w2 (.cells #[.bool o_b, .slice o_a o_n o_c, .slice o_d o_m o_e] 25)) := ⟨_, rfl⟩
  rw [← hW]
  obtain ⟨xe0, hk, hb⟩ := boxes_1 _ _ _ hW
  clear hW
  have Ha := Lib.hid (AR.keep Ha.out hk)
  have Hb := Lib.hid (AR.keep Hb.out hk)
  have Na0e0 := Lib.hid (show w.heap.size ≠ w2.heap.size from Nat.ne_of_lt (Nat.lt_of_lt_of_le Xa0.out.lt (by omega)))
  have Nb0e0 := Lib.hid (show w.heap.size + 1 ≠ w2.heap.size from Nat.ne_of_lt (Nat.lt_of_lt_of_le Xb0.out.lt (by omega)))
  have Nc0e0 := Lib.hid (show w.heap.size + 1 + 1 ≠ w2.heap.size from Nat.ne_of_lt (Nat.lt_of_lt_of_le Xc0.out.lt (by omega)))
  have Nd0e0 := Lib.hid (show w.heap.size + 1 + 1 + 1 ≠ w2.heap.size from Nat.ne_of_lt (Nat.lt_of_lt_of_le Xd0.out.lt (by omega)))
  have Ge0 := Lib.hid (show w.heap.size ≤ w2.heap.size from Nat.le_trans HB.out.size (by omega))
  have Xa0 := Lib.hid (Box.pcall hb Xa0.out)
  have Xb0 := Lib.hid (Box.pcall hb Xb0.out)
  have Xc0 := Lib.hid (Box.pcall hb Xc0.out)
  have Xd0 := Lib.hid (Box.pcall hb Xd0.out)
  have Xe0 := Lib.hid xe0
  have HB := Lib.hid (below_call HB.out hb)
  clear hk hb xe0
  (first | (have hcall := zluns_ar Hu.out Ha.out Hb.out (by omega); refine Calls.mono hcall ?_; clear hcall) | refine Calls.mono (zluns_ar Hu.out Ha.out Hb.out (by omega)) ?_)
  rintro e w4 ⟨v4, rfl, rfl, hb⟩
  have Xa0 := Lib.hid (Box.pcall hb Xa0.out)
  have Xb0 := Lib.hid (Box.pcall hb Xb0.out)
  have Xc0 := Lib.hid (Box.pcall hb Xc0.out)
  have Xd0 := Lib.hid (Box.pcall hb Xd0.out)
  have Xe0 := Lib.hid (Box.pcall hb Xe0.out)
  have HB := Lib.hid (below_call HB.out hb)
  clear hb
  obtain ⟨ca00, ca01, ca02, fa00, fa01, fa02⟩ := Xa0.out.c3
  have la0 := Xa0.out.lt
  obtain ⟨cb00, cb01, cb02, fb00, fb01, fb02⟩ := Xb0.out.c3
  have lb0 := Xb0.out.lt
  obtain ⟨cc00, cc01, cc02, fc00, fc01, fc02⟩ := Xc0.out.c3
  have lc0 := Xc0.out.lt
  obtain ⟨cd00, cd01, cd02, fd00, fd01, fd02⟩ := Xd0.out.c3
  have ld0 := Xd0.out.lt
  obtain ⟨ce00, ce01, ce02, fe00, fe01, fe02⟩ := Xe0.out.c3
  have le0 := Xe0.out.lt
  go_wp2
  clear ca00 ca01 ca02 fa00 fa01 fa02 la0 cb00 cb01 cb02 fb00 fb01 fb02 lb0 cc00 cc01 cc02 fc00 fc01 fc02 lc0 cd00 cd01 cd02 fd00 fd01 fd02 ld0 ce00 ce01 ce02 fe00 fe01 fe02 le0
  obtain ⟨W5, hW⟩ : ∃ W5, W5 = (World.setCell (World.setCell (World.setCell w4 ⟨w.heap.size + 1 + 1 + 1, 0, none⟩ (.bool false)) ⟨w.heap.size + 1 + 1 + 1, 1, none⟩ (.slice none 0 0)) ⟨w.heap.size + 1 + 1 + 1, 2, none⟩ (.slice none 0 0)) := ⟨_, rfl⟩
  rw [← hW]
  obtain ⟨xd0, hk, hf, hbb, hz⟩ := stored3s hW Xd0.out (by first | exact NoInt.bool _ | exact NoInt.slice _ _ _) (by first | exact NoInt.bool _ | exact NoInt.slice _ _ _) (by first | exact NoInt.bool _ | exact NoInt.slice _ _ _)
  have Xa0 := Lib.hid (hf _ _ _ Xa0.out (by omega))
  have Xb0 := Lib.hid (hf _ _ _ Xb0.out (by omega))
  have Xc0 := Lib.hid (hf _ _ _ Xc0.out (by omega))
  have Xd0 := Lib.hid xd0
  have Xe0 := Lib.hid (hf _ _ _ Xe0.out Nd0e0.out.symm)
  have HB := Lib.hid (hbb _ HB.out Gd0.out)
  clear hW hk hf hbb xd0
  clear hz
  exact ret_re rfl rfl rfl rfl Xd0.out rfl HB.out


set_option maxRecDepth 100000 in
set_option maxHeartbeats 4000000 in
theorem zlare_2 {L : Nat} {qa : Rat} {ba : Bool} {sa ta : Value} {qb : Rat} {bb : Bool} {sb tb : Value} {qc : Rat} {bc : Bool} {sc tc : Value} {w : World} (hu : unst qa qb = true) (j : Int) (hj : qc.num.sign = j) (hj0 : decide (j < 0) = true) (ha : AR qa L w (.agg #[.bool ba, sa, ta])) (hb : AR qb L w (.agg #[.bool bb, sb, tb])) (hc : AR qc L w (.agg #[.bool bc, sc, tc])) (hL : L ≤ 10000) :
    Calls Try.prog 22 #[.agg #[.bool ba, sa, ta], .agg #[.bool bb, sb, tb], .agg #[.bool bc, sc, tc]] w (Ret w (Val (.tuple #[.agg #[.bool false, .slice none 0 0, .slice none 0 0], .int .i64 2]))) := by
  have Ha := Lib.hid ha
  have Hb := Lib.hid hb
  have Hc := Lib.hid hc
  have Hu := Lib.hid hu
  have Hj := Lib.hid hj
  have Hj0 := Lib.hid hj0
  clear ha hb hc hu hj hj0
  go_enter Try.func22, Try.ntmps22
  have HB := Lib.hid (Below.refl w.heap.size w)
  go_wp2_with fail
  obtain ⟨W1, hW⟩ : ∃ W1, W1 = (World.alloc (World.alloc (World.alloc (World.alloc w (.cells #[.bool ba, sa, ta] 25)) (.cells #[.bool bb, sb, tb] 25)) (.cells #[.bool bc, sc, tc] 25)) (.cells #[.bool false, .slice none 0 0, .slice none 0 0] 25)) := ⟨_, rfl⟩
  rw [← hW]
  obtain ⟨xa0, xb0, xc0, xd0, hk, hb⟩ := boxes_4 _ _ _ _ _ _ _ _ _ hW
  clear hW
  have Ha := Lib.hid (AR.keep Ha.out hk)
  have Hb := Lib.hid (AR.keep Hb.out hk)
  have Hc := Lib.hid (AR.keep Hc.out hk)
  have Ga0 := Lib.hid (show w.heap.size ≤ w.heap.size from Nat.le_trans HB.out.size (by omega))
  have Gb0 := Lib.hid (show w.heap.size ≤ w.heap.size + 1 from Nat.le_trans HB.out.size (by omega))
  have Gc0 := Lib.hid (show w.heap.size ≤ w.heap.size + 1 + 1 from Nat.le_trans HB.out.size (by omega))
  have Gd0 := Lib.hid (show w.heap.size ≤ w.heap.size + 1 + 1 + 1 from Nat.le_trans HB.out.size (by omega))
  have Xa0 := Lib.hid xa0
  have Xb0 := Lib.hid xb0
  have Xc0 := Lib.hid xc0
  have Xd0 := Lib.hid xd0
  have HB := Lib.hid (below_call HB.out hb)
  clear hk hb xa0 xb0 xc0 xd0
  refine Calls.mono (zof (x := 1) (by decide) (by decide)) ?_
  rintro e w2 ⟨v2, rfl, ho, hb⟩
  obtain ⟨o_b, o_a, o_n, o_c, o_d, o_m, o_e, rfl⟩ := ho.litb
  have Ha := Lib.hid (AR.keep Ha.out (Keep.call hb))
  have Hb := Lib.hid (AR.keep Hb.out (Keep.call hb))
  have Hc := Lib.hid (AR.keep Hc.out (Keep.call hb))
  have Xa0 := Lib.hid (Box.pcall hb Xa0.out)
  have Xb0 := Lib.hid (Box.pcall hb Xb0.out)
  have Xc0 := Lib.hid (Box.pcall hb Xc0.out)
  have Xd0 := Lib.hid (Box.pcall hb Xd0.out)
  have HB := Lib.hid (below_call HB.out hb)
  have Ho := Lib.hid ho
  clear hb ho
  obtain ⟨ca00, ca01, ca02, fa00, fa01, fa02⟩ := Xa0.out.c3
  have la0 := Xa0.out.lt
  obtain ⟨cb00, cb01, cb02, fb00, fb01, fb02⟩ := Xb0.out.c3
  have lb0 := Xb0.out.lt
  obtain ⟨cc00, cc01, cc02, fc00, fc01, fc02⟩ := Xc0.out.c3
  have lc0 := Xc0.out.lt
  obtain ⟨cd00, cd01, cd02, fd00, fd01, fd02⟩ := Xd0.out.c3
  have ld0 := Xd0.out.lt
  go_wp2_with fail
  clear ca00 ca01 ca02 fa00 fa01 fa02 la0 cb00 cb01 cb02 fb00 fb01 fb02 lb0 cc00 cc01 cc02 fc00 fc01 fc02 lc0 cd00 cd01 cd02 fd00 fd01 fd02 ld0
  obtain ⟨W3, hW⟩ : ∃ W3, W3 = (World.alloc w2 (.cells #[.bool o_b, .slice o_a o_n o_c, .slice o_d o_m o_e] 25)) := ⟨_, rfl⟩
  rw [← hW]
  obtain ⟨xe0, hk, hb⟩ := boxes_1 _ _ _ hW
  clear hW
  have Ha := Lib.hid (AR.keep Ha.out hk)
  have Hb := Lib.hid (AR.keep Hb.out hk)
  have Hc := Lib.hid (AR.keep Hc.out hk)
  have Na0e0 := Lib.hid (show w.heap.size ≠ w2.heap.size from Nat.ne_of_lt (Nat.lt_of_lt_of_le Xa0.out.lt (by omega)))
  have Nb0e0 := Lib.hid (show w.heap.size + 1 ≠ w2.heap.size from Nat.ne_of_lt (Nat.lt_of_lt_of_le Xb0.out.lt (by omega)))
  have Nc0e0 := Lib.hid (show w.heap.size + 1 + 1 ≠ w2.heap.size from Nat.ne_of_lt (Nat.lt_of_lt_of_le Xc0.out.lt (by omega)))
  have Nd0e0 := Lib.hid (show w.heap.size + 1 + 1 + 1 ≠ w2.heap.size from Nat.ne_of_lt (Nat.lt_of_lt_of_le Xd0.out.lt (by omega)))
  have Ge0 := Lib.hid (show w.heap.size ≤ w2.heap.size from Nat.le_trans HB.out.size (by omega))
  have Xa0 := Lib.hid (Box.pcall hb Xa0.out)
  have Xb0 := Lib.hid (Box.pcall hb Xb0.out)
  have Xc0 := Lib.hid (Box.pcall hb Xc0.out)
  have Xd0 := Lib.hid (Box.pcall hb Xd0.out)
  have Xe0 := Lib.hid xe0
  have HB := Lib.hid (below_call HB.out hb)
  clear hk hb xe0
  (first | (have hcall := zluns_ar Hu.out Ha.out Hb.out (by omega); refine Calls.mono hcall ?_; clear hcall) | refine Calls.mono (zluns_ar Hu.out Ha.out Hb.out (by omega)) ?_)
  rintro e w4 ⟨v4, rfl, rfl, hb⟩
  have Hc := Lib.hid (AR.keep Hc.out (Keep.call hb))
  have Xa0 := Lib.hid (Box.pcall hb Xa0.out)
  have Xb0 := Lib.hid (Box.pcall hb Xb0.out)
  have Xc0 := Lib.hid (Box.pcall hb Xc0.out)
  have Xd0 := Lib.hid (Box.pcall hb Xd0.out)
  have Xe0 := Lib.hid (Box.pcall hb Xe0.out)
  have HB := Lib.hid (below_call HB.out hb)
  clear hb
  obtain ⟨ca00, ca01, ca02, fa00, fa01, fa02⟩ := Xa0.out.c3
  have la0 := Xa0.out.lt
  obtain ⟨cb00, cb01, cb02, fb00, fb01, fb02⟩ := Xb0.out.c3
  have lb0 := Xb0.out.lt
  obtain ⟨cc00, cc01, cc02, fc00, fc01, fc02⟩ := Xc0.out.c3
  have lc0 := Xc0.out.lt
  obtain ⟨cd00, cd01, cd02, fd00, fd01, fd02⟩ := Xd0.out.c3
  have ld0 := Xd0.out.lt
  obtain ⟨ce00, ce01, ce02, fe00, fe01, fe02⟩ := Xe0.out.c3
  have le0 := Xe0.out.lt
  go_wp2_with fail
  clear ca00 ca01 ca02 fa00 fa01 fa02 la0 cb00 cb01 cb02 fb00 fb01 fb02 lb0 cc00 cc01 cc02 fc00 fc01 fc02 lc0 cd00 cd01 cd02 fd00 fd01 fd02 ld0 ce00 ce01 ce02 fe00 fe01 fe02 le0
  (first | (have hcall := zsign_ar j Hc.out Hj.out ; refine Calls.mono hcall ?_; clear hcall) | refine Calls.mono (zsign_ar j Hc.out Hj.out ) ?_)
  rintro e w5 ⟨v5, rfl, ⟨⟩, hb⟩
  have Xa0 := Lib.hid (Box.pcall hb Xa0.out)
  have Xb0 := Lib.hid (Box.pcall hb Xb0.out)
  have Xc0 := Lib.hid (Box.pcall hb Xc0.out)
  have Xd0 := Lib.hid (Box.pcall hb Xd0.out)
  have Xe0 := Lib.hid (Box.pcall hb Xe0.out)
  have HB := Lib.hid (below_call HB.out hb)
  clear hb
  have hj0 : decide (j < 0) = true := Hj0.out
  obtain ⟨ca00, ca01, ca02, fa00, fa01, fa02⟩ := Xa0.out.c3
  have la0 := Xa0.out.lt
  obtain ⟨cb00, cb01, cb02, fb00, fb01, fb02⟩ := Xb0.out.c3
  have lb0 := Xb0.out.lt
  obtain ⟨cc00, cc01, cc02, fc00, fc01, fc02⟩ := Xc0.out.c3
  have lc0 := Xc0.out.lt
  obtain ⟨cd00, cd01, cd02, fd00, fd01, fd02⟩ := Xd0.out.c3
  have ld0 := Xd0.out.lt
  obtain ⟨ce00, ce01, ce02, fe00, fe01, fe02⟩ := Xe0.out.c3
  have le0 := Xe0.out.lt
  go_wp2
  clear ca00 ca01 ca02 fa00 fa01 fa02 la0 cb00 cb01 cb02 fb00 fb01 fb02 lb0 cc00 cc01 cc02 fc00 fc01 fc02 lc0 cd00 cd01 cd02 fd00 fd01 fd02 ld0 ce00 ce01 ce02 fe00 fe01 fe02 le0
  obtain ⟨W6, hW⟩ : ∃ W6, W6 = (World.setCell (World.setCell (World.setCell w5 ⟨w.heap.size + 1 + 1 + 1, 0, none⟩ (.bool false)) ⟨w.heap.size + 1 + 1 + 1, 1, none⟩ (.slice none 0 0)) ⟨w.heap.size + 1 + 1 + 1, 2, none⟩ (.slice none 0 0)) := ⟨_, rfl⟩
  rw [← hW]
  obtain ⟨xd0, hk, hf, hbb, hz⟩ := stored3s hW Xd0.out (by first | exact NoInt.bool _ | exact NoInt.slice _ _ _) (by first | exact NoInt.bool _ | exact NoInt.slice _ _ _) (by first | exact NoInt.bool _ | exact NoInt.slice _ _ _)
  have Xa0 := Lib.hid (hf _ _ _ Xa0.out (by omega))
  have Xb0 := Lib.hid (hf _ _ _ Xb0.out (by omega))
  have Xc0 := Lib.hid (hf _ _ _ Xc0.out (by omega))
  have Xd0 := Lib.hid xd0
  have Xe0 := Lib.hid (hf _ _ _ Xe0.out Nd0e0.out.symm)
  have HB := Lib.hid (hbb _ HB.out Gd0.out)
  clear hW hk hf hbb xd0
  clear hz
  exact ret_re rfl rfl rfl rfl Xd0.out rfl HB.out


set_option maxRecDepth 100000 in
set_option maxHeartbeats 4000000 in
theorem zlare_3 {L : Nat} {qa : Rat} {ba : Bool} {sa ta : Value} {qb : Rat} {bb : Bool} {sb tb : Value} {qc : Rat} {bc : Bool} {sc tc : Value} {w : World} (hu : unst qa qb = true) (j : Int) (hj : qc.num.sign = j) (hj0 : decide (j < 0) = false) (m : Int) (hm : cmpQ qc ((1 : Int) : Rat) = m) (hm0 : decide (0 < m) = true) (ha : AR qa L w (.agg #[.bool ba, sa, ta])) (hb : AR qb L w (.agg #[.bool bb, sb, tb])) (hc : AR qc L w (.agg #[.bool bc, sc, tc])) (hL : L ≤ 10000) :
    Calls Try.prog 22 #[.agg #[.bool ba, sa, ta], .agg #[.bool bb, sb, tb], .agg #[.bool bc, sc, tc]] w (Ret w (Val (.tuple #[.agg #[.bool false, .slice none 0 0, .slice none 0 0], .int .i64 2]))) := by
  have Ha := Lib.hid ha
  have Hb := Lib.hid hb
  have Hc := Lib.hid hc
  have Hu := Lib.hid hu
  have Hj := Lib.hid hj
  have Hj0 := Lib.hid hj0
  have Hm := Lib.hid hm
  have Hm0 := Lib.hid hm0
  clear ha hb hc hu hj hj0 hm hm0
  go_enter Try.func22, Try.ntmps22
  have HB := Lib.hid (Below.refl w.heap.size w)
  go_wp2_with fail
  obtain ⟨W1, hW⟩ : ∃ W1, W1 = (World.alloc (World.alloc (World.alloc (World.alloc w (.cells #[.bool ba, sa, ta] 25)) (.cells #[.bool bb, sb, tb] 25)) (.cells #[.bool bc, sc, tc] 25)) (.cells #[.bool false, .slice none 0 0, .slice none 0 0] 25)) := ⟨_, rfl⟩
  rw [← hW]
  obtain ⟨xa0, xb0, xc0, xd0, hk, hb⟩ := boxes_4 _ _ _ _ _ _ _ _ _ hW
  clear hW
  have Ha := Lib.hid (AR.keep Ha.out hk)
  have Hb := Lib.hid (AR.keep Hb.out hk)
  have Hc := Lib.hid (AR.keep Hc.out hk)
  have Ga0 := Lib.hid (show w.heap.size ≤ w.heap.size from Nat.le_trans HB.out.size (by omega))
  have Gb0 := Lib.hid (show w.heap.size ≤ w.heap.size + 1 from Nat.le_trans HB.out.size (by omega))
  have Gc0 := Lib.hid (show w.heap.size ≤ w.heap.size + 1 + 1 from Nat.le_trans HB.out.size (by omega))
  have Gd0 := Lib.hid (show w.heap.size ≤ w.heap.size + 1 + 1 + 1 from Nat.le_trans HB.out.size (by omega))
  have Xa0 := Lib.hid xa0
  have Xb0 := Lib.hid xb0
  have Xc0 := Lib.hid xc0
  have Xd0 := Lib.hid xd0
  have HB := Lib.hid (below_call HB.out hb)
  clear hk hb xa0 xb0 xc0 xd0
  refine Calls.mono (zof (x := 1) (by decide) (by decide)) ?_
  rintro e w2 ⟨v2, rfl, ho, hb⟩
  obtain ⟨o_b, o_a, o_n, o_c, o_d, o_m, o_e, rfl⟩ := ho.litb
  have Ha := Lib.hid (AR.keep Ha.out (Keep.call hb))
  have Hb := Lib.hid (AR.keep Hb.out (Keep.call hb))
  have Hc := Lib.hid (AR.keep Hc.out (Keep.call hb))
  have Xa0 := Lib.hid (Box.pcall hb Xa0.out)
  have Xb0 := Lib.hid (Box.pcall hb Xb0.out)
  have Xc0 := Lib.hid (Box.pcall hb Xc0.out)
  have Xd0 := Lib.hid (Box.pcall hb Xd0.out)
  have HB := Lib.hid (below_call HB.out hb)
  have Ho := Lib.hid ho
  clear hb ho
  obtain ⟨ca00, ca01, ca02, fa00, fa01, fa02⟩ := Xa0.out.c3
  have la0 := Xa0.out.lt
  obtain ⟨cb00, cb01, cb02, fb00, fb01, fb02⟩ := Xb0.out.c3
  have lb0 := Xb0.out.lt
  obtain ⟨cc00, cc01, cc02, fc00, fc01, fc02⟩ := Xc0.out.c3
  have lc0 := Xc0.out.lt
  obtain ⟨cd00, cd01, cd02, fd00, fd01, fd02⟩ := Xd0.out.c3
  have ld0 := Xd0.out.lt
  go_wp2_with fail
  clear ca00 ca01 ca02 fa00 fa01 fa02 la0 cb00 cb01 cb02 fb00 fb01 fb02 lb0 cc00 cc01 cc02 fc00 fc01 fc02 lc0 cd00 cd01 cd02 fd00 fd01 fd02 ld0
  obtain ⟨W3, hW⟩ : ∃ W3, W3 = (World.alloc w2 (.cells #[.bool o_b, .slice o_a o_n o_c, .slice o_d o_m o_e] 25)) := ⟨_, rfl⟩
  rw [← hW]
  obtain ⟨xe0, hk, hb⟩ := boxes_1 _ _ _ hW
  clear hW
  have Ha := Lib.hid (AR.keep Ha.out hk)
  have Hb := Lib.hid (AR.keep Hb.out hk)
  have Hc := Lib.hid (AR.keep Hc.out hk)
  have Ho := Lib.hid (CR.keep Ho.out hk)
  have Na0e0 := Lib.hid (show w.heap.size ≠ w2.heap.size from Nat.ne_of_lt (Nat.lt_of_lt_of_le Xa0.out.lt (by omega)))
  have Nb0e0 := Lib.hid (show w.heap.size + 1 ≠ w2.heap.size from Nat.ne_of_lt (Nat.lt_of_lt_of_le Xb0.out.lt (by omega)))
  have Nc0e0 := Lib.hid (show w.heap.size + 1 + 1 ≠ w2.heap.size from Nat.ne_of_lt (Nat.lt_of_lt_of_le Xc0.out.lt (by omega)))
  have Nd0e0 := Lib.hid (show w.heap.size + 1 + 1 + 1 ≠ w2.heap.size from Nat.ne_of_lt (Nat.lt_of_lt_of_le Xd0.out.lt (by omega)))
  have Ge0 := Lib.hid (show w.heap.size ≤ w2.heap.size from Nat.le_trans HB.out.size (by omega))
  have Xa0 := Lib.hid (Box.pcall hb Xa0.out)
  have Xb0 := Lib.hid (Box.pcall hb Xb0.out)
  have Xc0 := Lib.hid (Box.pcall hb Xc0.out)
  have Xd0 := Lib.hid (Box.pcall hb Xd0.out)
  have Xe0 := Lib.hid xe0
  have HB := Lib.hid (below_call HB.out hb)
  clear hk hb xe0
  (first | (have hcall := zluns_ar Hu.out Ha.out Hb.out (by omega); refine Calls.mono hcall ?_; clear hcall) | refine Calls.mono (zluns_ar Hu.out Ha.out Hb.out (by omega)) ?_)
  rintro e w4 ⟨v4, rfl, rfl, hb⟩
  have Hc := Lib.hid (AR.keep Hc.out (Keep.call hb))
  have Ho := Lib.hid (CR.keep Ho.out (Keep.call hb))
  have Xa0 := Lib.hid (Box.pcall hb Xa0.out)
  have Xb0 := Lib.hid (Box.pcall hb Xb0.out)
  have Xc0 := Lib.hid (Box.pcall hb Xc0.out)
  have Xd0 := Lib.hid (Box.pcall hb Xd0.out)
  have Xe0 := Lib.hid (Box.pcall hb Xe0.out)
  have HB := Lib.hid (below_call HB.out hb)
  clear hb
  obtain ⟨ca00, ca01, ca02, fa00, fa01, fa02⟩ := Xa0.out.c3
  have la0 := Xa0.out.lt
  obtain ⟨cb00, cb01, cb02, fb00, fb01, fb02⟩ := Xb0.out.c3
  have lb0 := Xb0.out.lt
  obtain ⟨cc00, cc01, cc02, fc00, fc01, fc02⟩ := Xc0.out.c3
  have lc0 := Xc0.out.lt
  obtain ⟨cd00, cd01, cd02, fd00, fd01, fd02⟩ := Xd0.out.c3
  have ld0 := Xd0.out.lt
  obtain ⟨ce00, ce01, ce02, fe00, fe01, fe02⟩ := Xe0.out.c3
  have le0 := Xe0.out.lt
  go_wp2_with fail
  clear ca00 ca01 ca02 fa00 fa01 fa02 la0 cb00 cb01 cb02 fb00 fb01 fb02 lb0 cc00 cc01 cc02 fc00 fc01 fc02 lc0 cd00 cd01 cd02 fd00 fd01 fd02 ld0 ce00 ce01 ce02 fe00 fe01 fe02 le0
  (first | (have hcall := zsign_ar j Hc.out Hj.out ; refine Calls.mono hcall ?_; clear hcall) | refine Calls.mono (zsign_ar j Hc.out Hj.out ) ?_)
  rintro e w5 ⟨v5, rfl, ⟨⟩, hb⟩
  have Hc := Lib.hid (AR.keep Hc.out (Keep.call hb))
  have Ho := Lib.hid (CR.keep Ho.out (Keep.call hb))
  have Xa0 := Lib.hid (Box.pcall hb Xa0.out)
  have Xb0 := Lib.hid (Box.pcall hb Xb0.out)
  have Xc0 := Lib.hid (Box.pcall hb Xc0.out)
  have Xd0 := Lib.hid (Box.pcall hb Xd0.out)
  have Xe0 := Lib.hid (Box.pcall hb Xe0.out)
  have HB := Lib.hid (below_call HB.out hb)
  clear hb
  have hj0 : decide (j < 0) = false := Hj0.out
  obtain ⟨ca00, ca01, ca02, fa00, fa01, fa02⟩ := Xa0.out.c3
  have la0 := Xa0.out.lt
  obtain ⟨cb00, cb01, cb02, fb00, fb01, fb02⟩ := Xb0.out.c3
  have lb0 := Xb0.out.lt
  obtain ⟨cc00, cc01, cc02, fc00, fc01, fc02⟩ := Xc0.out.c3
  have lc0 := Xc0.out.lt
  obtain ⟨cd00, cd01, cd02, fd00, fd01, fd02⟩ := Xd0.out.c3
  have ld0 := Xd0.out.lt
  obtain ⟨ce00, ce01, ce02, fe00, fe01, fe02⟩ := Xe0.out.c3
  have le0 := Xe0.out.lt
  go_wp2_with fail
  clear ca00 ca01 ca02 fa00 fa01 fa02 la0 cb00 cb01 cb02 fb00 fb01 fb02 lb0 cc00 cc01 cc02 fc00 fc01 fc02 lc0 cd00 cd01 cd02 fd00 fd01 fd02 ld0 ce00 ce01 ce02 fe00 fe01 fe02 le0
  (first | (have hcall := zcmp_ar m Hc.out Ho.out.ar Hm.out (by omega) (by omega); refine Calls.mono hcall ?_; clear hcall) | refine Calls.mono (zcmp_ar m Hc.out Ho.out.ar Hm.out (by omega) (by omega)) ?_)
  rintro e w6 ⟨v6, rfl, ⟨⟩, hb⟩
  have Xa0 := Lib.hid (Box.pcall hb Xa0.out)
  have Xb0 := Lib.hid (Box.pcall hb Xb0.out)
  have Xc0 := Lib.hid (Box.pcall hb Xc0.out)
  have Xd0 := Lib.hid (Box.pcall hb Xd0.out)
  have Xe0 := Lib.hid (Box.pcall hb Xe0.out)
  have HB := Lib.hid (below_call HB.out hb)
  clear hb
  have hm0 : decide (0 < m) = true := Hm0.out
  obtain ⟨ca00, ca01, ca02, fa00, fa01, fa02⟩ := Xa0.out.c3
  have la0 := Xa0.out.lt
  obtain ⟨cb00, cb01, cb02, fb00, fb01, fb02⟩ := Xb0.out.c3
  have lb0 := Xb0.out.lt
  obtain ⟨cc00, cc01, cc02, fc00, fc01, fc02⟩ := Xc0.out.c3
  have lc0 := Xc0.out.lt
  obtain ⟨cd00, cd01, cd02, fd00, fd01, fd02⟩ := Xd0.out.c3
  have ld0 := Xd0.out.lt
  obtain ⟨ce00, ce01, ce02, fe00, fe01, fe02⟩ := Xe0.out.c3
  have le0 := Xe0.out.lt
  go_wp2
  clear ca00 ca01 ca02 fa00 fa01 fa02 la0 cb00 cb01 cb02 fb00 fb01 fb02 lb0 cc00 cc01 cc02 fc00 fc01 fc02 lc0 cd00 cd01 cd02 fd00 fd01 fd02 ld0 ce00 ce01 ce02 fe00 fe01 fe02 le0
  obtain ⟨W7, hW⟩ : ∃ W7, W7 = (World.setCell (World.setCell (World.setCell w6 ⟨w.heap.size + 1 + 1 + 1, 0, none⟩ (.bool false)) ⟨w.heap.size + 1 + 1 + 1, 1, none⟩ (.slice none 0 0)) ⟨w.heap.size + 1 + 1 + 1, 2, none⟩ (.slice none 0 0)) := ⟨_, rfl⟩
  rw [← hW]
  obtain ⟨xd0, hk, hf, hbb, hz⟩ := stored3s hW Xd0.out (by first | exact NoInt.bool _ | exact NoInt.slice _ _ _) (by first | exact NoInt.bool _ | exact NoInt.slice _ _ _) (by first | exact NoInt.bool _ | exact NoInt.slice _ _ _)
  have Xa0 := Lib.hid (hf _ _ _ Xa0.out (by omega))
  have Xb0 := Lib.hid (hf _ _ _ Xb0.out (by omega))
  have Xc0 := Lib.hid (hf _ _ _ Xc0.out (by omega))
  have Xd0 := Lib.hid xd0
  have Xe0 := Lib.hid (hf _ _ _ Xe0.out Nd0e0.out.symm)
  have HB := Lib.hid (hbb _ HB.out Gd0.out)
  clear hW hk hf hbb xd0
  clear hz
  exact ret_re rfl rfl rfl rfl Xd0.out rfl HB.out


set_option maxRecDepth 100000 in
set_option maxHeartbeats 4000000 in
theorem zlare_4 {L : Nat} {qa : Rat} {ba : Bool} {sa ta : Value} {qb : Rat} {bb : Bool} {sb tb : Value} {qc : Rat} {bc : Bool} {sc tc : Value} {w : World} (hu : unst qa qb = true) (j : Int) (hj : qc.num.sign = j) (hj0 : decide (j < 0) = false) (m : Int) (hm : cmpQ qc ((1 : Int) : Rat) = m) (hm0 : decide (0 < m) = false) (ha : AR qa L w (.agg #[.bool ba, sa, ta])) (hb : AR qb L w (.agg #[.bool bb, sb, tb])) (hc : AR qc L w (.agg #[.bool bc, sc, tc])) (hL : L ≤ 10000) :
    Calls Try.prog 22 #[.agg #[.bool ba, sa, ta], .agg #[.bool bb, sb, tb], .agg #[.bool bc, sc, tc]] w (Ret w (CRE (areaQ qa qb qc) (20 * L + 100) 0)) := by
  have Ha := Lib.hid ha
  have Hb := Lib.hid hb
  have Hc := Lib.hid hc
  have Hu := Lib.hid hu
  have Hj := Lib.hid hj
  have Hj0 := Lib.hid hj0
  have Hm := Lib.hid hm
  have Hm0 := Lib.hid hm0
  clear ha hb hc hu hj hj0 hm hm0
  go_enter Try.func22, Try.ntmps22
  have HB := Lib.hid (Below.refl w.heap.size w)
  go_wp2_with fail
  obtain ⟨W1, hW⟩ : ∃ W1, W1 = (World.alloc (World.alloc (World.alloc (World.alloc w (.cells #[.bool ba, sa, ta] 25)) (.cells #[.bool bb, sb, tb] 25)) (.cells #[.bool bc, sc, tc] 25)) (.cells #[.bool false, .slice none 0 0, .slice none 0 0] 25)) := ⟨_, rfl⟩
  rw [← hW]
  obtain ⟨xa0, xb0, xc0, xd0, hk, hb⟩ := boxes_4 _ _ _ _ _ _ _ _ _ hW
  clear hW
  have Ha := Lib.hid (AR.keep Ha.out hk)
  have Hb := Lib.hid (AR.keep Hb.out hk)
  have Hc := Lib.hid (AR.keep Hc.out hk)
  have Ga0 := Lib.hid (show w.heap.size ≤ w.heap.size from Nat.le_trans HB.out.size (by omega))
  have Gb0 := Lib.hid (show w.heap.size ≤ w.heap.size + 1 from Nat.le_trans HB.out.size (by omega))
  have Gc0 := Lib.hid (show w.heap.size ≤ w.heap.size + 1 + 1 from Nat.le_trans HB.out.size (by omega))
  have Gd0 := Lib.hid (show w.heap.size ≤ w.heap.size + 1 + 1 + 1 from Nat.le_trans HB.out.size (by omega))
  have Xa0 := Lib.hid xa0
  have Xb0 := Lib.hid xb0
  have Xc0 := Lib.hid xc0
  have Xd0 := Lib.hid xd0
  have HB := Lib.hid (below_call HB.out hb)
  clear hk hb xa0 xb0 xc0 xd0
  refine Calls.mono (zof (x := 1) (by decide) (by decide)) ?_
  rintro e w2 ⟨v2, rfl, ho, hb⟩
  obtain ⟨o_b, o_a, o_n, o_c, o_d, o_m, o_e, rfl⟩ := ho.litb
  have Ha := Lib.hid (AR.keep Ha.out (Keep.call hb))
  have Hb := Lib.hid (AR.keep Hb.out (Keep.call hb))
  have Hc := Lib.hid (AR.keep Hc.out (Keep.call hb))
  have Xa0 := Lib.hid (Box.pcall hb Xa0.out)
  have Xb0 := Lib.hid (Box.pcall hb Xb0.out)
  have Xc0 := Lib.hid (Box.pcall hb Xc0.out)
  have Xd0 := Lib.hid (Box.pcall hb Xd0.out)
  have HB := Lib.hid (below_call HB.out hb)
  have Ho := Lib.hid ho
  clear hb ho
  obtain ⟨ca00, ca01, ca02, fa00, fa01, fa02⟩ := Xa0.out.c3
  have la0 := Xa0.out.lt
  obtain ⟨cb00, cb01, cb02, fb00, fb01, fb02⟩ := Xb0.out.c3
  have lb0 := Xb0.out.lt
  obtain ⟨cc00, cc01, cc02, fc00, fc01, fc02⟩ := Xc0.out.c3
  have lc0 := Xc0.out.lt
  obtain ⟨cd00, cd01, cd02, fd00, fd01, fd02⟩ := Xd0.out.c3
  have ld0 := Xd0.out.lt
  go_wp2_with fail
  clear ca00 ca01 ca02 fa00 fa01 fa02 la0 cb00 cb01 cb02 fb00 fb01 fb02 lb0 cc00 cc01 cc02 fc00 fc01 fc02 lc0 cd00 cd01 cd02 fd00 fd01 fd02 ld0
  obtain ⟨W3, hW⟩ : ∃ W3, W3 = (World.alloc w2 (.cells #[.bool o_b, .slice o_a o_n o_c, .slice o_d o_m o_e] 25)) := ⟨_, rfl⟩
  rw [← hW]
  obtain ⟨xe0, hk, hb⟩ := boxes_1 _ _ _ hW
  clear hW
  have Ha := Lib.hid (AR.keep Ha.out hk)
  have Hb := Lib.hid (AR.keep Hb.out hk)
  have Hc := Lib.hid (AR.keep Hc.out hk)
  have Ho := Lib.hid (CR.keep Ho.out hk)
  have Na0e0 := Lib.hid (show w.heap.size ≠ w2.heap.size from Nat.ne_of_lt (Nat.lt_of_lt_of_le Xa0.out.lt (by omega)))
  have Nb0e0 := Lib.hid (show w.heap.size + 1 ≠ w2.heap.size from Nat.ne_of_lt (Nat.lt_of_lt_of_le Xb0.out.lt (by omega)))
  have Nc0e0 := Lib.hid (show w.heap.size + 1 + 1 ≠ w2.heap.size from Nat.ne_of_lt (Nat.lt_of_lt_of_le Xc0.out.lt (by omega)))
  have Nd0e0 := Lib.hid (show w.heap.size + 1 + 1 + 1 ≠ w2.heap.size from Nat.ne_of_lt (Nat.lt_of_lt_of_le Xd0.out.lt (by omega)))
  have Ge0 := Lib.hid (show w.heap.size ≤ w2.heap.size from Nat.le_trans HB.out.size (by omega))
  have Xa0 := Lib.hid (Box.pcall hb Xa0.out)
  have Xb0 := Lib.hid (Box.pcall hb Xb0.out)
  have Xc0 := Lib.hid (Box.pcall hb Xc0.out)
  have Xd0 := Lib.hid (Box.pcall hb Xd0.out)
  have Xe0 := Lib.hid xe0
  have HB := Lib.hid (below_call HB.out hb)
  clear hk hb xe0
  (first | (have hcall := zluns_ar Hu.out Ha.out Hb.out (by omega); refine Calls.mono hcall ?_; clear hcall) | refine Calls.mono (zluns_ar Hu.out Ha.out Hb.out (by omega)) ?_)
  rintro e w4 ⟨v4, rfl, rfl, hb⟩
  have Ha := Lib.hid (AR.keep Ha.out (Keep.call hb))
  have Hb := Lib.hid (AR.keep Hb.out (Keep.call hb))
  have Hc := Lib.hid (AR.keep Hc.out (Keep.call hb))
  have Ho := Lib.hid (CR.keep Ho.out (Keep.call hb))
  have Xa0 := Lib.hid (Box.pcall hb Xa0.out)
  have Xb0 := Lib.hid (Box.pcall hb Xb0.out)
  have Xc0 := Lib.hid (Box.pcall hb Xc0.out)
  have Xd0 := Lib.hid (Box.pcall hb Xd0.out)
  have Xe0 := Lib.hid (Box.pcall hb Xe0.out)
  have HB := Lib.hid (below_call HB.out hb)
  clear hb
  obtain ⟨ca00, ca01, ca02, fa00, fa01, fa02⟩ := Xa0.out.c3
  have la0 := Xa0.out.lt
  obtain ⟨cb00, cb01, cb02, fb00, fb01, fb02⟩ := Xb0.out.c3
  have lb0 := Xb0.out.lt
  obtain ⟨cc00, cc01, cc02, fc00, fc01, fc02⟩ := Xc0.out.c3
  have lc0 := Xc0.out.lt
  obtain ⟨cd00, cd01, cd02, fd00, fd01, fd02⟩ := Xd0.out.c3
  have ld0 := Xd0.out.lt
  obtain ⟨ce00, ce01, ce02, fe00, fe01, fe02⟩ := Xe0.out.c3
  have le0 := Xe0.out.lt
  go_wp2_with fail
  clear ca00 ca01 ca02 fa00 fa01 fa02 la0 cb00 cb01 cb02 fb00 fb01 fb02 lb0 cc00 cc01 cc02 fc00 fc01 fc02 lc0 cd00 cd01 cd02 fd00 fd01 fd02 ld0 ce00 ce01 ce02 fe00 fe01 fe02 le0
  (first | (have hcall := zsign_ar j Hc.out Hj.out ; refine Calls.mono hcall ?_; clear hcall) | refine Calls.mono (zsign_ar j Hc.out Hj.out ) ?_)
  rintro e w5 ⟨v5, rfl, ⟨⟩, hb⟩
  have Ha := Lib.hid (AR.keep Ha.out (Keep.call hb))
  have Hb := Lib.hid (AR.keep Hb.out (Keep.call hb))
  have Hc := Lib.hid (AR.keep Hc.out (Keep.call hb))
  have Ho := Lib.hid (CR.keep Ho.out (Keep.call hb))
  have Xa0 := Lib.hid (Box.pcall hb Xa0.out)
  have Xb0 := Lib.hid (Box.pcall hb Xb0.out)
  have Xc0 := Lib.hid (Box.pcall hb Xc0.out)
  have Xd0 := Lib.hid (Box.pcall hb Xd0.out)
  have Xe0 := Lib.hid (Box.pcall hb Xe0.out)
  have HB := Lib.hid (below_call HB.out hb)
  clear hb
  have hj0 : decide (j < 0) = false := Hj0.out
  obtain ⟨ca00, ca01, ca02, fa00, fa01, fa02⟩ := Xa0.out.c3
  have la0 := Xa0.out.lt
  obtain ⟨cb00, cb01, cb02, fb00, fb01, fb02⟩ := Xb0.out.c3
  have lb0 := Xb0.out.lt
  obtain ⟨cc00, cc01, cc02, fc00, fc01, fc02⟩ := Xc0.out.c3
  have lc0 := Xc0.out.lt
  obtain ⟨cd00, cd01, cd02, fd00, fd01, fd02⟩ := Xd0.out.c3
  have ld0 := Xd0.out.lt
  obtain ⟨ce00, ce01, ce02, fe00, fe01, fe02⟩ := Xe0.out.c3
  have le0 := Xe0.out.lt
  go_wp2_with fail
  clear ca00 ca01 ca02 fa00 fa01 fa02 la0 cb00 cb01 cb02 fb00 fb01 fb02 lb0 cc00 cc01 cc02 fc00 fc01 fc02 lc0 cd00 cd01 cd02 fd00 fd01 fd02 ld0 ce00 ce01 ce02 fe00 fe01 fe02 le0
  (first | (have hcall := zcmp_ar m Hc.out Ho.out.ar Hm.out (by omega) (by omega); refine Calls.mono hcall ?_; clear hcall) | refine Calls.mono (zcmp_ar m Hc.out Ho.out.ar Hm.out (by omega) (by omega)) ?_)
  rintro e w6 ⟨v6, rfl, ⟨⟩, hb⟩
  have Ha := Lib.hid (AR.keep Ha.out (Keep.call hb))
  have Hb := Lib.hid (AR.keep Hb.out (Keep.call hb))
  have Hc := Lib.hid (AR.keep Hc.out (Keep.call hb))
  have Ho := Lib.hid (CR.keep Ho.out (Keep.call hb))
  have Xa0 := Lib.hid (Box.pcall hb Xa0.out)
  have Xb0 := Lib.hid (Box.pcall hb Xb0.out)
  have Xc0 := Lib.hid (Box.pcall hb Xc0.out)
  have Xd0 := Lib.hid (Box.pcall hb Xd0.out)
  have Xe0 := Lib.hid (Box.pcall hb Xe0.out)
  have HB := Lib.hid (below_call HB.out hb)
  clear hb
  have hm0 : decide (0 < m) = false := Hm0.out
  obtain ⟨ca00, ca01, ca02, fa00, fa01, fa02⟩ := Xa0.out.c3
  have la0 := Xa0.out.lt
  obtain ⟨cb00, cb01, cb02, fb00, fb01, fb02⟩ := Xb0.out.c3
  have lb0 := Xb0.out.lt
  obtain ⟨cc00, cc01, cc02, fc00, fc01, fc02⟩ := Xc0.out.c3
  have lc0 := Xc0.out.lt
  obtain ⟨cd00, cd01, cd02, fd00, fd01, fd02⟩ := Xd0.out.c3
  have ld0 := Xd0.out.lt
  obtain ⟨ce00, ce01, ce02, fe00, fe01, fe02⟩ := Xe0.out.c3
  have le0 := Xe0.out.lt
  go_wp2_with fail
  clear ca00 ca01 ca02 fa00 fa01 fa02 la0 cb00 cb01 cb02 fb00 fb01 fb02 lb0 cc00 cc01 cc02 fc00 fc01 fc02 lc0 cd00 cd01 cd02 fd00 fd01 fd02 ld0 ce00 ce01 ce02 fe00 fe01 fe02 le0
  have Ha := Lib.hid (AR.keep Ha.out (Keep.drew w6))
  have Hb := Lib.hid (AR.keep Hb.out (Keep.drew w6))
  have Hc := Lib.hid (AR.keep Hc.out (Keep.drew w6))
  have Ho := Lib.hid (CR.keep Ho.out (Keep.drew w6))
  have Xa0 := Lib.hid (Box.drew Xa0.out)
  have Xb0 := Lib.hid (Box.drew Xb0.out)
  have Xc0 := Lib.hid (Box.drew Xc0.out)
  have Xd0 := Lib.hid (Box.drew Xd0.out)
  have Xe0 := Lib.hid (Box.drew Xe0.out)
  have HB := Lib.hid (Below.drew HB.out)
  refine wp_region_float [] [⟨5, 9, 25, #[.bool false, .slice none 0 0, .slice none 0 0]⟩] (by kernel_rfl) (by kernel_rfl) 45 (by kernel_rfl) (Flok.one (by kernel_rfl) (by kernel_rfl) (by kernel_rfl) (by intro w; go_simp)) ?_
  intro ok
  have Hok := Lib.hid ok
  clear ok
  have HG := Lib.hid (Below.refl (w6.drew).heap.size (w6.drew))
  refine good_pureX 0 (some 28) (Go.Op.load 25 (Go.Operand.tmp 5)) (none) (.agg #[.bool bc, sc, tc]) (by kernel_rfl) (by kernel_rfl) (by kernel_rfl) (fun _ _ _ h => h) (fun w' hw' => ?_) ?_
  · obtain ⟨cc00, cc01, cc02, fc00, fc01, fc02⟩ := (Box.se hw' Xc0.out notin0).c3
    first | (go_simp; done) | (go_simp; simp_all; done) | (go_simp; rfl)
  simp only [Act.put, List.setIfInBounds_toArray, List.set_cons_zero, List.set_cons_succ]
  refine good_pureX 1 (some 29) (Go.Op.load 25 (Go.Operand.tmp 3)) (none) (.agg #[.bool ba, sa, ta]) (by kernel_rfl) (by kernel_rfl) (by kernel_rfl) (fun _ _ _ h => h) (fun w' hw' => ?_) ?_
  · obtain ⟨ca00, ca01, ca02, fa00, fa01, fa02⟩ := (Box.se hw' Xa0.out notin0).c3
    first | (go_simp; done) | (go_simp; simp_all; done) | (go_simp; rfl)
  simp only [Act.put, List.setIfInBounds_toArray, List.set_cons_zero, List.set_cons_succ]
  refine good_pureX 2 (some 30) (Go.Op.load 25 (Go.Operand.tmp 3)) (none) (.agg #[.bool ba, sa, ta]) (by kernel_rfl) (by kernel_rfl) (by kernel_rfl) (fun _ _ _ h => h) (fun w' hw' => ?_) ?_
  · obtain ⟨ca00, ca01, ca02, fa00, fa01, fa02⟩ := (Box.se hw' Xa0.out notin0).c3
    first | (go_simp; done) | (go_simp; simp_all; done) | (go_simp; rfl)
  simp only [Act.put, List.setIfInBounds_toArray, List.set_cons_zero, List.set_cons_succ]
  refine good_callX 3 29 (some 31) #[Go.Operand.tmp 29, Go.Operand.tmp 30] #[25, 25] (none) #[.agg #[.bool ba, sa, ta], .agg #[.bool ba, sa, ta]] (by kernel_rfl) Hok.out (by kernel_rfl) (by kernel_rfl) (by kernel_rfl) (by kernel_rfl) rfl rfl rfl (by kernel_rfl) (fun w7 hb => ?_)
  have HG := Lib.hid (below_call HG.out hb)
  clear hb
  (first | (have hcall := zmul_ar (AR.keep Ha.out (Keep.call HG.out)) (AR.keep Ha.out (Keep.call HG.out)) (by omega) (by omega); refine Calls.mono hcall ?_; clear hcall) | refine Calls.mono (zmul_ar (AR.keep Ha.out (Keep.call HG.out)) (AR.keep Ha.out (Keep.call HG.out)) (by omega) (by omega)) ?_)
  rintro e w8 ⟨v8, rfl, hy1, hb⟩
  obtain ⟨y1_b, y1_a, y1_n, y1_c, y1_d, y1_m, y1_e, rfl⟩ := hy1.litb
  refine ⟨_, rfl, ?_, hb⟩
  have HG := Lib.hid (below_call HG.out hb)
  have Hy1 := Lib.hid hy1
  clear hb hy1
  simp only [Act.put, List.setIfInBounds_toArray, List.set_cons_zero, List.set_cons_succ]
  refine good_callX 4 29 (some 32) #[Go.Operand.tmp 28, Go.Operand.tmp 31] #[25, 25] (none) #[.agg #[.bool bc, sc, tc], .agg #[.bool y1_b, .slice y1_a y1_n y1_c, .slice y1_d y1_m y1_e]] (by kernel_rfl) Hok.out (by kernel_rfl) (by kernel_rfl) (by kernel_rfl) (by kernel_rfl) rfl rfl rfl (by kernel_rfl) (fun w9 hb => ?_)
  have Hy1 := Lib.hid (CR.keep Hy1.out (Keep.call hb))
  have HG := Lib.hid (below_call HG.out hb)
  clear hb
  (first | (have hcall := zmul_ar (AR.keep Hc.out (Keep.call HG.out)) Hy1.out.ar (by omega) (by omega); refine Calls.mono hcall ?_; clear hcall) | refine Calls.mono (zmul_ar (AR.keep Hc.out (Keep.call HG.out)) Hy1.out.ar (by omega) (by omega)) ?_)
  rintro e w10 ⟨v10, rfl, hp1, hb⟩
  obtain ⟨p1_b, p1_a, p1_n, p1_c, p1_d, p1_m, p1_e, rfl⟩ := hp1.litb
  refine ⟨_, rfl, ?_, hb⟩
  have HG := Lib.hid (below_call HG.out hb)
  have Hp1 := Lib.hid hp1
  clear hb hp1
  simp only [Act.put, List.setIfInBounds_toArray, List.set_cons_zero, List.set_cons_succ]
  refine good_end1 1 Hok.out (by kernel_rfl) (by kernel_rfl) (by kernel_rfl) (fun _ gf0 w11 hb ef0 xf0 => ?_)
  have Hp1 := Lib.hid (CR.keep Hp1.out (Keep.call hb))
  have HG := Lib.hid (below_call HG.out hb)
  clear hb
  have Na0f0 := Lib.hid (show w.heap.size ≠ gf0 from Nat.ne_of_lt (Nat.lt_of_lt_of_le Xa0.out.lt ef0))
  have Nb0f0 := Lib.hid (show w.heap.size + 1 ≠ gf0 from Nat.ne_of_lt (Nat.lt_of_lt_of_le Xb0.out.lt ef0))
  have Nc0f0 := Lib.hid (show w.heap.size + 1 + 1 ≠ gf0 from Nat.ne_of_lt (Nat.lt_of_lt_of_le Xc0.out.lt ef0))
  have Nd0f0 := Lib.hid (show w.heap.size + 1 + 1 + 1 ≠ gf0 from Nat.ne_of_lt (Nat.lt_of_lt_of_le Xd0.out.lt ef0))
  have Ne0f0 := Lib.hid (show w2.heap.size ≠ gf0 from Nat.ne_of_lt (Nat.lt_of_lt_of_le Xe0.out.lt ef0))
  have Gf0 := Lib.hid (show w.heap.size ≤ gf0 from Nat.le_trans HB.out.size ef0)
  have Ef0 := Lib.hid ef0
  clear ef0
  have Hb := Lib.hid (AR.keep Hb.out (Keep.call HG.out))
  have Hc := Lib.hid (AR.keep Hc.out (Keep.call HG.out))
  have Ho := Lib.hid (CR.keep Ho.out (Keep.call HG.out))
  have Xa0 := Lib.hid (Box.pcall HG.out Xa0.out)
  have Xb0 := Lib.hid (Box.pcall HG.out Xb0.out)
  have Xc0 := Lib.hid (Box.pcall HG.out Xc0.out)
  have Xd0 := Lib.hid (Box.pcall HG.out Xd0.out)
  have Xe0 := Lib.hid (Box.pcall HG.out Xe0.out)
  have HB := Lib.hid (below_call HB.out HG.out)
  have HS := Lib.hid (SE.of (E := []) HG.out)
  have Xf0 := Lib.hid xf0
  clear xf0
  simp only [Act.put, List.setIfInBounds_toArray, List.set_cons_zero, List.set_cons_succ]
  refine held_oneX 6 (Go.Op.store 25 (Go.Operand.tmp 9) (Go.Operand.tmp 32)) (none) (World.setCell (World.setCell (World.setCell w11 ⟨gf0, 0, none⟩ (.bool p1_b)) ⟨gf0, 1, none⟩ (.slice p1_a p1_n p1_c)) ⟨gf0, 2, none⟩ (.slice p1_d p1_m p1_e)) (by kernel_rfl) (by kernel_rfl) (by kernel_rfl) (by kernel_rfl) ?_ (HS.out.store3 (.inr Ef0.out)) ?_
  · obtain ⟨cf00, cf01, cf02, ff00, ff01, ff02⟩ := Xf0.out.c3
    first | (go_simp; done) | (go_simp; simp_all; done) | (go_simp; rfl)
  obtain ⟨W12, hW⟩ : ∃ W12, W12 = (World.setCell (World.setCell (World.setCell w11 ⟨gf0, 0, none⟩ (.bool p1_b)) ⟨gf0, 1, none⟩ (.slice p1_a p1_n p1_c)) ⟨gf0, 2, none⟩ (.slice p1_d p1_m p1_e)) := ⟨_, rfl⟩
  rw [← hW]
  obtain ⟨xf0, hk, hf, hbb, hz⟩ := stored3s hW Xf0.out (by first | exact NoInt.bool _ | exact NoInt.slice _ _ _) (by first | exact NoInt.bool _ | exact NoInt.slice _ _ _) (by first | exact NoInt.bool _ | exact NoInt.slice _ _ _)
  have Hb := Lib.hid (AR.keep Hb.out hk)
  have Hc := Lib.hid (AR.keep Hc.out hk)
  have Ho := Lib.hid (CR.keep Ho.out hk)
  have Hp1 := Lib.hid (CR.keep Hp1.out hk)
  have Xa0 := Lib.hid (hf _ _ _ Xa0.out Na0f0.out)
  have Xb0 := Lib.hid (hf _ _ _ Xb0.out Nb0f0.out)
  have Xc0 := Lib.hid (hf _ _ _ Xc0.out Nc0f0.out)
  have Xd0 := Lib.hid (hf _ _ _ Xd0.out Nd0f0.out)
  have Xe0 := Lib.hid (hf _ _ _ Xe0.out Ne0f0.out)
  have Xf0 := Lib.hid xf0
  have HB := Lib.hid (hbb _ HB.out Gf0.out)
  have HS := Lib.hid (show SE (w6.drew) [] W12 from by rw [hW]; exact HS.out.store3 (.inr Ef0.out))
  clear hW hk hf hbb xf0
  clear hz
  refine wpAnyH_done (by kernel_rfl) ?_ _
  clear HG HS Hok Ef0
  obtain ⟨ca00, ca01, ca02, fa00, fa01, fa02⟩ := Xa0.out.c3
  have la0 := Xa0.out.lt
  obtain ⟨cb00, cb01, cb02, fb00, fb01, fb02⟩ := Xb0.out.c3
  have lb0 := Xb0.out.lt
  obtain ⟨cc00, cc01, cc02, fc00, fc01, fc02⟩ := Xc0.out.c3
  have lc0 := Xc0.out.lt
  obtain ⟨cd00, cd01, cd02, fd00, fd01, fd02⟩ := Xd0.out.c3
  have ld0 := Xd0.out.lt
  obtain ⟨ce00, ce01, ce02, fe00, fe01, fe02⟩ := Xe0.out.c3
  have le0 := Xe0.out.lt
  obtain ⟨cf00, cf01, cf02, ff00, ff01, ff02⟩ := Xf0.out.c3
  have lf0 := Xf0.out.lt
  go_wp2_with fail
  clear ca00 ca01 ca02 fa00 fa01 fa02 la0 cb00 cb01 cb02 fb00 fb01 fb02 lb0 cc00 cc01 cc02 fc00 fc01 fc02 lc0 cd00 cd01 cd02 fd00 fd01 fd02 ld0 ce00 ce01 ce02 fe00 fe01 fe02 le0 cf00 cf01 cf02 ff00 ff01 ff02 lf0
  have Hb := Lib.hid (AR.keep Hb.out (Keep.drew W12))
  have Hc := Lib.hid (AR.keep Hc.out (Keep.drew W12))
  have Ho := Lib.hid (CR.keep Ho.out (Keep.drew W12))
  have Hp1 := Lib.hid (CR.keep Hp1.out (Keep.drew W12))
  have Xa0 := Lib.hid (Box.drew Xa0.out)
  have Xb0 := Lib.hid (Box.drew Xb0.out)
  have Xc0 := Lib.hid (Box.drew Xc0.out)
  have Xd0 := Lib.hid (Box.drew Xd0.out)
  have Xe0 := Lib.hid (Box.drew Xe0.out)
  have Xf0 := Lib.hid (Box.drew Xf0.out)
  have HB := Lib.hid (Below.drew HB.out)
  refine wp_region_float [] [⟨7, 10, 25, #[.bool false, .slice none 0 0, .slice none 0 0]⟩] (by kernel_rfl) (by kernel_rfl) 45 (by kernel_rfl) (Flok.one (by kernel_rfl) (by kernel_rfl) (by kernel_rfl) (by intro w; go_simp)) ?_
  intro ok
  have Hok := Lib.hid ok
  clear ok
  have HG := Lib.hid (Below.refl (W12.drew).heap.size (W12.drew))
  refine good_pureX 0 (some 33) (Go.Op.load 25 (Go.Operand.tmp 8)) (none) (.agg #[.bool o_b, .slice o_a o_n o_c, .slice o_d o_m o_e]) (by kernel_rfl) (by kernel_rfl) (by kernel_rfl) (fun _ _ _ h => h) (fun w' hw' => ?_) ?_
  · obtain ⟨ce00, ce01, ce02, fe00, fe01, fe02⟩ := (Box.se hw' Xe0.out notin0).c3
    first | (go_simp; done) | (go_simp; simp_all; done) | (go_simp; rfl)
  simp only [Act.put, List.setIfInBounds_toArray, List.set_cons_zero, List.set_cons_succ]
  refine good_pureX 1 (some 34) (Go.Op.load 25 (Go.Operand.tmp 5)) (none) (.agg #[.bool bc, sc, tc]) (by kernel_rfl) (by kernel_rfl) (by kernel_rfl) (fun _ _ _ h => h) (fun w' hw' => ?_) ?_
  · obtain ⟨cc00, cc01, cc02, fc00, fc01, fc02⟩ := (Box.se hw' Xc0.out notin0).c3
    first | (go_simp; done) | (go_simp; simp_all; done) | (go_simp; rfl)
  simp only [Act.put, List.setIfInBounds_toArray, List.set_cons_zero, List.set_cons_succ]
  refine good_pureX 3 (some 36) (Go.Op.load 25 (Go.Operand.tmp 4)) (none) (.agg #[.bool bb, sb, tb]) (by kernel_rfl) (by kernel_rfl) (by kernel_rfl) (fun _ _ _ h => h) (fun w' hw' => ?_) ?_
  · obtain ⟨cb00, cb01, cb02, fb00, fb01, fb02⟩ := (Box.se hw' Xb0.out notin0).c3
    first | (go_simp; done) | (go_simp; simp_all; done) | (go_simp; rfl)
  simp only [Act.put, List.setIfInBounds_toArray, List.set_cons_zero, List.set_cons_succ]
  refine good_pureX 4 (some 37) (Go.Op.load 25 (Go.Operand.tmp 4)) (none) (.agg #[.bool bb, sb, tb]) (by kernel_rfl) (by kernel_rfl) (by kernel_rfl) (fun _ _ _ h => h) (fun w' hw' => ?_) ?_
  · obtain ⟨cb00, cb01, cb02, fb00, fb01, fb02⟩ := (Box.se hw' Xb0.out notin0).c3
    first | (go_simp; done) | (go_simp; simp_all; done) | (go_simp; rfl)
  simp only [Act.put, List.setIfInBounds_toArray, List.set_cons_zero, List.set_cons_succ]
  refine good_callX 2 30 (some 35) #[Go.Operand.tmp 33, Go.Operand.tmp 34] #[25, 25] (none) #[.agg #[.bool o_b, .slice o_a o_n o_c, .slice o_d o_m o_e], .agg #[.bool bc, sc, tc]] (by kernel_rfl) Hok.out (by kernel_rfl) (by kernel_rfl) (by kernel_rfl) (by kernel_rfl) rfl rfl rfl (by kernel_rfl) (fun w13 hb => ?_)
  have HG := Lib.hid (below_call HG.out hb)
  clear hb
  (first | (have hcall := zsub_ar (CR.keep Ho.out (Keep.call HG.out)).ar (AR.keep Hc.out (Keep.call HG.out)) (by omega) (by omega); refine Calls.mono hcall ?_; clear hcall) | refine Calls.mono (zsub_ar (CR.keep Ho.out (Keep.call HG.out)).ar (AR.keep Hc.out (Keep.call HG.out)) (by omega) (by omega)) ?_)
  rintro e w14 ⟨v14, rfl, hd1, hb⟩
  obtain ⟨d1_b, d1_a, d1_n, d1_c, d1_d, d1_m, d1_e, rfl⟩ := hd1.litb
  refine ⟨_, rfl, ?_, hb⟩
  have HG := Lib.hid (below_call HG.out hb)
  have Hd1 := Lib.hid hd1
  clear hb hd1
  simp only [Act.put, List.setIfInBounds_toArray, List.set_cons_zero, List.set_cons_succ]
  refine good_callX 5 29 (some 38) #[Go.Operand.tmp 36, Go.Operand.tmp 37] #[25, 25] (none) #[.agg #[.bool bb, sb, tb], .agg #[.bool bb, sb, tb]] (by kernel_rfl) Hok.out (by kernel_rfl) (by kernel_rfl) (by kernel_rfl) (by kernel_rfl) rfl rfl rfl (by kernel_rfl) (fun w15 hb => ?_)
  have Hd1 := Lib.hid (CR.keep Hd1.out (Keep.call hb))
  have HG := Lib.hid (below_call HG.out hb)
  clear hb
  (first | (have hcall := zmul_ar (AR.keep Hb.out (Keep.call HG.out)) (AR.keep Hb.out (Keep.call HG.out)) (by omega) (by omega); refine Calls.mono hcall ?_; clear hcall) | refine Calls.mono (zmul_ar (AR.keep Hb.out (Keep.call HG.out)) (AR.keep Hb.out (Keep.call HG.out)) (by omega) (by omega)) ?_)
  rintro e w16 ⟨v16, rfl, hy2, hb⟩
  obtain ⟨y2_b, y2_a, y2_n, y2_c, y2_d, y2_m, y2_e, rfl⟩ := hy2.litb
  refine ⟨_, rfl, ?_, hb⟩
  have Hd1 := Lib.hid (CR.keep Hd1.out (Keep.call hb))
  have HG := Lib.hid (below_call HG.out hb)
  have Hy2 := Lib.hid hy2
  clear hb hy2
  simp only [Act.put, List.setIfInBounds_toArray, List.set_cons_zero, List.set_cons_succ]
  refine good_callX 6 29 (some 39) #[Go.Operand.tmp 35, Go.Operand.tmp 38] #[25, 25] (none) #[.agg #[.bool d1_b, .slice d1_a d1_n d1_c, .slice d1_d d1_m d1_e], .agg #[.bool y2_b, .slice y2_a y2_n y2_c, .slice y2_d y2_m y2_e]] (by kernel_rfl) Hok.out (by kernel_rfl) (by kernel_rfl) (by kernel_rfl) (by kernel_rfl) rfl rfl rfl (by kernel_rfl) (fun w17 hb => ?_)
  have Hd1 := Lib.hid (CR.keep Hd1.out (Keep.call hb))
  have Hy2 := Lib.hid (CR.keep Hy2.out (Keep.call hb))
  have HG := Lib.hid (below_call HG.out hb)
  clear hb
  (first | (have hcall := zmul_ar Hd1.out.ar Hy2.out.ar (by omega) (by omega); refine Calls.mono hcall ?_; clear hcall) | refine Calls.mono (zmul_ar Hd1.out.ar Hy2.out.ar (by omega) (by omega)) ?_)
  rintro e w18 ⟨v18, rfl, hp2, hb⟩
  obtain ⟨p2_b, p2_a, p2_n, p2_c, p2_d, p2_m, p2_e, rfl⟩ := hp2.litb
  refine ⟨_, rfl, ?_, hb⟩
  have HG := Lib.hid (below_call HG.out hb)
  have Hp2 := Lib.hid hp2
  clear hb hp2
  simp only [Act.put, List.setIfInBounds_toArray, List.set_cons_zero, List.set_cons_succ]
  refine good_end1 1 Hok.out (by kernel_rfl) (by kernel_rfl) (by kernel_rfl) (fun _ gg0 w19 hb eg0 xg0 => ?_)
  have Hp2 := Lib.hid (CR.keep Hp2.out (Keep.call hb))
  have HG := Lib.hid (below_call HG.out hb)
  clear hb
  have Na0g0 := Lib.hid (show w.heap.size ≠ gg0 from Nat.ne_of_lt (Nat.lt_of_lt_of_le Xa0.out.lt eg0))
  have Nb0g0 := Lib.hid (show w.heap.size + 1 ≠ gg0 from Nat.ne_of_lt (Nat.lt_of_lt_of_le Xb0.out.lt eg0))
  have Nc0g0 := Lib.hid (show w.heap.size + 1 + 1 ≠ gg0 from Nat.ne_of_lt (Nat.lt_of_lt_of_le Xc0.out.lt eg0))
  have Nd0g0 := Lib.hid (show w.heap.size + 1 + 1 + 1 ≠ gg0 from Nat.ne_of_lt (Nat.lt_of_lt_of_le Xd0.out.lt eg0))
  have Ne0g0 := Lib.hid (show w2.heap.size ≠ gg0 from Nat.ne_of_lt (Nat.lt_of_lt_of_le Xe0.out.lt eg0))
  have Nf0g0 := Lib.hid (show gf0 ≠ gg0 from Nat.ne_of_lt (Nat.lt_of_lt_of_le Xf0.out.lt eg0))
  have Gg0 := Lib.hid (show w.heap.size ≤ gg0 from Nat.le_trans HB.out.size eg0)
  have Eg0 := Lib.hid eg0
  clear eg0
  have Hp1 := Lib.hid (CR.keep Hp1.out (Keep.call HG.out))
  have Xa0 := Lib.hid (Box.pcall HG.out Xa0.out)
  have Xb0 := Lib.hid (Box.pcall HG.out Xb0.out)
  have Xc0 := Lib.hid (Box.pcall HG.out Xc0.out)
  have Xd0 := Lib.hid (Box.pcall HG.out Xd0.out)
  have Xe0 := Lib.hid (Box.pcall HG.out Xe0.out)
  have Xf0 := Lib.hid (Box.pcall HG.out Xf0.out)
  have HB := Lib.hid (below_call HB.out HG.out)
  have HS := Lib.hid (SE.of (E := []) HG.out)
  have Xg0 := Lib.hid xg0
  clear xg0
  simp only [Act.put, List.setIfInBounds_toArray, List.set_cons_zero, List.set_cons_succ]
  refine held_oneX 8 (Go.Op.store 25 (Go.Operand.tmp 10) (Go.Operand.tmp 39)) (none) (World.setCell (World.setCell (World.setCell w19 ⟨gg0, 0, none⟩ (.bool p2_b)) ⟨gg0, 1, none⟩ (.slice p2_a p2_n p2_c)) ⟨gg0, 2, none⟩ (.slice p2_d p2_m p2_e)) (by kernel_rfl) (by kernel_rfl) (by kernel_rfl) (by kernel_rfl) ?_ (HS.out.store3 (.inr Eg0.out)) ?_
  · obtain ⟨cg00, cg01, cg02, fg00, fg01, fg02⟩ := Xg0.out.c3
    first | (go_simp; done) | (go_simp; simp_all; done) | (go_simp; rfl)
  obtain ⟨W20, hW⟩ : ∃ W20, W20 = (World.setCell (World.setCell (World.setCell w19 ⟨gg0, 0, none⟩ (.bool p2_b)) ⟨gg0, 1, none⟩ (.slice p2_a p2_n p2_c)) ⟨gg0, 2, none⟩ (.slice p2_d p2_m p2_e)) := ⟨_, rfl⟩
  rw [← hW]
  obtain ⟨xg0, hk, hf, hbb, hz⟩ := stored3s hW Xg0.out (by first | exact NoInt.bool _ | exact NoInt.slice _ _ _) (by first | exact NoInt.bool _ | exact NoInt.slice _ _ _) (by first | exact NoInt.bool _ | exact NoInt.slice _ _ _)
  have Hp1 := Lib.hid (CR.keep Hp1.out hk)
  have Hp2 := Lib.hid (CR.keep Hp2.out hk)
  have Xa0 := Lib.hid (hf _ _ _ Xa0.out Na0g0.out)
  have Xb0 := Lib.hid (hf _ _ _ Xb0.out Nb0g0.out)
  have Xc0 := Lib.hid (hf _ _ _ Xc0.out Nc0g0.out)
  have Xd0 := Lib.hid (hf _ _ _ Xd0.out Nd0g0.out)
  have Xe0 := Lib.hid (hf _ _ _ Xe0.out Ne0g0.out)
  have Xf0 := Lib.hid (hf _ _ _ Xf0.out Nf0g0.out)
  have Xg0 := Lib.hid xg0
  have HB := Lib.hid (hbb _ HB.out Gg0.out)
  have HS := Lib.hid (show SE (W12.drew) [] W20 from by rw [hW]; exact HS.out.store3 (.inr Eg0.out))
  clear hW hk hf hbb xg0
  clear hz
  refine wpAnyH_done (by kernel_rfl) ?_ _
  clear HG HS Hok Eg0
  obtain ⟨ca00, ca01, ca02, fa00, fa01, fa02⟩ := Xa0.out.c3
  have la0 := Xa0.out.lt
  obtain ⟨cb00, cb01, cb02, fb00, fb01, fb02⟩ := Xb0.out.c3
  have lb0 := Xb0.out.lt
  obtain ⟨cc00, cc01, cc02, fc00, fc01, fc02⟩ := Xc0.out.c3
  have lc0 := Xc0.out.lt
  obtain ⟨cd00, cd01, cd02, fd00, fd01, fd02⟩ := Xd0.out.c3
  have ld0 := Xd0.out.lt
  obtain ⟨ce00, ce01, ce02, fe00, fe01, fe02⟩ := Xe0.out.c3
  have le0 := Xe0.out.lt
  obtain ⟨cf00, cf01, cf02, ff00, ff01, ff02⟩ := Xf0.out.c3
  have lf0 := Xf0.out.lt
  obtain ⟨cg00, cg01, cg02, fg00, fg01, fg02⟩ := Xg0.out.c3
  have lg0 := Xg0.out.lt
  go_wp2_with fail
  clear ca00 ca01 ca02 fa00 fa01 fa02 la0 cb00 cb01 cb02 fb00 fb01 fb02 lb0 cc00 cc01 cc02 fc00 fc01 fc02 lc0 cd00 cd01 cd02 fd00 fd01 fd02 ld0 ce00 ce01 ce02 fe00 fe01 fe02 le0 cf00 cf01 cf02 ff00 ff01 ff02 lf0 cg00 cg01 cg02 fg00 fg01 fg02 lg0
  (first | (have hcall := zadd_ar Hp1.out.ar Hp2.out.ar (by omega) (by omega); refine Calls.mono hcall ?_; clear hcall) | refine Calls.mono (zadd_ar Hp1.out.ar Hp2.out.ar (by omega) (by omega)) ?_)
  rintro e w21 ⟨v21, rfl, hq1, hb⟩
  obtain ⟨q1_b, q1_a, q1_n, q1_c, q1_d, q1_m, q1_e, rfl⟩ := hq1.litb
  have Xa0 := Lib.hid (Box.pcall hb Xa0.out)
  have Xb0 := Lib.hid (Box.pcall hb Xb0.out)
  have Xc0 := Lib.hid (Box.pcall hb Xc0.out)
  have Xd0 := Lib.hid (Box.pcall hb Xd0.out)
  have Xe0 := Lib.hid (Box.pcall hb Xe0.out)
  have Xf0 := Lib.hid (Box.pcall hb Xf0.out)
  have Xg0 := Lib.hid (Box.pcall hb Xg0.out)
  have HB := Lib.hid (below_call HB.out hb)
  have Hq1 := Lib.hid hq1
  clear hb hq1
  obtain ⟨ca00, ca01, ca02, fa00, fa01, fa02⟩ := Xa0.out.c3
  have la0 := Xa0.out.lt
  obtain ⟨cb00, cb01, cb02, fb00, fb01, fb02⟩ := Xb0.out.c3
  have lb0 := Xb0.out.lt
  obtain ⟨cc00, cc01, cc02, fc00, fc01, fc02⟩ := Xc0.out.c3
  have lc0 := Xc0.out.lt
  obtain ⟨cd00, cd01, cd02, fd00, fd01, fd02⟩ := Xd0.out.c3
  have ld0 := Xd0.out.lt
  obtain ⟨ce00, ce01, ce02, fe00, fe01, fe02⟩ := Xe0.out.c3
  have le0 := Xe0.out.lt
  obtain ⟨cf00, cf01, cf02, ff00, ff01, ff02⟩ := Xf0.out.c3
  have lf0 := Xf0.out.lt
  obtain ⟨cg00, cg01, cg02, fg00, fg01, fg02⟩ := Xg0.out.c3
  have lg0 := Xg0.out.lt
  go_wp2_with fail
  clear ca00 ca01 ca02 fa00 fa01 fa02 la0 cb00 cb01 cb02 fb00 fb01 fb02 lb0 cc00 cc01 cc02 fc00 fc01 fc02 lc0 cd00 cd01 cd02 fd00 fd01 fd02 ld0 ce00 ce01 ce02 fe00 fe01 fe02 le0 cf00 cf01 cf02 ff00 ff01 ff02 lf0 cg00 cg01 cg02 fg00 fg01 fg02 lg0
  refine Calls.mono (zof (x := 2) (by decide) (by decide)) ?_
  rintro e w22 ⟨v22, rfl, ht2, hb⟩
  obtain ⟨t2_b, t2_a, t2_n, t2_c, t2_d, t2_m, t2_e, rfl⟩ := ht2.litb
  have Hq1 := Lib.hid (CR.keep Hq1.out (Keep.call hb))
  have Xa0 := Lib.hid (Box.pcall hb Xa0.out)
  have Xb0 := Lib.hid (Box.pcall hb Xb0.out)
  have Xc0 := Lib.hid (Box.pcall hb Xc0.out)
  have Xd0 := Lib.hid (Box.pcall hb Xd0.out)
  have Xe0 := Lib.hid (Box.pcall hb Xe0.out)
  have Xf0 := Lib.hid (Box.pcall hb Xf0.out)
  have Xg0 := Lib.hid (Box.pcall hb Xg0.out)
  have HB := Lib.hid (below_call HB.out hb)
  have Ht2 := Lib.hid ht2
  clear hb ht2
  obtain ⟨ca00, ca01, ca02, fa00, fa01, fa02⟩ := Xa0.out.c3
  have la0 := Xa0.out.lt
  obtain ⟨cb00, cb01, cb02, fb00, fb01, fb02⟩ := Xb0.out.c3
  have lb0 := Xb0.out.lt
  obtain ⟨cc00, cc01, cc02, fc00, fc01, fc02⟩ := Xc0.out.c3
  have lc0 := Xc0.out.lt
  obtain ⟨cd00, cd01, cd02, fd00, fd01, fd02⟩ := Xd0.out.c3
  have ld0 := Xd0.out.lt
  obtain ⟨ce00, ce01, ce02, fe00, fe01, fe02⟩ := Xe0.out.c3
  have le0 := Xe0.out.lt
  obtain ⟨cf00, cf01, cf02, ff00, ff01, ff02⟩ := Xf0.out.c3
  have lf0 := Xf0.out.lt
  obtain ⟨cg00, cg01, cg02, fg00, fg01, fg02⟩ := Xg0.out.c3
  have lg0 := Xg0.out.lt
  go_wp2_with fail
  clear ca00 ca01 ca02 fa00 fa01 fa02 la0 cb00 cb01 cb02 fb00 fb01 fb02 lb0 cc00 cc01 cc02 fc00 fc01 fc02 lc0 cd00 cd01 cd02 fd00 fd01 fd02 ld0 ce00 ce01 ce02 fe00 fe01 fe02 le0 cf00 cf01 cf02 ff00 ff01 ff02 lf0 cg00 cg01 cg02 fg00 fg01 fg02 lg0
  (first | (have hcall := zlquo_ar two_ne Hq1.out.ar Ht2.out.ar (by omega) (by omega); refine Calls.mono hcall ?_; clear hcall) | refine Calls.mono (zlquo_ar two_ne Hq1.out.ar Ht2.out.ar (by omega) (by omega)) ?_)
  rintro e w23 ⟨v23, rfl, hz, hb⟩
  obtain ⟨z_b, z_a, z_n, z_c, z_d, z_m, z_e, rfl⟩ := hz.litb
  have Xa0 := Lib.hid (Box.pcall hb Xa0.out)
  have Xb0 := Lib.hid (Box.pcall hb Xb0.out)
  have Xc0 := Lib.hid (Box.pcall hb Xc0.out)
  have Xd0 := Lib.hid (Box.pcall hb Xd0.out)
  have Xe0 := Lib.hid (Box.pcall hb Xe0.out)
  have Xf0 := Lib.hid (Box.pcall hb Xf0.out)
  have Xg0 := Lib.hid (Box.pcall hb Xg0.out)
  have HB := Lib.hid (below_call HB.out hb)
  have Hz := Lib.hid hz
  clear hb hz
  obtain ⟨ca00, ca01, ca02, fa00, fa01, fa02⟩ := Xa0.out.c3
  have la0 := Xa0.out.lt
  obtain ⟨cb00, cb01, cb02, fb00, fb01, fb02⟩ := Xb0.out.c3
  have lb0 := Xb0.out.lt
  obtain ⟨cc00, cc01, cc02, fc00, fc01, fc02⟩ := Xc0.out.c3
  have lc0 := Xc0.out.lt
  obtain ⟨cd00, cd01, cd02, fd00, fd01, fd02⟩ := Xd0.out.c3
  have ld0 := Xd0.out.lt
  obtain ⟨ce00, ce01, ce02, fe00, fe01, fe02⟩ := Xe0.out.c3
  have le0 := Xe0.out.lt
  obtain ⟨cf00, cf01, cf02, ff00, ff01, ff02⟩ := Xf0.out.c3
  have lf0 := Xf0.out.lt
  obtain ⟨cg00, cg01, cg02, fg00, fg01, fg02⟩ := Xg0.out.c3
  have lg0 := Xg0.out.lt
  go_wp2
  clear ca00 ca01 ca02 fa00 fa01 fa02 la0 cb00 cb01 cb02 fb00 fb01 fb02 lb0 cc00 cc01 cc02 fc00 fc01 fc02 lc0 cd00 cd01 cd02 fd00 fd01 fd02 ld0 ce00 ce01 ce02 fe00 fe01 fe02 le0 cf00 cf01 cf02 ff00 ff01 ff02 lf0 cg00 cg01 cg02 fg00 fg01 fg02 lg0
  obtain ⟨W24, hW⟩ : ∃ W24, W24 = (World.setCell (World.setCell (World.setCell w23 ⟨w.heap.size + 1 + 1 + 1, 0, none⟩ (.bool z_b)) ⟨w.heap.size + 1 + 1 + 1, 1, none⟩ (.slice z_a z_n z_c)) ⟨w.heap.size + 1 + 1 + 1, 2, none⟩ (.slice z_d z_m z_e)) := ⟨_, rfl⟩
  rw [← hW]
  obtain ⟨xd0, hk, hf, hbb, hz⟩ := stored3s hW Xd0.out (by first | exact NoInt.bool _ | exact NoInt.slice _ _ _) (by first | exact NoInt.bool _ | exact NoInt.slice _ _ _) (by first | exact NoInt.bool _ | exact NoInt.slice _ _ _)
  have Hz := Lib.hid (CR.keep Hz.out hk)
  have Xa0 := Lib.hid (hf _ _ _ Xa0.out (by omega))
  have Xb0 := Lib.hid (hf _ _ _ Xb0.out (by omega))
  have Xc0 := Lib.hid (hf _ _ _ Xc0.out (by omega))
  have Xd0 := Lib.hid xd0
  have Xe0 := Lib.hid (hf _ _ _ Xe0.out Nd0e0.out.symm)
  have Xf0 := Lib.hid (hf _ _ _ Xf0.out Nd0f0.out.symm)
  have Xg0 := Lib.hid (hf _ _ _ Xg0.out Nd0g0.out.symm)
  have HB := Lib.hid (hbb _ HB.out Gd0.out)
  clear hW hk hf hbb xd0
  clear hz
  exact ret_re rfl rfl rfl rfl Xd0.out ⟨_, rfl, CR.mono Hz.out (by omega)⟩ HB.out


theorem zlare_ar {a b c : Rat} {L : Nat} {u v x : Value} {w : World} (hu : unst a b = true) (h0 : 0 ≤ c) (h1 : c ≤ ((1 : Int) : Rat)) (h : AR a L w u) (h' : AR b L w v) (h'' : AR c L w x) (hL : L ≤ 10000) : Calls Try.prog 22 #[u, v, x] w (Ret w (CRE (areaQ a b c) (20 * L + 100) 0)) := by
  obtain ⟨ba, sa, ta, rfl⟩ := h.agg
  obtain ⟨bb, sb, tb, rfl⟩ := h'.agg
  obtain ⟨bc, sc, tc, rfl⟩ := h''.agg
  exact zlare_4 hu _ rfl (decide_eq_false (by have := sign_ge.2 h0; omega)) _ rfl (decide_eq_false (by have := cmpQ_le.2 h1; omega)) h h' h'' hL

theorem zlare_no_ar {a b c : Rat} {L : Nat} {u v x : Value} {w : World} (hu : unst a b = false ∨ c < 0 ∨ ((1 : Int) : Rat) < c) (h : AR a L w u) (h' : AR b L w v) (h'' : AR c L w x) (hL : L ≤ 10000) : Calls Try.prog 22 #[u, v, x] w (Ret w (Val (.tuple #[.agg #[.bool false, .slice none 0 0, .slice none 0 0], .int .i64 2]))) := by
  obtain ⟨ba, sa, ta, rfl⟩ := h.agg
  obtain ⟨bb, sb, tb, rfl⟩ := h'.agg
  obtain ⟨bc, sc, tc, rfl⟩ := h''.agg
  cases h1 : unst a b
  · exact zlare_1 h1 h h' h'' hL
  · rw [h1] at hu
    by_cases h2 : c < 0
    · exact zlare_2 h1 _ rfl (decide_eq_true (by have := mt sign_ge.1 (show ¬ 0 ≤ c by grind); omega)) h h' h'' hL
    · have h3 : ((1 : Int) : Rat) < c := by
        rcases hu with k | k | k
        · cases k
        · exact absurd k h2
        · exact k
      exact zlare_3 h1 _ rfl (decide_eq_false (by have := sign_ge.2 (show 0 ≤ c by grind); omega)) _ rfl (decide_eq_true (by have := mt (@cmpQ_le c ((1 : Int) : Rat)).1 (by grind); omega)) h h' h'' hL

end Go.Proofs.Ytlpjgncaedffoaa
