/- Texts IntD IntE, in this order. -/
import Derived.Test.YtikglhmabidjoaaGreatDoorBf
namespace Go.Proofs.YtikglhmabidjoaaGreatDoor
open Go.RowKit Nt
set_option linter.unusedVariables false
theorem Is.keep {n L : Nat} {w w' : World} {v : Value} (h : Is n L w v) (k : Keep w w') : Is n L w' v := let ⟨xs, h1, h2⟩ := h; ⟨xs, k _ _ h1, h2⟩
theorem Can.keep {n L : Nat} {w w' : World} {v : Value} (h : Can n L w v) (k : Keep w w') : Can n L w' v := ⟨k _ _ h.1, h.2⟩
theorem AI.keep {z : Int} {L : Nat} {w w' : World} {v : Value} (h : AI z L w v) (k : Keep w w') : AI z L w' v :=
  let ⟨neg, s, m, h1, h2, h3⟩ := h; ⟨neg, s, m, h1, h2.keep k, h3⟩
theorem CI.keep {z : Int} {w w' : World} {v : Value} (h : CI z w v) (k : Keep w w') : CI z w' v := let ⟨s, h1, h2⟩ := h; ⟨s, h1, k _ _ h2⟩
theorem CL.keep {z : Int} {L : Nat} {w w' : World} {v : Value} (h : CL z L w v) (k : Keep w w') : CL z L w' v := ⟨h.1.keep k, h.2⟩
theorem Is.noInt {n L : Nat} {w : World} {v : Value} (h : Is n L w v) : NoInt v := let ⟨_, h1, _⟩ := h; h1.noInt
theorem Is.lit {n L : Nat} {w : World} {v : Value} (h : Is n L w v) : ∃ ad m cap, v = .slice ad m cap := let ⟨_, h1, _⟩ := h; Sl.lit h1
theorem CL.lit {z : Int} {L : Nat} {w : World} {v : Value} (h : CL z L w v) : ∃ ad n cap, v = .agg #[.bool (decide (z < 0)), .slice ad n cap] := by
  obtain ⟨⟨s, rfl, h2⟩, -⟩ := h
  obtain ⟨ad, n, cap, rfl⟩ := Sl.lit h2
  exact ⟨ad, n, cap, rfl⟩
theorem boxes_1 (w : World) (c : Array Value) (t : TypeId) {W : World} (hW : W = w.alloc (.cells c t)) :
    Box W w.heap.size t c ∧ Keep w W ∧ Below w.heap.size w W := by
  subst hW; exact ⟨Box.new _ _ _, Keep.alloc _ _, (Below.refl _ _).alloc (Nat.le_refl _) _⟩
theorem boxes_2 (w : World) (c c' : Array Value) (t t' : TypeId) {W : World} (hW : W = (w.alloc (.cells c t)).alloc (.cells c' t')) :
    Box W w.heap.size t c ∧ Box W (w.heap.size + 1) t' c' ∧ Keep w W ∧ Below w.heap.size w W := by
  subst hW; exact ⟨(Box.new _ _ _).alloc _, Box.newAt _ _ _ (by simp), (Keep.alloc _ _).trans (Keep.alloc _ _), ((Below.refl _ _).alloc (Nat.le_refl _) _).alloc (by simp) _⟩
theorem boxes_3 (w : World) (c c' c'' : Array Value) (t t' t'' : TypeId) {W : World} (hW : W = ((w.alloc (.cells c t)).alloc (.cells c' t')).alloc (.cells c'' t'')) :
    Box W w.heap.size t c ∧ Box W (w.heap.size + 1) t' c' ∧ Box W (w.heap.size + 1 + 1) t'' c'' ∧ Keep w W ∧ Below w.heap.size w W := by
  subst hW; exact ⟨((Box.new _ _ _).alloc _).alloc _, (Box.newAt _ _ _ (by simp)).alloc _, Box.newAt _ _ _ (by simp), ((Keep.alloc _ _).trans (Keep.alloc _ _)).trans (Keep.alloc _ _), (((Below.refl _ _).alloc (Nat.le_refl _) _).alloc (by simp) _).alloc (by simp; omega) _⟩
theorem boxes_4 (w : World) (c c' c'' c''' : Array Value) (t t' t'' t''' : TypeId) {W : World} (hW : W = (((w.alloc (.cells c t)).alloc (.cells c' t')).alloc (.cells c'' t'')).alloc (.cells c''' t''')) :
    Box W w.heap.size t c ∧ Box W (w.heap.size + 1) t' c' ∧ Box W (w.heap.size + 1 + 1) t'' c'' ∧ Box W (w.heap.size + 1 + 1 + 1) t''' c''' ∧ Keep w W ∧ Below w.heap.size w W := by
  subst hW; exact ⟨(((Box.new _ _ _).alloc _).alloc _).alloc _, ((Box.newAt _ _ _ (by simp)).alloc _).alloc _, (Box.newAt _ _ _ (by simp)).alloc _, Box.newAt _ _ _ (by simp),
    (((Keep.alloc _ _).trans (Keep.alloc _ _)).trans (Keep.alloc _ _)).trans (Keep.alloc _ _), ((((Below.refl _ _).alloc (Nat.le_refl _) _).alloc (by simp) _).alloc (by simp; omega) _).alloc (by simp; omega) _⟩
theorem iv_sub (na : Bool) {ma mb : Nat} (h : mb ≤ ma) : iv na (ma - mb) = iv na ma + iv (!na) mb := by
  cases na <;> simp [iv] <;> omega
theorem iv_sub' (na : Bool) {ma mb : Nat} (h : ma ≤ mb) : iv (!na) (mb - ma) = iv na ma + iv (!na) mb := by
  cases na <;> simp [iv] <;> omega
theorem Box.pcall {w w' : World} {g : Nat} {t : TypeId} {cs : Array Value} (hb : Below w.heap.size w w') (h : Box w g t cs) : Box w' g t cs := h.call hb
theorem CL.cast {y z : Int} {L : Nat} {w : World} {v : Value} (e : y = z) (h : CL y L w v) : CL z L w v := e ▸ h
theorem stored2 {W W' : World} {g : Nat} {t : TypeId} {x y x' y' : Value} (hW : W' = (W.setCell ⟨g, 0, none⟩ x').setCell ⟨g, 1, none⟩ y') (X : Box W g t #[x, y]) (hx : NoInt x) (hy : NoInt y) :
    Box W' g t #[x', y'] ∧ Keep W W' ∧ (∀ g' t' cs, Box W g' t' cs → g' ≠ g → Box W' g' t' cs) ∧ (∀ w0 : World, Below w0.heap.size w0 W → w0.heap.size ≤ g → Below w0.heap.size w0 W') := by
  subst hW; exact ⟨X.set2, Keep.set2 X hx hy, fun _ _ _ h hne => h.far2 hne, fun _ h hg => below_set2 h hg⟩
theorem stored3 {W W' : World} {g : Nat} {t : TypeId} {x y z x' y' z' : Value} (hW : W' = ((W.setCell ⟨g, 0, none⟩ x').setCell ⟨g, 1, none⟩ y').setCell ⟨g, 2, none⟩ z') (X : Box W g t #[x, y, z]) (hx : NoInt x) (hy : NoInt y) (hz : NoInt z) :
    Box W' g t #[x', y', z'] ∧ Keep W W' ∧ (∀ g' t' cs, Box W g' t' cs → g' ≠ g → Box W' g' t' cs) ∧ (∀ w0 : World, Below w0.heap.size w0 W → w0.heap.size ≤ g → Below w0.heap.size w0 W') := by
  subst hW; exact ⟨X.set3, Keep.set3 X hx hy hz, fun _ _ _ h hne => h.far3 hne, fun _ h hg => below_set3 h hg⟩
theorem swapped2 {W W' : World} {g h : Nat} {t t' : TypeId} {x y x' y' u v u' v' : Value} (hW : W' = (((W.setCell ⟨g, 0, none⟩ x').setCell ⟨g, 1, none⟩ y').setCell ⟨h, 0, none⟩ u').setCell ⟨h, 1, none⟩ v')
    (X : Box W g t #[x, y]) (Y : Box W h t' #[u, v]) (hne : g ≠ h) (hx : NoInt x) (hy : NoInt y) (hu : NoInt u) (hv : NoInt v) :
    Box W' g t #[x', y'] ∧ Box W' h t' #[u', v'] ∧ Keep W W' ∧ (∀ g' t' cs, Box W g' t' cs → g' ≠ g → g' ≠ h → Box W' g' t' cs) ∧ (∀ w0 : World, Below w0.heap.size w0 W → w0.heap.size ≤ g → w0.heap.size ≤ h → Below w0.heap.size w0 W') := by
  subst hW
  have Y1 := Y.far2 (x := x') (y := y') (Ne.symm hne)
  exact ⟨X.set2.far2 hne, Y1.set2, (Keep.set2 X hx hy).trans (Keep.set2 Y1 hu hv), fun _ _ _ k h1 h2 => (k.far2 h1).far2 h2, fun _ k h1 h2 => below_set2 (below_set2 k h1) h2⟩
theorem ret_cl {fn : Func} {p : Tmp} {a : Act} {w0 W : World} {g L n cap : Nat} {t : TypeId} {x y : Value} {z : Int} {b : Bool} {ad : Option Addr} (hres : fn.results = #[.cell p 105])
    (hp : a.tmps.getD p undef = .pointer (some ⟨g, 0, none⟩)) (hd : a.defers = []) (X : Box W g t #[x, y]) (hx : NoInt x) (hy : NoInt y) (h : CL z L W (.agg #[.bool b, .slice ad n cap]))
    (HB : Below w0.heap.size w0 W) (hg : w0.heap.size ≤ g) : bodyPost Tryz.prog fn (Ret w0 (CL z L)) .ret a ((W.setCell ⟨g, 0, none⟩ (.bool b)).setCell ⟨g, 1, none⟩ (.slice ad n cap)) :=
  have k := X.set2 (x' := .bool b) (y' := .slice ad n cap)
  bodyPost_ret (ret_int hres _ _ g _ _ hp (k.cell 0 rfl) (k.cell 1 rfl)) hd ⟨_, rfl, h.keep (Keep.set2 X hx hy), below_set2 HB hg⟩
theorem cmpN_ge {a b : Nat} (h : b ≤ a) : decide (cmpN a b < 0) = false := by
  unfold cmpN; rw [if_neg (by omega)]; split <;> rfl
theorem Ret.mono_cl {z : Int} {L M : Nat} {w w' : World} {e : Ending} (h : Ret w (CL z L) e w') (hl : L ≤ M) : Ret w (CL z M) e w' :=
  let ⟨v, h1, h2, h3⟩ := h; ⟨v, h1, h2.mono hl, h3⟩
set_option maxRecDepth 100000 in
theorem iadd_ge_false {L M : Nat} {ma mb : Nat} {sa sb : Value} {w : World} (k : Int) (hk : cmpN ma mb = k) (hk0 : decide (k < 0) = false) (hc : mb ≤ ma) (ha : Is ma L w sa) (hb : Is mb M w sb) (hL : L ≤ 4294967296) (hM : M ≤ 4294967296) :
    Calls Tryz.prog 135 #[.agg #[.bool false, sa], .agg #[.bool true, sb]] w (Ret w (CL (iv false ma + iv true mb) (max L M))) := by
  have Ha := Lib.hid ha
  have Hb := Lib.hid hb
  have Hc := Lib.hid hc
  have Hk := Lib.hid hk
  clear ha hb hc hk
  go_enter Tryz.func135, Tryz.ntmps135
  go_wp2_with fail
  obtain ⟨W, hW⟩ : ∃ W, W = (((w.alloc (.cells #[.bool false, sa] 105)).alloc (.cells #[.bool true, sb] 105)).alloc (.cells #[.bool false, .slice none 0 0] 105)) := ⟨_, rfl⟩
  rw [← hW]
  obtain ⟨x1, x2, x3, hk, hb⟩ := boxes_3 _ _ _ _ _ _ _ hW
  clear hW
  have Ha := Lib.hid (Is.keep Ha.out hk)
  have Hb := Lib.hid (Is.keep Hb.out hk)
  have X1 := Lib.hid x1
  have X2 := Lib.hid x2
  have X3 := Lib.hid x3
  have HB := Lib.hid hb
  clear hk hb x1 x2 x3
  (first | (have hcall := cmp_is k Ha.out Hb.out Hk.out; refine Calls.mono hcall ?_; clear hcall) | refine Calls.mono (cmp_is k Ha.out Hb.out Hk.out) ?_)
  rintro e w1 ⟨v1, rfl, rfl, hb⟩
  have Ha := Lib.hid (Is.keep Ha.out (Keep.call hb))
  have Hb := Lib.hid (Is.keep Hb.out (Keep.call hb))
  have X1 := Lib.hid (Box.pcall hb X1.out)
  have X2 := Lib.hid (Box.pcall hb X2.out)
  have X3 := Lib.hid (Box.pcall hb X3.out)
  have HB := Lib.hid (below_call HB.out hb)
  clear hb
  obtain ⟨c10, c11, f10, f11⟩ := X1.out.c2
  obtain ⟨c20, c21, f20, f21⟩ := X2.out.c2
  obtain ⟨c30, c31, f30, f31⟩ := X3.out.c2
  go_wp2_with fail
  clear c10 c11 f10 f11 c20 c21 f20 f21 c30 c31 f30 f31
  (first | (have hcall := sub_is2 (subErr_le Hc.out) Ha.out Hb.out hL; refine Calls.mono hcall ?_; clear hcall) | refine Calls.mono (sub_is2 (subErr_le Hc.out) Ha.out Hb.out hL) ?_)
  rintro e w2 ⟨t2, rfl, ⟨v2, rfl, hd⟩, hb⟩
  have X1 := Lib.hid (Box.pcall hb X1.out)
  have X2 := Lib.hid (Box.pcall hb X2.out)
  have X3 := Lib.hid (Box.pcall hb X3.out)
  have HB := Lib.hid (below_call HB.out hb)
  have Hd := Lib.hid hd
  clear hb hd
  obtain ⟨c10, c11, f10, f11⟩ := X1.out.c2
  obtain ⟨c20, c21, f20, f21⟩ := X2.out.c2
  obtain ⟨c30, c31, f30, f31⟩ := X3.out.c2
  go_wp2_with fail
  clear c10 c11 f10 f11 c20 c21 f20 f21 c30 c31 f30 f31
  (first | (have hcall := imake_ai (neg := false) Hd.out.is; refine Calls.mono hcall ?_; clear hcall) | refine Calls.mono (imake_ai (neg := false) Hd.out.is) ?_)
  rintro e w3 ⟨v3, rfl, hr, hb⟩
  obtain ⟨adr, nr, capr, rfl⟩ := hr.lit
  have X1 := Lib.hid (Box.pcall hb X1.out)
  have X2 := Lib.hid (Box.pcall hb X2.out)
  have X3 := Lib.hid (Box.pcall hb X3.out)
  have HB := Lib.hid (below_call HB.out hb)
  have Hr := Lib.hid hr
  clear hb hr
  have e0 := iv_sub false Hc.out
  have Hs := Lib.hid (CL.mono (CL.cast e0 Hr.out) (Nat.le_max_left L M))
  clear e0 Hc Hk
  obtain ⟨c10, c11, f10, f11⟩ := X1.out.c2
  obtain ⟨c20, c21, f20, f21⟩ := X2.out.c2
  obtain ⟨c30, c31, f30, f31⟩ := X3.out.c2
  go_wp2
  exact ret_cl rfl rfl rfl X3.out (NoInt.bool _) (NoInt.slice _ _ _) Hs.out HB.out (by omega)
set_option maxRecDepth 100000 in
theorem riadd_ge_false {L M : Nat} {ma mb : Nat} {sa sb : Value} {w : World} (hc : mb ≤ ma) (ha : Is ma L w sa) (hb : Is mb M w sb) (hL : L ≤ 4294967296) (hM : M ≤ 4294967296) :
    Calls Tryz.prog 99 #[.agg #[.bool false, sa], .agg #[.bool true, sb]] w (Ret w (CL (iv false ma + iv true mb) (max L M))) := by
  have Ha := Lib.hid ha
  have Hb := Lib.hid hb
  have Hc := Lib.hid hc
  clear ha hb hc
  go_enter Tryz.func99, Tryz.ntmps99
  go_wp2_with fail
  obtain ⟨W, hW⟩ : ∃ W, W = (((w.alloc (.cells #[.bool false, sa] 105)).alloc (.cells #[.bool true, sb] 105)).alloc (.cells #[.bool false, .slice none 0 0] 105)) := ⟨_, rfl⟩
  rw [← hW]
  obtain ⟨x1, x2, x3, hk, hb⟩ := boxes_3 _ _ _ _ _ _ _ hW
  clear hW
  have Ha := Lib.hid (Is.keep Ha.out hk)
  have Hb := Lib.hid (Is.keep Hb.out hk)
  have X1 := Lib.hid x1
  have X2 := Lib.hid x2
  have X3 := Lib.hid x3
  have HB := Lib.hid hb
  clear hk hb x1 x2 x3
  (first | (have hcall := rsub_is2 (subErr_le Hc.out) Ha.out Hb.out hL; refine Calls.mono hcall ?_; clear hcall) | refine Calls.mono (rsub_is2 (subErr_le Hc.out) Ha.out Hb.out hL) ?_)
  rintro e w1 ⟨t1, rfl, ⟨v1, rfl, hd⟩, hb⟩
  have X1 := Lib.hid (Box.pcall hb X1.out)
  have X2 := Lib.hid (Box.pcall hb X2.out)
  have X3 := Lib.hid (Box.pcall hb X3.out)
  have HB := Lib.hid (below_call HB.out hb)
  have Hd := Lib.hid hd
  clear hb hd
  obtain ⟨c10, c11, f10, f11⟩ := X1.out.c2
  obtain ⟨c20, c21, f20, f21⟩ := X2.out.c2
  obtain ⟨c30, c31, f30, f31⟩ := X3.out.c2
  go_wp2_with fail
  clear c10 c11 f10 f11 c20 c21 f20 f21 c30 c31 f30 f31
  (first | (have hcall := rimake_ai (neg := false) Hd.out.is; refine Calls.mono hcall ?_; clear hcall) | refine Calls.mono (rimake_ai (neg := false) Hd.out.is) ?_)
  rintro e w2 ⟨v2, rfl, hr, hb⟩
  obtain ⟨adr, nr, capr, rfl⟩ := hr.lit
  have X1 := Lib.hid (Box.pcall hb X1.out)
  have X2 := Lib.hid (Box.pcall hb X2.out)
  have X3 := Lib.hid (Box.pcall hb X3.out)
  have HB := Lib.hid (below_call HB.out hb)
  have Hr := Lib.hid hr
  clear hb hr
  have e0 := iv_sub false Hc.out
  have Hs := Lib.hid (CL.mono (CL.cast e0 Hr.out) (Nat.le_max_left L M))
  clear e0 Hc
  obtain ⟨c10, c11, f10, f11⟩ := X1.out.c2
  obtain ⟨c20, c21, f20, f21⟩ := X2.out.c2
  obtain ⟨c30, c31, f30, f31⟩ := X3.out.c2
  go_wp2
  exact ret_cl rfl rfl rfl X3.out (NoInt.bool _) (NoInt.slice _ _ _) Hs.out HB.out (by omega)
set_option maxRecDepth 100000 in
theorem iadd_lt_false {L M : Nat} {ma mb : Nat} {p1 p2 : Option Addr} {n1 n2 q1 q2 : Nat} {w : World} (k : Int) (hk : cmpN ma mb = k) (hk0 : decide (k < 0) = true) (hc : ma < mb) (ha : Is ma L w (.slice p1 n1 q1)) (hb : Is mb M w (.slice p2 n2 q2)) (hL : L ≤ 4294967296) (hM : M ≤ 4294967296) :
    Calls Tryz.prog 135 #[.agg #[.bool false, .slice p1 n1 q1], .agg #[.bool true, .slice p2 n2 q2]] w (Ret w (CL (iv false ma + iv true mb) (max L M))) := by
  have Ha := Lib.hid ha
  have Hb := Lib.hid hb
  have Hc := Lib.hid hc
  have Hk := Lib.hid hk
  clear ha hb hc hk
  go_enter Tryz.func135, Tryz.ntmps135
  go_wp2_with fail
  obtain ⟨W, hW⟩ : ∃ W, W = (((w.alloc (.cells #[.bool false, .slice p1 n1 q1] 105)).alloc (.cells #[.bool true, .slice p2 n2 q2] 105)).alloc (.cells #[.bool false, .slice none 0 0] 105)) := ⟨_, rfl⟩
  rw [← hW]
  obtain ⟨x1, x2, x3, hk, hb⟩ := boxes_3 _ _ _ _ _ _ _ hW
  clear hW
  have Ha := Lib.hid (Is.keep Ha.out hk)
  have Hb := Lib.hid (Is.keep Hb.out hk)
  have X1 := Lib.hid x1
  have X2 := Lib.hid x2
  have X3 := Lib.hid x3
  have HB := Lib.hid hb
  clear hk hb x1 x2 x3
  (first | (have hcall := cmp_is k Ha.out Hb.out Hk.out; refine Calls.mono hcall ?_; clear hcall) | refine Calls.mono (cmp_is k Ha.out Hb.out Hk.out) ?_)
  rintro e w1 ⟨v1, rfl, rfl, hb⟩
  have Ha := Lib.hid (Is.keep Ha.out (Keep.call hb))
  have Hb := Lib.hid (Is.keep Hb.out (Keep.call hb))
  have X1 := Lib.hid (Box.pcall hb X1.out)
  have X2 := Lib.hid (Box.pcall hb X2.out)
  have X3 := Lib.hid (Box.pcall hb X3.out)
  have HB := Lib.hid (below_call HB.out hb)
  clear hb
  obtain ⟨c10, c11, f10, f11⟩ := X1.out.c2
  obtain ⟨c20, c21, f20, f21⟩ := X2.out.c2
  obtain ⟨c30, c31, f30, f31⟩ := X3.out.c2
  go_wp2_with fail
  clear c10 c11 f10 f11 c20 c21 f20 f21 c30 c31 f30 f31
  obtain ⟨W2, hW⟩ : ∃ W2, W2 = (World.setCell (World.setCell (World.setCell (World.setCell w1 ⟨w.heap.size, 0, none⟩ (.bool true)) ⟨w.heap.size, 1, none⟩ (.slice p2 n2 q2)) ⟨w.heap.size + 1, 0, none⟩ (.bool false)) ⟨w.heap.size + 1, 1, none⟩ (.slice p1 n1 q1)) := ⟨_, rfl⟩
  rw [← hW]
  obtain ⟨x1, x2, hk, hf, hbb⟩ := swapped2 hW X1.out X2.out (by omega) (by first | exact NoInt.bool _ | exact NoInt.slice _ _ _ | exact Ha.out.noInt | exact Hb.out.noInt) (by first | exact NoInt.bool _ | exact NoInt.slice _ _ _ | exact Ha.out.noInt | exact Hb.out.noInt) (by first | exact NoInt.bool _ | exact NoInt.slice _ _ _ | exact Ha.out.noInt | exact Hb.out.noInt) (by first | exact NoInt.bool _ | exact NoInt.slice _ _ _ | exact Ha.out.noInt | exact Hb.out.noInt)
  have Ha := Lib.hid (Is.keep Ha.out hk)
  have Hb := Lib.hid (Is.keep Hb.out hk)
  have X1 := Lib.hid x1
  have X2 := Lib.hid x2
  have X3 := Lib.hid (hf _ _ _ X3.out (by omega) (by omega))
  have HB := Lib.hid (hbb _ HB.out (by omega) (by omega))
  clear hW hk hf hbb x1 x2
  (first | (have hcall := sub_is2 (subErr_le (Nat.le_of_lt Hc.out)) Hb.out Ha.out hM; refine Calls.mono hcall ?_; clear hcall) | refine Calls.mono (sub_is2 (subErr_le (Nat.le_of_lt Hc.out)) Hb.out Ha.out hM) ?_)
  rintro e w3 ⟨t3, rfl, ⟨v3, rfl, hd⟩, hb⟩
  have X1 := Lib.hid (Box.pcall hb X1.out)
  have X2 := Lib.hid (Box.pcall hb X2.out)
  have X3 := Lib.hid (Box.pcall hb X3.out)
  have HB := Lib.hid (below_call HB.out hb)
  have Hd := Lib.hid hd
  clear hb hd
  obtain ⟨c10, c11, f10, f11⟩ := X1.out.c2
  obtain ⟨c20, c21, f20, f21⟩ := X2.out.c2
  obtain ⟨c30, c31, f30, f31⟩ := X3.out.c2
  go_wp2_with fail
  clear c10 c11 f10 f11 c20 c21 f20 f21 c30 c31 f30 f31
  (first | (have hcall := imake_ai (neg := true) Hd.out.is; refine Calls.mono hcall ?_; clear hcall) | refine Calls.mono (imake_ai (neg := true) Hd.out.is) ?_)
  rintro e w4 ⟨v4, rfl, hr, hb⟩
  obtain ⟨adr, nr, capr, rfl⟩ := hr.lit
  have X1 := Lib.hid (Box.pcall hb X1.out)
  have X2 := Lib.hid (Box.pcall hb X2.out)
  have X3 := Lib.hid (Box.pcall hb X3.out)
  have HB := Lib.hid (below_call HB.out hb)
  have Hr := Lib.hid hr
  clear hb hr
  have e0 := iv_sub' false (Nat.le_of_lt Hc.out)
  have Hs := Lib.hid (CL.mono (CL.cast e0 Hr.out) (Nat.le_max_right L M))
  clear e0 Hc Hk
  obtain ⟨c10, c11, f10, f11⟩ := X1.out.c2
  obtain ⟨c20, c21, f20, f21⟩ := X2.out.c2
  obtain ⟨c30, c31, f30, f31⟩ := X3.out.c2
  go_wp2
  exact ret_cl rfl rfl rfl X3.out (NoInt.bool _) (NoInt.slice _ _ _) Hs.out HB.out (by omega)
set_option maxRecDepth 100000 in
theorem riadd_lt_false {L M : Nat} {ma mb : Nat} {sa sb : Value} {w : World} (hc : ma < mb) (ha : Is ma L w sa) (hb : Is mb M w sb) (hL : L ≤ 4294967296) (hM : M ≤ 4294967296) :
    Calls Tryz.prog 99 #[.agg #[.bool false, sa], .agg #[.bool true, sb]] w (Ret w (CL (iv false ma + iv true mb) (max L M))) := by
  have Ha := Lib.hid ha
  have Hb := Lib.hid hb
  have Hc := Lib.hid hc
  clear ha hb hc
  go_enter Tryz.func99, Tryz.ntmps99
  go_wp2_with fail
  obtain ⟨W, hW⟩ : ∃ W, W = (((w.alloc (.cells #[.bool false, sa] 105)).alloc (.cells #[.bool true, sb] 105)).alloc (.cells #[.bool false, .slice none 0 0] 105)) := ⟨_, rfl⟩
  rw [← hW]
  obtain ⟨x1, x2, x3, hk, hb⟩ := boxes_3 _ _ _ _ _ _ _ hW
  clear hW
  have Ha := Lib.hid (Is.keep Ha.out hk)
  have Hb := Lib.hid (Is.keep Hb.out hk)
  have X1 := Lib.hid x1
  have X2 := Lib.hid x2
  have X3 := Lib.hid x3
  have HB := Lib.hid hb
  clear hk hb x1 x2 x3
  (first | (have hcall := rsub_is2 (subErr_lt Hc.out) Ha.out Hb.out hL; refine Calls.mono hcall ?_; clear hcall) | refine Calls.mono (rsub_is2 (subErr_lt Hc.out) Ha.out Hb.out hL) ?_)
  rintro e w1 ⟨t1, rfl, ⟨v1, rfl, hy⟩, hb⟩
  have Ha := Lib.hid (Is.keep Ha.out (Keep.call hb))
  have Hb := Lib.hid (Is.keep Hb.out (Keep.call hb))
  have X1 := Lib.hid (Box.pcall hb X1.out)
  have X2 := Lib.hid (Box.pcall hb X2.out)
  have X3 := Lib.hid (Box.pcall hb X3.out)
  have HB := Lib.hid (below_call HB.out hb)
  have Hy := Lib.hid hy
  clear hb hy
  obtain ⟨c10, c11, f10, f11⟩ := X1.out.c2
  obtain ⟨c20, c21, f20, f21⟩ := X2.out.c2
  obtain ⟨c30, c31, f30, f31⟩ := X3.out.c2
  go_wp2_with fail
  clear c10 c11 f10 f11 c20 c21 f20 f21 c30 c31 f30 f31
  (first | (have hcall := rsub_is2 (subErr_le (Nat.le_of_lt Hc.out)) Hb.out Ha.out hM; refine Calls.mono hcall ?_; clear hcall) | refine Calls.mono (rsub_is2 (subErr_le (Nat.le_of_lt Hc.out)) Hb.out Ha.out hM) ?_)
  rintro e w2 ⟨t2, rfl, ⟨v2, rfl, hd⟩, hb⟩
  have X1 := Lib.hid (Box.pcall hb X1.out)
  have X2 := Lib.hid (Box.pcall hb X2.out)
  have X3 := Lib.hid (Box.pcall hb X3.out)
  have HB := Lib.hid (below_call HB.out hb)
  have Hd := Lib.hid hd
  clear hb hd
  obtain ⟨c10, c11, f10, f11⟩ := X1.out.c2
  obtain ⟨c20, c21, f20, f21⟩ := X2.out.c2
  obtain ⟨c30, c31, f30, f31⟩ := X3.out.c2
  go_wp2_with fail
  clear c10 c11 f10 f11 c20 c21 f20 f21 c30 c31 f30 f31
  (first | (have hcall := rimake_ai (neg := true) Hd.out.is; refine Calls.mono hcall ?_; clear hcall) | refine Calls.mono (rimake_ai (neg := true) Hd.out.is) ?_)
  rintro e w3 ⟨v3, rfl, hr, hb⟩
  obtain ⟨adr, nr, capr, rfl⟩ := hr.lit
  have X1 := Lib.hid (Box.pcall hb X1.out)
  have X2 := Lib.hid (Box.pcall hb X2.out)
  have X3 := Lib.hid (Box.pcall hb X3.out)
  have HB := Lib.hid (below_call HB.out hb)
  have Hr := Lib.hid hr
  clear hb hr
  have e0 := iv_sub' false (Nat.le_of_lt Hc.out)
  have Hs := Lib.hid (CL.mono (CL.cast e0 Hr.out) (Nat.le_max_right L M))
  clear e0 Hc
  obtain ⟨c10, c11, f10, f11⟩ := X1.out.c2
  obtain ⟨c20, c21, f20, f21⟩ := X2.out.c2
  obtain ⟨c30, c31, f30, f31⟩ := X3.out.c2
  go_wp2
  exact ret_cl rfl rfl rfl X3.out (NoInt.bool _) (NoInt.slice _ _ _) Hs.out HB.out (by omega)
set_option maxRecDepth 100000 in
theorem iadd_ge_true {L M : Nat} {ma mb : Nat} {sa sb : Value} {w : World} (k : Int) (hk : cmpN ma mb = k) (hk0 : decide (k < 0) = false) (hc : mb ≤ ma) (ha : Is ma L w sa) (hb : Is mb M w sb) (hL : L ≤ 4294967296) (hM : M ≤ 4294967296) :
    Calls Tryz.prog 135 #[.agg #[.bool true, sa], .agg #[.bool false, sb]] w (Ret w (CL (iv true ma + iv false mb) (max L M))) := by
  have Ha := Lib.hid ha
  have Hb := Lib.hid hb
  have Hc := Lib.hid hc
  have Hk := Lib.hid hk
  clear ha hb hc hk
  go_enter Tryz.func135, Tryz.ntmps135
  go_wp2_with fail
  obtain ⟨W, hW⟩ : ∃ W, W = (((w.alloc (.cells #[.bool true, sa] 105)).alloc (.cells #[.bool false, sb] 105)).alloc (.cells #[.bool false, .slice none 0 0] 105)) := ⟨_, rfl⟩
  rw [← hW]
  obtain ⟨x1, x2, x3, hk, hb⟩ := boxes_3 _ _ _ _ _ _ _ hW
  clear hW
  have Ha := Lib.hid (Is.keep Ha.out hk)
  have Hb := Lib.hid (Is.keep Hb.out hk)
  have X1 := Lib.hid x1
  have X2 := Lib.hid x2
  have X3 := Lib.hid x3
  have HB := Lib.hid hb
  clear hk hb x1 x2 x3
  (first | (have hcall := cmp_is k Ha.out Hb.out Hk.out; refine Calls.mono hcall ?_; clear hcall) | refine Calls.mono (cmp_is k Ha.out Hb.out Hk.out) ?_)
  rintro e w1 ⟨v1, rfl, rfl, hb⟩
  have Ha := Lib.hid (Is.keep Ha.out (Keep.call hb))
  have Hb := Lib.hid (Is.keep Hb.out (Keep.call hb))
  have X1 := Lib.hid (Box.pcall hb X1.out)
  have X2 := Lib.hid (Box.pcall hb X2.out)
  have X3 := Lib.hid (Box.pcall hb X3.out)
  have HB := Lib.hid (below_call HB.out hb)
  clear hb
  obtain ⟨c10, c11, f10, f11⟩ := X1.out.c2
  obtain ⟨c20, c21, f20, f21⟩ := X2.out.c2
  obtain ⟨c30, c31, f30, f31⟩ := X3.out.c2
  go_wp2_with fail
  clear c10 c11 f10 f11 c20 c21 f20 f21 c30 c31 f30 f31
  (first | (have hcall := sub_is2 (subErr_le Hc.out) Ha.out Hb.out hL; refine Calls.mono hcall ?_; clear hcall) | refine Calls.mono (sub_is2 (subErr_le Hc.out) Ha.out Hb.out hL) ?_)
  rintro e w2 ⟨t2, rfl, ⟨v2, rfl, hd⟩, hb⟩
  have X1 := Lib.hid (Box.pcall hb X1.out)
  have X2 := Lib.hid (Box.pcall hb X2.out)
  have X3 := Lib.hid (Box.pcall hb X3.out)
  have HB := Lib.hid (below_call HB.out hb)
  have Hd := Lib.hid hd
  clear hb hd
  obtain ⟨c10, c11, f10, f11⟩ := X1.out.c2
  obtain ⟨c20, c21, f20, f21⟩ := X2.out.c2
  obtain ⟨c30, c31, f30, f31⟩ := X3.out.c2
  go_wp2_with fail
  clear c10 c11 f10 f11 c20 c21 f20 f21 c30 c31 f30 f31
  (first | (have hcall := imake_ai (neg := true) Hd.out.is; refine Calls.mono hcall ?_; clear hcall) | refine Calls.mono (imake_ai (neg := true) Hd.out.is) ?_)
  rintro e w3 ⟨v3, rfl, hr, hb⟩
  obtain ⟨adr, nr, capr, rfl⟩ := hr.lit
  have X1 := Lib.hid (Box.pcall hb X1.out)
  have X2 := Lib.hid (Box.pcall hb X2.out)
  have X3 := Lib.hid (Box.pcall hb X3.out)
  have HB := Lib.hid (below_call HB.out hb)
  have Hr := Lib.hid hr
  clear hb hr
  have e0 := iv_sub true Hc.out
  have Hs := Lib.hid (CL.mono (CL.cast e0 Hr.out) (Nat.le_max_left L M))
  clear e0 Hc Hk
  obtain ⟨c10, c11, f10, f11⟩ := X1.out.c2
  obtain ⟨c20, c21, f20, f21⟩ := X2.out.c2
  obtain ⟨c30, c31, f30, f31⟩ := X3.out.c2
  go_wp2
  exact ret_cl rfl rfl rfl X3.out (NoInt.bool _) (NoInt.slice _ _ _) Hs.out HB.out (by omega)
set_option maxRecDepth 100000 in
theorem riadd_ge_true {L M : Nat} {ma mb : Nat} {sa sb : Value} {w : World} (hc : mb ≤ ma) (ha : Is ma L w sa) (hb : Is mb M w sb) (hL : L ≤ 4294967296) (hM : M ≤ 4294967296) :
    Calls Tryz.prog 99 #[.agg #[.bool true, sa], .agg #[.bool false, sb]] w (Ret w (CL (iv true ma + iv false mb) (max L M))) := by
  have Ha := Lib.hid ha
  have Hb := Lib.hid hb
  have Hc := Lib.hid hc
  clear ha hb hc
  go_enter Tryz.func99, Tryz.ntmps99
  go_wp2_with fail
  obtain ⟨W, hW⟩ : ∃ W, W = (((w.alloc (.cells #[.bool true, sa] 105)).alloc (.cells #[.bool false, sb] 105)).alloc (.cells #[.bool false, .slice none 0 0] 105)) := ⟨_, rfl⟩
  rw [← hW]
  obtain ⟨x1, x2, x3, hk, hb⟩ := boxes_3 _ _ _ _ _ _ _ hW
  clear hW
  have Ha := Lib.hid (Is.keep Ha.out hk)
  have Hb := Lib.hid (Is.keep Hb.out hk)
  have X1 := Lib.hid x1
  have X2 := Lib.hid x2
  have X3 := Lib.hid x3
  have HB := Lib.hid hb
  clear hk hb x1 x2 x3
  (first | (have hcall := rsub_is2 (subErr_le Hc.out) Ha.out Hb.out hL; refine Calls.mono hcall ?_; clear hcall) | refine Calls.mono (rsub_is2 (subErr_le Hc.out) Ha.out Hb.out hL) ?_)
  rintro e w1 ⟨t1, rfl, ⟨v1, rfl, hd⟩, hb⟩
  have X1 := Lib.hid (Box.pcall hb X1.out)
  have X2 := Lib.hid (Box.pcall hb X2.out)
  have X3 := Lib.hid (Box.pcall hb X3.out)
  have HB := Lib.hid (below_call HB.out hb)
  have Hd := Lib.hid hd
  clear hb hd
  obtain ⟨c10, c11, f10, f11⟩ := X1.out.c2
  obtain ⟨c20, c21, f20, f21⟩ := X2.out.c2
  obtain ⟨c30, c31, f30, f31⟩ := X3.out.c2
  go_wp2_with fail
  clear c10 c11 f10 f11 c20 c21 f20 f21 c30 c31 f30 f31
  (first | (have hcall := rimake_ai (neg := true) Hd.out.is; refine Calls.mono hcall ?_; clear hcall) | refine Calls.mono (rimake_ai (neg := true) Hd.out.is) ?_)
  rintro e w2 ⟨v2, rfl, hr, hb⟩
  obtain ⟨adr, nr, capr, rfl⟩ := hr.lit
  have X1 := Lib.hid (Box.pcall hb X1.out)
  have X2 := Lib.hid (Box.pcall hb X2.out)
  have X3 := Lib.hid (Box.pcall hb X3.out)
  have HB := Lib.hid (below_call HB.out hb)
  have Hr := Lib.hid hr
  clear hb hr
  have e0 := iv_sub true Hc.out
  have Hs := Lib.hid (CL.mono (CL.cast e0 Hr.out) (Nat.le_max_left L M))
  clear e0 Hc
  obtain ⟨c10, c11, f10, f11⟩ := X1.out.c2
  obtain ⟨c20, c21, f20, f21⟩ := X2.out.c2
  obtain ⟨c30, c31, f30, f31⟩ := X3.out.c2
  go_wp2
  exact ret_cl rfl rfl rfl X3.out (NoInt.bool _) (NoInt.slice _ _ _) Hs.out HB.out (by omega)
set_option maxRecDepth 100000 in
theorem iadd_lt_true {L M : Nat} {ma mb : Nat} {p1 p2 : Option Addr} {n1 n2 q1 q2 : Nat} {w : World} (k : Int) (hk : cmpN ma mb = k) (hk0 : decide (k < 0) = true) (hc : ma < mb) (ha : Is ma L w (.slice p1 n1 q1)) (hb : Is mb M w (.slice p2 n2 q2)) (hL : L ≤ 4294967296) (hM : M ≤ 4294967296) :
    Calls Tryz.prog 135 #[.agg #[.bool true, .slice p1 n1 q1], .agg #[.bool false, .slice p2 n2 q2]] w (Ret w (CL (iv true ma + iv false mb) (max L M))) := by
  have Ha := Lib.hid ha
  have Hb := Lib.hid hb
  have Hc := Lib.hid hc
  have Hk := Lib.hid hk
  clear ha hb hc hk
  go_enter Tryz.func135, Tryz.ntmps135
  go_wp2_with fail
  obtain ⟨W, hW⟩ : ∃ W, W = (((w.alloc (.cells #[.bool true, .slice p1 n1 q1] 105)).alloc (.cells #[.bool false, .slice p2 n2 q2] 105)).alloc (.cells #[.bool false, .slice none 0 0] 105)) := ⟨_, rfl⟩
  rw [← hW]
  obtain ⟨x1, x2, x3, hk, hb⟩ := boxes_3 _ _ _ _ _ _ _ hW
  clear hW
  have Ha := Lib.hid (Is.keep Ha.out hk)
  have Hb := Lib.hid (Is.keep Hb.out hk)
  have X1 := Lib.hid x1
  have X2 := Lib.hid x2
  have X3 := Lib.hid x3
  have HB := Lib.hid hb
  clear hk hb x1 x2 x3
  (first | (have hcall := cmp_is k Ha.out Hb.out Hk.out; refine Calls.mono hcall ?_; clear hcall) | refine Calls.mono (cmp_is k Ha.out Hb.out Hk.out) ?_)
  rintro e w1 ⟨v1, rfl, rfl, hb⟩
  have Ha := Lib.hid (Is.keep Ha.out (Keep.call hb))
  have Hb := Lib.hid (Is.keep Hb.out (Keep.call hb))
  have X1 := Lib.hid (Box.pcall hb X1.out)
  have X2 := Lib.hid (Box.pcall hb X2.out)
  have X3 := Lib.hid (Box.pcall hb X3.out)
  have HB := Lib.hid (below_call HB.out hb)
  clear hb
  obtain ⟨c10, c11, f10, f11⟩ := X1.out.c2
  obtain ⟨c20, c21, f20, f21⟩ := X2.out.c2
  obtain ⟨c30, c31, f30, f31⟩ := X3.out.c2
  go_wp2_with fail
  clear c10 c11 f10 f11 c20 c21 f20 f21 c30 c31 f30 f31
  obtain ⟨W2, hW⟩ : ∃ W2, W2 = (World.setCell (World.setCell (World.setCell (World.setCell w1 ⟨w.heap.size, 0, none⟩ (.bool false)) ⟨w.heap.size, 1, none⟩ (.slice p2 n2 q2)) ⟨w.heap.size + 1, 0, none⟩ (.bool true)) ⟨w.heap.size + 1, 1, none⟩ (.slice p1 n1 q1)) := ⟨_, rfl⟩
  rw [← hW]
  obtain ⟨x1, x2, hk, hf, hbb⟩ := swapped2 hW X1.out X2.out (by omega) (by first | exact NoInt.bool _ | exact NoInt.slice _ _ _ | exact Ha.out.noInt | exact Hb.out.noInt) (by first | exact NoInt.bool _ | exact NoInt.slice _ _ _ | exact Ha.out.noInt | exact Hb.out.noInt) (by first | exact NoInt.bool _ | exact NoInt.slice _ _ _ | exact Ha.out.noInt | exact Hb.out.noInt) (by first | exact NoInt.bool _ | exact NoInt.slice _ _ _ | exact Ha.out.noInt | exact Hb.out.noInt)
  have Ha := Lib.hid (Is.keep Ha.out hk)
  have Hb := Lib.hid (Is.keep Hb.out hk)
  have X1 := Lib.hid x1
  have X2 := Lib.hid x2
  have X3 := Lib.hid (hf _ _ _ X3.out (by omega) (by omega))
  have HB := Lib.hid (hbb _ HB.out (by omega) (by omega))
  clear hW hk hf hbb x1 x2
  (first | (have hcall := sub_is2 (subErr_le (Nat.le_of_lt Hc.out)) Hb.out Ha.out hM; refine Calls.mono hcall ?_; clear hcall) | refine Calls.mono (sub_is2 (subErr_le (Nat.le_of_lt Hc.out)) Hb.out Ha.out hM) ?_)
  rintro e w3 ⟨t3, rfl, ⟨v3, rfl, hd⟩, hb⟩
  have X1 := Lib.hid (Box.pcall hb X1.out)
  have X2 := Lib.hid (Box.pcall hb X2.out)
  have X3 := Lib.hid (Box.pcall hb X3.out)
  have HB := Lib.hid (below_call HB.out hb)
  have Hd := Lib.hid hd
  clear hb hd
  obtain ⟨c10, c11, f10, f11⟩ := X1.out.c2
  obtain ⟨c20, c21, f20, f21⟩ := X2.out.c2
  obtain ⟨c30, c31, f30, f31⟩ := X3.out.c2
  go_wp2_with fail
  clear c10 c11 f10 f11 c20 c21 f20 f21 c30 c31 f30 f31
  (first | (have hcall := imake_ai (neg := false) Hd.out.is; refine Calls.mono hcall ?_; clear hcall) | refine Calls.mono (imake_ai (neg := false) Hd.out.is) ?_)
  rintro e w4 ⟨v4, rfl, hr, hb⟩
  obtain ⟨adr, nr, capr, rfl⟩ := hr.lit
  have X1 := Lib.hid (Box.pcall hb X1.out)
  have X2 := Lib.hid (Box.pcall hb X2.out)
  have X3 := Lib.hid (Box.pcall hb X3.out)
  have HB := Lib.hid (below_call HB.out hb)
  have Hr := Lib.hid hr
  clear hb hr
  have e0 := iv_sub' true (Nat.le_of_lt Hc.out)
  have Hs := Lib.hid (CL.mono (CL.cast e0 Hr.out) (Nat.le_max_right L M))
  clear e0 Hc Hk
  obtain ⟨c10, c11, f10, f11⟩ := X1.out.c2
  obtain ⟨c20, c21, f20, f21⟩ := X2.out.c2
  obtain ⟨c30, c31, f30, f31⟩ := X3.out.c2
  go_wp2
  exact ret_cl rfl rfl rfl X3.out (NoInt.bool _) (NoInt.slice _ _ _) Hs.out HB.out (by omega)
set_option maxRecDepth 100000 in
theorem riadd_lt_true {L M : Nat} {ma mb : Nat} {sa sb : Value} {w : World} (hc : ma < mb) (ha : Is ma L w sa) (hb : Is mb M w sb) (hL : L ≤ 4294967296) (hM : M ≤ 4294967296) :
    Calls Tryz.prog 99 #[.agg #[.bool true, sa], .agg #[.bool false, sb]] w (Ret w (CL (iv true ma + iv false mb) (max L M))) := by
  have Ha := Lib.hid ha
  have Hb := Lib.hid hb
  have Hc := Lib.hid hc
  clear ha hb hc
  go_enter Tryz.func99, Tryz.ntmps99
  go_wp2_with fail
  obtain ⟨W, hW⟩ : ∃ W, W = (((w.alloc (.cells #[.bool true, sa] 105)).alloc (.cells #[.bool false, sb] 105)).alloc (.cells #[.bool false, .slice none 0 0] 105)) := ⟨_, rfl⟩
  rw [← hW]
  obtain ⟨x1, x2, x3, hk, hb⟩ := boxes_3 _ _ _ _ _ _ _ hW
  clear hW
  have Ha := Lib.hid (Is.keep Ha.out hk)
  have Hb := Lib.hid (Is.keep Hb.out hk)
  have X1 := Lib.hid x1
  have X2 := Lib.hid x2
  have X3 := Lib.hid x3
  have HB := Lib.hid hb
  clear hk hb x1 x2 x3
  (first | (have hcall := rsub_is2 (subErr_lt Hc.out) Ha.out Hb.out hL; refine Calls.mono hcall ?_; clear hcall) | refine Calls.mono (rsub_is2 (subErr_lt Hc.out) Ha.out Hb.out hL) ?_)
  rintro e w1 ⟨t1, rfl, ⟨v1, rfl, hy⟩, hb⟩
  have Ha := Lib.hid (Is.keep Ha.out (Keep.call hb))
  have Hb := Lib.hid (Is.keep Hb.out (Keep.call hb))
  have X1 := Lib.hid (Box.pcall hb X1.out)
  have X2 := Lib.hid (Box.pcall hb X2.out)
  have X3 := Lib.hid (Box.pcall hb X3.out)
  have HB := Lib.hid (below_call HB.out hb)
  have Hy := Lib.hid hy
  clear hb hy
  obtain ⟨c10, c11, f10, f11⟩ := X1.out.c2
  obtain ⟨c20, c21, f20, f21⟩ := X2.out.c2
  obtain ⟨c30, c31, f30, f31⟩ := X3.out.c2
  go_wp2_with fail
  clear c10 c11 f10 f11 c20 c21 f20 f21 c30 c31 f30 f31
  (first | (have hcall := rsub_is2 (subErr_le (Nat.le_of_lt Hc.out)) Hb.out Ha.out hM; refine Calls.mono hcall ?_; clear hcall) | refine Calls.mono (rsub_is2 (subErr_le (Nat.le_of_lt Hc.out)) Hb.out Ha.out hM) ?_)
  rintro e w2 ⟨t2, rfl, ⟨v2, rfl, hd⟩, hb⟩
  have X1 := Lib.hid (Box.pcall hb X1.out)
  have X2 := Lib.hid (Box.pcall hb X2.out)
  have X3 := Lib.hid (Box.pcall hb X3.out)
  have HB := Lib.hid (below_call HB.out hb)
  have Hd := Lib.hid hd
  clear hb hd
  obtain ⟨c10, c11, f10, f11⟩ := X1.out.c2
  obtain ⟨c20, c21, f20, f21⟩ := X2.out.c2
  obtain ⟨c30, c31, f30, f31⟩ := X3.out.c2
  go_wp2_with fail
  clear c10 c11 f10 f11 c20 c21 f20 f21 c30 c31 f30 f31
  (first | (have hcall := rimake_ai (neg := false) Hd.out.is; refine Calls.mono hcall ?_; clear hcall) | refine Calls.mono (rimake_ai (neg := false) Hd.out.is) ?_)
  rintro e w3 ⟨v3, rfl, hr, hb⟩
  obtain ⟨adr, nr, capr, rfl⟩ := hr.lit
  have X1 := Lib.hid (Box.pcall hb X1.out)
  have X2 := Lib.hid (Box.pcall hb X2.out)
  have X3 := Lib.hid (Box.pcall hb X3.out)
  have HB := Lib.hid (below_call HB.out hb)
  have Hr := Lib.hid hr
  clear hb hr
  have e0 := iv_sub' true (Nat.le_of_lt Hc.out)
  have Hs := Lib.hid (CL.mono (CL.cast e0 Hr.out) (Nat.le_max_right L M))
  clear e0 Hc
  obtain ⟨c10, c11, f10, f11⟩ := X1.out.c2
  obtain ⟨c20, c21, f20, f21⟩ := X2.out.c2
  obtain ⟨c30, c31, f30, f31⟩ := X3.out.c2
  go_wp2
  exact ret_cl rfl rfl rfl X3.out (NoInt.bool _) (NoInt.slice _ _ _) Hs.out HB.out (by omega)
theorem iadd_ai {y z : Int} {L M : Nat} {u v : Value} {w : World} (h : AI y L w u) (h' : AI z M w v) (hL : L ≤ 4294967296) (hM : M ≤ 4294967296) :
    Calls Tryz.prog 135 #[u, v] w (Ret w (CL (y + z) (max L M + 1))) := by
  obtain ⟨na, sa, ma, rfl, ha, rfl⟩ := h
  obtain ⟨nb, sb, mb, rfl, hb, rfl⟩ := h'
  obtain ⟨p1, n1, q1, rfl⟩ := ha.lit
  obtain ⟨p2, n2, q2, rfl⟩ := hb.lit
  rcases Nat.lt_or_ge ma mb with hc | hc <;> cases na <;> cases nb
  · exact iadd_bx_false ha hb hL hM
  · exact (iadd_lt_false _ rfl (by rw [cmpN_lt hc]; rfl) hc ha hb hL hM).mono fun e w' h => h.mono_cl (Nat.le_succ _)
  · exact (iadd_lt_true _ rfl (by rw [cmpN_lt hc]; rfl) hc ha hb hL hM).mono fun e w' h => h.mono_cl (Nat.le_succ _)
  · exact iadd_bx_true ha hb hL hM
  · exact iadd_bx_false ha hb hL hM
  · exact (iadd_ge_false _ rfl (by rw [cmpN_ge hc]) hc ha hb hL hM).mono fun e w' h => h.mono_cl (Nat.le_succ _)
  · exact (iadd_ge_true _ rfl (by rw [cmpN_ge hc]) hc ha hb hL hM).mono fun e w' h => h.mono_cl (Nat.le_succ _)
  · exact iadd_bx_true ha hb hL hM
theorem riadd_ai {y z : Int} {L M : Nat} {u v : Value} {w : World} (h : AI y L w u) (h' : AI z M w v) (hL : L ≤ 4294967296) (hM : M ≤ 4294967296) :
    Calls Tryz.prog 99 #[u, v] w (Ret w (CL (y + z) (max L M + 1))) := by
  obtain ⟨na, sa, ma, rfl, ha, rfl⟩ := h
  obtain ⟨nb, sb, mb, rfl, hb, rfl⟩ := h'
  obtain ⟨p1, n1, q1, rfl⟩ := ha.lit
  obtain ⟨p2, n2, q2, rfl⟩ := hb.lit
  rcases Nat.lt_or_ge ma mb with hc | hc <;> cases na <;> cases nb
  · exact riadd_bx_false ha hb hL hM
  · exact (riadd_lt_false hc ha hb hL hM).mono fun e w' h => h.mono_cl (Nat.le_succ _)
  · exact (riadd_lt_true hc ha hb hL hM).mono fun e w' h => h.mono_cl (Nat.le_succ _)
  · exact riadd_bx_true ha hb hL hM
  · exact riadd_bx_false ha hb hL hM
  · exact (riadd_ge_false hc ha hb hL hM).mono fun e w' h => h.mono_cl (Nat.le_succ _)
  · exact (riadd_ge_true hc ha hb hL hM).mono fun e w' h => h.mono_cl (Nat.le_succ _)
  · exact riadd_bx_true ha hb hL hM
end Go.Proofs.YtikglhmabidjoaaGreatDoor
namespace Go.Proofs.YtikglhmabidjoaaGreatDoor
open Go.RowKit Nt
set_option linter.unusedVariables false
theorem AI.agg {z : Int} {L : Nat} {w : World} {v : Value} (h : AI z L w v) : ∃ n s, v = .agg #[.bool n, s] := let ⟨n, s, _, h1, _⟩ := h; ⟨n, s, h1⟩
theorem AI.mk {n : Bool} {m L : Nat} {w : World} {s : Value} (h : Is m L w s) : AI (iv n m) L w (.agg #[.bool n, s]) := ⟨_, _, _, rfl, h, rfl⟩
theorem iv_sign_0 {n : Bool} {m : Nat} (h : m = 0) : (iv n m).sign = 0 := by subst h; cases n <;> rfl
theorem iv_sign_false {m : Nat} (h : 0 < m) : (iv false m).sign = 1 := by
  show (m : Int).sign = 1
  exact Int.sign_eq_one_of_pos (by omega)
theorem iv_sign_true {m : Nat} (h : 0 < m) : (iv true m).sign = -1 := by
  show (-(m : Int)).sign = -1
  exact Int.sign_eq_neg_one_of_neg (by omega)
theorem bits_zero {m L : Nat} {s : Value} {w : World} (hm : m = 0) (h : Is m L w s) (hL : L ≤ 4294967296) : Calls Tryz.prog 172 #[s] w (Ret w (Val (.int .i64 0))) := by
  obtain ⟨xs, h, hv, hl⟩ := h
  have := bits_any _ _ _ h (by omega)
  rw [hv, hm] at this
  exact this
def NotZ (_ : World) (v : Value) : Prop := ∃ U : Int, v = .int .i64 U ∧ (U == 0) = false
theorem bits_pos {m L : Nat} {s : Value} {w : World} (hm : 0 < m) (h : Is m L w s) (hL : L ≤ 4294967296) : Calls Tryz.prog 172 #[s] w (Ret w NotZ) := by
  obtain ⟨xs, h, hv, hl⟩ := h
  refine (bits_any _ _ _ h (by omega)).mono ?_
  rintro e w' ⟨v, rfl, rfl, hb⟩
  refine ⟨_, rfl, ⟨_, rfl, ?_⟩, hb⟩
  rw [hv]
  unfold blen
  rw [if_neg (by omega)]
  simp only [beq_eq_false_iff_ne, ne_eq]
  omega
def Lit0 (n : Bool) (b : Bool) (_ : World) (v : Value) : Prop := ∃ ad n1 cap, v = .agg #[.bool n, .slice ad n1 cap] ∧ ((n1 : Int) == 0) = b
theorem limbs_len0 {m n : Nat} (hn : (limbs m).length = n) (b : Bool) (h : (m == 0) = b) : ((n : Int) == 0) = b := by
  have := @sz_eq_zero m
  unfold sz at this
  subst h hn
  rw [Bool.eq_iff_iff]
  simp only [beq_iff_eq]
  omega
theorem rimake_0 {n : Bool} {m L : Nat} {s : Value} {w : World} (hm : m = 0) (h : Is m L w s) : Calls Tryz.prog 108 #[.bool n, s] w (Ret w (Lit0 false true)) := by
  refine (rimake_ai h).mono ?_
  rintro e w' ⟨v, rfl, ⟨⟨s1, rfl, h2⟩, -⟩, hb⟩
  obtain ⟨ad, n1, cap, rfl, hn, -⟩ := h2
  refine ⟨_, rfl, ⟨ad, n1, cap, ?_, limbs_len0 hn true (by rw [iv_abs, hm]; rfl)⟩, hb⟩
  rw [iv_lt, hm]; simp
theorem rimake_true {m L : Nat} {s : Value} {w : World} (hm : 0 < m) (h : Is m L w s) : Calls Tryz.prog 108 #[.bool true, s] w (Ret w (Lit0 true false)) := by
  refine (rimake_ai h).mono ?_
  rintro e w' ⟨v, rfl, ⟨⟨s1, rfl, h2⟩, -⟩, hb⟩
  obtain ⟨ad, n1, cap, rfl, hn, -⟩ := h2
  refine ⟨_, rfl, ⟨ad, n1, cap, ?_, limbs_len0 hn false (by rw [iv_abs]; simp; omega)⟩, hb⟩
  rw [iv_lt]; simp [hm]
theorem rimake_false {m L : Nat} {s : Value} {w : World} (hm : 0 < m) (h : Is m L w s) : Calls Tryz.prog 108 #[.bool false, s] w (Ret w (Lit0 false false)) := by
  refine (rimake_ai h).mono ?_
  rintro e w' ⟨v, rfl, ⟨⟨s1, rfl, h2⟩, -⟩, hb⟩
  obtain ⟨ad, n1, cap, rfl, hn, -⟩ := h2
  refine ⟨_, rfl, ⟨ad, n1, cap, ?_, limbs_len0 hn false (by rw [iv_abs]; simp; omega)⟩, hb⟩
  rw [iv_lt]; simp
theorem sub_sign_lt {y z : Int} (h : y.sign < z.sign) : (y - z).sign = -1 := by
  apply Int.sign_eq_neg_one_of_neg
  rcases Int.lt_trichotomy y 0 with h1 | h1 | h1 <;> rcases Int.lt_trichotomy z 0 with h2 | h2 | h2 <;>
    simp [Int.sign_eq_neg_one_of_neg, Int.sign_eq_one_of_pos, h1, h2] at h <;> omega
theorem sub_sign_gt {y z : Int} (h : z.sign < y.sign) : (y - z).sign = 1 := by
  apply Int.sign_eq_one_of_pos
  rcases Int.lt_trichotomy y 0 with h1 | h1 | h1 <;> rcases Int.lt_trichotomy z 0 with h2 | h2 | h2 <;>
    simp [Int.sign_eq_neg_one_of_neg, Int.sign_eq_one_of_pos, h1, h2] at h <;> omega
theorem cmpN_sign (a b : Nat) : cmpN a b = ((a : Int) - b).sign := by
  rcases Nat.lt_trichotomy a b with h | h | h
  · rw [cmpN_lt h, Int.sign_eq_neg_one_of_neg (by omega)]
  · rw [cmpN_eq h, h]; simp
  · rw [cmpN_gt h, Int.sign_eq_one_of_pos (by omega)]
theorem sign_neg_iff {y : Int} : y.sign < 0 ↔ y < 0 := by
  rcases Int.lt_trichotomy y 0 with h1 | h1 | h1
  · simp [Int.sign_eq_neg_one_of_neg h1, h1]
  · simp [h1]
  · simp [Int.sign_eq_one_of_pos h1]; omega
theorem cmp_neg {na nb : Bool} {ma mb : Nat} (h : (iv na ma).sign < 0) (hs : (iv na ma).sign = (iv nb mb).sign) : cmpN mb ma = (iv na ma - iv nb mb).sign := by
  have h2 : (iv nb mb).sign < 0 := hs ▸ h
  rw [sign_neg_iff] at h h2
  rw [cmpN_sign]
  congr 1
  cases na <;> cases nb <;> simp [iv] at h h2 ⊢ <;> omega
theorem cmp_pos {na nb : Bool} {ma mb : Nat} (h : ¬ (iv na ma).sign < 0) (hs : (iv na ma).sign = (iv nb mb).sign) : cmpN ma mb = (iv na ma - iv nb mb).sign := by
  have h2 : ¬ (iv nb mb).sign < 0 := hs ▸ h
  rw [sign_neg_iff] at h h2
  rw [cmpN_sign]
  congr 1
  cases na <;> cases nb <;> simp [iv] at h h2 ⊢ <;> omega
set_option maxRecDepth 100000 in
theorem isign_0 {L m : Nat} {sa : Value} {w : World} (n : Bool) (ha : Is m L w sa) (hL : L ≤ 4294967296) (hm : m = 0) :
    Calls Tryz.prog 130 #[.agg #[.bool n, sa]] w (Ret w (Val (.int .i64 0))) := by
  have Ha := Lib.hid ha
  have Hm := Lib.hid hm
  clear ha hm
  go_enter Tryz.func130, Tryz.ntmps130
  go_wp2_with fail
  obtain ⟨W, hW⟩ : ∃ W, W = (w.alloc (.cells #[.bool n, sa] 105)) := ⟨_, rfl⟩
  rw [← hW]
  obtain ⟨x1, hk, hb⟩ := boxes_1 _ _ _ hW
  clear hW
  have Ha := Lib.hid (Is.keep Ha.out hk)
  have X1 := Lib.hid x1
  have HB := Lib.hid hb
  clear hk hb x1
  (first | (have hcall := bits_zero Hm.out Ha.out hL; refine Calls.mono hcall ?_; clear hcall) | refine Calls.mono (bits_zero Hm.out Ha.out hL) ?_)
  rintro e w1 ⟨v1, rfl, rfl, hb⟩
  have X1 := Lib.hid (Box.pcall hb X1.out)
  have HB := Lib.hid (below_call HB.out hb)
  clear hb
  go_wp2
  all_goals (go_ret; exact ⟨_, rfl, rfl, HB.out⟩)
set_option maxRecDepth 100000 in
theorem isign_true {L m : Nat} {sa : Value} {w : World} (ha : Is m L w sa) (hL : L ≤ 4294967296) (hm : 0 < m) :
    Calls Tryz.prog 130 #[.agg #[.bool true, sa]] w (Ret w (Val (.int .i64 (-1)))) := by
  have Ha := Lib.hid ha
  have Hm := Lib.hid hm
  clear ha hm
  go_enter Tryz.func130, Tryz.ntmps130
  go_wp2_with fail
  obtain ⟨W, hW⟩ : ∃ W, W = (w.alloc (.cells #[.bool true, sa] 105)) := ⟨_, rfl⟩
  rw [← hW]
  obtain ⟨x1, hk, hb⟩ := boxes_1 _ _ _ hW
  clear hW
  have Ha := Lib.hid (Is.keep Ha.out hk)
  have X1 := Lib.hid x1
  have HB := Lib.hid hb
  clear hk hb x1
  (first | (have hcall := bits_pos Hm.out Ha.out hL; refine Calls.mono hcall ?_; clear hcall) | refine Calls.mono (bits_pos Hm.out Ha.out hL) ?_)
  rintro e w1 ⟨v1, rfl, ⟨U, rfl, hU⟩, hb⟩
  have X1 := Lib.hid (Box.pcall hb X1.out)
  have HB := Lib.hid (below_call HB.out hb)
  clear hb
  obtain ⟨c10, c11, f10, f11⟩ := X1.out.c2
  go_wp2_with fail
  go_wp2
  all_goals (go_ret; exact ⟨_, rfl, rfl, HB.out⟩)
set_option maxRecDepth 100000 in
theorem isign_false {L m : Nat} {sa : Value} {w : World} (ha : Is m L w sa) (hL : L ≤ 4294967296) (hm : 0 < m) :
    Calls Tryz.prog 130 #[.agg #[.bool false, sa]] w (Ret w (Val (.int .i64 1))) := by
  have Ha := Lib.hid ha
  have Hm := Lib.hid hm
  clear ha hm
  go_enter Tryz.func130, Tryz.ntmps130
  go_wp2_with fail
  obtain ⟨W, hW⟩ : ∃ W, W = (w.alloc (.cells #[.bool false, sa] 105)) := ⟨_, rfl⟩
  rw [← hW]
  obtain ⟨x1, hk, hb⟩ := boxes_1 _ _ _ hW
  clear hW
  have Ha := Lib.hid (Is.keep Ha.out hk)
  have X1 := Lib.hid x1
  have HB := Lib.hid hb
  clear hk hb x1
  (first | (have hcall := bits_pos Hm.out Ha.out hL; refine Calls.mono hcall ?_; clear hcall) | refine Calls.mono (bits_pos Hm.out Ha.out hL) ?_)
  rintro e w1 ⟨v1, rfl, ⟨U, rfl, hU⟩, hb⟩
  have X1 := Lib.hid (Box.pcall hb X1.out)
  have HB := Lib.hid (below_call HB.out hb)
  clear hb
  obtain ⟨c10, c11, f10, f11⟩ := X1.out.c2
  go_wp2_with fail
  go_wp2
  all_goals (go_ret; exact ⟨_, rfl, rfl, HB.out⟩)
set_option maxRecDepth 100000 in
theorem risign_0 {L m : Nat} {sa : Value} {w : World} (n : Bool) (ha : Is m L w sa) (hm : m = 0) :
    Calls Tryz.prog 110 #[.agg #[.bool n, sa]] w (Ret w (Val (.int .i64 0))) := by
  have Ha := Lib.hid ha
  have Hm := Lib.hid hm
  clear ha hm
  go_enter Tryz.func110, Tryz.ntmps110
  go_wp2_with fail
  obtain ⟨W, hW⟩ : ∃ W, W = (w.alloc (.cells #[.bool n, sa] 105)) := ⟨_, rfl⟩
  rw [← hW]
  obtain ⟨x1, hk, hb⟩ := boxes_1 _ _ _ hW
  clear hW
  have Ha := Lib.hid (Is.keep Ha.out hk)
  have X1 := Lib.hid x1
  have HB := Lib.hid hb
  clear hk hb x1
  (first | (have hcall := rimake_0 Hm.out Ha.out; refine Calls.mono hcall ?_; clear hcall) | refine Calls.mono (rimake_0 Hm.out Ha.out) ?_)
  rintro e w1 ⟨v1, rfl, ⟨ad, n1, cap, rfl, hn1⟩, hb⟩
  have X1 := Lib.hid (Box.pcall hb X1.out)
  have HB := Lib.hid (below_call HB.out hb)
  clear hb
  obtain ⟨c10, c11, f10, f11⟩ := X1.out.c2
  go_wp2_with fail
  go_wp2
  go_ret
  exact ⟨_, rfl, rfl, by first | exact HB.out | exact below_set2 HB.out (by omega) | exact below_set3 HB.out (by omega)⟩
set_option maxRecDepth 100000 in
theorem risign_true {L m : Nat} {sa : Value} {w : World} (ha : Is m L w sa) (hm : 0 < m) :
    Calls Tryz.prog 110 #[.agg #[.bool true, sa]] w (Ret w (Val (.int .i64 (-1)))) := by
  have Ha := Lib.hid ha
  have Hm := Lib.hid hm
  clear ha hm
  go_enter Tryz.func110, Tryz.ntmps110
  go_wp2_with fail
  obtain ⟨W, hW⟩ : ∃ W, W = (w.alloc (.cells #[.bool true, sa] 105)) := ⟨_, rfl⟩
  rw [← hW]
  obtain ⟨x1, hk, hb⟩ := boxes_1 _ _ _ hW
  clear hW
  have Ha := Lib.hid (Is.keep Ha.out hk)
  have X1 := Lib.hid x1
  have HB := Lib.hid hb
  clear hk hb x1
  (first | (have hcall := rimake_true Hm.out Ha.out; refine Calls.mono hcall ?_; clear hcall) | refine Calls.mono (rimake_true Hm.out Ha.out) ?_)
  rintro e w1 ⟨v1, rfl, ⟨ad, n1, cap, rfl, hn1⟩, hb⟩
  have X1 := Lib.hid (Box.pcall hb X1.out)
  have HB := Lib.hid (below_call HB.out hb)
  clear hb
  obtain ⟨c10, c11, f10, f11⟩ := X1.out.c2
  go_wp2_with fail
  go_wp2
  go_ret
  exact ⟨_, rfl, rfl, by first | exact HB.out | exact below_set2 HB.out (by omega) | exact below_set3 HB.out (by omega)⟩
set_option maxRecDepth 100000 in
theorem risign_false {L m : Nat} {sa : Value} {w : World} (ha : Is m L w sa) (hm : 0 < m) :
    Calls Tryz.prog 110 #[.agg #[.bool false, sa]] w (Ret w (Val (.int .i64 1))) := by
  have Ha := Lib.hid ha
  have Hm := Lib.hid hm
  clear ha hm
  go_enter Tryz.func110, Tryz.ntmps110
  go_wp2_with fail
  obtain ⟨W, hW⟩ : ∃ W, W = (w.alloc (.cells #[.bool false, sa] 105)) := ⟨_, rfl⟩
  rw [← hW]
  obtain ⟨x1, hk, hb⟩ := boxes_1 _ _ _ hW
  clear hW
  have Ha := Lib.hid (Is.keep Ha.out hk)
  have X1 := Lib.hid x1
  have HB := Lib.hid hb
  clear hk hb x1
  (first | (have hcall := rimake_false Hm.out Ha.out; refine Calls.mono hcall ?_; clear hcall) | refine Calls.mono (rimake_false Hm.out Ha.out) ?_)
  rintro e w1 ⟨v1, rfl, ⟨ad, n1, cap, rfl, hn1⟩, hb⟩
  have X1 := Lib.hid (Box.pcall hb X1.out)
  have HB := Lib.hid (below_call HB.out hb)
  clear hb
  obtain ⟨c10, c11, f10, f11⟩ := X1.out.c2
  go_wp2_with fail
  go_wp2
  go_ret
  exact ⟨_, rfl, rfl, by first | exact HB.out | exact below_set2 HB.out (by omega) | exact below_set3 HB.out (by omega)⟩
theorem isign_ai {z : Int} {L : Nat} {u : Value} {w : World} (k : Int) (h : AI z L w u) (hk : z.sign = k) (hL : L ≤ 4294967296) :
    Calls Tryz.prog 130 #[u] w (Ret w (Val (.int .i64 k))) := by
  obtain ⟨n, s, m, rfl, h, rfl⟩ := h
  subst hk
  rcases Nat.eq_zero_or_pos m with h0 | h0
  · rw [iv_sign_0 h0]; exact isign_0 n h hL h0
  · cases n
    · rw [iv_sign_false h0]; exact isign_false h hL h0
    · rw [iv_sign_true h0]; exact isign_true h hL h0
theorem risign_ai {z : Int} {L : Nat} {u : Value} {w : World} (k : Int) (h : AI z L w u) (hk : z.sign = k) :
    Calls Tryz.prog 110 #[u] w (Ret w (Val (.int .i64 k))) := by
  obtain ⟨n, s, m, rfl, h, rfl⟩ := h
  subst hk
  rcases Nat.eq_zero_or_pos m with h0 | h0
  · rw [iv_sign_0 h0]; exact risign_0 n h h0
  · cases n
    · rw [iv_sign_false h0]; exact risign_false h h0
    · rw [iv_sign_true h0]; exact risign_true h h0
set_option maxRecDepth 100000 in
theorem icmp_lt {L M : Nat} {ma mb : Nat} {na nb : Bool} {sa sb : Value} {w : World} (s t : Int) (hs : (iv na ma).sign = s) (ht : (iv nb mb).sign = t) (h1 : decide (s < t) = true) (ha : Is ma L w sa) (hb : Is mb M w sb) (hL : L ≤ 4294967296) (hM : M ≤ 4294967296) :
    Calls Tryz.prog 129 #[.agg #[.bool na, sa], .agg #[.bool nb, sb]] w (Ret w (Val (.int .i64 (-1)))) := by
  have Ha := Lib.hid ha
  have Hb := Lib.hid hb
  have Hs := Lib.hid hs
  have Ht := Lib.hid ht
  clear ha hb hs ht
  go_enter Tryz.func129, Tryz.ntmps129
  go_wp2_with fail
  obtain ⟨W, hW⟩ : ∃ W, W = ((w.alloc (.cells #[.bool na, sa] 105)).alloc (.cells #[.bool nb, sb] 105)) := ⟨_, rfl⟩
  rw [← hW]
  obtain ⟨x1, x2, hk, hb⟩ := boxes_2 _ _ _ _ _ hW
  clear hW
  have Ha := Lib.hid (Is.keep Ha.out hk)
  have Hb := Lib.hid (Is.keep Hb.out hk)
  have X1 := Lib.hid x1
  have X2 := Lib.hid x2
  have HB := Lib.hid hb
  clear hk hb x1 x2
  have Ha := Lib.hid (Is.keep Ha.out (Keep.drew W))
  have Hb := Lib.hid (Is.keep Hb.out (Keep.drew W))
  have X1 := Lib.hid (Box.drew X1.out)
  have X2 := Lib.hid (Box.drew X2.out)
  have HB := Lib.hid (Below.drew HB.out)
  have tok0 : True := trivial
  go_region_held3 (fun w' => w'.cell? ⟨w.heap.size, 0, none⟩ = some (.bool na) ∧ w'.cell? ⟨w.heap.size, 1, none⟩ = some (sa) ∧ w'.cell? ⟨w.heap.size + 1, 0, none⟩ = some (.bool nb) ∧ w'.cell? ⟨w.heap.size + 1, 1, none⟩ = some (sb))
    (first | exact ⟨X1.out.cell 0 rfl, X1.out.cell 1 rfl, X2.out.cell 0 rfl, X2.out.cell 1 rfl⟩ | go_keep)
    (first | (have _t := tok0; go_at_call 130; (first | (have hcall := isign_ai s (AI.mk Ha.out) Hs.out hL; refine Calls.mono hcall ?_; clear hcall) | refine Calls.mono (isign_ai s (AI.mk Ha.out) Hs.out hL) ?_); rintro e w1 ⟨v1, rfl, rfl, hb⟩; have Hb := Lib.hid (Is.keep Hb.out (Keep.call hb)); have X1 := Lib.hid (Box.pcall hb X1.out); have X2 := Lib.hid (Box.pcall hb X2.out); have HB := Lib.hid (below_call HB.out hb); clear hb tok0 _t; have tok1 : True := trivial)
           | (have _t := tok1; go_at_call 130; (first | (have hcall := isign_ai t (AI.mk Hb.out) Ht.out hM; refine Calls.mono hcall ?_; clear hcall) | refine Calls.mono (isign_ai t (AI.mk Hb.out) Ht.out hM) ?_); rintro e w2 ⟨v2, rfl, rfl, hb⟩; have X1 := Lib.hid (Box.pcall hb X1.out); have X2 := Lib.hid (Box.pcall hb X2.out); have HB := Lib.hid (below_call HB.out hb); clear hb tok1 _t))
  go_wp2
  all_goals (go_ret; exact ⟨_, rfl, rfl, HB.out⟩)
set_option maxRecDepth 100000 in
theorem icmp_gt {L M : Nat} {ma mb : Nat} {na nb : Bool} {sa sb : Value} {w : World} (s t : Int) (hs : (iv na ma).sign = s) (ht : (iv nb mb).sign = t) (h1 : decide (s < t) = false) (h2 : decide (t < s) = true) (ha : Is ma L w sa) (hb : Is mb M w sb) (hL : L ≤ 4294967296) (hM : M ≤ 4294967296) :
    Calls Tryz.prog 129 #[.agg #[.bool na, sa], .agg #[.bool nb, sb]] w (Ret w (Val (.int .i64 1))) := by
  have Ha := Lib.hid ha
  have Hb := Lib.hid hb
  have Hs := Lib.hid hs
  have Ht := Lib.hid ht
  clear ha hb hs ht
  go_enter Tryz.func129, Tryz.ntmps129
  go_wp2_with fail
  obtain ⟨W, hW⟩ : ∃ W, W = ((w.alloc (.cells #[.bool na, sa] 105)).alloc (.cells #[.bool nb, sb] 105)) := ⟨_, rfl⟩
  rw [← hW]
  obtain ⟨x1, x2, hk, hb⟩ := boxes_2 _ _ _ _ _ hW
  clear hW
  have Ha := Lib.hid (Is.keep Ha.out hk)
  have Hb := Lib.hid (Is.keep Hb.out hk)
  have X1 := Lib.hid x1
  have X2 := Lib.hid x2
  have HB := Lib.hid hb
  clear hk hb x1 x2
  have Ha := Lib.hid (Is.keep Ha.out (Keep.drew W))
  have Hb := Lib.hid (Is.keep Hb.out (Keep.drew W))
  have X1 := Lib.hid (Box.drew X1.out)
  have X2 := Lib.hid (Box.drew X2.out)
  have HB := Lib.hid (Below.drew HB.out)
  have tok0 : True := trivial
  go_region_held3 (fun w' => w'.cell? ⟨w.heap.size, 0, none⟩ = some (.bool na) ∧ w'.cell? ⟨w.heap.size, 1, none⟩ = some (sa) ∧ w'.cell? ⟨w.heap.size + 1, 0, none⟩ = some (.bool nb) ∧ w'.cell? ⟨w.heap.size + 1, 1, none⟩ = some (sb))
    (first | exact ⟨X1.out.cell 0 rfl, X1.out.cell 1 rfl, X2.out.cell 0 rfl, X2.out.cell 1 rfl⟩ | go_keep)
    (first | (have _t := tok0; go_at_call 130; (first | (have hcall := isign_ai s (AI.mk Ha.out) Hs.out hL; refine Calls.mono hcall ?_; clear hcall) | refine Calls.mono (isign_ai s (AI.mk Ha.out) Hs.out hL) ?_); rintro e w1 ⟨v1, rfl, rfl, hb⟩; have Hb := Lib.hid (Is.keep Hb.out (Keep.call hb)); have X1 := Lib.hid (Box.pcall hb X1.out); have X2 := Lib.hid (Box.pcall hb X2.out); have HB := Lib.hid (below_call HB.out hb); clear hb tok0 _t; have tok1 : True := trivial)
           | (have _t := tok1; go_at_call 130; (first | (have hcall := isign_ai t (AI.mk Hb.out) Ht.out hM; refine Calls.mono hcall ?_; clear hcall) | refine Calls.mono (isign_ai t (AI.mk Hb.out) Ht.out hM) ?_); rintro e w2 ⟨v2, rfl, rfl, hb⟩; have X1 := Lib.hid (Box.pcall hb X1.out); have X2 := Lib.hid (Box.pcall hb X2.out); have HB := Lib.hid (below_call HB.out hb); clear hb tok1 _t))
  go_wp2
  all_goals (go_ret; exact ⟨_, rfl, rfl, HB.out⟩)
set_option maxRecDepth 100000 in
theorem icmp_neg {L M : Nat} {ma mb : Nat} {na nb : Bool} {sa sb : Value} {w : World} (s t : Int) (hs : (iv na ma).sign = s) (ht : (iv nb mb).sign = t) (k : Int) (h1 : decide (s < t) = false) (h2 : decide (t < s) = false) (h3 : decide (s < 0) = true) (hk : cmpN mb ma = k) (ha : Is ma L w sa) (hb : Is mb M w sb) (hL : L ≤ 4294967296) (hM : M ≤ 4294967296) :
    Calls Tryz.prog 129 #[.agg #[.bool na, sa], .agg #[.bool nb, sb]] w (Ret w (Val (.int .i64 k))) := by
  have Ha := Lib.hid ha
  have Hb := Lib.hid hb
  have Hs := Lib.hid hs
  have Ht := Lib.hid ht
  have Hk := Lib.hid hk
  clear ha hb hs ht hk
  go_enter Tryz.func129, Tryz.ntmps129
  go_wp2_with fail
  obtain ⟨W, hW⟩ : ∃ W, W = ((w.alloc (.cells #[.bool na, sa] 105)).alloc (.cells #[.bool nb, sb] 105)) := ⟨_, rfl⟩
  rw [← hW]
  obtain ⟨x1, x2, hk, hb⟩ := boxes_2 _ _ _ _ _ hW
  clear hW
  have Ha := Lib.hid (Is.keep Ha.out hk)
  have Hb := Lib.hid (Is.keep Hb.out hk)
  have X1 := Lib.hid x1
  have X2 := Lib.hid x2
  have HB := Lib.hid hb
  clear hk hb x1 x2
  have Ha := Lib.hid (Is.keep Ha.out (Keep.drew W))
  have Hb := Lib.hid (Is.keep Hb.out (Keep.drew W))
  have X1 := Lib.hid (Box.drew X1.out)
  have X2 := Lib.hid (Box.drew X2.out)
  have HB := Lib.hid (Below.drew HB.out)
  have tok0 : True := trivial
  go_region_held3 (fun w' => w'.cell? ⟨w.heap.size, 0, none⟩ = some (.bool na) ∧ w'.cell? ⟨w.heap.size, 1, none⟩ = some (sa) ∧ w'.cell? ⟨w.heap.size + 1, 0, none⟩ = some (.bool nb) ∧ w'.cell? ⟨w.heap.size + 1, 1, none⟩ = some (sb))
    (first | exact ⟨X1.out.cell 0 rfl, X1.out.cell 1 rfl, X2.out.cell 0 rfl, X2.out.cell 1 rfl⟩ | go_keep)
    (first | (have _t := tok0; go_at_call 130; (first | (have hcall := isign_ai s (AI.mk Ha.out) Hs.out hL; refine Calls.mono hcall ?_; clear hcall) | refine Calls.mono (isign_ai s (AI.mk Ha.out) Hs.out hL) ?_); rintro e w1 ⟨v1, rfl, rfl, hb⟩; have Ha := Lib.hid (Is.keep Ha.out (Keep.call hb)); have Hb := Lib.hid (Is.keep Hb.out (Keep.call hb)); have X1 := Lib.hid (Box.pcall hb X1.out); have X2 := Lib.hid (Box.pcall hb X2.out); have HB := Lib.hid (below_call HB.out hb); clear hb tok0 _t; have tok1 : True := trivial)
           | (have _t := tok1; go_at_call 130; (first | (have hcall := isign_ai t (AI.mk Hb.out) Ht.out hM; refine Calls.mono hcall ?_; clear hcall) | refine Calls.mono (isign_ai t (AI.mk Hb.out) Ht.out hM) ?_); rintro e w2 ⟨v2, rfl, rfl, hb⟩; have Ha := Lib.hid (Is.keep Ha.out (Keep.call hb)); have Hb := Lib.hid (Is.keep Hb.out (Keep.call hb)); have X1 := Lib.hid (Box.pcall hb X1.out); have X2 := Lib.hid (Box.pcall hb X2.out); have HB := Lib.hid (below_call HB.out hb); clear hb tok1 _t))
  obtain ⟨c10, c11, f10, f11⟩ := X1.out.c2
  obtain ⟨c20, c21, f20, f21⟩ := X2.out.c2
  go_wp2_with fail
  clear c10 c11 f10 f11 c20 c21 f20 f21
  (first | (have hcall := cmp_is k Hb.out Ha.out Hk.out; refine Calls.mono hcall ?_; clear hcall) | refine Calls.mono (cmp_is k Hb.out Ha.out Hk.out) ?_)
  rintro e w3 ⟨v3, rfl, rfl, hb⟩
  have X1 := Lib.hid (Box.pcall hb X1.out)
  have X2 := Lib.hid (Box.pcall hb X2.out)
  have HB := Lib.hid (below_call HB.out hb)
  clear hb
  go_wp2
  all_goals (go_ret; exact ⟨_, rfl, rfl, HB.out⟩)
set_option maxRecDepth 100000 in
theorem icmp_pos {L M : Nat} {ma mb : Nat} {na nb : Bool} {sa sb : Value} {w : World} (s t : Int) (hs : (iv na ma).sign = s) (ht : (iv nb mb).sign = t) (k : Int) (h1 : decide (s < t) = false) (h2 : decide (t < s) = false) (h3 : decide (s < 0) = false) (hk : cmpN ma mb = k) (ha : Is ma L w sa) (hb : Is mb M w sb) (hL : L ≤ 4294967296) (hM : M ≤ 4294967296) :
    Calls Tryz.prog 129 #[.agg #[.bool na, sa], .agg #[.bool nb, sb]] w (Ret w (Val (.int .i64 k))) := by
  have Ha := Lib.hid ha
  have Hb := Lib.hid hb
  have Hs := Lib.hid hs
  have Ht := Lib.hid ht
  have Hk := Lib.hid hk
  clear ha hb hs ht hk
  go_enter Tryz.func129, Tryz.ntmps129
  go_wp2_with fail
  obtain ⟨W, hW⟩ : ∃ W, W = ((w.alloc (.cells #[.bool na, sa] 105)).alloc (.cells #[.bool nb, sb] 105)) := ⟨_, rfl⟩
  rw [← hW]
  obtain ⟨x1, x2, hk, hb⟩ := boxes_2 _ _ _ _ _ hW
  clear hW
  have Ha := Lib.hid (Is.keep Ha.out hk)
  have Hb := Lib.hid (Is.keep Hb.out hk)
  have X1 := Lib.hid x1
  have X2 := Lib.hid x2
  have HB := Lib.hid hb
  clear hk hb x1 x2
  have Ha := Lib.hid (Is.keep Ha.out (Keep.drew W))
  have Hb := Lib.hid (Is.keep Hb.out (Keep.drew W))
  have X1 := Lib.hid (Box.drew X1.out)
  have X2 := Lib.hid (Box.drew X2.out)
  have HB := Lib.hid (Below.drew HB.out)
  have tok0 : True := trivial
  go_region_held3 (fun w' => w'.cell? ⟨w.heap.size, 0, none⟩ = some (.bool na) ∧ w'.cell? ⟨w.heap.size, 1, none⟩ = some (sa) ∧ w'.cell? ⟨w.heap.size + 1, 0, none⟩ = some (.bool nb) ∧ w'.cell? ⟨w.heap.size + 1, 1, none⟩ = some (sb))
    (first | exact ⟨X1.out.cell 0 rfl, X1.out.cell 1 rfl, X2.out.cell 0 rfl, X2.out.cell 1 rfl⟩ | go_keep)
    (first | (have _t := tok0; go_at_call 130; (first | (have hcall := isign_ai s (AI.mk Ha.out) Hs.out hL; refine Calls.mono hcall ?_; clear hcall) | refine Calls.mono (isign_ai s (AI.mk Ha.out) Hs.out hL) ?_); rintro e w1 ⟨v1, rfl, rfl, hb⟩; have Ha := Lib.hid (Is.keep Ha.out (Keep.call hb)); have Hb := Lib.hid (Is.keep Hb.out (Keep.call hb)); have X1 := Lib.hid (Box.pcall hb X1.out); have X2 := Lib.hid (Box.pcall hb X2.out); have HB := Lib.hid (below_call HB.out hb); clear hb tok0 _t; have tok1 : True := trivial)
           | (have _t := tok1; go_at_call 130; (first | (have hcall := isign_ai t (AI.mk Hb.out) Ht.out hM; refine Calls.mono hcall ?_; clear hcall) | refine Calls.mono (isign_ai t (AI.mk Hb.out) Ht.out hM) ?_); rintro e w2 ⟨v2, rfl, rfl, hb⟩; have Ha := Lib.hid (Is.keep Ha.out (Keep.call hb)); have Hb := Lib.hid (Is.keep Hb.out (Keep.call hb)); have X1 := Lib.hid (Box.pcall hb X1.out); have X2 := Lib.hid (Box.pcall hb X2.out); have HB := Lib.hid (below_call HB.out hb); clear hb tok1 _t))
  obtain ⟨c10, c11, f10, f11⟩ := X1.out.c2
  obtain ⟨c20, c21, f20, f21⟩ := X2.out.c2
  go_wp2_with fail
  clear c10 c11 f10 f11 c20 c21 f20 f21
  (first | (have hcall := cmp_is k Ha.out Hb.out Hk.out; refine Calls.mono hcall ?_; clear hcall) | refine Calls.mono (cmp_is k Ha.out Hb.out Hk.out) ?_)
  rintro e w3 ⟨v3, rfl, rfl, hb⟩
  have X1 := Lib.hid (Box.pcall hb X1.out)
  have X2 := Lib.hid (Box.pcall hb X2.out)
  have HB := Lib.hid (below_call HB.out hb)
  clear hb
  go_wp2
  all_goals (go_ret; exact ⟨_, rfl, rfl, HB.out⟩)
theorem icmp_ai {y z : Int} {L M : Nat} {u v : Value} {w : World} (k : Int) (h : AI y L w u) (h' : AI z M w v) (hk : (y - z).sign = k) (hL : L ≤ 4294967296) (hM : M ≤ 4294967296) :
    Calls Tryz.prog 129 #[u, v] w (Ret w (Val (.int .i64 k))) := by
  obtain ⟨na, sa, ma, rfl, h, rfl⟩ := h
  obtain ⟨nb, sb, mb, rfl, h', rfl⟩ := h'
  subst hk
  rcases Int.lt_trichotomy (iv na ma).sign (iv nb mb).sign with hs | hs | hs
  · rw [sub_sign_lt hs]
    exact icmp_lt _ _ rfl rfl (by simpa using hs) h h' hL hM
  · by_cases hn : (iv na ma).sign < 0
    · exact icmp_neg _ _ rfl rfl _ (by simp; omega) (by simp; omega) (by simpa using hn) (cmp_neg hn hs) h h' hL hM
    · exact icmp_pos _ _ rfl rfl _ (by simp; omega) (by simp; omega) (by simpa using hn) (cmp_pos (by omega) hs) h h' hL hM
  · rw [sub_sign_gt hs]
    exact icmp_gt _ _ rfl rfl (by simp; omega) (by simpa using hs) h h' hL hM
end Go.Proofs.YtikglhmabidjoaaGreatDoor
