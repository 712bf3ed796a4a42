/- The integer layer: what boxes and kept slices mean for api.Int; Add of numbers of unequal signs. -/
import Derived.Test.YtfkjhaniglmejaaIntC
import Derived.Test.YtfkjhaniglmejaaBox
namespace Go.Proofs.Ytfkjhaniglmejaa
open Go.RowKit Nt
set_option linter.unusedVariables false

theorem Is.keep {n L : Nat} {w w' : World} {v : Value} (h : Is n L w v) (k : Keep w w') : Is n L w' v := let ⟨xs, h1, h2⟩ := h; ⟨xs, k _ _ h1, h2⟩
theorem Can.keep {n L : Nat} {w w' : World} {v : Value} (h : Can n L w v) (k : Keep w w') : Can n L w' v := ⟨k _ _ h.1, h.2⟩
theorem AI.keep {z : Int} {L : Nat} {w w' : World} {v : Value} (h : AI z L w v) (k : Keep w w') : AI z L w' v :=
  let ⟨neg, s, m, h1, h2, h3⟩ := h; ⟨neg, s, m, h1, h2.keep k, h3⟩
theorem CI.keep {z : Int} {w w' : World} {v : Value} (h : CI z w v) (k : Keep w w') : CI z w' v := let ⟨s, h1, h2⟩ := h; ⟨s, h1, k _ _ h2⟩
theorem CL.keep {z : Int} {L : Nat} {w w' : World} {v : Value} (h : CL z L w v) (k : Keep w w') : CL z L w' v := ⟨h.1.keep k, h.2⟩
theorem Is.noInt {n L : Nat} {w : World} {v : Value} (h : Is n L w v) : NoInt v := let ⟨_, h1, _⟩ := h; h1.noInt
theorem Is.lit {n L : Nat} {w : World} {v : Value} (h : Is n L w v) : ∃ ad m cap, v = .slice ad m cap := let ⟨_, h1, _⟩ := h; Sl.lit h1
theorem CL.lit {z : Int} {L : Nat} {w : World} {v : Value} (h : CL z L w v) : ∃ ad n cap, v = .agg #[.bool (decide (z < 0)), .slice ad n cap] := by
  obtain ⟨⟨s, rfl, h2⟩, -⟩ := h
  obtain ⟨ad, n, cap, rfl⟩ := Sl.lit h2
  exact ⟨ad, n, cap, rfl⟩

/-- Worlds with boxes just made. -/
theorem boxes_1 (w : World) (c : Array Value) (t : TypeId) {W : World} (hW : W = w.alloc (.cells c t)) :
    Box W w.heap.size t c ∧ Keep w W ∧ Below w.heap.size w W := by
  subst hW; exact ⟨Box.new _ _ _, Keep.alloc _ _, (Below.refl _ _).alloc (Nat.le_refl _) _⟩
theorem boxes_2 (w : World) (c c' : Array Value) (t t' : TypeId) {W : World} (hW : W = (w.alloc (.cells c t)).alloc (.cells c' t')) :
    Box W w.heap.size t c ∧ Box W (w.heap.size + 1) t' c' ∧ Keep w W ∧ Below w.heap.size w W := by
  subst hW; exact ⟨(Box.new _ _ _).alloc _, Box.newAt _ _ _ (by simp), (Keep.alloc _ _).trans (Keep.alloc _ _), ((Below.refl _ _).alloc (Nat.le_refl _) _).alloc (by simp) _⟩
theorem boxes_3 (w : World) (c c' c'' : Array Value) (t t' t'' : TypeId) {W : World} (hW : W = ((w.alloc (.cells c t)).alloc (.cells c' t')).alloc (.cells c'' t'')) :
    Box W w.heap.size t c ∧ Box W (w.heap.size + 1) t' c' ∧ Box W (w.heap.size + 1 + 1) t'' c'' ∧ Keep w W ∧ Below w.heap.size w W := by
  subst hW; exact ⟨((Box.new _ _ _).alloc _).alloc _, (Box.newAt _ _ _ (by simp)).alloc _, Box.newAt _ _ _ (by simp), ((Keep.alloc _ _).trans (Keep.alloc _ _)).trans (Keep.alloc _ _), (((Below.refl _ _).alloc (Nat.le_refl _) _).alloc (by simp) _).alloc (by simp; omega) _⟩
theorem boxes_4 (w : World) (c c' c'' c''' : Array Value) (t t' t'' t''' : TypeId) {W : World} (hW : W = (((w.alloc (.cells c t)).alloc (.cells c' t')).alloc (.cells c'' t'')).alloc (.cells c''' t''')) :
    Box W w.heap.size t c ∧ Box W (w.heap.size + 1) t' c' ∧ Box W (w.heap.size + 1 + 1) t'' c'' ∧ Box W (w.heap.size + 1 + 1 + 1) t''' c''' ∧ Keep w W ∧ Below w.heap.size w W := by
  subst hW; exact ⟨(((Box.new _ _ _).alloc _).alloc _).alloc _, ((Box.newAt _ _ _ (by simp)).alloc _).alloc _, (Box.newAt _ _ _ (by simp)).alloc _, Box.newAt _ _ _ (by simp),
    (((Keep.alloc _ _).trans (Keep.alloc _ _)).trans (Keep.alloc _ _)).trans (Keep.alloc _ _), ((((Below.refl _ _).alloc (Nat.le_refl _) _).alloc (by simp) _).alloc (by simp; omega) _).alloc (by simp; omega) _⟩

theorem iv_sub (na : Bool) {ma mb : Nat} (h : mb ≤ ma) : iv na (ma - mb) = iv na ma + iv (!na) mb := by
  cases na <;> simp [iv] <;> omega
theorem iv_sub' (na : Bool) {ma mb : Nat} (h : ma ≤ mb) : iv (!na) (mb - ma) = iv na ma + iv (!na) mb := by
  cases na <;> simp [iv] <;> omega


theorem below_call' {w0 W W' : World} (h : Below w0.heap.size w0 W) (hb : Below W.heap.size W W') : Below w0.heap.size w0 W' := below_call h hb
theorem below_dcall {w0 W W' : World} (h : Below w0.heap.size w0 W) (hb : Below W.drew.heap.size W.drew W') : Below w0.heap.size w0 W' := below_call h.drew hb
theorem Keep.dcall {W W' : World} (hb : Below W.drew.heap.size W.drew W') : Keep W W' := (Keep.drew W).trans (Keep.call hb)
theorem Box.pcall {w w' : World} {g : Nat} {t : TypeId} {cs : Array Value} (hb : Below w.heap.size w w') (h : Box w g t cs) : Box w' g t cs := h.call hb
theorem Box.dcall {w w' : World} {g : Nat} {t : TypeId} {cs : Array Value} (hb : Below w.drew.heap.size w.drew w') (h : Box w g t cs) : Box w' g t cs := h.drew.call hb
theorem CL.cast {y z : Int} {L : Nat} {w : World} {v : Value} (e : y = z) (h : CL y L w v) : CL z L w v := e ▸ h
theorem stored2 {W W' : World} {g : Nat} {t : TypeId} {x y x' y' : Value} (hW : W' = (W.setCell ⟨g, 0, none⟩ x').setCell ⟨g, 1, none⟩ y') (X : Box W g t #[x, y]) (hx : NoInt x) (hy : NoInt y) :
    Box W' g t #[x', y'] ∧ Keep W W' ∧ (∀ g' t' cs, Box W g' t' cs → g' ≠ g → Box W' g' t' cs) ∧ (∀ w0 : World, Below w0.heap.size w0 W → w0.heap.size ≤ g → Below w0.heap.size w0 W') := by
  subst hW; exact ⟨X.set2, Keep.set2 X hx hy, fun _ _ _ h hne => h.far2 hne, fun _ h hg => below_set2 h hg⟩
theorem stored3 {W W' : World} {g : Nat} {t : TypeId} {x y z x' y' z' : Value} (hW : W' = ((W.setCell ⟨g, 0, none⟩ x').setCell ⟨g, 1, none⟩ y').setCell ⟨g, 2, none⟩ z') (X : Box W g t #[x, y, z]) (hx : NoInt x) (hy : NoInt y) (hz : NoInt z) :
    Box W' g t #[x', y', z'] ∧ Keep W W' ∧ (∀ g' t' cs, Box W g' t' cs → g' ≠ g → Box W' g' t' cs) ∧ (∀ w0 : World, Below w0.heap.size w0 W → w0.heap.size ≤ g → Below w0.heap.size w0 W') := by
  subst hW; exact ⟨X.set3, Keep.set3 X hx hy hz, fun _ _ _ h hne => h.far3 hne, fun _ h hg => below_set3 h hg⟩
theorem swapped2 {W W' : World} {g h : Nat} {t t' : TypeId} {x y x' y' u v u' v' : Value} (hW : W' = (((W.setCell ⟨g, 0, none⟩ x').setCell ⟨g, 1, none⟩ y').setCell ⟨h, 0, none⟩ u').setCell ⟨h, 1, none⟩ v')
    (X : Box W g t #[x, y]) (Y : Box W h t' #[u, v]) (hne : g ≠ h) (hx : NoInt x) (hy : NoInt y) (hu : NoInt u) (hv : NoInt v) :
    Box W' g t #[x', y'] ∧ Box W' h t' #[u', v'] ∧ Keep W W' ∧ (∀ g' t' cs, Box W g' t' cs → g' ≠ g → g' ≠ h → Box W' g' t' cs) ∧ (∀ w0 : World, Below w0.heap.size w0 W → w0.heap.size ≤ g → w0.heap.size ≤ h → Below w0.heap.size w0 W') := by
  subst hW
  have Y1 := Y.far2 (x := x') (y := y') (Ne.symm hne)
  exact ⟨X.set2.far2 hne, Y1.set2, (Keep.set2 X hx hy).trans (Keep.set2 Y1 hu hv), fun _ _ _ k h1 h2 => (k.far2 h1).far2 h2, fun _ k h1 h2 => below_set2 (below_set2 k h1) h2⟩
/-- An api.Int handed back out of its cell, just written. -/
theorem ret_cl {fn : Func} {p : Tmp} {a : Act} {w0 W : World} {g L n cap : Nat} {t : TypeId} {x y : Value} {z : Int} {b : Bool} {ad : Option Addr} (hres : fn.results = #[.cell p 33])
    (hp : a.tmps.getD p undef = .pointer (some ⟨g, 0, none⟩)) (hd : a.defers = []) (X : Box W g t #[x, y]) (hx : NoInt x) (hy : NoInt y) (h : CL z L W (.agg #[.bool b, .slice ad n cap]))
    (HB : Below w0.heap.size w0 W) (hg : w0.heap.size ≤ g) : bodyPost Try.prog fn (Ret w0 (CL z L)) .ret a ((W.setCell ⟨g, 0, none⟩ (.bool b)).setCell ⟨g, 1, none⟩ (.slice ad n cap)) :=
  have k := X.set2 (x' := .bool b) (y' := .slice ad n cap)
  bodyPost_ret (ret_int hres _ _ g _ _ hp (k.cell 0 rfl) (k.cell 1 rfl)) hd ⟨_, rfl, h.keep (Keep.set2 X hx hy), below_set2 HB hg⟩
theorem cmpN_ge {a b : Nat} (h : b ≤ a) : decide (cmpN a b < 0) = false := by
  unfold cmpN; rw [if_neg (by omega)]; split <;> rfl
theorem Ret.mono_cl {z : Int} {L M : Nat} {w w' : World} {e : Ending} (h : Ret w (CL z L) e w') (hl : L ≤ M) : Ret w (CL z M) e w' :=
  let ⟨v, h1, h2, h3⟩ := h; ⟨v, h1, h2.mono hl, h3⟩


set_option maxRecDepth 100000 in
theorem iadd_ge_false {L M : Nat} {ma mb : Nat} {sa sb : Value} {w : World} (k : Int) (hk : cmpN ma mb = k) (hk0 : decide (k < 0) = false) (hc : mb ≤ ma) (ha : Is ma L w sa) (hb : Is mb M w sb) (hL : L ≤ 4294967296) (hM : M ≤ 4294967296) :
    Calls Try.prog 56 #[.agg #[.bool false, sa], .agg #[.bool true, sb]] w (Ret w (CL (iv false ma + iv true mb) (max L M))) := by
  have Ha := Lib.hid ha
  have Hb := Lib.hid hb
  have Hc := Lib.hid hc
  have Hk := Lib.hid hk
  clear ha hb hc hk
  go_enter Try.func56, Try.ntmps56
  go_wp2_with fail
  obtain ⟨W, hW⟩ : ∃ W, W = (((w.alloc (.cells #[.bool false, sa] 33)).alloc (.cells #[.bool true, sb] 33)).alloc (.cells #[.bool false, .slice none 0 0] 33)) := ⟨_, rfl⟩
  rw [← hW]
  obtain ⟨x1, x2, x3, hk, hb⟩ := boxes_3 _ _ _ _ _ _ _ hW
  clear hW
  have Ha := Lib.hid (Is.keep Ha.out hk)
  have Hb := Lib.hid (Is.keep Hb.out hk)
  have X1 := Lib.hid x1
  have X2 := Lib.hid x2
  have X3 := Lib.hid x3
  have HB := Lib.hid hb
  clear hk hb x1 x2 x3
  (first | (have hcall := cmp_is k Ha.out Hb.out Hk.out; refine Calls.mono hcall ?_; clear hcall) | refine Calls.mono (cmp_is k Ha.out Hb.out Hk.out) ?_)
  rintro e w1 ⟨v1, rfl, rfl, hb⟩
  have Ha := Lib.hid (Is.keep Ha.out (Keep.call hb))
  have Hb := Lib.hid (Is.keep Hb.out (Keep.call hb))
  have X1 := Lib.hid (Box.pcall hb X1.out)
  have X2 := Lib.hid (Box.pcall hb X2.out)
  have X3 := Lib.hid (Box.pcall hb X3.out)
  have HB := Lib.hid (below_call HB.out hb)
  clear hb
  obtain ⟨c10, c11, f10, f11⟩ := X1.out.c2
  obtain ⟨c20, c21, f20, f21⟩ := X2.out.c2
  obtain ⟨c30, c31, f30, f31⟩ := X3.out.c2
  go_wp2_with fail
  clear c10 c11 f10 f11 c20 c21 f20 f21 c30 c31 f30 f31
  (first | (have hcall := sub_is2 (subErr_le Hc.out) Ha.out Hb.out hL; refine Calls.mono hcall ?_; clear hcall) | refine Calls.mono (sub_is2 (subErr_le Hc.out) Ha.out Hb.out hL) ?_)
  rintro e w2 ⟨t2, rfl, ⟨v2, rfl, hd⟩, hb⟩
  have X1 := Lib.hid (Box.pcall hb X1.out)
  have X2 := Lib.hid (Box.pcall hb X2.out)
  have X3 := Lib.hid (Box.pcall hb X3.out)
  have HB := Lib.hid (below_call HB.out hb)
  have Hd := Lib.hid hd
  clear hb hd
  obtain ⟨c10, c11, f10, f11⟩ := X1.out.c2
  obtain ⟨c20, c21, f20, f21⟩ := X2.out.c2
  obtain ⟨c30, c31, f30, f31⟩ := X3.out.c2
  go_wp2_with fail
  clear c10 c11 f10 f11 c20 c21 f20 f21 c30 c31 f30 f31
  (first | (have hcall := imake_ai (neg := false) Hd.out.is; refine Calls.mono hcall ?_; clear hcall) | refine Calls.mono (imake_ai (neg := false) Hd.out.is) ?_)
  rintro e w3 ⟨v3, rfl, hr, hb⟩
  obtain ⟨adr, nr, capr, rfl⟩ := hr.lit
  have X1 := Lib.hid (Box.pcall hb X1.out)
  have X2 := Lib.hid (Box.pcall hb X2.out)
  have X3 := Lib.hid (Box.pcall hb X3.out)
  have HB := Lib.hid (below_call HB.out hb)
  have Hr := Lib.hid hr
  clear hb hr
  have e0 := iv_sub false Hc.out
  have Hs := Lib.hid (CL.mono (CL.cast e0 Hr.out) (Nat.le_max_left L M))
  clear e0 Hc Hk
  obtain ⟨c10, c11, f10, f11⟩ := X1.out.c2
  obtain ⟨c20, c21, f20, f21⟩ := X2.out.c2
  obtain ⟨c30, c31, f30, f31⟩ := X3.out.c2
  go_wp2
  exact ret_cl rfl rfl rfl X3.out (NoInt.bool _) (NoInt.slice _ _ _) Hs.out HB.out (by omega)


set_option maxRecDepth 100000 in
theorem riadd_ge_false {L M : Nat} {ma mb : Nat} {sa sb : Value} {w : World} (hc : mb ≤ ma) (ha : Is ma L w sa) (hb : Is mb M w sb) (hL : L ≤ 4294967296) (hM : M ≤ 4294967296) :
    Calls Try.prog 62 #[.agg #[.bool false, sa], .agg #[.bool true, sb]] w (Ret w (CL (iv false ma + iv true mb) (max L M))) := by
  have Ha := Lib.hid ha
  have Hb := Lib.hid hb
  have Hc := Lib.hid hc
  clear ha hb hc
  go_enter Try.func62, Try.ntmps62
  go_wp2_with fail
  obtain ⟨W, hW⟩ : ∃ W, W = (((w.alloc (.cells #[.bool false, sa] 33)).alloc (.cells #[.bool true, sb] 33)).alloc (.cells #[.bool false, .slice none 0 0] 33)) := ⟨_, rfl⟩
  rw [← hW]
  obtain ⟨x1, x2, x3, hk, hb⟩ := boxes_3 _ _ _ _ _ _ _ hW
  clear hW
  have Ha := Lib.hid (Is.keep Ha.out hk)
  have Hb := Lib.hid (Is.keep Hb.out hk)
  have X1 := Lib.hid x1
  have X2 := Lib.hid x2
  have X3 := Lib.hid x3
  have HB := Lib.hid hb
  clear hk hb x1 x2 x3
  (first | (have hcall := rsub_is2 (subErr_le Hc.out) Ha.out Hb.out hL; refine Calls.mono hcall ?_; clear hcall) | refine Calls.mono (rsub_is2 (subErr_le Hc.out) Ha.out Hb.out hL) ?_)
  rintro e w1 ⟨t1, rfl, ⟨v1, rfl, hd⟩, hb⟩
  have X1 := Lib.hid (Box.pcall hb X1.out)
  have X2 := Lib.hid (Box.pcall hb X2.out)
  have X3 := Lib.hid (Box.pcall hb X3.out)
  have HB := Lib.hid (below_call HB.out hb)
  have Hd := Lib.hid hd
  clear hb hd
  obtain ⟨c10, c11, f10, f11⟩ := X1.out.c2
  obtain ⟨c20, c21, f20, f21⟩ := X2.out.c2
  obtain ⟨c30, c31, f30, f31⟩ := X3.out.c2
  go_wp2_with fail
  clear c10 c11 f10 f11 c20 c21 f20 f21 c30 c31 f30 f31
  (first | (have hcall := rimake_ai (neg := false) Hd.out.is; refine Calls.mono hcall ?_; clear hcall) | refine Calls.mono (rimake_ai (neg := false) Hd.out.is) ?_)
  rintro e w2 ⟨v2, rfl, hr, hb⟩
  obtain ⟨adr, nr, capr, rfl⟩ := hr.lit
  have X1 := Lib.hid (Box.pcall hb X1.out)
  have X2 := Lib.hid (Box.pcall hb X2.out)
  have X3 := Lib.hid (Box.pcall hb X3.out)
  have HB := Lib.hid (below_call HB.out hb)
  have Hr := Lib.hid hr
  clear hb hr
  have e0 := iv_sub false Hc.out
  have Hs := Lib.hid (CL.mono (CL.cast e0 Hr.out) (Nat.le_max_left L M))
  clear e0 Hc
  obtain ⟨c10, c11, f10, f11⟩ := X1.out.c2
  obtain ⟨c20, c21, f20, f21⟩ := X2.out.c2
  obtain ⟨c30, c31, f30, f31⟩ := X3.out.c2
  go_wp2
  exact ret_cl rfl rfl rfl X3.out (NoInt.bool _) (NoInt.slice _ _ _) Hs.out HB.out (by omega)


set_option maxRecDepth 100000 in
theorem iadd_lt_false {L M : Nat} {ma mb : Nat} {p1 p2 : Option Addr} {n1 n2 q1 q2 : Nat} {w : World} (k : Int) (hk : cmpN ma mb = k) (hk0 : decide (k < 0) = true) (hc : ma < mb) (ha : Is ma L w (.slice p1 n1 q1)) (hb : Is mb M w (.slice p2 n2 q2)) (hL : L ≤ 4294967296) (hM : M ≤ 4294967296) :
    Calls Try.prog 56 #[.agg #[.bool false, .slice p1 n1 q1], .agg #[.bool true, .slice p2 n2 q2]] w (Ret w (CL (iv false ma + iv true mb) (max L M))) := by
  have Ha := Lib.hid ha
  have Hb := Lib.hid hb
  have Hc := Lib.hid hc
  have Hk := Lib.hid hk
  clear ha hb hc hk
  go_enter Try.func56, Try.ntmps56
  go_wp2_with fail
  obtain ⟨W, hW⟩ : ∃ W, W = (((w.alloc (.cells #[.bool false, .slice p1 n1 q1] 33)).alloc (.cells #[.bool true, .slice p2 n2 q2] 33)).alloc (.cells #[.bool false, .slice none 0 0] 33)) := ⟨_, rfl⟩
  rw [← hW]
  obtain ⟨x1, x2, x3, hk, hb⟩ := boxes_3 _ _ _ _ _ _ _ hW
  clear hW
  have Ha := Lib.hid (Is.keep Ha.out hk)
  have Hb := Lib.hid (Is.keep Hb.out hk)
  have X1 := Lib.hid x1
  have X2 := Lib.hid x2
  have X3 := Lib.hid x3
  have HB := Lib.hid hb
  clear hk hb x1 x2 x3
  (first | (have hcall := cmp_is k Ha.out Hb.out Hk.out; refine Calls.mono hcall ?_; clear hcall) | refine Calls.mono (cmp_is k Ha.out Hb.out Hk.out) ?_)
  rintro e w1 ⟨v1, rfl, rfl, hb⟩
  have Ha := Lib.hid (Is.keep Ha.out (Keep.call hb))
  have Hb := Lib.hid (Is.keep Hb.out (Keep.call hb))
  have X1 := Lib.hid (Box.pcall hb X1.out)
  have X2 := Lib.hid (Box.pcall hb X2.out)
  have X3 := Lib.hid (Box.pcall hb X3.out)
  have HB := Lib.hid (below_call HB.out hb)
  clear hb
  obtain ⟨c10, c11, f10, f11⟩ := X1.out.c2
  obtain ⟨c20, c21, f20, f21⟩ := X2.out.c2
  obtain ⟨c30, c31, f30, f31⟩ := X3.out.c2
  go_wp2_with fail
  clear c10 c11 f10 f11 c20 c21 f20 f21 c30 c31 f30 f31
  obtain ⟨W2, hW⟩ : ∃ W2, W2 = (World.setCell (World.setCell (World.setCell (World.setCell w1 ⟨w.heap.size, 0, none⟩ (.bool true)) ⟨w.heap.size, 1, none⟩ (.slice p2 n2 q2)) ⟨w.heap.size + 1, 0, none⟩ (.bool false)) ⟨w.heap.size + 1, 1, none⟩ (.slice p1 n1 q1)) := ⟨_, rfl⟩
  rw [← hW]
  obtain ⟨x1, x2, hk, hf, hbb⟩ := swapped2 hW X1.out X2.out (by omega) (by first | exact NoInt.bool _ | exact NoInt.slice _ _ _ | exact Ha.out.noInt | exact Hb.out.noInt) (by first | exact NoInt.bool _ | exact NoInt.slice _ _ _ | exact Ha.out.noInt | exact Hb.out.noInt) (by first | exact NoInt.bool _ | exact NoInt.slice _ _ _ | exact Ha.out.noInt | exact Hb.out.noInt) (by first | exact NoInt.bool _ | exact NoInt.slice _ _ _ | exact Ha.out.noInt | exact Hb.out.noInt)
  have Ha := Lib.hid (Is.keep Ha.out hk)
  have Hb := Lib.hid (Is.keep Hb.out hk)
  have X1 := Lib.hid x1
  have X2 := Lib.hid x2
  have X3 := Lib.hid (hf _ _ _ X3.out (by omega) (by omega))
  have HB := Lib.hid (hbb _ HB.out (by omega) (by omega))
  clear hW hk hf hbb x1 x2
  (first | (have hcall := sub_is2 (subErr_le (Nat.le_of_lt Hc.out)) Hb.out Ha.out hM; refine Calls.mono hcall ?_; clear hcall) | refine Calls.mono (sub_is2 (subErr_le (Nat.le_of_lt Hc.out)) Hb.out Ha.out hM) ?_)
  rintro e w3 ⟨t3, rfl, ⟨v3, rfl, hd⟩, hb⟩
  have X1 := Lib.hid (Box.pcall hb X1.out)
  have X2 := Lib.hid (Box.pcall hb X2.out)
  have X3 := Lib.hid (Box.pcall hb X3.out)
  have HB := Lib.hid (below_call HB.out hb)
  have Hd := Lib.hid hd
  clear hb hd
  obtain ⟨c10, c11, f10, f11⟩ := X1.out.c2
  obtain ⟨c20, c21, f20, f21⟩ := X2.out.c2
  obtain ⟨c30, c31, f30, f31⟩ := X3.out.c2
  go_wp2_with fail
  clear c10 c11 f10 f11 c20 c21 f20 f21 c30 c31 f30 f31
  (first | (have hcall := imake_ai (neg := true) Hd.out.is; refine Calls.mono hcall ?_; clear hcall) | refine Calls.mono (imake_ai (neg := true) Hd.out.is) ?_)
  rintro e w4 ⟨v4, rfl, hr, hb⟩
  obtain ⟨adr, nr, capr, rfl⟩ := hr.lit
  have X1 := Lib.hid (Box.pcall hb X1.out)
  have X2 := Lib.hid (Box.pcall hb X2.out)
  have X3 := Lib.hid (Box.pcall hb X3.out)
  have HB := Lib.hid (below_call HB.out hb)
  have Hr := Lib.hid hr
  clear hb hr
  have e0 := iv_sub' false (Nat.le_of_lt Hc.out)
  have Hs := Lib.hid (CL.mono (CL.cast e0 Hr.out) (Nat.le_max_right L M))
  clear e0 Hc Hk
  obtain ⟨c10, c11, f10, f11⟩ := X1.out.c2
  obtain ⟨c20, c21, f20, f21⟩ := X2.out.c2
  obtain ⟨c30, c31, f30, f31⟩ := X3.out.c2
  go_wp2
  exact ret_cl rfl rfl rfl X3.out (NoInt.bool _) (NoInt.slice _ _ _) Hs.out HB.out (by omega)


set_option maxRecDepth 100000 in
theorem riadd_lt_false {L M : Nat} {ma mb : Nat} {sa sb : Value} {w : World} (hc : ma < mb) (ha : Is ma L w sa) (hb : Is mb M w sb) (hL : L ≤ 4294967296) (hM : M ≤ 4294967296) :
    Calls Try.prog 62 #[.agg #[.bool false, sa], .agg #[.bool true, sb]] w (Ret w (CL (iv false ma + iv true mb) (max L M))) := by
  have Ha := Lib.hid ha
  have Hb := Lib.hid hb
  have Hc := Lib.hid hc
  clear ha hb hc
  go_enter Try.func62, Try.ntmps62
  go_wp2_with fail
  obtain ⟨W, hW⟩ : ∃ W, W = (((w.alloc (.cells #[.bool false, sa] 33)).alloc (.cells #[.bool true, sb] 33)).alloc (.cells #[.bool false, .slice none 0 0] 33)) := ⟨_, rfl⟩
  rw [← hW]
  obtain ⟨x1, x2, x3, hk, hb⟩ := boxes_3 _ _ _ _ _ _ _ hW
  clear hW
  have Ha := Lib.hid (Is.keep Ha.out hk)
  have Hb := Lib.hid (Is.keep Hb.out hk)
  have X1 := Lib.hid x1
  have X2 := Lib.hid x2
  have X3 := Lib.hid x3
  have HB := Lib.hid hb
  clear hk hb x1 x2 x3
  (first | (have hcall := rsub_is2 (subErr_lt Hc.out) Ha.out Hb.out hL; refine Calls.mono hcall ?_; clear hcall) | refine Calls.mono (rsub_is2 (subErr_lt Hc.out) Ha.out Hb.out hL) ?_)
  rintro e w1 ⟨t1, rfl, ⟨v1, rfl, hy⟩, hb⟩
  have Ha := Lib.hid (Is.keep Ha.out (Keep.call hb))
  have Hb := Lib.hid (Is.keep Hb.out (Keep.call hb))
  have X1 := Lib.hid (Box.pcall hb X1.out)
  have X2 := Lib.hid (Box.pcall hb X2.out)
  have X3 := Lib.hid (Box.pcall hb X3.out)
  have HB := Lib.hid (below_call HB.out hb)
  have Hy := Lib.hid hy
  clear hb hy
  obtain ⟨c10, c11, f10, f11⟩ := X1.out.c2
  obtain ⟨c20, c21, f20, f21⟩ := X2.out.c2
  obtain ⟨c30, c31, f30, f31⟩ := X3.out.c2
  go_wp2_with fail
  clear c10 c11 f10 f11 c20 c21 f20 f21 c30 c31 f30 f31
  (first | (have hcall := rsub_is2 (subErr_le (Nat.le_of_lt Hc.out)) Hb.out Ha.out hM; refine Calls.mono hcall ?_; clear hcall) | refine Calls.mono (rsub_is2 (subErr_le (Nat.le_of_lt Hc.out)) Hb.out Ha.out hM) ?_)
  rintro e w2 ⟨t2, rfl, ⟨v2, rfl, hd⟩, hb⟩
  have X1 := Lib.hid (Box.pcall hb X1.out)
  have X2 := Lib.hid (Box.pcall hb X2.out)
  have X3 := Lib.hid (Box.pcall hb X3.out)
  have HB := Lib.hid (below_call HB.out hb)
  have Hd := Lib.hid hd
  clear hb hd
  obtain ⟨c10, c11, f10, f11⟩ := X1.out.c2
  obtain ⟨c20, c21, f20, f21⟩ := X2.out.c2
  obtain ⟨c30, c31, f30, f31⟩ := X3.out.c2
  go_wp2_with fail
  clear c10 c11 f10 f11 c20 c21 f20 f21 c30 c31 f30 f31
  (first | (have hcall := rimake_ai (neg := true) Hd.out.is; refine Calls.mono hcall ?_; clear hcall) | refine Calls.mono (rimake_ai (neg := true) Hd.out.is) ?_)
  rintro e w3 ⟨v3, rfl, hr, hb⟩
  obtain ⟨adr, nr, capr, rfl⟩ := hr.lit
  have X1 := Lib.hid (Box.pcall hb X1.out)
  have X2 := Lib.hid (Box.pcall hb X2.out)
  have X3 := Lib.hid (Box.pcall hb X3.out)
  have HB := Lib.hid (below_call HB.out hb)
  have Hr := Lib.hid hr
  clear hb hr
  have e0 := iv_sub' false (Nat.le_of_lt Hc.out)
  have Hs := Lib.hid (CL.mono (CL.cast e0 Hr.out) (Nat.le_max_right L M))
  clear e0 Hc
  obtain ⟨c10, c11, f10, f11⟩ := X1.out.c2
  obtain ⟨c20, c21, f20, f21⟩ := X2.out.c2
  obtain ⟨c30, c31, f30, f31⟩ := X3.out.c2
  go_wp2
  exact ret_cl rfl rfl rfl X3.out (NoInt.bool _) (NoInt.slice _ _ _) Hs.out HB.out (by omega)


set_option maxRecDepth 100000 in
theorem iadd_ge_true {L M : Nat} {ma mb : Nat} {sa sb : Value} {w : World} (k : Int) (hk : cmpN ma mb = k) (hk0 : decide (k < 0) = false) (hc : mb ≤ ma) (ha : Is ma L w sa) (hb : Is mb M w sb) (hL : L ≤ 4294967296) (hM : M ≤ 4294967296) :
    Calls Try.prog 56 #[.agg #[.bool true, sa], .agg #[.bool false, sb]] w (Ret w (CL (iv true ma + iv false mb) (max L M))) := by
  have Ha := Lib.hid ha
  have Hb := Lib.hid hb
  have Hc := Lib.hid hc
  have Hk := Lib.hid hk
  clear ha hb hc hk
  go_enter Try.func56, Try.ntmps56
  go_wp2_with fail
  obtain ⟨W, hW⟩ : ∃ W, W = (((w.alloc (.cells #[.bool true, sa] 33)).alloc (.cells #[.bool false, sb] 33)).alloc (.cells #[.bool false, .slice none 0 0] 33)) := ⟨_, rfl⟩
  rw [← hW]
  obtain ⟨x1, x2, x3, hk, hb⟩ := boxes_3 _ _ _ _ _ _ _ hW
  clear hW
  have Ha := Lib.hid (Is.keep Ha.out hk)
  have Hb := Lib.hid (Is.keep Hb.out hk)
  have X1 := Lib.hid x1
  have X2 := Lib.hid x2
  have X3 := Lib.hid x3
  have HB := Lib.hid hb
  clear hk hb x1 x2 x3
  (first | (have hcall := cmp_is k Ha.out Hb.out Hk.out; refine Calls.mono hcall ?_; clear hcall) | refine Calls.mono (cmp_is k Ha.out Hb.out Hk.out) ?_)
  rintro e w1 ⟨v1, rfl, rfl, hb⟩
  have Ha := Lib.hid (Is.keep Ha.out (Keep.call hb))
  have Hb := Lib.hid (Is.keep Hb.out (Keep.call hb))
  have X1 := Lib.hid (Box.pcall hb X1.out)
  have X2 := Lib.hid (Box.pcall hb X2.out)
  have X3 := Lib.hid (Box.pcall hb X3.out)
  have HB := Lib.hid (below_call HB.out hb)
  clear hb
  obtain ⟨c10, c11, f10, f11⟩ := X1.out.c2
  obtain ⟨c20, c21, f20, f21⟩ := X2.out.c2
  obtain ⟨c30, c31, f30, f31⟩ := X3.out.c2
  go_wp2_with fail
  clear c10 c11 f10 f11 c20 c21 f20 f21 c30 c31 f30 f31
  (first | (have hcall := sub_is2 (subErr_le Hc.out) Ha.out Hb.out hL; refine Calls.mono hcall ?_; clear hcall) | refine Calls.mono (sub_is2 (subErr_le Hc.out) Ha.out Hb.out hL) ?_)
  rintro e w2 ⟨t2, rfl, ⟨v2, rfl, hd⟩, hb⟩
  have X1 := Lib.hid (Box.pcall hb X1.out)
  have X2 := Lib.hid (Box.pcall hb X2.out)
  have X3 := Lib.hid (Box.pcall hb X3.out)
  have HB := Lib.hid (below_call HB.out hb)
  have Hd := Lib.hid hd
  clear hb hd
  obtain ⟨c10, c11, f10, f11⟩ := X1.out.c2
  obtain ⟨c20, c21, f20, f21⟩ := X2.out.c2
  obtain ⟨c30, c31, f30, f31⟩ := X3.out.c2
  go_wp2_with fail
  clear c10 c11 f10 f11 c20 c21 f20 f21 c30 c31 f30 f31
  (first | (have hcall := imake_ai (neg := true) Hd.out.is; refine Calls.mono hcall ?_; clear hcall) | refine Calls.mono (imake_ai (neg := true) Hd.out.is) ?_)
  rintro e w3 ⟨v3, rfl, hr, hb⟩
  obtain ⟨adr, nr, capr, rfl⟩ := hr.lit
  have X1 := Lib.hid (Box.pcall hb X1.out)
  have X2 := Lib.hid (Box.pcall hb X2.out)
  have X3 := Lib.hid (Box.pcall hb X3.out)
  have HB := Lib.hid (below_call HB.out hb)
  have Hr := Lib.hid hr
  clear hb hr
  have e0 := iv_sub true Hc.out
  have Hs := Lib.hid (CL.mono (CL.cast e0 Hr.out) (Nat.le_max_left L M))
  clear e0 Hc Hk
  obtain ⟨c10, c11, f10, f11⟩ := X1.out.c2
  obtain ⟨c20, c21, f20, f21⟩ := X2.out.c2
  obtain ⟨c30, c31, f30, f31⟩ := X3.out.c2
  go_wp2
  exact ret_cl rfl rfl rfl X3.out (NoInt.bool _) (NoInt.slice _ _ _) Hs.out HB.out (by omega)


set_option maxRecDepth 100000 in
theorem riadd_ge_true {L M : Nat} {ma mb : Nat} {sa sb : Value} {w : World} (hc : mb ≤ ma) (ha : Is ma L w sa) (hb : Is mb M w sb) (hL : L ≤ 4294967296) (hM : M ≤ 4294967296) :
    Calls Try.prog 62 #[.agg #[.bool true, sa], .agg #[.bool false, sb]] w (Ret w (CL (iv true ma + iv false mb) (max L M))) := by
  have Ha := Lib.hid ha
  have Hb := Lib.hid hb
  have Hc := Lib.hid hc
  clear ha hb hc
  go_enter Try.func62, Try.ntmps62
  go_wp2_with fail
  obtain ⟨W, hW⟩ : ∃ W, W = (((w.alloc (.cells #[.bool true, sa] 33)).alloc (.cells #[.bool false, sb] 33)).alloc (.cells #[.bool false, .slice none 0 0] 33)) := ⟨_, rfl⟩
  rw [← hW]
  obtain ⟨x1, x2, x3, hk, hb⟩ := boxes_3 _ _ _ _ _ _ _ hW
  clear hW
  have Ha := Lib.hid (Is.keep Ha.out hk)
  have Hb := Lib.hid (Is.keep Hb.out hk)
  have X1 := Lib.hid x1
  have X2 := Lib.hid x2
  have X3 := Lib.hid x3
  have HB := Lib.hid hb
  clear hk hb x1 x2 x3
  (first | (have hcall := rsub_is2 (subErr_le Hc.out) Ha.out Hb.out hL; refine Calls.mono hcall ?_; clear hcall) | refine Calls.mono (rsub_is2 (subErr_le Hc.out) Ha.out Hb.out hL) ?_)
  rintro e w1 ⟨t1, rfl, ⟨v1, rfl, hd⟩, hb⟩
  have X1 := Lib.hid (Box.pcall hb X1.out)
  have X2 := Lib.hid (Box.pcall hb X2.out)
  have X3 := Lib.hid (Box.pcall hb X3.out)
  have HB := Lib.hid (below_call HB.out hb)
  have Hd := Lib.hid hd
  clear hb hd
  obtain ⟨c10, c11, f10, f11⟩ := X1.out.c2
  obtain ⟨c20, c21, f20, f21⟩ := X2.out.c2
  obtain ⟨c30, c31, f30, f31⟩ := X3.out.c2
  go_wp2_with fail
  clear c10 c11 f10 f11 c20 c21 f20 f21 c30 c31 f30 f31
  (first | (have hcall := rimake_ai (neg := true) Hd.out.is; refine Calls.mono hcall ?_; clear hcall) | refine Calls.mono (rimake_ai (neg := true) Hd.out.is) ?_)
  rintro e w2 ⟨v2, rfl, hr, hb⟩
  obtain ⟨adr, nr, capr, rfl⟩ := hr.lit
  have X1 := Lib.hid (Box.pcall hb X1.out)
  have X2 := Lib.hid (Box.pcall hb X2.out)
  have X3 := Lib.hid (Box.pcall hb X3.out)
  have HB := Lib.hid (below_call HB.out hb)
  have Hr := Lib.hid hr
  clear hb hr
  have e0 := iv_sub true Hc.out
  have Hs := Lib.hid (CL.mono (CL.cast e0 Hr.out) (Nat.le_max_left L M))
  clear e0 Hc
  obtain ⟨c10, c11, f10, f11⟩ := X1.out.c2
  obtain ⟨c20, c21, f20, f21⟩ := X2.out.c2
  obtain ⟨c30, c31, f30, f31⟩ := X3.out.c2
  go_wp2
  exact ret_cl rfl rfl rfl X3.out (NoInt.bool _) (NoInt.slice _ _ _) Hs.out HB.out (by omega)


set_option maxRecDepth 100000 in
theorem iadd_lt_true {L M : Nat} {ma mb : Nat} {p1 p2 : Option Addr} {n1 n2 q1 q2 : Nat} {w : World} (k : Int) (hk : cmpN ma mb = k) (hk0 : decide (k < 0) = true) (hc : ma < mb) (ha : Is ma L w (.slice p1 n1 q1)) (hb : Is mb M w (.slice p2 n2 q2)) (hL : L ≤ 4294967296) (hM : M ≤ 4294967296) :
    Calls Try.prog 56 #[.agg #[.bool true, .slice p1 n1 q1], .agg #[.bool false, .slice p2 n2 q2]] w (Ret w (CL (iv true ma + iv false mb) (max L M))) := by
  have Ha := Lib.hid ha
  have Hb := Lib.hid hb
  have Hc := Lib.hid hc
  have Hk := Lib.hid hk
  clear ha hb hc hk
  go_enter Try.func56, Try.ntmps56
  go_wp2_with fail
  obtain ⟨W, hW⟩ : ∃ W, W = (((w.alloc (.cells #[.bool true, .slice p1 n1 q1] 33)).alloc (.cells #[.bool false, .slice p2 n2 q2] 33)).alloc (.cells #[.bool false, .slice none 0 0] 33)) := ⟨_, rfl⟩
  rw [← hW]
  obtain ⟨x1, x2, x3, hk, hb⟩ := boxes_3 _ _ _ _ _ _ _ hW
  clear hW
  have Ha := Lib.hid (Is.keep Ha.out hk)
  have Hb := Lib.hid (Is.keep Hb.out hk)
  have X1 := Lib.hid x1
  have X2 := Lib.hid x2
  have X3 := Lib.hid x3
  have HB := Lib.hid hb
  clear hk hb x1 x2 x3
  (first | (have hcall := cmp_is k Ha.out Hb.out Hk.out; refine Calls.mono hcall ?_; clear hcall) | refine Calls.mono (cmp_is k Ha.out Hb.out Hk.out) ?_)
  rintro e w1 ⟨v1, rfl, rfl, hb⟩
  have Ha := Lib.hid (Is.keep Ha.out (Keep.call hb))
  have Hb := Lib.hid (Is.keep Hb.out (Keep.call hb))
  have X1 := Lib.hid (Box.pcall hb X1.out)
  have X2 := Lib.hid (Box.pcall hb X2.out)
  have X3 := Lib.hid (Box.pcall hb X3.out)
  have HB := Lib.hid (below_call HB.out hb)
  clear hb
  obtain ⟨c10, c11, f10, f11⟩ := X1.out.c2
  obtain ⟨c20, c21, f20, f21⟩ := X2.out.c2
  obtain ⟨c30, c31, f30, f31⟩ := X3.out.c2
  go_wp2_with fail
  clear c10 c11 f10 f11 c20 c21 f20 f21 c30 c31 f30 f31
  obtain ⟨W2, hW⟩ : ∃ W2, W2 = (World.setCell (World.setCell (World.setCell (World.setCell w1 ⟨w.heap.size, 0, none⟩ (.bool false)) ⟨w.heap.size, 1, none⟩ (.slice p2 n2 q2)) ⟨w.heap.size + 1, 0, none⟩ (.bool true)) ⟨w.heap.size + 1, 1, none⟩ (.slice p1 n1 q1)) := ⟨_, rfl⟩
  rw [← hW]
  obtain ⟨x1, x2, hk, hf, hbb⟩ := swapped2 hW X1.out X2.out (by omega) (by first | exact NoInt.bool _ | exact NoInt.slice _ _ _ | exact Ha.out.noInt | exact Hb.out.noInt) (by first | exact NoInt.bool _ | exact NoInt.slice _ _ _ | exact Ha.out.noInt | exact Hb.out.noInt) (by first | exact NoInt.bool _ | exact NoInt.slice _ _ _ | exact Ha.out.noInt | exact Hb.out.noInt) (by first | exact NoInt.bool _ | exact NoInt.slice _ _ _ | exact Ha.out.noInt | exact Hb.out.noInt)
  have Ha := Lib.hid (Is.keep Ha.out hk)
  have Hb := Lib.hid (Is.keep Hb.out hk)
  have X1 := Lib.hid x1
  have X2 := Lib.hid x2
  have X3 := Lib.hid (hf _ _ _ X3.out (by omega) (by omega))
  have HB := Lib.hid (hbb _ HB.out (by omega) (by omega))
  clear hW hk hf hbb x1 x2
  (first | (have hcall := sub_is2 (subErr_le (Nat.le_of_lt Hc.out)) Hb.out Ha.out hM; refine Calls.mono hcall ?_; clear hcall) | refine Calls.mono (sub_is2 (subErr_le (Nat.le_of_lt Hc.out)) Hb.out Ha.out hM) ?_)
  rintro e w3 ⟨t3, rfl, ⟨v3, rfl, hd⟩, hb⟩
  have X1 := Lib.hid (Box.pcall hb X1.out)
  have X2 := Lib.hid (Box.pcall hb X2.out)
  have X3 := Lib.hid (Box.pcall hb X3.out)
  have HB := Lib.hid (below_call HB.out hb)
  have Hd := Lib.hid hd
  clear hb hd
  obtain ⟨c10, c11, f10, f11⟩ := X1.out.c2
  obtain ⟨c20, c21, f20, f21⟩ := X2.out.c2
  obtain ⟨c30, c31, f30, f31⟩ := X3.out.c2
  go_wp2_with fail
  clear c10 c11 f10 f11 c20 c21 f20 f21 c30 c31 f30 f31
  (first | (have hcall := imake_ai (neg := false) Hd.out.is; refine Calls.mono hcall ?_; clear hcall) | refine Calls.mono (imake_ai (neg := false) Hd.out.is) ?_)
  rintro e w4 ⟨v4, rfl, hr, hb⟩
  obtain ⟨adr, nr, capr, rfl⟩ := hr.lit
  have X1 := Lib.hid (Box.pcall hb X1.out)
  have X2 := Lib.hid (Box.pcall hb X2.out)
  have X3 := Lib.hid (Box.pcall hb X3.out)
  have HB := Lib.hid (below_call HB.out hb)
  have Hr := Lib.hid hr
  clear hb hr
  have e0 := iv_sub' true (Nat.le_of_lt Hc.out)
  have Hs := Lib.hid (CL.mono (CL.cast e0 Hr.out) (Nat.le_max_right L M))
  clear e0 Hc Hk
  obtain ⟨c10, c11, f10, f11⟩ := X1.out.c2
  obtain ⟨c20, c21, f20, f21⟩ := X2.out.c2
  obtain ⟨c30, c31, f30, f31⟩ := X3.out.c2
  go_wp2
  exact ret_cl rfl rfl rfl X3.out (NoInt.bool _) (NoInt.slice _ _ _) Hs.out HB.out (by omega)


set_option maxRecDepth 100000 in
theorem riadd_lt_true {L M : Nat} {ma mb : Nat} {sa sb : Value} {w : World} (hc : ma < mb) (ha : Is ma L w sa) (hb : Is mb M w sb) (hL : L ≤ 4294967296) (hM : M ≤ 4294967296) :
    Calls Try.prog 62 #[.agg #[.bool true, sa], .agg #[.bool false, sb]] w (Ret w (CL (iv true ma + iv false mb) (max L M))) := by
  have Ha := Lib.hid ha
  have Hb := Lib.hid hb
  have Hc := Lib.hid hc
  clear ha hb hc
  go_enter Try.func62, Try.ntmps62
  go_wp2_with fail
  obtain ⟨W, hW⟩ : ∃ W, W = (((w.alloc (.cells #[.bool true, sa] 33)).alloc (.cells #[.bool false, sb] 33)).alloc (.cells #[.bool false, .slice none 0 0] 33)) := ⟨_, rfl⟩
  rw [← hW]
  obtain ⟨x1, x2, x3, hk, hb⟩ := boxes_3 _ _ _ _ _ _ _ hW
  clear hW
  have Ha := Lib.hid (Is.keep Ha.out hk)
  have Hb := Lib.hid (Is.keep Hb.out hk)
  have X1 := Lib.hid x1
  have X2 := Lib.hid x2
  have X3 := Lib.hid x3
  have HB := Lib.hid hb
  clear hk hb x1 x2 x3
  (first | (have hcall := rsub_is2 (subErr_lt Hc.out) Ha.out Hb.out hL; refine Calls.mono hcall ?_; clear hcall) | refine Calls.mono (rsub_is2 (subErr_lt Hc.out) Ha.out Hb.out hL) ?_)
  rintro e w1 ⟨t1, rfl, ⟨v1, rfl, hy⟩, hb⟩
  have Ha := Lib.hid (Is.keep Ha.out (Keep.call hb))
  have Hb := Lib.hid (Is.keep Hb.out (Keep.call hb))
  have X1 := Lib.hid (Box.pcall hb X1.out)
  have X2 := Lib.hid (Box.pcall hb X2.out)
  have X3 := Lib.hid (Box.pcall hb X3.out)
  have HB := Lib.hid (below_call HB.out hb)
  have Hy := Lib.hid hy
  clear hb hy
  obtain ⟨c10, c11, f10, f11⟩ := X1.out.c2
  obtain ⟨c20, c21, f20, f21⟩ := X2.out.c2
  obtain ⟨c30, c31, f30, f31⟩ := X3.out.c2
  go_wp2_with fail
  clear c10 c11 f10 f11 c20 c21 f20 f21 c30 c31 f30 f31
  (first | (have hcall := rsub_is2 (subErr_le (Nat.le_of_lt Hc.out)) Hb.out Ha.out hM; refine Calls.mono hcall ?_; clear hcall) | refine Calls.mono (rsub_is2 (subErr_le (Nat.le_of_lt Hc.out)) Hb.out Ha.out hM) ?_)
  rintro e w2 ⟨t2, rfl, ⟨v2, rfl, hd⟩, hb⟩
  have X1 := Lib.hid (Box.pcall hb X1.out)
  have X2 := Lib.hid (Box.pcall hb X2.out)
  have X3 := Lib.hid (Box.pcall hb X3.out)
  have HB := Lib.hid (below_call HB.out hb)
  have Hd := Lib.hid hd
  clear hb hd
  obtain ⟨c10, c11, f10, f11⟩ := X1.out.c2
  obtain ⟨c20, c21, f20, f21⟩ := X2.out.c2
  obtain ⟨c30, c31, f30, f31⟩ := X3.out.c2
  go_wp2_with fail
  clear c10 c11 f10 f11 c20 c21 f20 f21 c30 c31 f30 f31
  (first | (have hcall := rimake_ai (neg := false) Hd.out.is; refine Calls.mono hcall ?_; clear hcall) | refine Calls.mono (rimake_ai (neg := false) Hd.out.is) ?_)
  rintro e w3 ⟨v3, rfl, hr, hb⟩
  obtain ⟨adr, nr, capr, rfl⟩ := hr.lit
  have X1 := Lib.hid (Box.pcall hb X1.out)
  have X2 := Lib.hid (Box.pcall hb X2.out)
  have X3 := Lib.hid (Box.pcall hb X3.out)
  have HB := Lib.hid (below_call HB.out hb)
  have Hr := Lib.hid hr
  clear hb hr
  have e0 := iv_sub' true (Nat.le_of_lt Hc.out)
  have Hs := Lib.hid (CL.mono (CL.cast e0 Hr.out) (Nat.le_max_right L M))
  clear e0 Hc
  obtain ⟨c10, c11, f10, f11⟩ := X1.out.c2
  obtain ⟨c20, c21, f20, f21⟩ := X2.out.c2
  obtain ⟨c30, c31, f30, f31⟩ := X3.out.c2
  go_wp2
  exact ret_cl rfl rfl rfl X3.out (NoInt.bool _) (NoInt.slice _ _ _) Hs.out HB.out (by omega)


theorem iadd_ai {y z : Int} {L M : Nat} {u v : Value} {w : World} (h : AI y L w u) (h' : AI z M w v) (hL : L ≤ 4294967296) (hM : M ≤ 4294967296) :
    Calls Try.prog 56 #[u, v] w (Ret w (CL (y + z) (max L M + 1))) := by
  obtain ⟨na, sa, ma, rfl, ha, rfl⟩ := h
  obtain ⟨nb, sb, mb, rfl, hb, rfl⟩ := h'
  obtain ⟨p1, n1, q1, rfl⟩ := ha.lit
  obtain ⟨p2, n2, q2, rfl⟩ := hb.lit
  rcases Nat.lt_or_ge ma mb with hc | hc <;> cases na <;> cases nb
  · exact iadd_bx_false ha hb hL hM
  · exact (iadd_lt_false _ rfl (by rw [cmpN_lt hc]; rfl) hc ha hb hL hM).mono fun e w' h => h.mono_cl (Nat.le_succ _)
  · exact (iadd_lt_true _ rfl (by rw [cmpN_lt hc]; rfl) hc ha hb hL hM).mono fun e w' h => h.mono_cl (Nat.le_succ _)
  · exact iadd_bx_true ha hb hL hM
  · exact iadd_bx_false ha hb hL hM
  · exact (iadd_ge_false _ rfl (by rw [cmpN_ge hc]) hc ha hb hL hM).mono fun e w' h => h.mono_cl (Nat.le_succ _)
  · exact (iadd_ge_true _ rfl (by rw [cmpN_ge hc]) hc ha hb hL hM).mono fun e w' h => h.mono_cl (Nat.le_succ _)
  · exact iadd_bx_true ha hb hL hM

theorem riadd_ai {y z : Int} {L M : Nat} {u v : Value} {w : World} (h : AI y L w u) (h' : AI z M w v) (hL : L ≤ 4294967296) (hM : M ≤ 4294967296) :
    Calls Try.prog 62 #[u, v] w (Ret w (CL (y + z) (max L M + 1))) := by
  obtain ⟨na, sa, ma, rfl, ha, rfl⟩ := h
  obtain ⟨nb, sb, mb, rfl, hb, rfl⟩ := h'
  obtain ⟨p1, n1, q1, rfl⟩ := ha.lit
  obtain ⟨p2, n2, q2, rfl⟩ := hb.lit
  rcases Nat.lt_or_ge ma mb with hc | hc <;> cases na <;> cases nb
  · exact riadd_bx_false ha hb hL hM
  · exact (riadd_lt_false hc ha hb hL hM).mono fun e w' h => h.mono_cl (Nat.le_succ _)
  · exact (riadd_lt_true hc ha hb hL hM).mono fun e w' h => h.mono_cl (Nat.le_succ _)
  · exact riadd_bx_true ha hb hL hM
  · exact riadd_bx_false ha hb hL hM
  · exact (riadd_ge_false hc ha hb hL hM).mono fun e w' h => h.mono_cl (Nat.le_succ _)
  · exact (riadd_ge_true hc ha hb hL hM).mono fun e w' h => h.mono_cl (Nat.le_succ _)
  · exact riadd_bx_true ha hb hL hM

end Go.Proofs.Ytfkjhaniglmejaa
