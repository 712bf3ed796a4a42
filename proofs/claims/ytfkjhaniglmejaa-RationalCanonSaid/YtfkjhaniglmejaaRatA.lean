/- Layer 3: results out of cells; small functions. Printed by ratd.py. -/
import Derived.Test.YtfkjhaniglmejaaRat0
import Derived.Deep.RegionHeld3
namespace Go.Proofs.Ytfkjhaniglmejaa
open Go.RowKit Nt
set_option linter.unusedVariables false

theorem box_range {w : World} {g : Nat} {t : TypeId} {cs : Array Value} (h : Box w g t cs) : w.rangeAt g 0 cs.toList := by
  intro j v hv
  rw [Nat.zero_add]
  exact h.cell j (by simpa using hv)
theorem results_ie {fn : Func} {p r : Tmp} {ty : TypeId} (h : fn.results = #[.cell p ty, .tmp r]) (tmps : Array Value) (P : Program) (w : World) (g : Nat) (cs : List Value) (z : Value) (d : TypeDesc)
    (hp : tmps.getD p undef = .pointer (some ⟨g, 0, none⟩)) (hz : tmps.getD r undef = z) (hc : w.rangeAt g 0 cs) (hu : P.underlying ty = some d) (hd : d.isRow = true) (hi : (P.info? ty).map (·.size) = some cs.length) :
    (results fn tmps).run P w = .ok (.tuple #[.agg cs.toArray, z]) w := by
  have hp' : tmps[p]?.getD undef = .pointer (some ⟨g, 0, none⟩) := by simpa using hp
  have hz' : tmps[r]?.getD undef = z := by simpa using hz
  simp [results, h, hp', hz', asAddr, run_loadVar_mid w g 0 ty cs d hc hu hd hi]
theorem results_ii {fn : Func} {p q : Tmp} {ty ty' : TypeId} (h : fn.results = #[.cell p ty, .cell q ty']) (tmps : Array Value) (P : Program) (w : World) (g g' : Nat) (cs cs' : List Value) (d d' : TypeDesc)
    (hp : tmps.getD p undef = .pointer (some ⟨g, 0, none⟩)) (hq : tmps.getD q undef = .pointer (some ⟨g', 0, none⟩)) (hc : w.rangeAt g 0 cs) (hc' : w.rangeAt g' 0 cs')
    (hu : P.underlying ty = some d) (hd : d.isRow = true) (hi : (P.info? ty).map (·.size) = some cs.length) (hu' : P.underlying ty' = some d') (hd' : d'.isRow = true) (hi' : (P.info? ty').map (·.size) = some cs'.length) :
    (results fn tmps).run P w = .ok (.tuple #[.agg cs.toArray, .agg cs'.toArray]) w := by
  have hp' : tmps[p]?.getD undef = .pointer (some ⟨g, 0, none⟩) := by simpa using hp
  have hq' : tmps[q]?.getD undef = .pointer (some ⟨g', 0, none⟩) := by simpa using hq
  simp [results, h, hp', hq', asAddr, run_loadVar_mid w g 0 ty cs d hc hu hd hi, run_loadVar_mid w g' 0 ty' cs' d' hc' hu' hd' hi']
theorem ret_int1 {fn : Func} {p : Tmp} {a : Act} {w0 W : World} {R : World → Value → Prop} {g : Nat} {t : TypeId} {x y : Value} (hres : fn.results = #[.cell p 33])
    (hp : a.tmps.getD p undef = .pointer (some ⟨g, 0, none⟩)) (hd : a.defers = []) (X : Box W g t #[x, y]) (hR : R W (.agg #[x, y])) (HB : Below w0.heap.size w0 W) : bodyPost Try.prog fn (Ret w0 R) .ret a W :=
  bodyPost_ret (results_mid hres a.tmps _ W g [x, y] _ hp (box_range X) Try.underlying33 rfl (by kernel_rfl)) hd ⟨_, rfl, hR, HB⟩
theorem ret_rat1 {fn : Func} {p : Tmp} {a : Act} {w0 W : World} {R : World → Value → Prop} {g : Nat} {t : TypeId} {x y z : Value} (hres : fn.results = #[.cell p 25])
    (hp : a.tmps.getD p undef = .pointer (some ⟨g, 0, none⟩)) (hd : a.defers = []) (X : Box W g t #[x, y, z]) (hR : R W (.agg #[x, y, z])) (HB : Below w0.heap.size w0 W) : bodyPost Try.prog fn (Ret w0 R) .ret a W :=
  bodyPost_ret (results_mid hres a.tmps _ W g [x, y, z] _ hp (box_range X) Try.underlying25 rfl (by kernel_rfl)) hd ⟨_, rfl, hR, HB⟩
theorem ret_re {fn : Func} {p r : Tmp} {a : Act} {w0 W : World} {R : World → Value → Prop} {g : Nat} {t : TypeId} {x y z u : Value} (hres : fn.results = #[.cell p 25, .tmp r])
    (hp : a.tmps.getD p undef = .pointer (some ⟨g, 0, none⟩)) (hz : a.tmps.getD r undef = u) (hd : a.defers = []) (X : Box W g t #[x, y, z]) (hR : R W (.tuple #[.agg #[x, y, z], u])) (HB : Below w0.heap.size w0 W) : bodyPost Try.prog fn (Ret w0 R) .ret a W :=
  bodyPost_ret (results_ie hres a.tmps _ W g [x, y, z] u _ hp hz (box_range X) Try.underlying25 rfl (by kernel_rfl)) hd ⟨_, rfl, hR, HB⟩
theorem ret_ii {fn : Func} {p q : Tmp} {a : Act} {w0 W : World} {R : World → Value → Prop} {g h : Nat} {t t' : TypeId} {x y x' y' : Value} (hres : fn.results = #[.cell p 33, .cell q 33])
    (hp : a.tmps.getD p undef = .pointer (some ⟨g, 0, none⟩)) (hq : a.tmps.getD q undef = .pointer (some ⟨h, 0, none⟩)) (hd : a.defers = []) (X : Box W g t #[x, y]) (Y : Box W h t' #[x', y'])
    (hR : R W (.tuple #[.agg #[x, y], .agg #[x', y']])) (HB : Below w0.heap.size w0 W) : bodyPost Try.prog fn (Ret w0 R) .ret a W :=
  bodyPost_ret (results_ii hres a.tmps _ W g h [x, y] [x', y'] _ _ hp hq (box_range X) (box_range Y) Try.underlying33 rfl (by kernel_rfl) Try.underlying33 rfl (by kernel_rfl)) hd ⟨_, rfl, hR, HB⟩
theorem stored3_0 {W W' : World} {g : Nat} {t : TypeId} {x y z x' : Value} (hW : W' = W.setCell ⟨g, 0, none⟩ x') (X : Box W g t #[x, y, z]) (hx : NoInt x) :
    Box W' g t #[x', y, z] ∧ Keep W W' ∧ (∀ g' t' cs, Box W g' t' cs → g' ≠ g → Box W' g' t' cs) ∧ (∀ w0 : World, Below w0.heap.size w0 W → w0.heap.size ≤ g → Below w0.heap.size w0 W') := by
  subst hW; exact ⟨X.set, Keep.poke X.c3.1 hx, fun _ _ _ h hne => h.other hne, fun _ h hg => h.setCell hg _⟩
theorem AR.neg {q : Rat} {L : Nat} {w : World} {b : Bool} {s t : Value} (h : AR q L w (.agg #[.bool b, s, t])) : AR (-q) L w (.agg #[.bool (!b), s, t]) := by
  obtain ⟨n, d, h2, h3, rfl⟩ := h.parts
  exact ⟨_, _, _, n, d, rfl, h2, h3, rv_neg b n d⟩
def CL2 (y z : Int) (L M : Nat) (w : World) (v : Value) : Prop := ∃ a b, v = .tuple #[a, b] ∧ CL y L w a ∧ CL z M w b
def CRE (q : Rat) (L : Nat) (err : Int) (w : World) (v : Value) : Prop := ∃ a, v = .tuple #[a, .int .i64 err] ∧ CR q L w a
theorem Is.cast {m n L : Nat} {w : World} {v : Value} (e : m = n) (h : Is m L w v) : Is n L w v := e ▸ h
theorem Can.cast {m n L : Nat} {w : World} {v : Value} (e : m = n) (h : Can m L w v) : Can n L w v := e ▸ h
theorem Can.len {m L : Nat} {w : World} {a : Option Addr} {n c : Nat} (h : Can m L w (.slice a n c)) : n = sz m := by
  obtain ⟨⟨ad, n', cap, he, hn, -⟩, -⟩ := h
  injection he with e1 e2 e3
  subst e2; exact hn.symm
theorem Can.len0 {m L : Nat} {w : World} {a : Option Addr} {n c : Nat} (h : Can m L w (.slice a n c)) (b : Bool) (hb : (m == 0) = b) : ((n : Int) == 0) = b := limbs_len0 (by rw [h.len]; rfl) b hb

/-- A slice literal of one limb. -/
theorem Is.one (w : World) (t : TypeId) : Is 1 1 (w.alloc (.cells #[.int .u32 1] t)) (.slice (some ⟨w.heap.size, 0, none⟩) 1 1) := ⟨_, sl_one w t 1 (by decide), by simp [val], by simp⟩
theorem one_is (w : World) : Calls Try.prog 90 #[] w (Ret w (Is 1 1)) := by
  go_enter Try.func90, Try.ntmps90
  go_wp2
  go_ret
  exact ⟨_, rfl, Is.one _ _, (Below.refl _ _).alloc (Nat.le_refl _) _⟩

theorem unit_any {m L : Nat} {s : Value} {w : World} (B : Bool) (hB : (m == 1) = B) (h : Can m L w s) : Calls Try.prog 85 #[s] w (Ret w (Val (.bool B))) := by
  subst hB
  obtain ⟨⟨ad, n, cap, rfl, hn, hnc, hm, hl, hs⟩, -⟩ := h
  have hz := @sz_eq_zero m
  unfold sz at hz
  rcases Nat.eq_zero_or_pos m with h0 | h0
  · obtain rfl : n = 0 := by omega
    clear hz hs hn hl
    rw [show (m == 1) = false by simp; omega]
    go_enter Try.func85, Try.ntmps85
    go_wp2
    go_ret
    exact ⟨_, rfl, rfl, Below.refl _ _⟩
  · by_cases h1 : m < 4294967296
    · rw [limbs_single h0 h1] at hn hs
      obtain rfl : n = 1 := by simpa using hn.symm
      obtain ⟨b, off, rfl, hb, hc⟩ := hs (by decide)
      have hc0 : w.cell? ⟨b, off, none⟩ = some (.int .u32 (m : Int)) := hc 0 (by decide)
      clear hz hs hn hl hc hm
      by_cases h2 : m = 1
      · subst h2
        go_enter Try.func85, Try.ntmps85
        go_wp2
        go_ret
        exact ⟨_, rfl, rfl, Below.refl _ _⟩
      · rw [show (m == 1) = false by simpa using h2]
        have hd : ((m : Int) == 1) = false := by simp; omega
        go_enter Try.func85, Try.ntmps85
        go_wp2
        go_ret
        exact ⟨_, rfl, rfl, Below.refl _ _⟩
    · have h2 : n ≠ 1 := by
        rintro rfl
        have := val_lt (xs := limbs m) hl
        rw [val_limbs, hn] at this
        omega
      clear hz hs hn hl
      rw [show (m == 1) = false by simp; omega]
      have hd : ((n : Int) == 1) = false := by simp; omega
      go_enter Try.func85, Try.ntmps85
      go_wp2
      go_ret
      exact ⟨_, rfl, rfl, Below.refl _ _⟩
theorem gcd_pos {n d : Nat} (h : 0 < d) : 0 < Nat.gcd n d := Nat.gcd_pos_of_pos_right n h
theorem one_le_of_is {d M : Nat} {w : World} {t : Value} (hd : 0 < d) (h : Is d M w t) : 1 ≤ M := by
  have h1 := sz_pos hd
  have := h.sz_le
  omega
theorem quot_zero {neg : Bool} {n d L M : Nat} {w W : World} {t : Value} (hz : n = 0) (hd : 0 < d) (h : Is d M w t) : CR (mkRat (iv neg n) d) (max L M) W (.agg #[.bool false, .slice none 0 0, .slice none 0 0]) := by
  have h1 := one_le_of_is hd h
  rw [hz, show iv neg 0 = 0 by cases neg <;> rfl, Rat.zero_mkRat]
  exact (CR.zero W).mono (by omega)
theorem quot_one {neg : Bool} {n d L M : Nat} {w W : World} {s t : Value} (hz : 0 < n) (hd : 0 < d) (hv : (d == 1) = true) (hs : Can n L W s) (h : Is d M w t) : CR (mkRat (iv neg n) d) (max L M) W (.agg #[.bool neg, s, .slice none 0 0]) := by
  have h1 := one_le_of_is hd h
  have e : d = 1 := by simpa using hv
  subst e
  refine CR.of_parts hz hd ?_ ?_ (by omega)
  · rw [Nat.gcd_one_right, Nat.div_one]; exact hs.mono (Nat.le_max_left _ _)
  · rw [Nat.gcd_one_right, Nat.div_one, if_pos rfl]
    exact ⟨by show Sl W _ (limbs 0); rw [limbs_zero]; exact Sl.nil W, sz_zero_le _⟩
theorem quot_two {neg : Bool} {n d L M : Nat} {W : World} {s t : Value} (hz : 0 < n) (hd : 0 < d) (hv : (d == 1) = false) (hg : (Nat.gcd n d == 1) = true) (hs : Can n L W s) (ht : Can d M W t) : CR (mkRat (iv neg n) d) (max L M) W (.agg #[.bool neg, s, t]) := by
  have h1 := one_le_of_is hd ht.is
  have e : Nat.gcd n d = 1 := by simpa using hg
  have e' : d ≠ 1 := by simpa using hv
  refine CR.of_parts hz hd ?_ ?_ (by omega)
  · rw [e, Nat.div_one]; exact hs.mono (Nat.le_max_left _ _)
  · rw [e, Nat.div_one, if_neg e']; exact ht.mono (Nat.le_max_right _ _)
theorem quot_three {neg : Bool} {n d L M : Nat} {w W : World} {s t : Value} (hz : 0 < n) (hd : 0 < d) (he : (d / Nat.gcd n d == 1) = true) (hs : Can (n / Nat.gcd n d) L W s) (ht : Is d M w t) : CR (mkRat (iv neg n) d) (max L M) W (.agg #[.bool neg, s, .slice none 0 0]) := by
  have h1 := one_le_of_is hd ht
  refine CR.of_parts hz hd (hs.mono (Nat.le_max_left _ _)) ?_ (by omega)
  rw [if_pos (by simpa using he)]
  exact ⟨by show Sl W _ (limbs 0); rw [limbs_zero]; exact Sl.nil W, sz_zero_le _⟩
theorem quot_four {neg : Bool} {n d L M : Nat} {W : World} {s t : Value} (hz : 0 < n) (hd : 0 < d) (he : (d / Nat.gcd n d == 1) = false) (hs : Can (n / Nat.gcd n d) L W s) (ht : Can (d / Nat.gcd n d) M W t) : CR (mkRat (iv neg n) d) (max L M) W (.agg #[.bool neg, s, t]) := by
  have hp : 0 < d / Nat.gcd n d := Nat.div_pos (Nat.le_of_dvd hd (Nat.gcd_dvd_right n d)) (gcd_pos hd)
  have h1 := one_le_of_is hp ht.is
  refine CR.of_parts hz hd (hs.mono (Nat.le_max_left _ _)) ?_ (by omega)
  rw [if_neg (by simpa using he)]
  exact ht.mono (Nat.le_max_right _ _)
theorem stored2s {W W' : World} {g : Nat} {t : TypeId} {x y x' y' : Value} (hW : W' = (W.setCell ⟨g, 0, none⟩ x').setCell ⟨g, 1, none⟩ y') (X : Box W g t #[x, y]) (hx : NoInt x) (hy : NoInt y) :
    Box W' g t #[x', y'] ∧ Keep W W' ∧ (∀ g' t' cs, Box W g' t' cs → g' ≠ g → Box W' g' t' cs) ∧ (∀ w0 : World, Below w0.heap.size w0 W → w0.heap.size ≤ g → Below w0.heap.size w0 W') ∧ W'.heap.size = W.heap.size :=
  let ⟨a, b, c, d⟩ := stored2 hW X hx hy; ⟨a, b, c, d, by subst hW; simp⟩
theorem stored3s {W W' : World} {g : Nat} {t : TypeId} {x y z x' y' z' : Value} (hW : W' = ((W.setCell ⟨g, 0, none⟩ x').setCell ⟨g, 1, none⟩ y').setCell ⟨g, 2, none⟩ z') (X : Box W g t #[x, y, z]) (hx : NoInt x) (hy : NoInt y) (hz : NoInt z) :
    Box W' g t #[x', y', z'] ∧ Keep W W' ∧ (∀ g' t' cs, Box W g' t' cs → g' ≠ g → Box W' g' t' cs) ∧ (∀ w0 : World, Below w0.heap.size w0 W → w0.heap.size ≤ g → Below w0.heap.size w0 W') ∧ W'.heap.size = W.heap.size :=
  let ⟨a, b, c, d⟩ := stored3 hW X hx hy hz; ⟨a, b, c, d, by subst hW; simp⟩
theorem stored3_0s {W W' : World} {g : Nat} {t : TypeId} {x y z x' : Value} (hW : W' = W.setCell ⟨g, 0, none⟩ x') (X : Box W g t #[x, y, z]) (hx : NoInt x) :
    Box W' g t #[x', y, z] ∧ Keep W W' ∧ (∀ g' t' cs, Box W g' t' cs → g' ≠ g → Box W' g' t' cs) ∧ (∀ w0 : World, Below w0.heap.size w0 W → w0.heap.size ≤ g → Below w0.heap.size w0 W') ∧ W'.heap.size = W.heap.size :=
  let ⟨a, b, c, d⟩ := stored3_0 hW X hx; ⟨a, b, c, d, by subst hW; simp⟩

set_option maxRecDepth 100000 in
set_option maxHeartbeats 4000000 in
theorem quot_0 {neg : Bool} {n d L M : Nat} {s t : Value}  {w : World} (hz : n = 0) (hn : Is n L w s) (hm : Is d M w t) (hd : 0 < d) (hL : L ≤ 1000000) (hM : M ≤ 1000000) :
    Calls Try.prog 57 #[.bool neg, s, t] w (Ret w (CR (mkRat (iv neg n) d) (max L M))) := by
  have Hn := Lib.hid hn
  have Hm := Lib.hid hm
  have Hd := Lib.hid hd
  have Hz := Lib.hid hz
  clear hn hm hd hz
  go_enter Try.func57, Try.ntmps57
  have HB := Lib.hid (Below.refl w.heap.size w)
  go_wp2_with fail
  obtain ⟨W1, hW⟩ : ∃ W1, W1 = (World.alloc w (.cells #[.bool false, .slice none 0 0, .slice none 0 0] 25)) := ⟨_, rfl⟩
  rw [← hW]
  obtain ⟨xa0, hk, hb⟩ := boxes_1 _ _ _ hW
  clear hW
  have Hn := Lib.hid (Is.keep Hn.out hk)
  have Hm := Lib.hid (Is.keep Hm.out hk)
  have Ga0 := Lib.hid (show w.heap.size ≤ w.heap.size from Nat.le_trans HB.out.size (by omega))
  have Xa0 := Lib.hid xa0
  have HB := Lib.hid (below_call HB.out hb)
  clear hk hb xa0
  (first | (have hcall := make_is Hn.out; refine Calls.mono hcall ?_; clear hcall) | refine Calls.mono (make_is Hn.out) ?_)
  rintro e w2 ⟨v2, rfl, hx, hb⟩
  obtain ⟨x_a, x_n, x_c, rfl⟩ := hx.is.lit
  have Hm := Lib.hid (Is.keep Hm.out (Keep.call hb))
  have Xa0 := Lib.hid (Box.pcall hb Xa0.out)
  have HB := Lib.hid (below_call HB.out hb)
  have Hx := Lib.hid hx
  clear hb hx
  have dx : ((x_n : Int) == 0) = true := Hx.out.len0 true (by rw [Hz.out]; rfl)
  obtain ⟨ca00, ca01, ca02, fa00, fa01, fa02⟩ := Xa0.out.c3
  have la0 := Xa0.out.lt
  go_wp2
  clear ca00 ca01 ca02 fa00 fa01 fa02 la0
  obtain ⟨W3, hW⟩ : ∃ W3, W3 = (World.setCell (World.setCell (World.setCell w2 ⟨w.heap.size, 0, none⟩ (.bool false)) ⟨w.heap.size, 1, none⟩ (.slice none 0 0)) ⟨w.heap.size, 2, none⟩ (.slice none 0 0)) := ⟨_, rfl⟩
  rw [← hW]
  obtain ⟨xa0, hk, hf, hbb, hz⟩ := stored3s hW Xa0.out (by first | exact NoInt.bool _ | exact NoInt.slice _ _ _) (by first | exact NoInt.bool _ | exact NoInt.slice _ _ _) (by first | exact NoInt.bool _ | exact NoInt.slice _ _ _)
  have Hm := Lib.hid (Is.keep Hm.out hk)
  have Xa0 := Lib.hid xa0
  have HB := Lib.hid (hbb _ HB.out Ga0.out)
  clear hW hk hf hbb xa0
  clear hz
  exact ret_rat1 rfl rfl rfl Xa0.out (quot_zero Hz.out Hd.out Hm.out) HB.out


set_option maxRecDepth 100000 in
set_option maxHeartbeats 4000000 in
theorem quot_1 {neg : Bool} {n d L M : Nat} {s t : Value}  {w : World} (hz : 0 < n) (hv : (d == 1) = true) (hn : Is n L w s) (hm : Is d M w t) (hd : 0 < d) (hL : L ≤ 1000000) (hM : M ≤ 1000000) :
    Calls Try.prog 57 #[.bool neg, s, t] w (Ret w (CR (mkRat (iv neg n) d) (max L M))) := by
  have Hn := Lib.hid hn
  have Hm := Lib.hid hm
  have Hd := Lib.hid hd
  have Hz := Lib.hid hz
  have Hv := Lib.hid hv
  clear hn hm hd hz hv
  go_enter Try.func57, Try.ntmps57
  have HB := Lib.hid (Below.refl w.heap.size w)
  go_wp2_with fail
  obtain ⟨W1, hW⟩ : ∃ W1, W1 = (World.alloc w (.cells #[.bool false, .slice none 0 0, .slice none 0 0] 25)) := ⟨_, rfl⟩
  rw [← hW]
  obtain ⟨xa0, hk, hb⟩ := boxes_1 _ _ _ hW
  clear hW
  have Hn := Lib.hid (Is.keep Hn.out hk)
  have Hm := Lib.hid (Is.keep Hm.out hk)
  have Ga0 := Lib.hid (show w.heap.size ≤ w.heap.size from Nat.le_trans HB.out.size (by omega))
  have Xa0 := Lib.hid xa0
  have HB := Lib.hid (below_call HB.out hb)
  clear hk hb xa0
  (first | (have hcall := make_is Hn.out; refine Calls.mono hcall ?_; clear hcall) | refine Calls.mono (make_is Hn.out) ?_)
  rintro e w2 ⟨v2, rfl, hx, hb⟩
  obtain ⟨x_a, x_n, x_c, rfl⟩ := hx.is.lit
  have Hm := Lib.hid (Is.keep Hm.out (Keep.call hb))
  have Xa0 := Lib.hid (Box.pcall hb Xa0.out)
  have HB := Lib.hid (below_call HB.out hb)
  have Hx := Lib.hid hx
  clear hb hx
  have dx : ((x_n : Int) == 0) = false := Hx.out.len0 false (beq_eq_false_iff_ne.2 (Nat.ne_of_gt Hz.out))
  obtain ⟨ca00, ca01, ca02, fa00, fa01, fa02⟩ := Xa0.out.c3
  have la0 := Xa0.out.lt
  go_wp2_with fail
  clear ca00 ca01 ca02 fa00 fa01 fa02 la0
  (first | (have hcall := make_is Hm.out; refine Calls.mono hcall ?_; clear hcall) | refine Calls.mono (make_is Hm.out) ?_)
  rintro e w3 ⟨v3, rfl, hy, hb⟩
  obtain ⟨y_a, y_n, y_c, rfl⟩ := hy.is.lit
  have Hm := Lib.hid (Is.keep Hm.out (Keep.call hb))
  have Hx := Lib.hid (Can.keep Hx.out (Keep.call hb))
  have Xa0 := Lib.hid (Box.pcall hb Xa0.out)
  have HB := Lib.hid (below_call HB.out hb)
  have Hy := Lib.hid hy
  clear hb hy
  obtain ⟨ca00, ca01, ca02, fa00, fa01, fa02⟩ := Xa0.out.c3
  have la0 := Xa0.out.lt
  go_wp2_with fail
  clear ca00 ca01 ca02 fa00 fa01 fa02 la0
  (first | (have hcall := unit_any true Hv.out Hy.out; refine Calls.mono hcall ?_; clear hcall) | refine Calls.mono (unit_any true Hv.out Hy.out) ?_)
  rintro e w4 ⟨v4, rfl, rfl, hb⟩
  have Hm := Lib.hid (Is.keep Hm.out (Keep.call hb))
  have Hx := Lib.hid (Can.keep Hx.out (Keep.call hb))
  have Xa0 := Lib.hid (Box.pcall hb Xa0.out)
  have HB := Lib.hid (below_call HB.out hb)
  clear hb
  obtain ⟨ca00, ca01, ca02, fa00, fa01, fa02⟩ := Xa0.out.c3
  have la0 := Xa0.out.lt
  go_wp2
  clear ca00 ca01 ca02 fa00 fa01 fa02 la0
  obtain ⟨W5, hW⟩ : ∃ W5, W5 = (World.setCell (World.setCell (World.setCell w4 ⟨w.heap.size, 0, none⟩ (.bool neg)) ⟨w.heap.size, 1, none⟩ (.slice x_a x_n x_c)) ⟨w.heap.size, 2, none⟩ (.slice none 0 0)) := ⟨_, rfl⟩
  rw [← hW]
  obtain ⟨xa0, hk, hf, hbb, hz⟩ := stored3s hW Xa0.out (by first | exact NoInt.bool _ | exact NoInt.slice _ _ _) (by first | exact NoInt.bool _ | exact NoInt.slice _ _ _) (by first | exact NoInt.bool _ | exact NoInt.slice _ _ _)
  have Hm := Lib.hid (Is.keep Hm.out hk)
  have Hx := Lib.hid (Can.keep Hx.out hk)
  have Xa0 := Lib.hid xa0
  have HB := Lib.hid (hbb _ HB.out Ga0.out)
  clear hW hk hf hbb xa0
  clear hz
  exact ret_rat1 rfl rfl rfl Xa0.out (quot_one Hz.out Hd.out Hv.out Hx.out Hm.out) HB.out


set_option maxRecDepth 100000 in
set_option maxHeartbeats 4000000 in
theorem quot_2 {neg : Bool} {n d L M : Nat} {s t : Value}  {w : World} (hz : 0 < n) (hv : (d == 1) = false) (hg : (Nat.gcd n d == 1) = true) (hn : Is n L w s) (hm : Is d M w t) (hd : 0 < d) (hL : L ≤ 1000000) (hM : M ≤ 1000000) :
    Calls Try.prog 57 #[.bool neg, s, t] w (Ret w (CR (mkRat (iv neg n) d) (max L M))) := by
  have Hn := Lib.hid hn
  have Hm := Lib.hid hm
  have Hd := Lib.hid hd
  have Hz := Lib.hid hz
  have Hv := Lib.hid hv
  have Hg := Lib.hid hg
  clear hn hm hd hz hv hg
  go_enter Try.func57, Try.ntmps57
  have HB := Lib.hid (Below.refl w.heap.size w)
  go_wp2_with fail
  obtain ⟨W1, hW⟩ : ∃ W1, W1 = (World.alloc w (.cells #[.bool false, .slice none 0 0, .slice none 0 0] 25)) := ⟨_, rfl⟩
  rw [← hW]
  obtain ⟨xa0, hk, hb⟩ := boxes_1 _ _ _ hW
  clear hW
  have Hn := Lib.hid (Is.keep Hn.out hk)
  have Hm := Lib.hid (Is.keep Hm.out hk)
  have Ga0 := Lib.hid (show w.heap.size ≤ w.heap.size from Nat.le_trans HB.out.size (by omega))
  have Xa0 := Lib.hid xa0
  have HB := Lib.hid (below_call HB.out hb)
  clear hk hb xa0
  (first | (have hcall := make_is Hn.out; refine Calls.mono hcall ?_; clear hcall) | refine Calls.mono (make_is Hn.out) ?_)
  rintro e w2 ⟨v2, rfl, hx, hb⟩
  obtain ⟨x_a, x_n, x_c, rfl⟩ := hx.is.lit
  have Hm := Lib.hid (Is.keep Hm.out (Keep.call hb))
  have Xa0 := Lib.hid (Box.pcall hb Xa0.out)
  have HB := Lib.hid (below_call HB.out hb)
  have Hx := Lib.hid hx
  clear hb hx
  have dx : ((x_n : Int) == 0) = false := Hx.out.len0 false (beq_eq_false_iff_ne.2 (Nat.ne_of_gt Hz.out))
  obtain ⟨ca00, ca01, ca02, fa00, fa01, fa02⟩ := Xa0.out.c3
  have la0 := Xa0.out.lt
  go_wp2_with fail
  clear ca00 ca01 ca02 fa00 fa01 fa02 la0
  (first | (have hcall := make_is Hm.out; refine Calls.mono hcall ?_; clear hcall) | refine Calls.mono (make_is Hm.out) ?_)
  rintro e w3 ⟨v3, rfl, hy, hb⟩
  obtain ⟨y_a, y_n, y_c, rfl⟩ := hy.is.lit
  have Hx := Lib.hid (Can.keep Hx.out (Keep.call hb))
  have Xa0 := Lib.hid (Box.pcall hb Xa0.out)
  have HB := Lib.hid (below_call HB.out hb)
  have Hy := Lib.hid hy
  clear hb hy
  obtain ⟨ca00, ca01, ca02, fa00, fa01, fa02⟩ := Xa0.out.c3
  have la0 := Xa0.out.lt
  go_wp2_with fail
  clear ca00 ca01 ca02 fa00 fa01 fa02 la0
  (first | (have hcall := unit_any false Hv.out Hy.out; refine Calls.mono hcall ?_; clear hcall) | refine Calls.mono (unit_any false Hv.out Hy.out) ?_)
  rintro e w4 ⟨v4, rfl, rfl, hb⟩
  have Hx := Lib.hid (Can.keep Hx.out (Keep.call hb))
  have Hy := Lib.hid (Can.keep Hy.out (Keep.call hb))
  have Xa0 := Lib.hid (Box.pcall hb Xa0.out)
  have HB := Lib.hid (below_call HB.out hb)
  clear hb
  obtain ⟨ca00, ca01, ca02, fa00, fa01, fa02⟩ := Xa0.out.c3
  have la0 := Xa0.out.lt
  go_wp2_with fail
  clear ca00 ca01 ca02 fa00 fa01 fa02 la0
  (first | (have hcall := gcd_can Hx.out.is Hy.out.is (by omega) (by omega); refine Calls.mono hcall ?_; clear hcall) | refine Calls.mono (gcd_can Hx.out.is Hy.out.is (by omega) (by omega)) ?_)
  rintro e w5 ⟨v5, rfl, hk, hb⟩
  obtain ⟨k_a, k_n, k_c, rfl⟩ := hk.is.lit
  have Hx := Lib.hid (Can.keep Hx.out (Keep.call hb))
  have Hy := Lib.hid (Can.keep Hy.out (Keep.call hb))
  have Xa0 := Lib.hid (Box.pcall hb Xa0.out)
  have HB := Lib.hid (below_call HB.out hb)
  have Hk := Lib.hid hk
  clear hb hk
  obtain ⟨ca00, ca01, ca02, fa00, fa01, fa02⟩ := Xa0.out.c3
  have la0 := Xa0.out.lt
  go_wp2_with fail
  clear ca00 ca01 ca02 fa00 fa01 fa02 la0
  (first | (have hcall := unit_any true Hg.out Hk.out; refine Calls.mono hcall ?_; clear hcall) | refine Calls.mono (unit_any true Hg.out Hk.out) ?_)
  rintro e w6 ⟨v6, rfl, rfl, hb⟩
  have Hx := Lib.hid (Can.keep Hx.out (Keep.call hb))
  have Hy := Lib.hid (Can.keep Hy.out (Keep.call hb))
  have Xa0 := Lib.hid (Box.pcall hb Xa0.out)
  have HB := Lib.hid (below_call HB.out hb)
  clear hb
  obtain ⟨ca00, ca01, ca02, fa00, fa01, fa02⟩ := Xa0.out.c3
  have la0 := Xa0.out.lt
  go_wp2_with fail
  clear ca00 ca01 ca02 fa00 fa01 fa02 la0
  (first | (have hcall := unit_any false Hv.out Hy.out; refine Calls.mono hcall ?_; clear hcall) | refine Calls.mono (unit_any false Hv.out Hy.out) ?_)
  rintro e w7 ⟨v7, rfl, rfl, hb⟩
  have Hx := Lib.hid (Can.keep Hx.out (Keep.call hb))
  have Hy := Lib.hid (Can.keep Hy.out (Keep.call hb))
  have Xa0 := Lib.hid (Box.pcall hb Xa0.out)
  have HB := Lib.hid (below_call HB.out hb)
  clear hb
  obtain ⟨ca00, ca01, ca02, fa00, fa01, fa02⟩ := Xa0.out.c3
  have la0 := Xa0.out.lt
  go_wp2
  clear ca00 ca01 ca02 fa00 fa01 fa02 la0
  obtain ⟨W8, hW⟩ : ∃ W8, W8 = (World.setCell (World.setCell (World.setCell w7 ⟨w.heap.size, 0, none⟩ (.bool neg)) ⟨w.heap.size, 1, none⟩ (.slice x_a x_n x_c)) ⟨w.heap.size, 2, none⟩ (.slice y_a y_n y_c)) := ⟨_, rfl⟩
  rw [← hW]
  obtain ⟨xa0, hk, hf, hbb, hz⟩ := stored3s hW Xa0.out (by first | exact NoInt.bool _ | exact NoInt.slice _ _ _) (by first | exact NoInt.bool _ | exact NoInt.slice _ _ _) (by first | exact NoInt.bool _ | exact NoInt.slice _ _ _)
  have Hx := Lib.hid (Can.keep Hx.out hk)
  have Hy := Lib.hid (Can.keep Hy.out hk)
  have Xa0 := Lib.hid xa0
  have HB := Lib.hid (hbb _ HB.out Ga0.out)
  clear hW hk hf hbb xa0
  clear hz
  exact ret_rat1 rfl rfl rfl Xa0.out (quot_two Hz.out Hd.out Hv.out Hg.out Hx.out Hy.out) HB.out


set_option maxRecDepth 100000 in
set_option maxHeartbeats 4000000 in
theorem quot_3 {neg : Bool} {n d L M : Nat} {s t : Value}  {w : World} (hz : 0 < n) (hv : (d == 1) = false) (hg : (Nat.gcd n d == 1) = false) (he : (d / Nat.gcd n d == 1) = true) (hn : Is n L w s) (hm : Is d M w t) (hd : 0 < d) (hL : L ≤ 1000000) (hM : M ≤ 1000000) :
    Calls Try.prog 57 #[.bool neg, s, t] w (Ret w (CR (mkRat (iv neg n) d) (max L M))) := by
  have Hn := Lib.hid hn
  have Hm := Lib.hid hm
  have Hd := Lib.hid hd
  have Hz := Lib.hid hz
  have Hv := Lib.hid hv
  have Hg := Lib.hid hg
  have He := Lib.hid he
  clear hn hm hd hz hv hg he
  go_enter Try.func57, Try.ntmps57
  have HB := Lib.hid (Below.refl w.heap.size w)
  go_wp2_with fail
  obtain ⟨W1, hW⟩ : ∃ W1, W1 = (World.alloc w (.cells #[.bool false, .slice none 0 0, .slice none 0 0] 25)) := ⟨_, rfl⟩
  rw [← hW]
  obtain ⟨xa0, hk, hb⟩ := boxes_1 _ _ _ hW
  clear hW
  have Hn := Lib.hid (Is.keep Hn.out hk)
  have Hm := Lib.hid (Is.keep Hm.out hk)
  have Ga0 := Lib.hid (show w.heap.size ≤ w.heap.size from Nat.le_trans HB.out.size (by omega))
  have Xa0 := Lib.hid xa0
  have HB := Lib.hid (below_call HB.out hb)
  clear hk hb xa0
  (first | (have hcall := make_is Hn.out; refine Calls.mono hcall ?_; clear hcall) | refine Calls.mono (make_is Hn.out) ?_)
  rintro e w2 ⟨v2, rfl, hx, hb⟩
  obtain ⟨x_a, x_n, x_c, rfl⟩ := hx.is.lit
  have Hm := Lib.hid (Is.keep Hm.out (Keep.call hb))
  have Xa0 := Lib.hid (Box.pcall hb Xa0.out)
  have HB := Lib.hid (below_call HB.out hb)
  have Hx := Lib.hid hx
  clear hb hx
  have dx : ((x_n : Int) == 0) = false := Hx.out.len0 false (beq_eq_false_iff_ne.2 (Nat.ne_of_gt Hz.out))
  obtain ⟨ca00, ca01, ca02, fa00, fa01, fa02⟩ := Xa0.out.c3
  have la0 := Xa0.out.lt
  go_wp2_with fail
  clear ca00 ca01 ca02 fa00 fa01 fa02 la0
  (first | (have hcall := make_is Hm.out; refine Calls.mono hcall ?_; clear hcall) | refine Calls.mono (make_is Hm.out) ?_)
  rintro e w3 ⟨v3, rfl, hy, hb⟩
  obtain ⟨y_a, y_n, y_c, rfl⟩ := hy.is.lit
  have Hm := Lib.hid (Is.keep Hm.out (Keep.call hb))
  have Hx := Lib.hid (Can.keep Hx.out (Keep.call hb))
  have Xa0 := Lib.hid (Box.pcall hb Xa0.out)
  have HB := Lib.hid (below_call HB.out hb)
  have Hy := Lib.hid hy
  clear hb hy
  obtain ⟨ca00, ca01, ca02, fa00, fa01, fa02⟩ := Xa0.out.c3
  have la0 := Xa0.out.lt
  go_wp2_with fail
  clear ca00 ca01 ca02 fa00 fa01 fa02 la0
  (first | (have hcall := unit_any false Hv.out Hy.out; refine Calls.mono hcall ?_; clear hcall) | refine Calls.mono (unit_any false Hv.out Hy.out) ?_)
  rintro e w4 ⟨v4, rfl, rfl, hb⟩
  have Hm := Lib.hid (Is.keep Hm.out (Keep.call hb))
  have Hx := Lib.hid (Can.keep Hx.out (Keep.call hb))
  have Hy := Lib.hid (Can.keep Hy.out (Keep.call hb))
  have Xa0 := Lib.hid (Box.pcall hb Xa0.out)
  have HB := Lib.hid (below_call HB.out hb)
  clear hb
  obtain ⟨ca00, ca01, ca02, fa00, fa01, fa02⟩ := Xa0.out.c3
  have la0 := Xa0.out.lt
  go_wp2_with fail
  clear ca00 ca01 ca02 fa00 fa01 fa02 la0
  (first | (have hcall := gcd_can Hx.out.is Hy.out.is (by omega) (by omega); refine Calls.mono hcall ?_; clear hcall) | refine Calls.mono (gcd_can Hx.out.is Hy.out.is (by omega) (by omega)) ?_)
  rintro e w5 ⟨v5, rfl, hk, hb⟩
  obtain ⟨k_a, k_n, k_c, rfl⟩ := hk.is.lit
  have Hm := Lib.hid (Is.keep Hm.out (Keep.call hb))
  have Hx := Lib.hid (Can.keep Hx.out (Keep.call hb))
  have Hy := Lib.hid (Can.keep Hy.out (Keep.call hb))
  have Xa0 := Lib.hid (Box.pcall hb Xa0.out)
  have HB := Lib.hid (below_call HB.out hb)
  have Hk := Lib.hid hk
  clear hb hk
  obtain ⟨ca00, ca01, ca02, fa00, fa01, fa02⟩ := Xa0.out.c3
  have la0 := Xa0.out.lt
  go_wp2_with fail
  clear ca00 ca01 ca02 fa00 fa01 fa02 la0
  (first | (have hcall := unit_any false Hg.out Hk.out; refine Calls.mono hcall ?_; clear hcall) | refine Calls.mono (unit_any false Hg.out Hk.out) ?_)
  rintro e w6 ⟨v6, rfl, rfl, hb⟩
  have Hm := Lib.hid (Is.keep Hm.out (Keep.call hb))
  have Hx := Lib.hid (Can.keep Hx.out (Keep.call hb))
  have Hy := Lib.hid (Can.keep Hy.out (Keep.call hb))
  have Hk := Lib.hid (Can.keep Hk.out (Keep.call hb))
  have Xa0 := Lib.hid (Box.pcall hb Xa0.out)
  have HB := Lib.hid (below_call HB.out hb)
  clear hb
  obtain ⟨ca00, ca01, ca02, fa00, fa01, fa02⟩ := Xa0.out.c3
  have la0 := Xa0.out.lt
  go_wp2_with fail
  clear ca00 ca01 ca02 fa00 fa01 fa02 la0
  (first | (have hcall := divmod_pos (gcd_pos Hd.out) Hx.out.is Hk.out.is (by omega); refine Calls.mono hcall ?_; clear hcall) | refine Calls.mono (divmod_pos (gcd_pos Hd.out) Hx.out.is Hk.out.is (by omega)) ?_)
  rintro e w7 ⟨t7, rfl, ⟨v7, u7, rfl, hqa, hra⟩, hb⟩
  obtain ⟨qa_a, qa_n, qa_c, rfl⟩ := hqa.is.lit
  obtain ⟨ra_a, ra_n, ra_c, rfl⟩ := hra.is.lit
  have Hm := Lib.hid (Is.keep Hm.out (Keep.call hb))
  have Hy := Lib.hid (Can.keep Hy.out (Keep.call hb))
  have Hk := Lib.hid (Can.keep Hk.out (Keep.call hb))
  have Xa0 := Lib.hid (Box.pcall hb Xa0.out)
  have HB := Lib.hid (below_call HB.out hb)
  have Hqa := Lib.hid hqa
  have Hra := Lib.hid hra
  clear hb hqa hra
  obtain ⟨ca00, ca01, ca02, fa00, fa01, fa02⟩ := Xa0.out.c3
  have la0 := Xa0.out.lt
  go_wp2_with fail
  clear ca00 ca01 ca02 fa00 fa01 fa02 la0
  (first | (have hcall := divmod_pos (gcd_pos Hd.out) Hy.out.is Hk.out.is (by omega); refine Calls.mono hcall ?_; clear hcall) | refine Calls.mono (divmod_pos (gcd_pos Hd.out) Hy.out.is Hk.out.is (by omega)) ?_)
  rintro e w8 ⟨t8, rfl, ⟨v8, u8, rfl, hqb, hrb⟩, hb⟩
  obtain ⟨qb_a, qb_n, qb_c, rfl⟩ := hqb.is.lit
  obtain ⟨rb_a, rb_n, rb_c, rfl⟩ := hrb.is.lit
  have Hm := Lib.hid (Is.keep Hm.out (Keep.call hb))
  have Hqa := Lib.hid (Can.keep Hqa.out (Keep.call hb))
  have Xa0 := Lib.hid (Box.pcall hb Xa0.out)
  have HB := Lib.hid (below_call HB.out hb)
  have Hqb := Lib.hid hqb
  have Hrb := Lib.hid hrb
  clear hb hqb hrb
  obtain ⟨ca00, ca01, ca02, fa00, fa01, fa02⟩ := Xa0.out.c3
  have la0 := Xa0.out.lt
  go_wp2_with fail
  clear ca00 ca01 ca02 fa00 fa01 fa02 la0
  (first | (have hcall := unit_any true He.out Hqb.out; refine Calls.mono hcall ?_; clear hcall) | refine Calls.mono (unit_any true He.out Hqb.out) ?_)
  rintro e w9 ⟨v9, rfl, rfl, hb⟩
  have Hm := Lib.hid (Is.keep Hm.out (Keep.call hb))
  have Hqa := Lib.hid (Can.keep Hqa.out (Keep.call hb))
  have Xa0 := Lib.hid (Box.pcall hb Xa0.out)
  have HB := Lib.hid (below_call HB.out hb)
  clear hb
  obtain ⟨ca00, ca01, ca02, fa00, fa01, fa02⟩ := Xa0.out.c3
  have la0 := Xa0.out.lt
  go_wp2
  clear ca00 ca01 ca02 fa00 fa01 fa02 la0
  obtain ⟨W10, hW⟩ : ∃ W10, W10 = (World.setCell (World.setCell (World.setCell w9 ⟨w.heap.size, 0, none⟩ (.bool neg)) ⟨w.heap.size, 1, none⟩ (.slice qa_a qa_n qa_c)) ⟨w.heap.size, 2, none⟩ (.slice none 0 0)) := ⟨_, rfl⟩
  rw [← hW]
  obtain ⟨xa0, hk, hf, hbb, hz⟩ := stored3s hW Xa0.out (by first | exact NoInt.bool _ | exact NoInt.slice _ _ _) (by first | exact NoInt.bool _ | exact NoInt.slice _ _ _) (by first | exact NoInt.bool _ | exact NoInt.slice _ _ _)
  have Hm := Lib.hid (Is.keep Hm.out hk)
  have Hqa := Lib.hid (Can.keep Hqa.out hk)
  have Xa0 := Lib.hid xa0
  have HB := Lib.hid (hbb _ HB.out Ga0.out)
  clear hW hk hf hbb xa0
  clear hz
  exact ret_rat1 rfl rfl rfl Xa0.out (quot_three Hz.out Hd.out He.out Hqa.out Hm.out) HB.out


set_option maxRecDepth 100000 in
set_option maxHeartbeats 4000000 in
theorem quot_4 {neg : Bool} {n d L M : Nat} {s t : Value}  {w : World} (hz : 0 < n) (hv : (d == 1) = false) (hg : (Nat.gcd n d == 1) = false) (he : (d / Nat.gcd n d == 1) = false) (hn : Is n L w s) (hm : Is d M w t) (hd : 0 < d) (hL : L ≤ 1000000) (hM : M ≤ 1000000) :
    Calls Try.prog 57 #[.bool neg, s, t] w (Ret w (CR (mkRat (iv neg n) d) (max L M))) := by
  have Hn := Lib.hid hn
  have Hm := Lib.hid hm
  have Hd := Lib.hid hd
  have Hz := Lib.hid hz
  have Hv := Lib.hid hv
  have Hg := Lib.hid hg
  have He := Lib.hid he
  clear hn hm hd hz hv hg he
  go_enter Try.func57, Try.ntmps57
  have HB := Lib.hid (Below.refl w.heap.size w)
  go_wp2_with fail
  obtain ⟨W1, hW⟩ : ∃ W1, W1 = (World.alloc w (.cells #[.bool false, .slice none 0 0, .slice none 0 0] 25)) := ⟨_, rfl⟩
  rw [← hW]
  obtain ⟨xa0, hk, hb⟩ := boxes_1 _ _ _ hW
  clear hW
  have Hn := Lib.hid (Is.keep Hn.out hk)
  have Hm := Lib.hid (Is.keep Hm.out hk)
  have Ga0 := Lib.hid (show w.heap.size ≤ w.heap.size from Nat.le_trans HB.out.size (by omega))
  have Xa0 := Lib.hid xa0
  have HB := Lib.hid (below_call HB.out hb)
  clear hk hb xa0
  (first | (have hcall := make_is Hn.out; refine Calls.mono hcall ?_; clear hcall) | refine Calls.mono (make_is Hn.out) ?_)
  rintro e w2 ⟨v2, rfl, hx, hb⟩
  obtain ⟨x_a, x_n, x_c, rfl⟩ := hx.is.lit
  have Hm := Lib.hid (Is.keep Hm.out (Keep.call hb))
  have Xa0 := Lib.hid (Box.pcall hb Xa0.out)
  have HB := Lib.hid (below_call HB.out hb)
  have Hx := Lib.hid hx
  clear hb hx
  have dx : ((x_n : Int) == 0) = false := Hx.out.len0 false (beq_eq_false_iff_ne.2 (Nat.ne_of_gt Hz.out))
  obtain ⟨ca00, ca01, ca02, fa00, fa01, fa02⟩ := Xa0.out.c3
  have la0 := Xa0.out.lt
  go_wp2_with fail
  clear ca00 ca01 ca02 fa00 fa01 fa02 la0
  (first | (have hcall := make_is Hm.out; refine Calls.mono hcall ?_; clear hcall) | refine Calls.mono (make_is Hm.out) ?_)
  rintro e w3 ⟨v3, rfl, hy, hb⟩
  obtain ⟨y_a, y_n, y_c, rfl⟩ := hy.is.lit
  have Hx := Lib.hid (Can.keep Hx.out (Keep.call hb))
  have Xa0 := Lib.hid (Box.pcall hb Xa0.out)
  have HB := Lib.hid (below_call HB.out hb)
  have Hy := Lib.hid hy
  clear hb hy
  obtain ⟨ca00, ca01, ca02, fa00, fa01, fa02⟩ := Xa0.out.c3
  have la0 := Xa0.out.lt
  go_wp2_with fail
  clear ca00 ca01 ca02 fa00 fa01 fa02 la0
  (first | (have hcall := unit_any false Hv.out Hy.out; refine Calls.mono hcall ?_; clear hcall) | refine Calls.mono (unit_any false Hv.out Hy.out) ?_)
  rintro e w4 ⟨v4, rfl, rfl, hb⟩
  have Hx := Lib.hid (Can.keep Hx.out (Keep.call hb))
  have Hy := Lib.hid (Can.keep Hy.out (Keep.call hb))
  have Xa0 := Lib.hid (Box.pcall hb Xa0.out)
  have HB := Lib.hid (below_call HB.out hb)
  clear hb
  obtain ⟨ca00, ca01, ca02, fa00, fa01, fa02⟩ := Xa0.out.c3
  have la0 := Xa0.out.lt
  go_wp2_with fail
  clear ca00 ca01 ca02 fa00 fa01 fa02 la0
  (first | (have hcall := gcd_can Hx.out.is Hy.out.is (by omega) (by omega); refine Calls.mono hcall ?_; clear hcall) | refine Calls.mono (gcd_can Hx.out.is Hy.out.is (by omega) (by omega)) ?_)
  rintro e w5 ⟨v5, rfl, hk, hb⟩
  obtain ⟨k_a, k_n, k_c, rfl⟩ := hk.is.lit
  have Hx := Lib.hid (Can.keep Hx.out (Keep.call hb))
  have Hy := Lib.hid (Can.keep Hy.out (Keep.call hb))
  have Xa0 := Lib.hid (Box.pcall hb Xa0.out)
  have HB := Lib.hid (below_call HB.out hb)
  have Hk := Lib.hid hk
  clear hb hk
  obtain ⟨ca00, ca01, ca02, fa00, fa01, fa02⟩ := Xa0.out.c3
  have la0 := Xa0.out.lt
  go_wp2_with fail
  clear ca00 ca01 ca02 fa00 fa01 fa02 la0
  (first | (have hcall := unit_any false Hg.out Hk.out; refine Calls.mono hcall ?_; clear hcall) | refine Calls.mono (unit_any false Hg.out Hk.out) ?_)
  rintro e w6 ⟨v6, rfl, rfl, hb⟩
  have Hx := Lib.hid (Can.keep Hx.out (Keep.call hb))
  have Hy := Lib.hid (Can.keep Hy.out (Keep.call hb))
  have Hk := Lib.hid (Can.keep Hk.out (Keep.call hb))
  have Xa0 := Lib.hid (Box.pcall hb Xa0.out)
  have HB := Lib.hid (below_call HB.out hb)
  clear hb
  obtain ⟨ca00, ca01, ca02, fa00, fa01, fa02⟩ := Xa0.out.c3
  have la0 := Xa0.out.lt
  go_wp2_with fail
  clear ca00 ca01 ca02 fa00 fa01 fa02 la0
  (first | (have hcall := divmod_pos (gcd_pos Hd.out) Hx.out.is Hk.out.is (by omega); refine Calls.mono hcall ?_; clear hcall) | refine Calls.mono (divmod_pos (gcd_pos Hd.out) Hx.out.is Hk.out.is (by omega)) ?_)
  rintro e w7 ⟨t7, rfl, ⟨v7, u7, rfl, hqa, hra⟩, hb⟩
  obtain ⟨qa_a, qa_n, qa_c, rfl⟩ := hqa.is.lit
  obtain ⟨ra_a, ra_n, ra_c, rfl⟩ := hra.is.lit
  have Hy := Lib.hid (Can.keep Hy.out (Keep.call hb))
  have Hk := Lib.hid (Can.keep Hk.out (Keep.call hb))
  have Xa0 := Lib.hid (Box.pcall hb Xa0.out)
  have HB := Lib.hid (below_call HB.out hb)
  have Hqa := Lib.hid hqa
  have Hra := Lib.hid hra
  clear hb hqa hra
  obtain ⟨ca00, ca01, ca02, fa00, fa01, fa02⟩ := Xa0.out.c3
  have la0 := Xa0.out.lt
  go_wp2_with fail
  clear ca00 ca01 ca02 fa00 fa01 fa02 la0
  (first | (have hcall := divmod_pos (gcd_pos Hd.out) Hy.out.is Hk.out.is (by omega); refine Calls.mono hcall ?_; clear hcall) | refine Calls.mono (divmod_pos (gcd_pos Hd.out) Hy.out.is Hk.out.is (by omega)) ?_)
  rintro e w8 ⟨t8, rfl, ⟨v8, u8, rfl, hqb, hrb⟩, hb⟩
  obtain ⟨qb_a, qb_n, qb_c, rfl⟩ := hqb.is.lit
  obtain ⟨rb_a, rb_n, rb_c, rfl⟩ := hrb.is.lit
  have Hqa := Lib.hid (Can.keep Hqa.out (Keep.call hb))
  have Xa0 := Lib.hid (Box.pcall hb Xa0.out)
  have HB := Lib.hid (below_call HB.out hb)
  have Hqb := Lib.hid hqb
  have Hrb := Lib.hid hrb
  clear hb hqb hrb
  obtain ⟨ca00, ca01, ca02, fa00, fa01, fa02⟩ := Xa0.out.c3
  have la0 := Xa0.out.lt
  go_wp2_with fail
  clear ca00 ca01 ca02 fa00 fa01 fa02 la0
  (first | (have hcall := unit_any false He.out Hqb.out; refine Calls.mono hcall ?_; clear hcall) | refine Calls.mono (unit_any false He.out Hqb.out) ?_)
  rintro e w9 ⟨v9, rfl, rfl, hb⟩
  have Hqa := Lib.hid (Can.keep Hqa.out (Keep.call hb))
  have Hqb := Lib.hid (Can.keep Hqb.out (Keep.call hb))
  have Xa0 := Lib.hid (Box.pcall hb Xa0.out)
  have HB := Lib.hid (below_call HB.out hb)
  clear hb
  obtain ⟨ca00, ca01, ca02, fa00, fa01, fa02⟩ := Xa0.out.c3
  have la0 := Xa0.out.lt
  go_wp2
  clear ca00 ca01 ca02 fa00 fa01 fa02 la0
  obtain ⟨W10, hW⟩ : ∃ W10, W10 = (World.setCell (World.setCell (World.setCell w9 ⟨w.heap.size, 0, none⟩ (.bool neg)) ⟨w.heap.size, 1, none⟩ (.slice qa_a qa_n qa_c)) ⟨w.heap.size, 2, none⟩ (.slice qb_a qb_n qb_c)) := ⟨_, rfl⟩
  rw [← hW]
  obtain ⟨xa0, hk, hf, hbb, hz⟩ := stored3s hW Xa0.out (by first | exact NoInt.bool _ | exact NoInt.slice _ _ _) (by first | exact NoInt.bool _ | exact NoInt.slice _ _ _) (by first | exact NoInt.bool _ | exact NoInt.slice _ _ _)
  have Hqa := Lib.hid (Can.keep Hqa.out hk)
  have Hqb := Lib.hid (Can.keep Hqb.out hk)
  have Xa0 := Lib.hid xa0
  have HB := Lib.hid (hbb _ HB.out Ga0.out)
  clear hW hk hf hbb xa0
  clear hz
  exact ret_rat1 rfl rfl rfl Xa0.out (quot_four Hz.out Hd.out He.out Hqa.out Hqb.out) HB.out


theorem quot_is {neg : Bool} {n d L M : Nat} {s t : Value} {w : World} (hd : 0 < d) (hn : Is n L w s) (hm : Is d M w t) (hL : L ≤ 1000000) (hM : M ≤ 1000000) :
    Calls Try.prog 57 #[.bool neg, s, t] w (Ret w (CR (mkRat (iv neg n) d) (max L M))) := by
  rcases Nat.eq_zero_or_pos n with h0 | h0
  · exact quot_0 h0 hn hm hd hL hM
  · cases h1 : d == 1
    · cases h2 : Nat.gcd n d == 1
      · cases h3 : d / Nat.gcd n d == 1
        · exact quot_4 h0 h1 h2 h3 hn hm hd hL hM
        · exact quot_3 h0 h1 h2 h3 hn hm hd hL hM
      · exact quot_2 h0 h1 h2 hn hm hd hL hM
    · exact quot_1 h0 h1 hn hm hd hL hM

end Go.Proofs.Ytfkjhaniglmejaa
