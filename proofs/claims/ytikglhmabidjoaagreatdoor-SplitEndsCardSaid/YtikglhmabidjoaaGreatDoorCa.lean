/- Texts RatA RatB, in this order. -/
import Derived.Test.YtikglhmabidjoaaGreatDoorBh
import Derived.Deep.RegionHeld3
namespace Go.Proofs.YtikglhmabidjoaaGreatDoor
open Go.RowKit Nt
set_option linter.unusedVariables false
theorem box_range {w : World} {g : Nat} {t : TypeId} {cs : Array Value} (h : Box w g t cs) : w.rangeAt g 0 cs.toList := by
  intro j v hv
  rw [Nat.zero_add]
  exact h.cell j (by simpa using hv)
theorem results_ie {fn : Func} {p r : Tmp} {ty : TypeId} (h : fn.results = #[.cell p ty, .tmp r]) (tmps : Array Value) (P : Program) (w : World) (g : Nat) (cs : List Value) (z : Value) (d : TypeDesc)
    (hp : tmps.getD p undef = .pointer (some ⟨g, 0, none⟩)) (hz : tmps.getD r undef = z) (hc : w.rangeAt g 0 cs) (hu : P.underlying ty = some d) (hd : d.isRow = true) (hi : (P.info? ty).map (·.size) = some cs.length) :
    (results fn tmps).run P w = .ok (.tuple #[.agg cs.toArray, z]) w := by
  have hp' : tmps[p]?.getD undef = .pointer (some ⟨g, 0, none⟩) := by simpa using hp
  have hz' : tmps[r]?.getD undef = z := by simpa using hz
  simp [results, h, hp', hz', asAddr, run_loadVar_mid w g 0 ty cs d hc hu hd hi]
theorem results_ii {fn : Func} {p q : Tmp} {ty ty' : TypeId} (h : fn.results = #[.cell p ty, .cell q ty']) (tmps : Array Value) (P : Program) (w : World) (g g' : Nat) (cs cs' : List Value) (d d' : TypeDesc)
    (hp : tmps.getD p undef = .pointer (some ⟨g, 0, none⟩)) (hq : tmps.getD q undef = .pointer (some ⟨g', 0, none⟩)) (hc : w.rangeAt g 0 cs) (hc' : w.rangeAt g' 0 cs')
    (hu : P.underlying ty = some d) (hd : d.isRow = true) (hi : (P.info? ty).map (·.size) = some cs.length) (hu' : P.underlying ty' = some d') (hd' : d'.isRow = true) (hi' : (P.info? ty').map (·.size) = some cs'.length) :
    (results fn tmps).run P w = .ok (.tuple #[.agg cs.toArray, .agg cs'.toArray]) w := by
  have hp' : tmps[p]?.getD undef = .pointer (some ⟨g, 0, none⟩) := by simpa using hp
  have hq' : tmps[q]?.getD undef = .pointer (some ⟨g', 0, none⟩) := by simpa using hq
  simp [results, h, hp', hq', asAddr, run_loadVar_mid w g 0 ty cs d hc hu hd hi, run_loadVar_mid w g' 0 ty' cs' d' hc' hu' hd' hi']
theorem ret_int1 {fn : Func} {p : Tmp} {a : Act} {w0 W : World} {R : World → Value → Prop} {g : Nat} {t : TypeId} {x y : Value} (hres : fn.results = #[.cell p 105])
    (hp : a.tmps.getD p undef = .pointer (some ⟨g, 0, none⟩)) (hd : a.defers = []) (X : Box W g t #[x, y]) (hR : R W (.agg #[x, y])) (HB : Below w0.heap.size w0 W) : bodyPost Tryz.prog fn (Ret w0 R) .ret a W :=
  bodyPost_ret (results_mid hres a.tmps _ W g [x, y] _ hp (box_range X) Tryz.underlying105 rfl (by kernel_rfl)) hd ⟨_, rfl, hR, HB⟩
theorem ret_rat1 {fn : Func} {p : Tmp} {a : Act} {w0 W : World} {R : World → Value → Prop} {g : Nat} {t : TypeId} {x y z : Value} (hres : fn.results = #[.cell p 37])
    (hp : a.tmps.getD p undef = .pointer (some ⟨g, 0, none⟩)) (hd : a.defers = []) (X : Box W g t #[x, y, z]) (hR : R W (.agg #[x, y, z])) (HB : Below w0.heap.size w0 W) : bodyPost Tryz.prog fn (Ret w0 R) .ret a W :=
  bodyPost_ret (results_mid hres a.tmps _ W g [x, y, z] _ hp (box_range X) Tryz.underlying37 rfl (by kernel_rfl)) hd ⟨_, rfl, hR, HB⟩
theorem ret_re {fn : Func} {p r : Tmp} {a : Act} {w0 W : World} {R : World → Value → Prop} {g : Nat} {t : TypeId} {x y z u : Value} (hres : fn.results = #[.cell p 37, .tmp r])
    (hp : a.tmps.getD p undef = .pointer (some ⟨g, 0, none⟩)) (hz : a.tmps.getD r undef = u) (hd : a.defers = []) (X : Box W g t #[x, y, z]) (hR : R W (.tuple #[.agg #[x, y, z], u])) (HB : Below w0.heap.size w0 W) : bodyPost Tryz.prog fn (Ret w0 R) .ret a W :=
  bodyPost_ret (results_ie hres a.tmps _ W g [x, y, z] u _ hp hz (box_range X) Tryz.underlying37 rfl (by kernel_rfl)) hd ⟨_, rfl, hR, HB⟩
theorem ret_ii {fn : Func} {p q : Tmp} {a : Act} {w0 W : World} {R : World → Value → Prop} {g h : Nat} {t t' : TypeId} {x y x' y' : Value} (hres : fn.results = #[.cell p 105, .cell q 105])
    (hp : a.tmps.getD p undef = .pointer (some ⟨g, 0, none⟩)) (hq : a.tmps.getD q undef = .pointer (some ⟨h, 0, none⟩)) (hd : a.defers = []) (X : Box W g t #[x, y]) (Y : Box W h t' #[x', y'])
    (hR : R W (.tuple #[.agg #[x, y], .agg #[x', y']])) (HB : Below w0.heap.size w0 W) : bodyPost Tryz.prog fn (Ret w0 R) .ret a W :=
  bodyPost_ret (results_ii hres a.tmps _ W g h [x, y] [x', y'] _ _ hp hq (box_range X) (box_range Y) Tryz.underlying105 rfl (by kernel_rfl) Tryz.underlying105 rfl (by kernel_rfl)) hd ⟨_, rfl, hR, HB⟩
theorem AR.neg {q : Rat} {L : Nat} {w : World} {b : Bool} {s t : Value} (h : AR q L w (.agg #[.bool b, s, t])) : AR (-q) L w (.agg #[.bool (!b), s, t]) := by
  obtain ⟨n, d, h2, h3, rfl⟩ := h.parts
  exact ⟨_, _, _, n, d, rfl, h2, h3, rv_neg b n d⟩
def CL2 (y z : Int) (L M : Nat) (w : World) (v : Value) : Prop := ∃ a b, v = .tuple #[a, b] ∧ CL y L w a ∧ CL z M w b
def CRE (q : Rat) (L : Nat) (err : Int) (w : World) (v : Value) : Prop := ∃ a, v = .tuple #[a, .int .i64 err] ∧ CR q L w a
theorem Is.cast {m n L : Nat} {w : World} {v : Value} (e : m = n) (h : Is m L w v) : Is n L w v := e ▸ h
theorem Can.cast {m n L : Nat} {w : World} {v : Value} (e : m = n) (h : Can m L w v) : Can n L w v := e ▸ h
theorem Can.len {m L : Nat} {w : World} {a : Option Addr} {n c : Nat} (h : Can m L w (.slice a n c)) : n = sz m := by
  obtain ⟨⟨ad, n', cap, he, hn, -⟩, -⟩ := h
  injection he with e1 e2 e3
  subst e2; exact hn.symm
theorem Can.len0 {m L : Nat} {w : World} {a : Option Addr} {n c : Nat} (h : Can m L w (.slice a n c)) (b : Bool) (hb : (m == 0) = b) : ((n : Int) == 0) = b := limbs_len0 (by rw [h.len]; rfl) b hb
theorem Is.one (w : World) (t : TypeId) : Is 1 1 (w.alloc (.cells #[.int .u32 1] t)) (.slice (some ⟨w.heap.size, 0, none⟩) 1 1) := ⟨_, sl_one w t 1 (by decide), by simp [val], by simp⟩
theorem one_is (w : World) : Calls Tryz.prog 179 #[] w (Ret w (Is 1 1)) := by
  go_enter Tryz.func179, Tryz.ntmps179
  go_wp2
  go_ret
  exact ⟨_, rfl, Is.one _ _, (Below.refl _ _).alloc (Nat.le_refl _) _⟩
theorem unit_any {m L : Nat} {s : Value} {w : World} (B : Bool) (hB : (m == 1) = B) (h : Can m L w s) : Calls Tryz.prog 175 #[s] w (Ret w (Val (.bool B))) := by
  subst hB
  obtain ⟨⟨ad, n, cap, rfl, hn, hnc, hm, hl, hs⟩, -⟩ := h
  have hz := @sz_eq_zero m
  unfold sz at hz
  rcases Nat.eq_zero_or_pos m with h0 | h0
  · obtain rfl : n = 0 := by omega
    clear hz hs hn hl
    rw [show (m == 1) = false by simp; omega]
    go_enter Tryz.func175, Tryz.ntmps175
    go_wp2
    go_ret
    exact ⟨_, rfl, rfl, Below.refl _ _⟩
  · by_cases h1 : m < 4294967296
    · rw [limbs_single h0 h1] at hn hs
      obtain rfl : n = 1 := by simpa using hn.symm
      obtain ⟨b, off, rfl, hb, hc⟩ := hs (by decide)
      have hc0 : w.cell? ⟨b, off, none⟩ = some (.int .u32 (m : Int)) := hc 0 (by decide)
      clear hz hs hn hl hc hm
      by_cases h2 : m = 1
      · subst h2
        go_enter Tryz.func175, Tryz.ntmps175
        go_wp2
        go_ret
        exact ⟨_, rfl, rfl, Below.refl _ _⟩
      · rw [show (m == 1) = false by simpa using h2]
        have hd : ((m : Int) == 1) = false := by simp; omega
        go_enter Tryz.func175, Tryz.ntmps175
        go_wp2
        go_ret
        exact ⟨_, rfl, rfl, Below.refl _ _⟩
    · have h2 : n ≠ 1 := by
        rintro rfl
        have := val_lt (xs := limbs m) hl
        rw [val_limbs, hn] at this
        omega
      clear hz hs hn hl
      rw [show (m == 1) = false by simp; omega]
      have hd : ((n : Int) == 1) = false := by simp; omega
      go_enter Tryz.func175, Tryz.ntmps175
      go_wp2
      go_ret
      exact ⟨_, rfl, rfl, Below.refl _ _⟩
theorem gcd_pos {n d : Nat} (h : 0 < d) : 0 < Nat.gcd n d := Nat.gcd_pos_of_pos_right n h
theorem one_le_of_is {d M : Nat} {w : World} {t : Value} (hd : 0 < d) (h : Is d M w t) : 1 ≤ M := by
  have h1 := sz_pos hd
  have := h.sz_le
  omega
theorem quot_zero {neg : Bool} {n d L M : Nat} {w W : World} {t : Value} (hz : n = 0) (hd : 0 < d) (h : Is d M w t) : CR (mkRat (iv neg n) d) (max L M) W (.agg #[.bool false, .slice none 0 0, .slice none 0 0]) := by
  have h1 := one_le_of_is hd h
  rw [hz, show iv neg 0 = 0 by cases neg <;> rfl, Rat.zero_mkRat]
  exact (CR.zero W).mono (by omega)
theorem quot_one {neg : Bool} {n d L M : Nat} {w W : World} {s t : Value} (hz : 0 < n) (hd : 0 < d) (hv : (d == 1) = true) (hs : Can n L W s) (h : Is d M w t) : CR (mkRat (iv neg n) d) (max L M) W (.agg #[.bool neg, s, .slice none 0 0]) := by
  have h1 := one_le_of_is hd h
  have e : d = 1 := by simpa using hv
  subst e
  refine CR.of_parts hz hd ?_ ?_ (by omega)
  · rw [Nat.gcd_one_right, Nat.div_one]; exact hs.mono (Nat.le_max_left _ _)
  · rw [Nat.gcd_one_right, Nat.div_one, if_pos rfl]
    exact ⟨by show Sl W _ (limbs 0); rw [limbs_zero]; exact Sl.nil W, sz_zero_le _⟩
theorem quot_two {neg : Bool} {n d L M : Nat} {W : World} {s t : Value} (hz : 0 < n) (hd : 0 < d) (hv : (d == 1) = false) (hg : (Nat.gcd n d == 1) = true) (hs : Can n L W s) (ht : Can d M W t) : CR (mkRat (iv neg n) d) (max L M) W (.agg #[.bool neg, s, t]) := by
  have h1 := one_le_of_is hd ht.is
  have e : Nat.gcd n d = 1 := by simpa using hg
  have e' : d ≠ 1 := by simpa using hv
  refine CR.of_parts hz hd ?_ ?_ (by omega)
  · rw [e, Nat.div_one]; exact hs.mono (Nat.le_max_left _ _)
  · rw [e, Nat.div_one, if_neg e']; exact ht.mono (Nat.le_max_right _ _)
theorem quot_three {neg : Bool} {n d L M : Nat} {w W : World} {s t : Value} (hz : 0 < n) (hd : 0 < d) (he : (d / Nat.gcd n d == 1) = true) (hs : Can (n / Nat.gcd n d) L W s) (ht : Is d M w t) : CR (mkRat (iv neg n) d) (max L M) W (.agg #[.bool neg, s, .slice none 0 0]) := by
  have h1 := one_le_of_is hd ht
  refine CR.of_parts hz hd (hs.mono (Nat.le_max_left _ _)) ?_ (by omega)
  rw [if_pos (by simpa using he)]
  exact ⟨by show Sl W _ (limbs 0); rw [limbs_zero]; exact Sl.nil W, sz_zero_le _⟩
theorem quot_four {neg : Bool} {n d L M : Nat} {W : World} {s t : Value} (hz : 0 < n) (hd : 0 < d) (he : (d / Nat.gcd n d == 1) = false) (hs : Can (n / Nat.gcd n d) L W s) (ht : Can (d / Nat.gcd n d) M W t) : CR (mkRat (iv neg n) d) (max L M) W (.agg #[.bool neg, s, t]) := by
  have hp : 0 < d / Nat.gcd n d := Nat.div_pos (Nat.le_of_dvd hd (Nat.gcd_dvd_right n d)) (gcd_pos hd)
  have h1 := one_le_of_is hp ht.is
  refine CR.of_parts hz hd (hs.mono (Nat.le_max_left _ _)) ?_ (by omega)
  rw [if_neg (by simpa using he)]
  exact ht.mono (Nat.le_max_right _ _)
theorem stored2s {W W' : World} {g : Nat} {t : TypeId} {x y x' y' : Value} (hW : W' = (W.setCell ⟨g, 0, none⟩ x').setCell ⟨g, 1, none⟩ y') (X : Box W g t #[x, y]) (hx : NoInt x) (hy : NoInt y) :
    Box W' g t #[x', y'] ∧ Keep W W' ∧ (∀ g' t' cs, Box W g' t' cs → g' ≠ g → Box W' g' t' cs) ∧ (∀ w0 : World, Below w0.heap.size w0 W → w0.heap.size ≤ g → Below w0.heap.size w0 W') ∧ W'.heap.size = W.heap.size :=
  let ⟨a, b, c, d⟩ := stored2 hW X hx hy; ⟨a, b, c, d, by subst hW; simp⟩
theorem stored3s {W W' : World} {g : Nat} {t : TypeId} {x y z x' y' z' : Value} (hW : W' = ((W.setCell ⟨g, 0, none⟩ x').setCell ⟨g, 1, none⟩ y').setCell ⟨g, 2, none⟩ z') (X : Box W g t #[x, y, z]) (hx : NoInt x) (hy : NoInt y) (hz : NoInt z) :
    Box W' g t #[x', y', z'] ∧ Keep W W' ∧ (∀ g' t' cs, Box W g' t' cs → g' ≠ g → Box W' g' t' cs) ∧ (∀ w0 : World, Below w0.heap.size w0 W → w0.heap.size ≤ g → Below w0.heap.size w0 W') ∧ W'.heap.size = W.heap.size :=
  let ⟨a, b, c, d⟩ := stored3 hW X hx hy hz; ⟨a, b, c, d, by subst hW; simp⟩
set_option maxRecDepth 100000 in
set_option maxHeartbeats 4000000 in
theorem quot_0 {neg : Bool} {n d L M : Nat} {s t : Value}  {w : World} (hz : n = 0) (hn : Is n L w s) (hm : Is d M w t) (hd : 0 < d) (hL : L ≤ 1000000000) (hM : M ≤ 1000000000) :
    Calls Tryz.prog 132 #[.bool neg, s, t] w (Ret w (CR (mkRat (iv neg n) d) (max L M))) := by
  have Hn := Lib.hid hn
  have Hm := Lib.hid hm
  have Hd := Lib.hid hd
  have Hz := Lib.hid hz
  clear hn hm hd hz
  go_enter Tryz.func132, Tryz.ntmps132
  have HB := Lib.hid (Below.refl w.heap.size w)
  go_wp2_with fail
  obtain ⟨W1, hW⟩ : ∃ W1, W1 = (World.alloc w (.cells #[.bool false, .slice none 0 0, .slice none 0 0] 37)) := ⟨_, rfl⟩
  rw [← hW]
  obtain ⟨xa0, hk, hb⟩ := boxes_1 _ _ _ hW
  clear hW
  have Hn := Lib.hid (Is.keep Hn.out hk)
  have Hm := Lib.hid (Is.keep Hm.out hk)
  have Ga0 := Lib.hid (show w.heap.size ≤ w.heap.size from Nat.le_trans HB.out.size (by omega))
  have Xa0 := Lib.hid xa0
  have HB := Lib.hid (below_call HB.out hb)
  clear hk hb xa0
  (first | (have hcall := make_is Hn.out; refine Calls.mono hcall ?_; clear hcall) | refine Calls.mono (make_is Hn.out) ?_)
  rintro e w2 ⟨v2, rfl, hx, hb⟩
  obtain ⟨x_a, x_n, x_c, rfl⟩ := hx.is.lit
  have Hm := Lib.hid (Is.keep Hm.out (Keep.call hb))
  have Xa0 := Lib.hid (Box.pcall hb Xa0.out)
  have HB := Lib.hid (below_call HB.out hb)
  have Hx := Lib.hid hx
  clear hb hx
  have dx : ((x_n : Int) == 0) = true := Hx.out.len0 true (by rw [Hz.out]; rfl)
  obtain ⟨ca00, ca01, ca02, fa00, fa01, fa02⟩ := Xa0.out.c3
  have la0 := Xa0.out.lt
  go_wp2
  clear ca00 ca01 ca02 fa00 fa01 fa02 la0
  obtain ⟨W3, hW⟩ : ∃ W3, W3 = (World.setCell (World.setCell (World.setCell w2 ⟨w.heap.size, 0, none⟩ (.bool false)) ⟨w.heap.size, 1, none⟩ (.slice none 0 0)) ⟨w.heap.size, 2, none⟩ (.slice none 0 0)) := ⟨_, rfl⟩
  rw [← hW]
  obtain ⟨xa0, hk, hf, hbb, hz⟩ := stored3s hW Xa0.out (by first | exact NoInt.bool _ | exact NoInt.slice _ _ _) (by first | exact NoInt.bool _ | exact NoInt.slice _ _ _) (by first | exact NoInt.bool _ | exact NoInt.slice _ _ _)
  have Hm := Lib.hid (Is.keep Hm.out hk)
  have Xa0 := Lib.hid xa0
  have HB := Lib.hid (hbb _ HB.out Ga0.out)
  clear hW hk hf hbb xa0
  clear hz
  exact ret_rat1 rfl rfl rfl Xa0.out (quot_zero Hz.out Hd.out Hm.out) HB.out
set_option maxRecDepth 100000 in
set_option maxHeartbeats 4000000 in
theorem quot_1 {neg : Bool} {n d L M : Nat} {s t : Value}  {w : World} (hz : 0 < n) (hv : (d == 1) = true) (hn : Is n L w s) (hm : Is d M w t) (hd : 0 < d) (hL : L ≤ 1000000000) (hM : M ≤ 1000000000) :
    Calls Tryz.prog 132 #[.bool neg, s, t] w (Ret w (CR (mkRat (iv neg n) d) (max L M))) := by
  have Hn := Lib.hid hn
  have Hm := Lib.hid hm
  have Hd := Lib.hid hd
  have Hz := Lib.hid hz
  have Hv := Lib.hid hv
  clear hn hm hd hz hv
  go_enter Tryz.func132, Tryz.ntmps132
  have HB := Lib.hid (Below.refl w.heap.size w)
  go_wp2_with fail
  obtain ⟨W1, hW⟩ : ∃ W1, W1 = (World.alloc w (.cells #[.bool false, .slice none 0 0, .slice none 0 0] 37)) := ⟨_, rfl⟩
  rw [← hW]
  obtain ⟨xa0, hk, hb⟩ := boxes_1 _ _ _ hW
  clear hW
  have Hn := Lib.hid (Is.keep Hn.out hk)
  have Hm := Lib.hid (Is.keep Hm.out hk)
  have Ga0 := Lib.hid (show w.heap.size ≤ w.heap.size from Nat.le_trans HB.out.size (by omega))
  have Xa0 := Lib.hid xa0
  have HB := Lib.hid (below_call HB.out hb)
  clear hk hb xa0
  (first | (have hcall := make_is Hn.out; refine Calls.mono hcall ?_; clear hcall) | refine Calls.mono (make_is Hn.out) ?_)
  rintro e w2 ⟨v2, rfl, hx, hb⟩
  obtain ⟨x_a, x_n, x_c, rfl⟩ := hx.is.lit
  have Hm := Lib.hid (Is.keep Hm.out (Keep.call hb))
  have Xa0 := Lib.hid (Box.pcall hb Xa0.out)
  have HB := Lib.hid (below_call HB.out hb)
  have Hx := Lib.hid hx
  clear hb hx
  have dx : ((x_n : Int) == 0) = false := Hx.out.len0 false (beq_eq_false_iff_ne.2 (Nat.ne_of_gt Hz.out))
  obtain ⟨ca00, ca01, ca02, fa00, fa01, fa02⟩ := Xa0.out.c3
  have la0 := Xa0.out.lt
  go_wp2_with fail
  clear ca00 ca01 ca02 fa00 fa01 fa02 la0
  (first | (have hcall := make_is Hm.out; refine Calls.mono hcall ?_; clear hcall) | refine Calls.mono (make_is Hm.out) ?_)
  rintro e w3 ⟨v3, rfl, hy, hb⟩
  obtain ⟨y_a, y_n, y_c, rfl⟩ := hy.is.lit
  have Hm := Lib.hid (Is.keep Hm.out (Keep.call hb))
  have Hx := Lib.hid (Can.keep Hx.out (Keep.call hb))
  have Xa0 := Lib.hid (Box.pcall hb Xa0.out)
  have HB := Lib.hid (below_call HB.out hb)
  have Hy := Lib.hid hy
  clear hb hy
  obtain ⟨ca00, ca01, ca02, fa00, fa01, fa02⟩ := Xa0.out.c3
  have la0 := Xa0.out.lt
  go_wp2_with fail
  clear ca00 ca01 ca02 fa00 fa01 fa02 la0
  (first | (have hcall := unit_any true Hv.out Hy.out; refine Calls.mono hcall ?_; clear hcall) | refine Calls.mono (unit_any true Hv.out Hy.out) ?_)
  rintro e w4 ⟨v4, rfl, rfl, hb⟩
  have Hm := Lib.hid (Is.keep Hm.out (Keep.call hb))
  have Hx := Lib.hid (Can.keep Hx.out (Keep.call hb))
  have Xa0 := Lib.hid (Box.pcall hb Xa0.out)
  have HB := Lib.hid (below_call HB.out hb)
  clear hb
  obtain ⟨ca00, ca01, ca02, fa00, fa01, fa02⟩ := Xa0.out.c3
  have la0 := Xa0.out.lt
  go_wp2
  clear ca00 ca01 ca02 fa00 fa01 fa02 la0
  obtain ⟨W5, hW⟩ : ∃ W5, W5 = (World.setCell (World.setCell (World.setCell w4 ⟨w.heap.size, 0, none⟩ (.bool neg)) ⟨w.heap.size, 1, none⟩ (.slice x_a x_n x_c)) ⟨w.heap.size, 2, none⟩ (.slice none 0 0)) := ⟨_, rfl⟩
  rw [← hW]
  obtain ⟨xa0, hk, hf, hbb, hz⟩ := stored3s hW Xa0.out (by first | exact NoInt.bool _ | exact NoInt.slice _ _ _) (by first | exact NoInt.bool _ | exact NoInt.slice _ _ _) (by first | exact NoInt.bool _ | exact NoInt.slice _ _ _)
  have Hm := Lib.hid (Is.keep Hm.out hk)
  have Hx := Lib.hid (Can.keep Hx.out hk)
  have Xa0 := Lib.hid xa0
  have HB := Lib.hid (hbb _ HB.out Ga0.out)
  clear hW hk hf hbb xa0
  clear hz
  exact ret_rat1 rfl rfl rfl Xa0.out (quot_one Hz.out Hd.out Hv.out Hx.out Hm.out) HB.out
set_option maxRecDepth 100000 in
set_option maxHeartbeats 4000000 in
theorem quot_2 {neg : Bool} {n d L M : Nat} {s t : Value}  {w : World} (hz : 0 < n) (hv : (d == 1) = false) (hg : (Nat.gcd n d == 1) = true) (hn : Is n L w s) (hm : Is d M w t) (hd : 0 < d) (hL : L ≤ 1000000000) (hM : M ≤ 1000000000) :
    Calls Tryz.prog 132 #[.bool neg, s, t] w (Ret w (CR (mkRat (iv neg n) d) (max L M))) := by
  have Hn := Lib.hid hn
  have Hm := Lib.hid hm
  have Hd := Lib.hid hd
  have Hz := Lib.hid hz
  have Hv := Lib.hid hv
  have Hg := Lib.hid hg
  clear hn hm hd hz hv hg
  go_enter Tryz.func132, Tryz.ntmps132
  have HB := Lib.hid (Below.refl w.heap.size w)
  go_wp2_with fail
  obtain ⟨W1, hW⟩ : ∃ W1, W1 = (World.alloc w (.cells #[.bool false, .slice none 0 0, .slice none 0 0] 37)) := ⟨_, rfl⟩
  rw [← hW]
  obtain ⟨xa0, hk, hb⟩ := boxes_1 _ _ _ hW
  clear hW
  have Hn := Lib.hid (Is.keep Hn.out hk)
  have Hm := Lib.hid (Is.keep Hm.out hk)
  have Ga0 := Lib.hid (show w.heap.size ≤ w.heap.size from Nat.le_trans HB.out.size (by omega))
  have Xa0 := Lib.hid xa0
  have HB := Lib.hid (below_call HB.out hb)
  clear hk hb xa0
  (first | (have hcall := make_is Hn.out; refine Calls.mono hcall ?_; clear hcall) | refine Calls.mono (make_is Hn.out) ?_)
  rintro e w2 ⟨v2, rfl, hx, hb⟩
  obtain ⟨x_a, x_n, x_c, rfl⟩ := hx.is.lit
  have Hm := Lib.hid (Is.keep Hm.out (Keep.call hb))
  have Xa0 := Lib.hid (Box.pcall hb Xa0.out)
  have HB := Lib.hid (below_call HB.out hb)
  have Hx := Lib.hid hx
  clear hb hx
  have dx : ((x_n : Int) == 0) = false := Hx.out.len0 false (beq_eq_false_iff_ne.2 (Nat.ne_of_gt Hz.out))
  obtain ⟨ca00, ca01, ca02, fa00, fa01, fa02⟩ := Xa0.out.c3
  have la0 := Xa0.out.lt
  go_wp2_with fail
  clear ca00 ca01 ca02 fa00 fa01 fa02 la0
  (first | (have hcall := make_is Hm.out; refine Calls.mono hcall ?_; clear hcall) | refine Calls.mono (make_is Hm.out) ?_)
  rintro e w3 ⟨v3, rfl, hy, hb⟩
  obtain ⟨y_a, y_n, y_c, rfl⟩ := hy.is.lit
  have Hx := Lib.hid (Can.keep Hx.out (Keep.call hb))
  have Xa0 := Lib.hid (Box.pcall hb Xa0.out)
  have HB := Lib.hid (below_call HB.out hb)
  have Hy := Lib.hid hy
  clear hb hy
  obtain ⟨ca00, ca01, ca02, fa00, fa01, fa02⟩ := Xa0.out.c3
  have la0 := Xa0.out.lt
  go_wp2_with fail
  clear ca00 ca01 ca02 fa00 fa01 fa02 la0
  (first | (have hcall := unit_any false Hv.out Hy.out; refine Calls.mono hcall ?_; clear hcall) | refine Calls.mono (unit_any false Hv.out Hy.out) ?_)
  rintro e w4 ⟨v4, rfl, rfl, hb⟩
  have Hx := Lib.hid (Can.keep Hx.out (Keep.call hb))
  have Hy := Lib.hid (Can.keep Hy.out (Keep.call hb))
  have Xa0 := Lib.hid (Box.pcall hb Xa0.out)
  have HB := Lib.hid (below_call HB.out hb)
  clear hb
  obtain ⟨ca00, ca01, ca02, fa00, fa01, fa02⟩ := Xa0.out.c3
  have la0 := Xa0.out.lt
  go_wp2_with fail
  clear ca00 ca01 ca02 fa00 fa01 fa02 la0
  (first | (have hcall := gcd_can Hx.out.is Hy.out.is (by omega) (by omega); refine Calls.mono hcall ?_; clear hcall) | refine Calls.mono (gcd_can Hx.out.is Hy.out.is (by omega) (by omega)) ?_)
  rintro e w5 ⟨v5, rfl, hk, hb⟩
  obtain ⟨k_a, k_n, k_c, rfl⟩ := hk.is.lit
  have Hx := Lib.hid (Can.keep Hx.out (Keep.call hb))
  have Hy := Lib.hid (Can.keep Hy.out (Keep.call hb))
  have Xa0 := Lib.hid (Box.pcall hb Xa0.out)
  have HB := Lib.hid (below_call HB.out hb)
  have Hk := Lib.hid hk
  clear hb hk
  obtain ⟨ca00, ca01, ca02, fa00, fa01, fa02⟩ := Xa0.out.c3
  have la0 := Xa0.out.lt
  go_wp2_with fail
  clear ca00 ca01 ca02 fa00 fa01 fa02 la0
  (first | (have hcall := unit_any true Hg.out Hk.out; refine Calls.mono hcall ?_; clear hcall) | refine Calls.mono (unit_any true Hg.out Hk.out) ?_)
  rintro e w6 ⟨v6, rfl, rfl, hb⟩
  have Hx := Lib.hid (Can.keep Hx.out (Keep.call hb))
  have Hy := Lib.hid (Can.keep Hy.out (Keep.call hb))
  have Xa0 := Lib.hid (Box.pcall hb Xa0.out)
  have HB := Lib.hid (below_call HB.out hb)
  clear hb
  obtain ⟨ca00, ca01, ca02, fa00, fa01, fa02⟩ := Xa0.out.c3
  have la0 := Xa0.out.lt
  go_wp2_with fail
  clear ca00 ca01 ca02 fa00 fa01 fa02 la0
  (first | (have hcall := unit_any false Hv.out Hy.out; refine Calls.mono hcall ?_; clear hcall) | refine Calls.mono (unit_any false Hv.out Hy.out) ?_)
  rintro e w7 ⟨v7, rfl, rfl, hb⟩
  have Hx := Lib.hid (Can.keep Hx.out (Keep.call hb))
  have Hy := Lib.hid (Can.keep Hy.out (Keep.call hb))
  have Xa0 := Lib.hid (Box.pcall hb Xa0.out)
  have HB := Lib.hid (below_call HB.out hb)
  clear hb
  obtain ⟨ca00, ca01, ca02, fa00, fa01, fa02⟩ := Xa0.out.c3
  have la0 := Xa0.out.lt
  go_wp2
  clear ca00 ca01 ca02 fa00 fa01 fa02 la0
  obtain ⟨W8, hW⟩ : ∃ W8, W8 = (World.setCell (World.setCell (World.setCell w7 ⟨w.heap.size, 0, none⟩ (.bool neg)) ⟨w.heap.size, 1, none⟩ (.slice x_a x_n x_c)) ⟨w.heap.size, 2, none⟩ (.slice y_a y_n y_c)) := ⟨_, rfl⟩
  rw [← hW]
  obtain ⟨xa0, hk, hf, hbb, hz⟩ := stored3s hW Xa0.out (by first | exact NoInt.bool _ | exact NoInt.slice _ _ _) (by first | exact NoInt.bool _ | exact NoInt.slice _ _ _) (by first | exact NoInt.bool _ | exact NoInt.slice _ _ _)
  have Hx := Lib.hid (Can.keep Hx.out hk)
  have Hy := Lib.hid (Can.keep Hy.out hk)
  have Xa0 := Lib.hid xa0
  have HB := Lib.hid (hbb _ HB.out Ga0.out)
  clear hW hk hf hbb xa0
  clear hz
  exact ret_rat1 rfl rfl rfl Xa0.out (quot_two Hz.out Hd.out Hv.out Hg.out Hx.out Hy.out) HB.out
set_option maxRecDepth 100000 in
set_option maxHeartbeats 4000000 in
theorem quot_3 {neg : Bool} {n d L M : Nat} {s t : Value}  {w : World} (hz : 0 < n) (hv : (d == 1) = false) (hg : (Nat.gcd n d == 1) = false) (he : (d / Nat.gcd n d == 1) = true) (hn : Is n L w s) (hm : Is d M w t) (hd : 0 < d) (hL : L ≤ 1000000000) (hM : M ≤ 1000000000) :
    Calls Tryz.prog 132 #[.bool neg, s, t] w (Ret w (CR (mkRat (iv neg n) d) (max L M))) := by
  have Hn := Lib.hid hn
  have Hm := Lib.hid hm
  have Hd := Lib.hid hd
  have Hz := Lib.hid hz
  have Hv := Lib.hid hv
  have Hg := Lib.hid hg
  have He := Lib.hid he
  clear hn hm hd hz hv hg he
  go_enter Tryz.func132, Tryz.ntmps132
  have HB := Lib.hid (Below.refl w.heap.size w)
  go_wp2_with fail
  obtain ⟨W1, hW⟩ : ∃ W1, W1 = (World.alloc w (.cells #[.bool false, .slice none 0 0, .slice none 0 0] 37)) := ⟨_, rfl⟩
  rw [← hW]
  obtain ⟨xa0, hk, hb⟩ := boxes_1 _ _ _ hW
  clear hW
  have Hn := Lib.hid (Is.keep Hn.out hk)
  have Hm := Lib.hid (Is.keep Hm.out hk)
  have Ga0 := Lib.hid (show w.heap.size ≤ w.heap.size from Nat.le_trans HB.out.size (by omega))
  have Xa0 := Lib.hid xa0
  have HB := Lib.hid (below_call HB.out hb)
  clear hk hb xa0
  (first | (have hcall := make_is Hn.out; refine Calls.mono hcall ?_; clear hcall) | refine Calls.mono (make_is Hn.out) ?_)
  rintro e w2 ⟨v2, rfl, hx, hb⟩
  obtain ⟨x_a, x_n, x_c, rfl⟩ := hx.is.lit
  have Hm := Lib.hid (Is.keep Hm.out (Keep.call hb))
  have Xa0 := Lib.hid (Box.pcall hb Xa0.out)
  have HB := Lib.hid (below_call HB.out hb)
  have Hx := Lib.hid hx
  clear hb hx
  have dx : ((x_n : Int) == 0) = false := Hx.out.len0 false (beq_eq_false_iff_ne.2 (Nat.ne_of_gt Hz.out))
  obtain ⟨ca00, ca01, ca02, fa00, fa01, fa02⟩ := Xa0.out.c3
  have la0 := Xa0.out.lt
  go_wp2_with fail
  clear ca00 ca01 ca02 fa00 fa01 fa02 la0
  (first | (have hcall := make_is Hm.out; refine Calls.mono hcall ?_; clear hcall) | refine Calls.mono (make_is Hm.out) ?_)
  rintro e w3 ⟨v3, rfl, hy, hb⟩
  obtain ⟨y_a, y_n, y_c, rfl⟩ := hy.is.lit
  have Hm := Lib.hid (Is.keep Hm.out (Keep.call hb))
  have Hx := Lib.hid (Can.keep Hx.out (Keep.call hb))
  have Xa0 := Lib.hid (Box.pcall hb Xa0.out)
  have HB := Lib.hid (below_call HB.out hb)
  have Hy := Lib.hid hy
  clear hb hy
  obtain ⟨ca00, ca01, ca02, fa00, fa01, fa02⟩ := Xa0.out.c3
  have la0 := Xa0.out.lt
  go_wp2_with fail
  clear ca00 ca01 ca02 fa00 fa01 fa02 la0
  (first | (have hcall := unit_any false Hv.out Hy.out; refine Calls.mono hcall ?_; clear hcall) | refine Calls.mono (unit_any false Hv.out Hy.out) ?_)
  rintro e w4 ⟨v4, rfl, rfl, hb⟩
  have Hm := Lib.hid (Is.keep Hm.out (Keep.call hb))
  have Hx := Lib.hid (Can.keep Hx.out (Keep.call hb))
  have Hy := Lib.hid (Can.keep Hy.out (Keep.call hb))
  have Xa0 := Lib.hid (Box.pcall hb Xa0.out)
  have HB := Lib.hid (below_call HB.out hb)
  clear hb
  obtain ⟨ca00, ca01, ca02, fa00, fa01, fa02⟩ := Xa0.out.c3
  have la0 := Xa0.out.lt
  go_wp2_with fail
  clear ca00 ca01 ca02 fa00 fa01 fa02 la0
  (first | (have hcall := gcd_can Hx.out.is Hy.out.is (by omega) (by omega); refine Calls.mono hcall ?_; clear hcall) | refine Calls.mono (gcd_can Hx.out.is Hy.out.is (by omega) (by omega)) ?_)
  rintro e w5 ⟨v5, rfl, hk, hb⟩
  obtain ⟨k_a, k_n, k_c, rfl⟩ := hk.is.lit
  have Hm := Lib.hid (Is.keep Hm.out (Keep.call hb))
  have Hx := Lib.hid (Can.keep Hx.out (Keep.call hb))
  have Hy := Lib.hid (Can.keep Hy.out (Keep.call hb))
  have Xa0 := Lib.hid (Box.pcall hb Xa0.out)
  have HB := Lib.hid (below_call HB.out hb)
  have Hk := Lib.hid hk
  clear hb hk
  obtain ⟨ca00, ca01, ca02, fa00, fa01, fa02⟩ := Xa0.out.c3
  have la0 := Xa0.out.lt
  go_wp2_with fail
  clear ca00 ca01 ca02 fa00 fa01 fa02 la0
  (first | (have hcall := unit_any false Hg.out Hk.out; refine Calls.mono hcall ?_; clear hcall) | refine Calls.mono (unit_any false Hg.out Hk.out) ?_)
  rintro e w6 ⟨v6, rfl, rfl, hb⟩
  have Hm := Lib.hid (Is.keep Hm.out (Keep.call hb))
  have Hx := Lib.hid (Can.keep Hx.out (Keep.call hb))
  have Hy := Lib.hid (Can.keep Hy.out (Keep.call hb))
  have Hk := Lib.hid (Can.keep Hk.out (Keep.call hb))
  have Xa0 := Lib.hid (Box.pcall hb Xa0.out)
  have HB := Lib.hid (below_call HB.out hb)
  clear hb
  obtain ⟨ca00, ca01, ca02, fa00, fa01, fa02⟩ := Xa0.out.c3
  have la0 := Xa0.out.lt
  go_wp2_with fail
  clear ca00 ca01 ca02 fa00 fa01 fa02 la0
  (first | (have hcall := divmod_pos (gcd_pos Hd.out) Hx.out.is Hk.out.is (by omega); refine Calls.mono hcall ?_; clear hcall) | refine Calls.mono (divmod_pos (gcd_pos Hd.out) Hx.out.is Hk.out.is (by omega)) ?_)
  rintro e w7 ⟨t7, rfl, ⟨v7, u7, rfl, hqa, hra⟩, hb⟩
  obtain ⟨qa_a, qa_n, qa_c, rfl⟩ := hqa.is.lit
  obtain ⟨ra_a, ra_n, ra_c, rfl⟩ := hra.is.lit
  have Hm := Lib.hid (Is.keep Hm.out (Keep.call hb))
  have Hy := Lib.hid (Can.keep Hy.out (Keep.call hb))
  have Hk := Lib.hid (Can.keep Hk.out (Keep.call hb))
  have Xa0 := Lib.hid (Box.pcall hb Xa0.out)
  have HB := Lib.hid (below_call HB.out hb)
  have Hqa := Lib.hid hqa
  have Hra := Lib.hid hra
  clear hb hqa hra
  obtain ⟨ca00, ca01, ca02, fa00, fa01, fa02⟩ := Xa0.out.c3
  have la0 := Xa0.out.lt
  go_wp2_with fail
  clear ca00 ca01 ca02 fa00 fa01 fa02 la0
  (first | (have hcall := divmod_pos (gcd_pos Hd.out) Hy.out.is Hk.out.is (by omega); refine Calls.mono hcall ?_; clear hcall) | refine Calls.mono (divmod_pos (gcd_pos Hd.out) Hy.out.is Hk.out.is (by omega)) ?_)
  rintro e w8 ⟨t8, rfl, ⟨v8, u8, rfl, hqb, hrb⟩, hb⟩
  obtain ⟨qb_a, qb_n, qb_c, rfl⟩ := hqb.is.lit
  obtain ⟨rb_a, rb_n, rb_c, rfl⟩ := hrb.is.lit
  have Hm := Lib.hid (Is.keep Hm.out (Keep.call hb))
  have Hqa := Lib.hid (Can.keep Hqa.out (Keep.call hb))
  have Xa0 := Lib.hid (Box.pcall hb Xa0.out)
  have HB := Lib.hid (below_call HB.out hb)
  have Hqb := Lib.hid hqb
  have Hrb := Lib.hid hrb
  clear hb hqb hrb
  obtain ⟨ca00, ca01, ca02, fa00, fa01, fa02⟩ := Xa0.out.c3
  have la0 := Xa0.out.lt
  go_wp2_with fail
  clear ca00 ca01 ca02 fa00 fa01 fa02 la0
  (first | (have hcall := unit_any true He.out Hqb.out; refine Calls.mono hcall ?_; clear hcall) | refine Calls.mono (unit_any true He.out Hqb.out) ?_)
  rintro e w9 ⟨v9, rfl, rfl, hb⟩
  have Hm := Lib.hid (Is.keep Hm.out (Keep.call hb))
  have Hqa := Lib.hid (Can.keep Hqa.out (Keep.call hb))
  have Xa0 := Lib.hid (Box.pcall hb Xa0.out)
  have HB := Lib.hid (below_call HB.out hb)
  clear hb
  obtain ⟨ca00, ca01, ca02, fa00, fa01, fa02⟩ := Xa0.out.c3
  have la0 := Xa0.out.lt
  go_wp2
  clear ca00 ca01 ca02 fa00 fa01 fa02 la0
  obtain ⟨W10, hW⟩ : ∃ W10, W10 = (World.setCell (World.setCell (World.setCell w9 ⟨w.heap.size, 0, none⟩ (.bool neg)) ⟨w.heap.size, 1, none⟩ (.slice qa_a qa_n qa_c)) ⟨w.heap.size, 2, none⟩ (.slice none 0 0)) := ⟨_, rfl⟩
  rw [← hW]
  obtain ⟨xa0, hk, hf, hbb, hz⟩ := stored3s hW Xa0.out (by first | exact NoInt.bool _ | exact NoInt.slice _ _ _) (by first | exact NoInt.bool _ | exact NoInt.slice _ _ _) (by first | exact NoInt.bool _ | exact NoInt.slice _ _ _)
  have Hm := Lib.hid (Is.keep Hm.out hk)
  have Hqa := Lib.hid (Can.keep Hqa.out hk)
  have Xa0 := Lib.hid xa0
  have HB := Lib.hid (hbb _ HB.out Ga0.out)
  clear hW hk hf hbb xa0
  clear hz
  exact ret_rat1 rfl rfl rfl Xa0.out (quot_three Hz.out Hd.out He.out Hqa.out Hm.out) HB.out
set_option maxRecDepth 100000 in
set_option maxHeartbeats 4000000 in
theorem quot_4 {neg : Bool} {n d L M : Nat} {s t : Value}  {w : World} (hz : 0 < n) (hv : (d == 1) = false) (hg : (Nat.gcd n d == 1) = false) (he : (d / Nat.gcd n d == 1) = false) (hn : Is n L w s) (hm : Is d M w t) (hd : 0 < d) (hL : L ≤ 1000000000) (hM : M ≤ 1000000000) :
    Calls Tryz.prog 132 #[.bool neg, s, t] w (Ret w (CR (mkRat (iv neg n) d) (max L M))) := by
  have Hn := Lib.hid hn
  have Hm := Lib.hid hm
  have Hd := Lib.hid hd
  have Hz := Lib.hid hz
  have Hv := Lib.hid hv
  have Hg := Lib.hid hg
  have He := Lib.hid he
  clear hn hm hd hz hv hg he
  go_enter Tryz.func132, Tryz.ntmps132
  have HB := Lib.hid (Below.refl w.heap.size w)
  go_wp2_with fail
  obtain ⟨W1, hW⟩ : ∃ W1, W1 = (World.alloc w (.cells #[.bool false, .slice none 0 0, .slice none 0 0] 37)) := ⟨_, rfl⟩
  rw [← hW]
  obtain ⟨xa0, hk, hb⟩ := boxes_1 _ _ _ hW
  clear hW
  have Hn := Lib.hid (Is.keep Hn.out hk)
  have Hm := Lib.hid (Is.keep Hm.out hk)
  have Ga0 := Lib.hid (show w.heap.size ≤ w.heap.size from Nat.le_trans HB.out.size (by omega))
  have Xa0 := Lib.hid xa0
  have HB := Lib.hid (below_call HB.out hb)
  clear hk hb xa0
  (first | (have hcall := make_is Hn.out; refine Calls.mono hcall ?_; clear hcall) | refine Calls.mono (make_is Hn.out) ?_)
  rintro e w2 ⟨v2, rfl, hx, hb⟩
  obtain ⟨x_a, x_n, x_c, rfl⟩ := hx.is.lit
  have Hm := Lib.hid (Is.keep Hm.out (Keep.call hb))
  have Xa0 := Lib.hid (Box.pcall hb Xa0.out)
  have HB := Lib.hid (below_call HB.out hb)
  have Hx := Lib.hid hx
  clear hb hx
  have dx : ((x_n : Int) == 0) = false := Hx.out.len0 false (beq_eq_false_iff_ne.2 (Nat.ne_of_gt Hz.out))
  obtain ⟨ca00, ca01, ca02, fa00, fa01, fa02⟩ := Xa0.out.c3
  have la0 := Xa0.out.lt
  go_wp2_with fail
  clear ca00 ca01 ca02 fa00 fa01 fa02 la0
  (first | (have hcall := make_is Hm.out; refine Calls.mono hcall ?_; clear hcall) | refine Calls.mono (make_is Hm.out) ?_)
  rintro e w3 ⟨v3, rfl, hy, hb⟩
  obtain ⟨y_a, y_n, y_c, rfl⟩ := hy.is.lit
  have Hx := Lib.hid (Can.keep Hx.out (Keep.call hb))
  have Xa0 := Lib.hid (Box.pcall hb Xa0.out)
  have HB := Lib.hid (below_call HB.out hb)
  have Hy := Lib.hid hy
  clear hb hy
  obtain ⟨ca00, ca01, ca02, fa00, fa01, fa02⟩ := Xa0.out.c3
  have la0 := Xa0.out.lt
  go_wp2_with fail
  clear ca00 ca01 ca02 fa00 fa01 fa02 la0
  (first | (have hcall := unit_any false Hv.out Hy.out; refine Calls.mono hcall ?_; clear hcall) | refine Calls.mono (unit_any false Hv.out Hy.out) ?_)
  rintro e w4 ⟨v4, rfl, rfl, hb⟩
  have Hx := Lib.hid (Can.keep Hx.out (Keep.call hb))
  have Hy := Lib.hid (Can.keep Hy.out (Keep.call hb))
  have Xa0 := Lib.hid (Box.pcall hb Xa0.out)
  have HB := Lib.hid (below_call HB.out hb)
  clear hb
  obtain ⟨ca00, ca01, ca02, fa00, fa01, fa02⟩ := Xa0.out.c3
  have la0 := Xa0.out.lt
  go_wp2_with fail
  clear ca00 ca01 ca02 fa00 fa01 fa02 la0
  (first | (have hcall := gcd_can Hx.out.is Hy.out.is (by omega) (by omega); refine Calls.mono hcall ?_; clear hcall) | refine Calls.mono (gcd_can Hx.out.is Hy.out.is (by omega) (by omega)) ?_)
  rintro e w5 ⟨v5, rfl, hk, hb⟩
  obtain ⟨k_a, k_n, k_c, rfl⟩ := hk.is.lit
  have Hx := Lib.hid (Can.keep Hx.out (Keep.call hb))
  have Hy := Lib.hid (Can.keep Hy.out (Keep.call hb))
  have Xa0 := Lib.hid (Box.pcall hb Xa0.out)
  have HB := Lib.hid (below_call HB.out hb)
  have Hk := Lib.hid hk
  clear hb hk
  obtain ⟨ca00, ca01, ca02, fa00, fa01, fa02⟩ := Xa0.out.c3
  have la0 := Xa0.out.lt
  go_wp2_with fail
  clear ca00 ca01 ca02 fa00 fa01 fa02 la0
  (first | (have hcall := unit_any false Hg.out Hk.out; refine Calls.mono hcall ?_; clear hcall) | refine Calls.mono (unit_any false Hg.out Hk.out) ?_)
  rintro e w6 ⟨v6, rfl, rfl, hb⟩
  have Hx := Lib.hid (Can.keep Hx.out (Keep.call hb))
  have Hy := Lib.hid (Can.keep Hy.out (Keep.call hb))
  have Hk := Lib.hid (Can.keep Hk.out (Keep.call hb))
  have Xa0 := Lib.hid (Box.pcall hb Xa0.out)
  have HB := Lib.hid (below_call HB.out hb)
  clear hb
  obtain ⟨ca00, ca01, ca02, fa00, fa01, fa02⟩ := Xa0.out.c3
  have la0 := Xa0.out.lt
  go_wp2_with fail
  clear ca00 ca01 ca02 fa00 fa01 fa02 la0
  (first | (have hcall := divmod_pos (gcd_pos Hd.out) Hx.out.is Hk.out.is (by omega); refine Calls.mono hcall ?_; clear hcall) | refine Calls.mono (divmod_pos (gcd_pos Hd.out) Hx.out.is Hk.out.is (by omega)) ?_)
  rintro e w7 ⟨t7, rfl, ⟨v7, u7, rfl, hqa, hra⟩, hb⟩
  obtain ⟨qa_a, qa_n, qa_c, rfl⟩ := hqa.is.lit
  obtain ⟨ra_a, ra_n, ra_c, rfl⟩ := hra.is.lit
  have Hy := Lib.hid (Can.keep Hy.out (Keep.call hb))
  have Hk := Lib.hid (Can.keep Hk.out (Keep.call hb))
  have Xa0 := Lib.hid (Box.pcall hb Xa0.out)
  have HB := Lib.hid (below_call HB.out hb)
  have Hqa := Lib.hid hqa
  have Hra := Lib.hid hra
  clear hb hqa hra
  obtain ⟨ca00, ca01, ca02, fa00, fa01, fa02⟩ := Xa0.out.c3
  have la0 := Xa0.out.lt
  go_wp2_with fail
  clear ca00 ca01 ca02 fa00 fa01 fa02 la0
  (first | (have hcall := divmod_pos (gcd_pos Hd.out) Hy.out.is Hk.out.is (by omega); refine Calls.mono hcall ?_; clear hcall) | refine Calls.mono (divmod_pos (gcd_pos Hd.out) Hy.out.is Hk.out.is (by omega)) ?_)
  rintro e w8 ⟨t8, rfl, ⟨v8, u8, rfl, hqb, hrb⟩, hb⟩
  obtain ⟨qb_a, qb_n, qb_c, rfl⟩ := hqb.is.lit
  obtain ⟨rb_a, rb_n, rb_c, rfl⟩ := hrb.is.lit
  have Hqa := Lib.hid (Can.keep Hqa.out (Keep.call hb))
  have Xa0 := Lib.hid (Box.pcall hb Xa0.out)
  have HB := Lib.hid (below_call HB.out hb)
  have Hqb := Lib.hid hqb
  have Hrb := Lib.hid hrb
  clear hb hqb hrb
  obtain ⟨ca00, ca01, ca02, fa00, fa01, fa02⟩ := Xa0.out.c3
  have la0 := Xa0.out.lt
  go_wp2_with fail
  clear ca00 ca01 ca02 fa00 fa01 fa02 la0
  (first | (have hcall := unit_any false He.out Hqb.out; refine Calls.mono hcall ?_; clear hcall) | refine Calls.mono (unit_any false He.out Hqb.out) ?_)
  rintro e w9 ⟨v9, rfl, rfl, hb⟩
  have Hqa := Lib.hid (Can.keep Hqa.out (Keep.call hb))
  have Hqb := Lib.hid (Can.keep Hqb.out (Keep.call hb))
  have Xa0 := Lib.hid (Box.pcall hb Xa0.out)
  have HB := Lib.hid (below_call HB.out hb)
  clear hb
  obtain ⟨ca00, ca01, ca02, fa00, fa01, fa02⟩ := Xa0.out.c3
  have la0 := Xa0.out.lt
  go_wp2
  clear ca00 ca01 ca02 fa00 fa01 fa02 la0
  obtain ⟨W10, hW⟩ : ∃ W10, W10 = (World.setCell (World.setCell (World.setCell w9 ⟨w.heap.size, 0, none⟩ (.bool neg)) ⟨w.heap.size, 1, none⟩ (.slice qa_a qa_n qa_c)) ⟨w.heap.size, 2, none⟩ (.slice qb_a qb_n qb_c)) := ⟨_, rfl⟩
  rw [← hW]
  obtain ⟨xa0, hk, hf, hbb, hz⟩ := stored3s hW Xa0.out (by first | exact NoInt.bool _ | exact NoInt.slice _ _ _) (by first | exact NoInt.bool _ | exact NoInt.slice _ _ _) (by first | exact NoInt.bool _ | exact NoInt.slice _ _ _)
  have Hqa := Lib.hid (Can.keep Hqa.out hk)
  have Hqb := Lib.hid (Can.keep Hqb.out hk)
  have Xa0 := Lib.hid xa0
  have HB := Lib.hid (hbb _ HB.out Ga0.out)
  clear hW hk hf hbb xa0
  clear hz
  exact ret_rat1 rfl rfl rfl Xa0.out (quot_four Hz.out Hd.out He.out Hqa.out Hqb.out) HB.out
theorem quot_is {neg : Bool} {n d L M : Nat} {s t : Value} {w : World} (hd : 0 < d) (hn : Is n L w s) (hm : Is d M w t) (hL : L ≤ 1000000000) (hM : M ≤ 1000000000) :
    Calls Tryz.prog 132 #[.bool neg, s, t] w (Ret w (CR (mkRat (iv neg n) d) (max L M))) := by
  rcases Nat.eq_zero_or_pos n with h0 | h0
  · exact quot_0 h0 hn hm hd hL hM
  · cases h1 : d == 1
    · cases h2 : Nat.gcd n d == 1
      · cases h3 : d / Nat.gcd n d == 1
        · exact quot_4 h0 h1 h2 h3 hn hm hd hL hM
        · exact quot_3 h0 h1 h2 h3 hn hm hd hL hM
      · exact quot_2 h0 h1 h2 hn hm hd hL hM
    · exact quot_1 h0 h1 hn hm hd hL hM
end Go.Proofs.YtikglhmabidjoaaGreatDoor
namespace Go.Proofs.YtikglhmabidjoaaGreatDoor
open Go.RowKit Nt
set_option linter.unusedVariables false
theorem un_zero {d : Nat} (h : d = 0) : 1 = un d := by subst h; rfl
theorem un_of {d : Nat} (h : 0 < d) : d = un d := by unfold un; rw [if_neg (by omega)]
theorem mkRat_one (z : Int) : mkRat z 1 = (z : Rat) := Rat.ext (by rw [Rat.num_mkRat]; simp) (by rw [Rat.den_mkRat]; simp)
theorem div_sign (ba bb : Bool) (na nb : Nat) (h : 0 < nb) : mkRat (iv (!ba == bb) na) nb = ((iv ba na : Int) : Rat) / ((iv bb nb : Int) : Rat) := by
  rw [← Rat.divInt_eq_div]
  cases bb
  · rw [show (!ba == false) = ba by cases ba <;> rfl]
    show _ = Rat.divInt (iv ba na) (nb : Int)
    rw [Rat.divInt_ofNat]
  · rw [show (!ba == true) = (!ba) by cases ba <;> rfl, iv_not]
    show _ = Rat.divInt (iv ba na) (-(nb : Int))
    rw [Rat.divInt_neg', Rat.divInt_ofNat]
theorem rv_sign (b : Bool) (n d : Nat) : (iv b n).sign = (rv b n d).num.sign := by
  have h := mkRat_lt (z := iv b n) (un_pos d)
  have h2 := Rat.mkRat_eq_zero (n := iv b n) (un_ne d)
  rcases Int.lt_trichotomy (iv b n) 0 with h3 | h3 | h3
  · rw [Int.sign_eq_neg_one_of_neg h3, Int.sign_eq_neg_one_of_neg]
    have := h.2 h3
    rw [← Rat.not_le, ← Rat.num_nonneg] at this
    unfold rv; omega
  · unfold rv; rw [h3]; simp
  · rw [Int.sign_eq_one_of_pos h3, Int.sign_eq_one_of_pos]
    have h4 : ¬ mkRat (iv b n) (un d) < 0 := by rw [h]; omega
    have h5 : ¬ mkRat (iv b n) (un d) = 0 := by rw [h2]; omega
    rw [← Rat.num_eq_zero] at h5
    rw [Rat.not_lt, ← Rat.num_nonneg] at h4
    unfold rv; omega
set_option maxRecDepth 100000 in
set_option maxHeartbeats 4000000 in
theorem under_0 {ba : Bool} {da L : Nat} {sa ta : Value}  {w : World} (hz : da = 0) (hda : Is da L w ta) (hL : L ≤ 1000000000) :
    Calls Tryz.prog 134 #[.agg #[.bool ba, sa, ta]] w (Ret w (Is (un da) (max L 1))) := by
  have Hda := Lib.hid hda
  have Hz := Lib.hid hz
  clear hda hz
  go_enter Tryz.func134, Tryz.ntmps134
  have HB := Lib.hid (Below.refl w.heap.size w)
  go_wp2_with fail
  obtain ⟨W1, hW⟩ : ∃ W1, W1 = (World.alloc w (.cells #[.bool ba, sa, ta] 37)) := ⟨_, rfl⟩
  rw [← hW]
  obtain ⟨xa0, hk, hb⟩ := boxes_1 _ _ _ hW
  clear hW
  have Hda := Lib.hid (Is.keep Hda.out hk)
  have Ga0 := Lib.hid (show w.heap.size ≤ w.heap.size from Nat.le_trans HB.out.size (by omega))
  have Xa0 := Lib.hid xa0
  have HB := Lib.hid (below_call HB.out hb)
  clear hk hb xa0
  (first | (have hcall := bits_zero Hz.out Hda.out (by omega); refine Calls.mono hcall ?_; clear hcall) | refine Calls.mono (bits_zero Hz.out Hda.out (by omega)) ?_)
  rintro e w2 ⟨v2, rfl, rfl, hb⟩
  have Xa0 := Lib.hid (Box.pcall hb Xa0.out)
  have HB := Lib.hid (below_call HB.out hb)
  clear hb
  obtain ⟨ca00, ca01, ca02, fa00, fa01, fa02⟩ := Xa0.out.c3
  have la0 := Xa0.out.lt
  go_wp2_with fail
  clear ca00 ca01 ca02 fa00 fa01 fa02 la0
  refine Calls.mono (one_is _) ?_
  rintro e w3 ⟨v3, rfl, hu, hb⟩
  obtain ⟨u_a, u_n, u_c, rfl⟩ := hu.lit
  have Xa0 := Lib.hid (Box.pcall hb Xa0.out)
  have HB := Lib.hid (below_call HB.out hb)
  have Hu := Lib.hid hu
  clear hb hu
  obtain ⟨ca00, ca01, ca02, fa00, fa01, fa02⟩ := Xa0.out.c3
  have la0 := Xa0.out.lt
  go_wp2
  clear ca00 ca01 ca02 fa00 fa01 fa02 la0
  go_ret
  exact ⟨_, rfl, Is.cast (un_zero Hz.out) (Is.mono Hu.out (Nat.le_max_right _ _)), HB.out⟩
set_option maxRecDepth 100000 in
set_option maxHeartbeats 4000000 in
theorem under_1 {ba : Bool} {da L : Nat} {sa ta : Value}  {w : World} (hz : 0 < da) (hda : Is da L w ta) (hL : L ≤ 1000000000) :
    Calls Tryz.prog 134 #[.agg #[.bool ba, sa, ta]] w (Ret w (Is (un da) (max L 1))) := by
  have Hda := Lib.hid hda
  have Hz := Lib.hid hz
  clear hda hz
  go_enter Tryz.func134, Tryz.ntmps134
  have HB := Lib.hid (Below.refl w.heap.size w)
  go_wp2_with fail
  obtain ⟨W1, hW⟩ : ∃ W1, W1 = (World.alloc w (.cells #[.bool ba, sa, ta] 37)) := ⟨_, rfl⟩
  rw [← hW]
  obtain ⟨xa0, hk, hb⟩ := boxes_1 _ _ _ hW
  clear hW
  have Hda := Lib.hid (Is.keep Hda.out hk)
  have Ga0 := Lib.hid (show w.heap.size ≤ w.heap.size from Nat.le_trans HB.out.size (by omega))
  have Xa0 := Lib.hid xa0
  have HB := Lib.hid (below_call HB.out hb)
  clear hk hb xa0
  (first | (have hcall := bits_pos Hz.out Hda.out (by omega); refine Calls.mono hcall ?_; clear hcall) | refine Calls.mono (bits_pos Hz.out Hda.out (by omega)) ?_)
  rintro e w2 ⟨v2, rfl, ⟨U, rfl, hU⟩, hb⟩
  have Hda := Lib.hid (Is.keep Hda.out (Keep.call hb))
  have Xa0 := Lib.hid (Box.pcall hb Xa0.out)
  have HB := Lib.hid (below_call HB.out hb)
  clear hb
  obtain ⟨ca00, ca01, ca02, fa00, fa01, fa02⟩ := Xa0.out.c3
  have la0 := Xa0.out.lt
  go_wp2
  clear ca00 ca01 ca02 fa00 fa01 fa02 la0
  go_ret
  exact ⟨_, rfl, Is.cast (un_of Hz.out) (Is.mono Hda.out (Nat.le_max_left _ _)), HB.out⟩
theorem under_is {b : Bool} {d L : Nat} {s t : Value} {w : World} (h : Is d L w t) (hL : L ≤ 1000000000) : Calls Tryz.prog 134 #[.agg #[.bool b, s, t]] w (Ret w (Is (un d) (max L 1))) := by
  rcases Nat.eq_zero_or_pos d with h0 | h0
  · exact under_0 h0 h hL
  · exact under_1 h0 h hL
set_option maxRecDepth 100000 in
set_option maxHeartbeats 4000000 in
theorem signed_is {neg : Bool} {na L : Nat} {sa ta : Value}  {w : World} (hna : Is na L w sa) :
    Calls Tryz.prog 131 #[.agg #[.bool neg, sa, ta]] w (Ret w (CL (iv neg na) L)) := by
  have Hna := Lib.hid hna
  clear hna
  go_enter Tryz.func131, Tryz.ntmps131
  have HB := Lib.hid (Below.refl w.heap.size w)
  go_wp2_with fail
  obtain ⟨W1, hW⟩ : ∃ W1, W1 = (World.alloc (World.alloc w (.cells #[.bool neg, sa, ta] 37)) (.cells #[.bool false, .slice none 0 0] 105)) := ⟨_, rfl⟩
  rw [← hW]
  obtain ⟨xa0, xb0, hk, hb⟩ := boxes_2 _ _ _ _ _ hW
  clear hW
  have Hna := Lib.hid (Is.keep Hna.out hk)
  have Ga0 := Lib.hid (show w.heap.size ≤ w.heap.size from Nat.le_trans HB.out.size (by omega))
  have Gb0 := Lib.hid (show w.heap.size ≤ w.heap.size + 1 from Nat.le_trans HB.out.size (by omega))
  have Xa0 := Lib.hid xa0
  have Xb0 := Lib.hid xb0
  have HB := Lib.hid (below_call HB.out hb)
  clear hk hb xa0 xb0
  (first | (have hcall := imake_ai (neg := neg) Hna.out; refine Calls.mono hcall ?_; clear hcall) | refine Calls.mono (imake_ai (neg := neg) Hna.out) ?_)
  rintro e w2 ⟨v2, rfl, hz, hb⟩
  obtain ⟨z_b, z_a, z_n, z_c, rfl⟩ := hz.litb
  have Xa0 := Lib.hid (Box.pcall hb Xa0.out)
  have Xb0 := Lib.hid (Box.pcall hb Xb0.out)
  have HB := Lib.hid (below_call HB.out hb)
  have Hz := Lib.hid hz
  clear hb hz
  obtain ⟨ca00, ca01, ca02, fa00, fa01, fa02⟩ := Xa0.out.c3
  have la0 := Xa0.out.lt
  obtain ⟨cb00, cb01, fb00, fb01⟩ := Xb0.out.c2
  have lb0 := Xb0.out.lt
  go_wp2
  clear ca00 ca01 ca02 fa00 fa01 fa02 la0 cb00 cb01 fb00 fb01 lb0
  obtain ⟨W3, hW⟩ : ∃ W3, W3 = (World.setCell (World.setCell w2 ⟨w.heap.size + 1, 0, none⟩ (.bool z_b)) ⟨w.heap.size + 1, 1, none⟩ (.slice z_a z_n z_c)) := ⟨_, rfl⟩
  rw [← hW]
  obtain ⟨xb0, hk, hf, hbb, hz⟩ := stored2s hW Xb0.out (by first | exact NoInt.bool _ | exact NoInt.slice _ _ _) (by first | exact NoInt.bool _ | exact NoInt.slice _ _ _)
  have Hz := Lib.hid (CL.keep Hz.out hk)
  have Xa0 := Lib.hid (hf _ _ _ Xa0.out (by omega))
  have Xb0 := Lib.hid xb0
  have HB := Lib.hid (hbb _ HB.out Gb0.out)
  clear hW hk hf hbb xb0
  clear hz
  exact ret_int1 rfl rfl rfl Xb0.out Hz.out HB.out
set_option maxRecDepth 100000 in
set_option maxHeartbeats 4000000 in
theorem canon_p {L : Nat} {ba : Bool} {na da : Nat} {sa ta : Value} {w : World} (hna : Is na L w sa) (hda : Is da L w ta) (hL : L ≤ 100000000) :
    Calls Tryz.prog 139 #[.agg #[.bool ba, sa, ta]] w (Ret w (CR (rv ba na da) (max L 1))) := by
  have Hna := Lib.hid hna
  have Hda := Lib.hid hda
  clear hna hda
  go_enter Tryz.func139, Tryz.ntmps139
  have HB := Lib.hid (Below.refl w.heap.size w)
  go_wp2_with fail
  obtain ⟨W1, hW⟩ : ∃ W1, W1 = (World.alloc (World.alloc w (.cells #[.bool ba, sa, ta] 37)) (.cells #[.bool false, .slice none 0 0, .slice none 0 0] 37)) := ⟨_, rfl⟩
  rw [← hW]
  obtain ⟨xa0, xb0, hk, hb⟩ := boxes_2 _ _ _ _ _ hW
  clear hW
  have Hna := Lib.hid (Is.keep Hna.out hk)
  have Hda := Lib.hid (Is.keep Hda.out hk)
  have Ga0 := Lib.hid (show w.heap.size ≤ w.heap.size from Nat.le_trans HB.out.size (by omega))
  have Gb0 := Lib.hid (show w.heap.size ≤ w.heap.size + 1 from Nat.le_trans HB.out.size (by omega))
  have Xa0 := Lib.hid xa0
  have Xb0 := Lib.hid xb0
  have HB := Lib.hid (below_call HB.out hb)
  clear hk hb xa0 xb0
  have Hna := Lib.hid (Is.keep Hna.out (Keep.drew W1))
  have Hda := Lib.hid (Is.keep Hda.out (Keep.drew W1))
  have Xa0 := Lib.hid (Box.drew Xa0.out)
  have Xb0 := Lib.hid (Box.drew Xb0.out)
  have HB := Lib.hid (Below.drew HB.out)
  refine wp_region_float [w.heap.size + 1] [] (by kernel_rfl) (by kernel_rfl) 10 (by kernel_rfl) Flok.nil ?_
  intro ok
  have Hok := Lib.hid ok
  clear ok
  have HG := Lib.hid (Below.refl (W1.drew).heap.size (W1.drew))
  refine good_pureX 0 (some 3) (Go.Op.fieldAddr 37 (Go.Operand.tmp 1) 0) (none) (.pointer (some ⟨w.heap.size, 0, none⟩)) (by kernel_rfl) (by kernel_rfl) (by kernel_rfl) (fun _ _ _ h => h) (fun w' hw' => ?_) ?_
  · first | (go_simp; done) | (go_simp; simp_all; done) | (go_simp; rfl)
  simp only [Act.put, List.setIfInBounds_toArray, List.set_cons_zero, List.set_cons_succ]
  refine good_pureX 1 (some 4) (Go.Op.load 4 (Go.Operand.tmp 3)) (none) (.bool ba) (by kernel_rfl) (by kernel_rfl) (by kernel_rfl) (fun _ _ _ h => h) (fun w' hw' => ?_) ?_
  · obtain ⟨ca00, ca01, ca02, fa00, fa01, fa02⟩ := (Box.se hw' Xa0.out (notin1 (by omega))).c3
    first | (go_simp; done) | (go_simp; simp_all; done) | (go_simp; rfl)
  simp only [Act.put, List.setIfInBounds_toArray, List.set_cons_zero, List.set_cons_succ]
  refine good_pureX 2 (some 5) (Go.Op.fieldAddr 37 (Go.Operand.tmp 1) 1) (none) (.pointer (some ⟨w.heap.size, 1, none⟩)) (by kernel_rfl) (by kernel_rfl) (by kernel_rfl) (fun _ _ _ h => h) (fun w' hw' => ?_) ?_
  · first | (go_simp; done) | (go_simp; simp_all; done) | (go_simp; rfl)
  simp only [Act.put, List.setIfInBounds_toArray, List.set_cons_zero, List.set_cons_succ]
  refine good_pureX 3 (some 6) (Go.Op.load 35 (Go.Operand.tmp 5)) (none) (sa) (by kernel_rfl) (by kernel_rfl) (by kernel_rfl) (fun _ _ _ h => h) (fun w' hw' => ?_) ?_
  · obtain ⟨ca00, ca01, ca02, fa00, fa01, fa02⟩ := (Box.se hw' Xa0.out (notin1 (by omega))).c3
    first | (go_simp; done) | (go_simp; simp_all; done) | (go_simp; rfl)
  simp only [Act.put, List.setIfInBounds_toArray, List.set_cons_zero, List.set_cons_succ]
  refine good_pureX 4 (some 7) (Go.Op.load 37 (Go.Operand.tmp 1)) (none) (.agg #[.bool ba, sa, ta]) (by kernel_rfl) (by kernel_rfl) (by kernel_rfl) (fun _ _ _ h => h) (fun w' hw' => ?_) ?_
  · obtain ⟨ca00, ca01, ca02, fa00, fa01, fa02⟩ := (Box.se hw' Xa0.out (notin1 (by omega))).c3
    first | (go_simp; done) | (go_simp; simp_all; done) | (go_simp; rfl)
  simp only [Act.put, List.setIfInBounds_toArray, List.set_cons_zero, List.set_cons_succ]
  refine good_callX 5 134 (some 8) #[Go.Operand.tmp 7] #[37] (none) #[.agg #[.bool ba, sa, ta]] (by kernel_rfl) Hok.out (by kernel_rfl) (by kernel_rfl) (by kernel_rfl) (by kernel_rfl) rfl rfl rfl (by kernel_rfl) (fun w2 hb => ?_)
  have HG := Lib.hid (below_call HG.out hb)
  clear hb
  (first | (have hcall := under_is (b := ba) (Is.keep Hda.out (Keep.call HG.out)) (by omega); refine Calls.mono hcall ?_; clear hcall) | refine Calls.mono (under_is (b := ba) (Is.keep Hda.out (Keep.call HG.out)) (by omega)) ?_)
  rintro e w3 ⟨v3, rfl, hu, hb⟩
  obtain ⟨u_a, u_n, u_c, rfl⟩ := hu.lit
  refine ⟨_, rfl, ?_, hb⟩
  have HG := Lib.hid (below_call HG.out hb)
  have Hu := Lib.hid hu
  clear hb hu
  simp only [Act.put, List.setIfInBounds_toArray, List.set_cons_zero, List.set_cons_succ]
  refine good_callX 6 132 (some 9) #[Go.Operand.tmp 4, Go.Operand.tmp 6, Go.Operand.tmp 8] #[4, 35, 35] (none) #[.bool ba, sa, .slice u_a u_n u_c] (by kernel_rfl) Hok.out (by kernel_rfl) (by kernel_rfl) (by kernel_rfl) (by kernel_rfl) rfl rfl rfl (by kernel_rfl) (fun w4 hb => ?_)
  have Hu := Lib.hid (Is.keep Hu.out (Keep.call hb))
  have HG := Lib.hid (below_call HG.out hb)
  clear hb
  refine Calls.mono (quot_is (neg := ba) (un_pos _) (Is.keep Hna.out (Keep.call HG.out)) Hu.out (by omega) (by omega)) ?_
  rintro e w5 ⟨v5, rfl, hz, hb⟩
  obtain ⟨z_b, z_a, z_n, z_c, z_d, z_m, z_e, rfl⟩ := hz.litb
  refine ⟨_, rfl, ?_, hb⟩
  have HG := Lib.hid (below_call HG.out hb)
  have Hz := Lib.hid hz
  clear hb hz
  simp only [Act.put, List.setIfInBounds_toArray, List.set_cons_zero, List.set_cons_succ]
  refine good_end0 1 (by kernel_rfl) (fun _ w6 hb => ?_)
  have Hz := Lib.hid (CR.keep Hz.out (Keep.call hb))
  have HG := Lib.hid (below_call HG.out hb)
  clear hb
  have Xa0 := Lib.hid (Box.pcall HG.out Xa0.out)
  have Xb0 := Lib.hid (Box.pcall HG.out Xb0.out)
  have HB := Lib.hid (below_call HB.out HG.out)
  have HS := Lib.hid (SE.of (E := [w.heap.size + 1]) HG.out)
  refine held_oneX 7 (Go.Op.store 37 (Go.Operand.tmp 2) (Go.Operand.tmp 9)) (none) (World.setCell (World.setCell (World.setCell w6 ⟨w.heap.size + 1, 0, none⟩ (.bool z_b)) ⟨w.heap.size + 1, 1, none⟩ (.slice z_a z_n z_c)) ⟨w.heap.size + 1, 2, none⟩ (.slice z_d z_m z_e)) (by kernel_rfl) (by kernel_rfl) (by kernel_rfl) (by kernel_rfl) ?_ (HS.out.store3 in1) ?_
  · obtain ⟨cb00, cb01, cb02, fb00, fb01, fb02⟩ := Xb0.out.c3
    first | (go_simp; done) | (go_simp; simp_all; done) | (go_simp; rfl)
  obtain ⟨W7, hW⟩ : ∃ W7, W7 = (World.setCell (World.setCell (World.setCell w6 ⟨w.heap.size + 1, 0, none⟩ (.bool z_b)) ⟨w.heap.size + 1, 1, none⟩ (.slice z_a z_n z_c)) ⟨w.heap.size + 1, 2, none⟩ (.slice z_d z_m z_e)) := ⟨_, rfl⟩
  rw [← hW]
  obtain ⟨xb0, hk, hf, hbb, hz⟩ := stored3s hW Xb0.out (by first | exact NoInt.bool _ | exact NoInt.slice _ _ _) (by first | exact NoInt.bool _ | exact NoInt.slice _ _ _) (by first | exact NoInt.bool _ | exact NoInt.slice _ _ _)
  have Hz := Lib.hid (CR.keep Hz.out hk)
  have Xa0 := Lib.hid (hf _ _ _ Xa0.out (by omega))
  have Xb0 := Lib.hid xb0
  have HB := Lib.hid (hbb _ HB.out Gb0.out)
  have HS := Lib.hid (show SE (W1.drew) [w.heap.size + 1] W7 from by rw [hW]; exact HS.out.store3 in1)
  clear hW hk hf hbb xb0
  clear hz
  refine wpAnyH_done (by kernel_rfl) ?_ _
  clear HG HS Hok 
  obtain ⟨ca00, ca01, ca02, fa00, fa01, fa02⟩ := Xa0.out.c3
  have la0 := Xa0.out.lt
  obtain ⟨cb00, cb01, cb02, fb00, fb01, fb02⟩ := Xb0.out.c3
  have lb0 := Xb0.out.lt
  go_wp2
  clear ca00 ca01 ca02 fa00 fa01 fa02 la0 cb00 cb01 cb02 fb00 fb01 fb02 lb0
  exact ret_rat1 rfl rfl rfl Xb0.out (CR.mono Hz.out (by omega)) HB.out
theorem canon_ar {q : Rat} {L : Nat} {v : Value} {w : World} (h : AR q L w v) (hL : L ≤ 100000000) : Calls Tryz.prog 139 #[v] w (Ret w (CR q (max L 1))) := by
  obtain ⟨b, s, t, n, d, rfl, h1, h2, rfl⟩ := h
  exact canon_p h1 h2 hL
set_option maxRecDepth 100000 in
set_option maxHeartbeats 4000000 in
theorem whole_p {L : Nat} {ba : Bool} {na : Nat} {sa : Value} {w : World} (hna : Is na L w sa) (hL : L ≤ 100000000) :
    Calls Tryz.prog 136 #[.agg #[.bool ba, sa]] w (Ret w (CR ((iv ba na : Int) : Rat) (max L 1))) := by
  have Hna := Lib.hid hna
  clear hna
  go_enter Tryz.func136, Tryz.ntmps136
  have HB := Lib.hid (Below.refl w.heap.size w)
  go_wp2_with fail
  obtain ⟨W1, hW⟩ : ∃ W1, W1 = (World.alloc (World.alloc w (.cells #[.bool ba, sa] 105)) (.cells #[.bool false, .slice none 0 0, .slice none 0 0] 37)) := ⟨_, rfl⟩
  rw [← hW]
  obtain ⟨xa0, xb0, hk, hb⟩ := boxes_2 _ _ _ _ _ hW
  clear hW
  have Hna := Lib.hid (Is.keep Hna.out hk)
  have Ga0 := Lib.hid (show w.heap.size ≤ w.heap.size from Nat.le_trans HB.out.size (by omega))
  have Gb0 := Lib.hid (show w.heap.size ≤ w.heap.size + 1 from Nat.le_trans HB.out.size (by omega))
  have Xa0 := Lib.hid xa0
  have Xb0 := Lib.hid xb0
  have HB := Lib.hid (below_call HB.out hb)
  clear hk hb xa0 xb0
  have Hna := Lib.hid (Is.keep Hna.out (Keep.drew W1))
  have Xa0 := Lib.hid (Box.drew Xa0.out)
  have Xb0 := Lib.hid (Box.drew Xb0.out)
  have HB := Lib.hid (Below.drew HB.out)
  refine wp_region_float [w.heap.size + 1] [] (by kernel_rfl) (by kernel_rfl) 9 (by kernel_rfl) Flok.nil ?_
  intro ok
  have Hok := Lib.hid ok
  clear ok
  have HG := Lib.hid (Below.refl (W1.drew).heap.size (W1.drew))
  refine good_pureX 0 (some 3) (Go.Op.fieldAddr 105 (Go.Operand.tmp 1) 0) (none) (.pointer (some ⟨w.heap.size, 0, none⟩)) (by kernel_rfl) (by kernel_rfl) (by kernel_rfl) (fun _ _ _ h => h) (fun w' hw' => ?_) ?_
  · first | (go_simp; done) | (go_simp; simp_all; done) | (go_simp; rfl)
  simp only [Act.put, List.setIfInBounds_toArray, List.set_cons_zero, List.set_cons_succ]
  refine good_pureX 1 (some 4) (Go.Op.load 4 (Go.Operand.tmp 3)) (none) (.bool ba) (by kernel_rfl) (by kernel_rfl) (by kernel_rfl) (fun _ _ _ h => h) (fun w' hw' => ?_) ?_
  · obtain ⟨ca00, ca01, fa00, fa01⟩ := (Box.se hw' Xa0.out (notin1 (by omega))).c2
    first | (go_simp; done) | (go_simp; simp_all; done) | (go_simp; rfl)
  simp only [Act.put, List.setIfInBounds_toArray, List.set_cons_zero, List.set_cons_succ]
  refine good_pureX 2 (some 5) (Go.Op.fieldAddr 105 (Go.Operand.tmp 1) 1) (none) (.pointer (some ⟨w.heap.size, 1, none⟩)) (by kernel_rfl) (by kernel_rfl) (by kernel_rfl) (fun _ _ _ h => h) (fun w' hw' => ?_) ?_
  · first | (go_simp; done) | (go_simp; simp_all; done) | (go_simp; rfl)
  simp only [Act.put, List.setIfInBounds_toArray, List.set_cons_zero, List.set_cons_succ]
  refine good_pureX 3 (some 6) (Go.Op.load 35 (Go.Operand.tmp 5)) (none) (sa) (by kernel_rfl) (by kernel_rfl) (by kernel_rfl) (fun _ _ _ h => h) (fun w' hw' => ?_) ?_
  · obtain ⟨ca00, ca01, fa00, fa01⟩ := (Box.se hw' Xa0.out (notin1 (by omega))).c2
    first | (go_simp; done) | (go_simp; simp_all; done) | (go_simp; rfl)
  simp only [Act.put, List.setIfInBounds_toArray, List.set_cons_zero, List.set_cons_succ]
  refine good_callX 4 179 (some 7) #[] #[] (none) #[] (by kernel_rfl) Hok.out (by kernel_rfl) (by kernel_rfl) (by kernel_rfl) (by kernel_rfl) rfl rfl rfl (by kernel_rfl) (fun w2 hb => ?_)
  have HG := Lib.hid (below_call HG.out hb)
  clear hb
  refine Calls.mono (one_is _) ?_
  rintro e w3 ⟨v3, rfl, hu, hb⟩
  obtain ⟨u_a, u_n, u_c, rfl⟩ := hu.lit
  refine ⟨_, rfl, ?_, hb⟩
  have HG := Lib.hid (below_call HG.out hb)
  have Hu := Lib.hid hu
  clear hb hu
  simp only [Act.put, List.setIfInBounds_toArray, List.set_cons_zero, List.set_cons_succ]
  refine good_callX 5 132 (some 8) #[Go.Operand.tmp 4, Go.Operand.tmp 6, Go.Operand.tmp 7] #[4, 35, 35] (none) #[.bool ba, sa, .slice u_a u_n u_c] (by kernel_rfl) Hok.out (by kernel_rfl) (by kernel_rfl) (by kernel_rfl) (by kernel_rfl) rfl rfl rfl (by kernel_rfl) (fun w4 hb => ?_)
  have Hu := Lib.hid (Is.keep Hu.out (Keep.call hb))
  have HG := Lib.hid (below_call HG.out hb)
  clear hb
  (first | (have hcall := quot_is (neg := ba) (by decide) (Is.keep Hna.out (Keep.call HG.out)) Hu.out (by omega) (by omega); refine Calls.mono hcall ?_; clear hcall) | refine Calls.mono (quot_is (neg := ba) (by decide) (Is.keep Hna.out (Keep.call HG.out)) Hu.out (by omega) (by omega)) ?_)
  rintro e w5 ⟨v5, rfl, hz, hb⟩
  obtain ⟨z_b, z_a, z_n, z_c, z_d, z_m, z_e, rfl⟩ := hz.litb
  refine ⟨_, rfl, ?_, hb⟩
  have HG := Lib.hid (below_call HG.out hb)
  have Hz := Lib.hid hz
  clear hb hz
  simp only [Act.put, List.setIfInBounds_toArray, List.set_cons_zero, List.set_cons_succ]
  refine good_end0 1 (by kernel_rfl) (fun _ w6 hb => ?_)
  have Hz := Lib.hid (CR.keep Hz.out (Keep.call hb))
  have HG := Lib.hid (below_call HG.out hb)
  clear hb
  have Xa0 := Lib.hid (Box.pcall HG.out Xa0.out)
  have Xb0 := Lib.hid (Box.pcall HG.out Xb0.out)
  have HB := Lib.hid (below_call HB.out HG.out)
  have HS := Lib.hid (SE.of (E := [w.heap.size + 1]) HG.out)
  refine held_oneX 6 (Go.Op.store 37 (Go.Operand.tmp 2) (Go.Operand.tmp 8)) (none) (World.setCell (World.setCell (World.setCell w6 ⟨w.heap.size + 1, 0, none⟩ (.bool z_b)) ⟨w.heap.size + 1, 1, none⟩ (.slice z_a z_n z_c)) ⟨w.heap.size + 1, 2, none⟩ (.slice z_d z_m z_e)) (by kernel_rfl) (by kernel_rfl) (by kernel_rfl) (by kernel_rfl) ?_ (HS.out.store3 in1) ?_
  · obtain ⟨cb00, cb01, cb02, fb00, fb01, fb02⟩ := Xb0.out.c3
    first | (go_simp; done) | (go_simp; simp_all; done) | (go_simp; rfl)
  obtain ⟨W7, hW⟩ : ∃ W7, W7 = (World.setCell (World.setCell (World.setCell w6 ⟨w.heap.size + 1, 0, none⟩ (.bool z_b)) ⟨w.heap.size + 1, 1, none⟩ (.slice z_a z_n z_c)) ⟨w.heap.size + 1, 2, none⟩ (.slice z_d z_m z_e)) := ⟨_, rfl⟩
  rw [← hW]
  obtain ⟨xb0, hk, hf, hbb, hz⟩ := stored3s hW Xb0.out (by first | exact NoInt.bool _ | exact NoInt.slice _ _ _) (by first | exact NoInt.bool _ | exact NoInt.slice _ _ _) (by first | exact NoInt.bool _ | exact NoInt.slice _ _ _)
  have Hz := Lib.hid (CR.keep Hz.out hk)
  have Xa0 := Lib.hid (hf _ _ _ Xa0.out (by omega))
  have Xb0 := Lib.hid xb0
  have HB := Lib.hid (hbb _ HB.out Gb0.out)
  have HS := Lib.hid (show SE (W1.drew) [w.heap.size + 1] W7 from by rw [hW]; exact HS.out.store3 in1)
  clear hW hk hf hbb xb0
  clear hz
  refine wpAnyH_done (by kernel_rfl) ?_ _
  clear HG HS Hok 
  obtain ⟨ca00, ca01, fa00, fa01⟩ := Xa0.out.c2
  have la0 := Xa0.out.lt
  obtain ⟨cb00, cb01, cb02, fb00, fb01, fb02⟩ := Xb0.out.c3
  have lb0 := Xb0.out.lt
  go_wp2
  clear ca00 ca01 fa00 fa01 la0 cb00 cb01 cb02 fb00 fb01 fb02 lb0
  exact ret_rat1 rfl rfl rfl Xb0.out (CR.cast (mkRat_one _) Hz.out) HB.out
theorem whole_ai {z : Int} {L : Nat} {v : Value} {w : World} (h : AI z L w v) (hL : L ≤ 100000000) : Calls Tryz.prog 136 #[v] w (Ret w (CR (z : Rat) (max L 1))) := by
  obtain ⟨b, s, n, rfl, h1, rfl⟩ := h
  exact whole_p h1 hL
set_option maxRecDepth 100000 in
set_option maxHeartbeats 4000000 in
theorem of_rat {x : Int}  {w : World} (h1 : -9223372036854775808 ≤ x) (h2 : x < 9223372036854775808) :
    Calls Tryz.prog 78 #[.int .i64 x] w (Ret w (CR (x : Rat) 2)) := by
  go_enter Tryz.func78, Tryz.ntmps78
  have HB := Lib.hid (Below.refl w.heap.size w)
  go_wp2_with fail
  obtain ⟨W1, hW⟩ : ∃ W1, W1 = (World.alloc w (.cells #[.bool false, .slice none 0 0, .slice none 0 0] 37)) := ⟨_, rfl⟩
  rw [← hW]
  obtain ⟨xa0, hk, hb⟩ := boxes_1 _ _ _ hW
  clear hW
  have Ga0 := Lib.hid (show w.heap.size ≤ w.heap.size from Nat.le_trans HB.out.size (by omega))
  have Xa0 := Lib.hid xa0
  have HB := Lib.hid (below_call HB.out hb)
  clear hk hb xa0
  refine Calls.mono (iof_any h1 h2) ?_
  rintro e w2 ⟨v2, rfl, ho, hb⟩
  obtain ⟨o_b, o_a, o_n, o_c, rfl⟩ := ho.litb
  have Xa0 := Lib.hid (Box.pcall hb Xa0.out)
  have HB := Lib.hid (below_call HB.out hb)
  have Ho := Lib.hid ho
  clear hb ho
  obtain ⟨ca00, ca01, ca02, fa00, fa01, fa02⟩ := Xa0.out.c3
  have la0 := Xa0.out.lt
  go_wp2_with fail
  clear ca00 ca01 ca02 fa00 fa01 fa02 la0
  (first | (have hcall := whole_ai Ho.out.ai (by omega); refine Calls.mono hcall ?_; clear hcall) | refine Calls.mono (whole_ai Ho.out.ai (by omega)) ?_)
  rintro e w3 ⟨v3, rfl, hz, hb⟩
  obtain ⟨z_b, z_a, z_n, z_c, z_d, z_m, z_e, rfl⟩ := hz.litb
  have Xa0 := Lib.hid (Box.pcall hb Xa0.out)
  have HB := Lib.hid (below_call HB.out hb)
  have Hz := Lib.hid hz
  clear hb hz
  obtain ⟨ca00, ca01, ca02, fa00, fa01, fa02⟩ := Xa0.out.c3
  have la0 := Xa0.out.lt
  go_wp2
  clear ca00 ca01 ca02 fa00 fa01 fa02 la0
  obtain ⟨W4, hW⟩ : ∃ W4, W4 = (World.setCell (World.setCell (World.setCell w3 ⟨w.heap.size, 0, none⟩ (.bool z_b)) ⟨w.heap.size, 1, none⟩ (.slice z_a z_n z_c)) ⟨w.heap.size, 2, none⟩ (.slice z_d z_m z_e)) := ⟨_, rfl⟩
  rw [← hW]
  obtain ⟨xa0, hk, hf, hbb, hz⟩ := stored3s hW Xa0.out (by first | exact NoInt.bool _ | exact NoInt.slice _ _ _) (by first | exact NoInt.bool _ | exact NoInt.slice _ _ _) (by first | exact NoInt.bool _ | exact NoInt.slice _ _ _)
  have Hz := Lib.hid (CR.keep Hz.out hk)
  have Xa0 := Lib.hid xa0
  have HB := Lib.hid (hbb _ HB.out Ga0.out)
  clear hW hk hf hbb xa0
  clear hz
  exact ret_rat1 rfl rfl rfl Xa0.out Hz.out HB.out
set_option maxRecDepth 100000 in
set_option maxHeartbeats 4000000 in
theorem rsign_p {L : Nat} {ba : Bool} {na da : Nat} {sa ta : Value} {w : World} (k : Int) (hk : (iv ba na).sign = k) (hna : Is na L w sa) (hda : Is da L w ta) (hL : L ≤ 100000000) :
    Calls Tryz.prog 75 #[.agg #[.bool ba, sa, ta]] w (Ret w (Val (.int .i64 k))) := by
  have Hna := Lib.hid hna
  have Hda := Lib.hid hda
  have Hk := Lib.hid hk
  clear hna hda hk
  go_enter Tryz.func75, Tryz.ntmps75
  have HB := Lib.hid (Below.refl w.heap.size w)
  go_wp2_with fail
  obtain ⟨W1, hW⟩ : ∃ W1, W1 = (World.alloc w (.cells #[.bool ba, sa, ta] 37)) := ⟨_, rfl⟩
  rw [← hW]
  obtain ⟨xa0, hk, hb⟩ := boxes_1 _ _ _ hW
  clear hW
  have Hna := Lib.hid (Is.keep Hna.out hk)
  have Ga0 := Lib.hid (show w.heap.size ≤ w.heap.size from Nat.le_trans HB.out.size (by omega))
  have Xa0 := Lib.hid xa0
  have HB := Lib.hid (below_call HB.out hb)
  clear hk hb xa0
  (first | (have hcall := signed_is (neg := ba) Hna.out; refine Calls.mono hcall ?_; clear hcall) | refine Calls.mono (signed_is (neg := ba) Hna.out) ?_)
  rintro e w2 ⟨v2, rfl, hz, hb⟩
  obtain ⟨z_b, z_a, z_n, z_c, rfl⟩ := hz.litb
  have Xa0 := Lib.hid (Box.pcall hb Xa0.out)
  have HB := Lib.hid (below_call HB.out hb)
  have Hz := Lib.hid hz
  clear hb hz
  obtain ⟨ca00, ca01, ca02, fa00, fa01, fa02⟩ := Xa0.out.c3
  have la0 := Xa0.out.lt
  go_wp2_with fail
  clear ca00 ca01 ca02 fa00 fa01 fa02 la0
  (first | (have hcall := isign_ai k Hz.out.ai Hk.out (by omega); refine Calls.mono hcall ?_; clear hcall) | refine Calls.mono (isign_ai k Hz.out.ai Hk.out (by omega)) ?_)
  rintro e w3 ⟨v3, rfl, rfl, hb⟩
  have Xa0 := Lib.hid (Box.pcall hb Xa0.out)
  have HB := Lib.hid (below_call HB.out hb)
  clear hb
  obtain ⟨ca00, ca01, ca02, fa00, fa01, fa02⟩ := Xa0.out.c3
  have la0 := Xa0.out.lt
  go_wp2
  clear ca00 ca01 ca02 fa00 fa01 fa02 la0
  go_ret
  exact ⟨_, rfl, rfl, HB.out⟩
theorem rsign_ar {q : Rat} {L : Nat} {v : Value} {w : World} (k : Int) (h : AR q L w v) (hk : q.num.sign = k) (hL : L ≤ 100000000) : Calls Tryz.prog 75 #[v] w (Ret w (Val (.int .i64 k))) := by
  obtain ⟨b, s, t, n, d, rfl, h1, h2, rfl⟩ := h
  exact rsign_p k (by rw [← hk, rv_sign]) h1 h2 hL
end Go.Proofs.YtikglhmabidjoaaGreatDoor
