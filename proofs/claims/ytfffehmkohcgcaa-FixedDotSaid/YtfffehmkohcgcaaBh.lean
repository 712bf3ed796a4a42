/- Texts IntF Rat0, in this order. -/
import Derived.Test.YtfffehmkohcgcaaBg
import Derived.Test.YtfffehmkohcgcaaBf
namespace Go.Proofs.Ytfffehmkohcgcaa
open Go.RowKit Nt
set_option linter.unusedVariables false

def CLE (z : Int) (L : Nat) (err : Int) (w : World) (v : Value) : Prop := ∃ a, v = .tuple #[a, .int .i64 err] ∧ CL z L w a
def CL2E (y z : Int) (L M : Nat) (err : Int) (w : World) (v : Value) : Prop := ∃ a b, v = .tuple #[a, b, .int .i64 err] ∧ CL y L w a ∧ CL z M w b
theorem results_iie {fn : Func} {p q r : Tmp} {ty ty' : TypeId} (h : fn.results = #[.cell p ty, .cell q ty', .tmp r]) (tmps : Array Value) (P : Program) (w : World) (g g' : Nat) (cs cs' : List Value) (z : Value) (d d' : TypeDesc)
    (hp : tmps.getD p undef = .pointer (some ⟨g, 0, none⟩)) (hq : tmps.getD q undef = .pointer (some ⟨g', 0, none⟩)) (hz : tmps.getD r undef = z) (hc : w.rangeAt g 0 cs) (hc' : w.rangeAt g' 0 cs')
    (hu : P.underlying ty = some d) (hd : d.isRow = true) (hi : (P.info? ty).map (·.size) = some cs.length) (hu' : P.underlying ty' = some d') (hd' : d'.isRow = true) (hi' : (P.info? ty').map (·.size) = some cs'.length) :
    (results fn tmps).run P w = .ok (.tuple #[.agg cs.toArray, .agg cs'.toArray, z]) w := by
  have hp' : tmps[p]?.getD undef = .pointer (some ⟨g, 0, none⟩) := by simpa using hp
  have hq' : tmps[q]?.getD undef = .pointer (some ⟨g', 0, none⟩) := by simpa using hq
  have hz' : tmps[r]?.getD undef = z := by simpa using hz
  simp [results, h, hp', hq', hz', asAddr, run_loadVar_mid w g 0 ty cs d hc hu hd hi, run_loadVar_mid w g' 0 ty' cs' d' hc' hu' hd' hi']
theorem box_range2 {w : World} {g : Nat} {t : TypeId} {x y : Value} (h : Box w g t #[x, y]) : w.rangeAt g 0 [x, y] := range2 h.c2.1 h.c2.2.1
/-- Two api.Int and an error handed back out of their cells, just written. -/
theorem ret_iie {fn : Func} {p q r : Tmp} {a : Act} {w0 W : World} {R : World → Value → Prop} {g h : Nat} {t t' : TypeId} {x y x' y' u v u' v' z : Value} (hres : fn.results = #[.cell p 49, .cell q 49, .tmp r])
    (hp : a.tmps.getD p undef = .pointer (some ⟨g, 0, none⟩)) (hq : a.tmps.getD q undef = .pointer (some ⟨h, 0, none⟩)) (hz : a.tmps.getD r undef = z) (hd : a.defers = []) (X : Box W g t #[x, y]) (Y : Box W h t' #[x', y']) (hne : g ≠ h)
    (hR : R ((((W.setCell ⟨g, 0, none⟩ u).setCell ⟨g, 1, none⟩ v).setCell ⟨h, 0, none⟩ u').setCell ⟨h, 1, none⟩ v') (.tuple #[.agg #[u, v], .agg #[u', v'], z]))
    (HB : Below w0.heap.size w0 W) (hg : w0.heap.size ≤ g) (hh : w0.heap.size ≤ h) :
    bodyPost Try.prog fn (Ret w0 R) .ret a ((((W.setCell ⟨g, 0, none⟩ u).setCell ⟨g, 1, none⟩ v).setCell ⟨h, 0, none⟩ u').setCell ⟨h, 1, none⟩ v') :=
  have Y1 := Y.far2 (x := u) (y := v) (Ne.symm hne)
  have k := (X.set2 (x' := u) (y' := v)).far2 (x := u') (y := v') hne
  have l := Y1.set2 (x' := u') (y' := v')
  bodyPost_ret (results_iie hres _ _ _ g h [u, v] [u', v'] z _ _ hp hq hz (box_range2 k) (box_range2 l) Try.underlying49 rfl (by kernel_rfl) Try.underlying49 rfl (by kernel_rfl)) hd ⟨_, rfl, hR, below_set2 (below_set2 HB hg) hh⟩
theorem ret_cl2E {fn : Func} {p q r : Tmp} {a : Act} {w0 W : World} {g h n cap n' cap' L M : Nat} {t t' : TypeId} {x y x' y' : Value} {b b' : Bool} {ad ad' : Option Addr} {i j : Int} {err : Int} (hres : fn.results = #[.cell p 49, .cell q 49, .tmp r])
    (hp : a.tmps.getD p undef = .pointer (some ⟨g, 0, none⟩)) (hq : a.tmps.getD q undef = .pointer (some ⟨h, 0, none⟩)) (hz : a.tmps.getD r undef = .int .i64 err) (hd : a.defers = []) (X : Box W g t #[x, y]) (Y : Box W h t' #[x', y']) (hne : g ≠ h)
    (hx : NoInt x) (hy : NoInt y) (hx' : NoInt x') (hy' : NoInt y') (h1 : CL i L W (.agg #[.bool b, .slice ad n cap])) (h2 : CL j M W (.agg #[.bool b', .slice ad' n' cap']))
    (HB : Below w0.heap.size w0 W) (hg : w0.heap.size ≤ g) (hh : w0.heap.size ≤ h) :
    bodyPost Try.prog fn (Ret w0 (CL2E i j L M err)) .ret a ((((W.setCell ⟨g, 0, none⟩ (.bool b)).setCell ⟨g, 1, none⟩ (.slice ad n cap)).setCell ⟨h, 0, none⟩ (.bool b')).setCell ⟨h, 1, none⟩ (.slice ad' n' cap')) :=
  have kp := (Keep.set2 X hx hy (x' := .bool b) (y' := .slice ad n cap)).trans (Keep.set2 (Y.far2 (Ne.symm hne)) hx' hy' (x' := .bool b') (y' := .slice ad' n' cap'))
  ret_iie hres hp hq hz hd X Y hne ⟨_, _, rfl, h1.keep kp, h2.keep kp⟩ HB hg hh

/-- natural.DivMod with the remainder open. -/
def QR0 (q L : Nat) (w : World) (v : Value) : Prop := ∃ a ad c, v = .tuple #[a, .slice ad 0 c, .int .i64 0] ∧ Can q L w a ∧ Can 0 L w (.slice ad 0 c)
def QRp (q r L : Nat) (w : World) (v : Value) : Prop := ∃ a ad n c, v = .tuple #[a, .slice ad n c, .int .i64 0] ∧ Can q L w a ∧ Can r L w (.slice ad n c) ∧ decide (0 < n) = true
theorem qr0 {a b L : Nat} {w : World} {v : Value} (hr : a % b = 0) (h : Can2E (a / b) (a % b) L L 0 w v) : QR0 (a / b) L w v := by
  obtain ⟨q, r, rfl, h1, h2⟩ := h
  rw [hr] at h2
  obtain ⟨ad, c, rfl⟩ := nil_of_zero h2
  exact ⟨_, _, _, rfl, h1, h2⟩
theorem qrp {a b L : Nat} {w : World} {v : Value} (hr : 0 < a % b) (h : Can2E (a / b) (a % b) L L 0 w v) : QRp (a / b) (a % b) L w v := by
  obtain ⟨q, r, rfl, h1, h2⟩ := h
  have h2' := h2
  obtain ⟨⟨ad, n, cap, rfl, hn, -⟩, -⟩ := h2
  have := sz_pos hr
  unfold sz at this
  exact ⟨_, _, _, _, rfl, h1, h2', by simp; omega⟩
theorem Ret.imp {w w' : World} {e : Ending} {R S : World → Value → Prop} (h : Ret w R e w') (hRS : ∀ w v, R w v → S w v) : Ret w S e w' := let ⟨v, h1, h2, h3⟩ := h; ⟨v, h1, hRS _ _ h2, h3⟩
theorem idiv_P1 (nb : Bool) (a b : Nat) : iv (!false == nb) (a / b) = iv false a / iv nb b ∧ iv false (a % b) = iv false a % iv nb b := by
  cases nb <;> simp [iv]
theorem idiv_P2 (nb : Bool) {a b : Nat} (h : a % b = 0) : iv (!true == nb) (a / b) = iv true a / iv nb b ∧ iv false 0 = iv true a % iv nb b := by
  have hd : (b : Int) ∣ a := by exact_mod_cast Nat.dvd_of_mod_eq_zero h
  cases nb <;> simp [iv, Int.neg_ediv_of_dvd hd, Int.emod_eq_zero_of_dvd (Int.dvd_neg.mpr hd)]
theorem idiv_core {a b : Nat} (hb : 0 < b) (h : 0 < a % b) : (-(a : Int)) / b = -((a / b : Nat) + 1) ∧ (-(a : Int)) % b = ((b - a % b : Nat) : Int) := by
  have hm := Nat.mod_lt a hb
  have e := Nat.div_add_mod a b
  have e2 : (a : Int) = b * ((a / b : Nat) : Int) + ((a % b : Nat) : Int) := by exact_mod_cast e.symm
  have key : -(a : Int) = (b - a % b : Nat) + b * (-((a / b : Nat) + 1)) := by
    rw [Int.ofNat_sub (Nat.le_of_lt hm), Int.mul_neg, Int.mul_add]
    omega
  constructor
  · rw [key, Int.add_mul_ediv_left _ _ (by omega), Int.ediv_eq_zero_of_lt (by omega) (by omega)]
    omega
  · rw [key, Int.add_mul_emod_self_left, Int.emod_eq_of_lt (by omega) (by omega)]
theorem idiv_P3 (nb : Bool) {a b : Nat} (hb : 0 < b) (h : 0 < a % b) : iv (!true == nb) (a / b + 1) = iv true a / iv nb b ∧ iv false (b - a % b) = iv true a % iv nb b := by
  obtain ⟨h1, h2⟩ := idiv_core hb h
  cases nb <;> simp [iv, h1, h2, Int.natCast_add]
theorem divmod_r0 {a b L M : Nat} {u v : Value} {w : World} (hb : 0 < b) (hr : a % b = 0) (h : Is a L w u) (h' : Is b M w v) (hL : L ≤ 4294967296) :
    Calls Try.prog 79 #[u, v] w (Ret w (QR0 (a / b) L)) := (divmod_pos hb h h' hL).mono fun _ _ k => k.imp fun _ _ => qr0 hr
theorem divmod_rp {a b L M : Nat} {u v : Value} {w : World} (hb : 0 < b) (hr : 0 < a % b) (h : Is a L w u) (h' : Is b M w v) (hL : L ≤ 4294967296) :
    Calls Try.prog 79 #[u, v] w (Ret w (QRp (a / b) (a % b) L)) := (divmod_pos hb h h' hL).mono fun _ _ k => k.imp fun _ _ => qrp hr
theorem of_one (w : World) : Calls Try.prog 78 #[.int .u64 1] w (Ret w (Can 1 2)) := of_can (x := 1) (by decide)
theorem CL.of_can {x : Int} {L : Nat} {w : World} {s : Value} (b : Bool) (hb : decide (x < 0) = b) (h : Can x.natAbs L w s) : CL x L w (.agg #[.bool b, s]) := ⟨⟨s, by rw [hb], h.1⟩, h.2⟩
theorem u64_wrap (n : Int) : IntKind.u64.wrap n = n % 18446744073709551616 := rfl
theorem neg_arg {x : Int} (h1 : -9223372036854775808 ≤ x) (h2 : x < 0) : IntKind.u64.wrap (-IntKind.u64.wrap x) = ((x.natAbs : Nat) : Int) := by
  rw [u64_wrap, u64_wrap]; omega
theorem of_neg {x : Int} (h1 : -9223372036854775808 ≤ x) (h2 : x < 0) (w : World) : Calls Try.prog 78 #[.int .u64 (IntKind.u64.wrap (-IntKind.u64.wrap x))] w (Ret w (Can x.natAbs 2)) := by
  rw [neg_arg h1 h2]; exact of_can (by omega)
theorem rof_neg {x : Int} (h1 : -9223372036854775808 ≤ x) (h2 : x < 0) (w : World) : Calls Try.prog 75 #[.int .u64 (IntKind.u64.wrap (-IntKind.u64.wrap x))] w (Ret w (Can x.natAbs 2)) := by
  rw [neg_arg h1 h2]; exact rof_can (by omega)
theorem of_pos {x : Int} (h1 : 0 ≤ x) (h2 : x < 9223372036854775808) (w : World) : Calls Try.prog 78 #[.int .u64 x] w (Ret w (Can x.natAbs 2)) := by
  obtain ⟨n, rfl⟩ := Int.eq_ofNat_of_zero_le h1
  exact of_can (by omega)
theorem rof_pos {x : Int} (h1 : 0 ≤ x) (h2 : x < 9223372036854775808) (w : World) : Calls Try.prog 75 #[.int .u64 x] w (Ret w (Can x.natAbs 2)) := by
  obtain ⟨n, rfl⟩ := Int.eq_ofNat_of_zero_le h1
  exact rof_can (by omega)
theorem iv_of_neg {x : Int} (h : x < 0) : iv true x.natAbs = x := by simp [iv]; omega
theorem iv_of_pos {x : Int} (h : 0 ≤ x) : iv false x.natAbs = x := by simp [iv]; omega
def intV (z : Int) : Int := if -9223372036854775808 ≤ z ∧ z < 9223372036854775808 then z else 0
def intB (z : Int) : Bool := decide (-9223372036854775808 ≤ z ∧ z < 9223372036854775808)
theorem uint_out {m L : Nat} {s : Value} {w : World} (hm : 18446744073709551616 ≤ m) (h : Is m L w s) : Calls Try.prog 65 #[s] w (Ret w (Val (.tuple #[.int .u64 0, .bool false]))) := by
  obtain ⟨xs, h, rfl, -⟩ := h
  exact uint_sl (by simp [uintN, show ¬ val xs < 18446744073709551616 by omega]) (by simp [uintB]; omega) h
theorem ruint_out {m L : Nat} {s : Value} {w : World} (hm : 18446744073709551616 ≤ m) (h : Is m L w s) : Calls Try.prog 111 #[s] w (Ret w (Val (.tuple #[.int .u64 0, .bool false]))) := by
  obtain ⟨xs, h, rfl, -⟩ := h
  exact ruint_sl (by simp [uintN, show ¬ val xs < 18446744073709551616 by omega]) (by simp [uintB]; omega) h
theorem uint_in {m L : Nat} {s : Value} {w : World} (hm : m < 18446744073709551616) (h : Is m L w s) : Calls Try.prog 65 #[s] w (Ret w (Val (.tuple #[.int .u64 (m : Int), .bool true]))) := by
  obtain ⟨xs, h, rfl, -⟩ := h
  exact uint_sl (by simp [uintN, hm]) (by simp [uintB, hm]) h
theorem ruint_in {m L : Nat} {s : Value} {w : World} (hm : m < 18446744073709551616) (h : Is m L w s) : Calls Try.prog 111 #[s] w (Ret w (Val (.tuple #[.int .u64 (m : Int), .bool true]))) := by
  obtain ⟨xs, h, rfl, -⟩ := h
  exact ruint_sl (by simp [uintN, hm]) (by simp [uintB, hm]) h
theorem wrap_neg {m : Nat} (h : m ≤ 9223372036854775808) : wrap64 (IntKind.u64.wrap (-(m : Int))) = -(m : Int) := by
  rw [u64_wrap]; unfold wrap64; omega
theorem wrap_pos {m : Nat} (h : m < 9223372036854775808) : wrap64 (m : Int) = m := by unfold wrap64; omega
theorem tuple_int {a b : Int} {c d : Bool} (h : a = b) (h' : c = d) : Value.tuple #[.int .i64 a, .bool c] = .tuple #[.int .i64 b, .bool d] := by rw [h, h']

set_option maxRecDepth 100000 in
theorem idivmod_P1_true {L M : Nat} {ma mb : Nat} {sa sb : Value} {w : World} (hz : 0 < mb) (ha : Is ma L w sa) (hb : Is mb M w sb) (hL : L ≤ 4294967296) (hM : M ≤ 4294967296) :
    Calls Try.prog 57 #[.agg #[.bool false, sa], .agg #[.bool true, sb]] w (Ret w (CL2E (iv false ma / iv true mb) (iv false ma % iv true mb) (max L 2 + 1) (max L M) 0)) := by
  have Ha := Lib.hid ha
  have Hb := Lib.hid hb
  have Hz := Lib.hid hz
  clear ha hb hz
  go_enter Try.func57, Try.ntmps57
  go_wp2_with fail
  obtain ⟨W, hW⟩ : ∃ W, W = ((((w.alloc (.cells #[.bool false, sa] 49)).alloc (.cells #[.bool true, sb] 49)).alloc (.cells #[.bool false, .slice none 0 0] 49)).alloc (.cells #[.bool false, .slice none 0 0] 49)) := ⟨_, rfl⟩
  rw [← hW]
  obtain ⟨x1, x2, x3, x4, hk, hb⟩ := boxes_4 _ _ _ _ _ _ _ _ _ hW
  clear hW
  have Ha := Lib.hid (Is.keep Ha.out hk)
  have Hb := Lib.hid (Is.keep Hb.out hk)
  have X1 := Lib.hid x1
  have X2 := Lib.hid x2
  have X3 := Lib.hid x3
  have X4 := Lib.hid x4
  have HB := Lib.hid hb
  clear hk hb x1 x2 x3 x4
  (first | (have hcall := divmod_pos Hz.out Ha.out Hb.out hL; refine Calls.mono hcall ?_; clear hcall) | refine Calls.mono (divmod_pos Hz.out Ha.out Hb.out hL) ?_)
  rintro e w1 ⟨t1, rfl, ⟨v1, u1, rfl, hq, hr⟩, hb⟩
  have X1 := Lib.hid (Box.pcall hb X1.out)
  have X2 := Lib.hid (Box.pcall hb X2.out)
  have X3 := Lib.hid (Box.pcall hb X3.out)
  have X4 := Lib.hid (Box.pcall hb X4.out)
  have HB := Lib.hid (below_call HB.out hb)
  have Hq := Lib.hid hq
  have Hr := Lib.hid hr
  clear hb hq hr
  obtain ⟨c10, c11, f10, f11⟩ := X1.out.c2
  obtain ⟨c20, c21, f20, f21⟩ := X2.out.c2
  obtain ⟨c30, c31, f30, f31⟩ := X3.out.c2
  obtain ⟨c40, c41, f40, f41⟩ := X4.out.c2
  go_wp2_with fail
  clear c10 c11 f10 f11 c20 c21 f20 f21 c30 c31 f30 f31 c40 c41 f40 f41
  (first | (have hcall := imake_ai (neg := true) Hq.out.is; refine Calls.mono hcall ?_; clear hcall) | refine Calls.mono (imake_ai (neg := true) Hq.out.is) ?_)
  rintro e w2 ⟨v2, rfl, hs, hb⟩
  obtain ⟨ads, ns, caps, rfl⟩ := hs.lit
  have Hr := Lib.hid (Can.keep Hr.out (Keep.call hb))
  have X1 := Lib.hid (Box.pcall hb X1.out)
  have X2 := Lib.hid (Box.pcall hb X2.out)
  have X3 := Lib.hid (Box.pcall hb X3.out)
  have X4 := Lib.hid (Box.pcall hb X4.out)
  have HB := Lib.hid (below_call HB.out hb)
  have Hs := Lib.hid hs
  clear hb hs
  obtain ⟨c10, c11, f10, f11⟩ := X1.out.c2
  obtain ⟨c20, c21, f20, f21⟩ := X2.out.c2
  obtain ⟨c30, c31, f30, f31⟩ := X3.out.c2
  obtain ⟨c40, c41, f40, f41⟩ := X4.out.c2
  go_wp2_with fail
  clear c10 c11 f10 f11 c20 c21 f20 f21 c30 c31 f30 f31 c40 c41 f40 f41
  (first | (have hcall := imake_ai (neg := false) Hr.out.is; refine Calls.mono hcall ?_; clear hcall) | refine Calls.mono (imake_ai (neg := false) Hr.out.is) ?_)
  rintro e w3 ⟨v3, rfl, ht, hb⟩
  obtain ⟨adt, nt, capt, rfl⟩ := ht.lit
  have Hs := Lib.hid (CL.keep Hs.out (Keep.call hb))
  have X1 := Lib.hid (Box.pcall hb X1.out)
  have X2 := Lib.hid (Box.pcall hb X2.out)
  have X3 := Lib.hid (Box.pcall hb X3.out)
  have X4 := Lib.hid (Box.pcall hb X4.out)
  have HB := Lib.hid (below_call HB.out hb)
  have Ht := Lib.hid ht
  clear hb ht
  have e0 := idiv_P1 true ma mb
  have Hi := Lib.hid (CL.mono (CL.cast e0.1 Hs.out) (Nat.le_succ_of_le (Nat.le_max_left L 2)))
  have Hj := Lib.hid (CL.mono (CL.cast e0.2 Ht.out) (Nat.le_max_left L M))
  clear e0 Hz
  obtain ⟨c10, c11, f10, f11⟩ := X1.out.c2
  obtain ⟨c20, c21, f20, f21⟩ := X2.out.c2
  obtain ⟨c30, c31, f30, f31⟩ := X3.out.c2
  obtain ⟨c40, c41, f40, f41⟩ := X4.out.c2
  go_wp2
  exact ret_cl2E rfl rfl rfl rfl rfl X3.out X4.out (by omega) (NoInt.bool _) (NoInt.slice _ _ _) (NoInt.bool _) (NoInt.slice _ _ _) Hi.out Hj.out HB.out (by omega) (by omega)


set_option maxRecDepth 100000 in
theorem idivmod_P2_true {L M : Nat} {ma mb : Nat} {sa sb : Value} {w : World} (hz : 0 < mb) (hm : ma % mb = 0) (ha : Is ma L w sa) (hb : Is mb M w sb) (hL : L ≤ 4294967296) (hM : M ≤ 4294967296) :
    Calls Try.prog 57 #[.agg #[.bool true, sa], .agg #[.bool true, sb]] w (Ret w (CL2E (iv true ma / iv true mb) (iv true ma % iv true mb) (max L 2 + 1) (max L M) 0)) := by
  have Ha := Lib.hid ha
  have Hb := Lib.hid hb
  have Hz := Lib.hid hz
  have Hm := Lib.hid hm
  clear ha hb hz hm
  go_enter Try.func57, Try.ntmps57
  go_wp2_with fail
  obtain ⟨W, hW⟩ : ∃ W, W = ((((w.alloc (.cells #[.bool true, sa] 49)).alloc (.cells #[.bool true, sb] 49)).alloc (.cells #[.bool false, .slice none 0 0] 49)).alloc (.cells #[.bool false, .slice none 0 0] 49)) := ⟨_, rfl⟩
  rw [← hW]
  obtain ⟨x1, x2, x3, x4, hk, hb⟩ := boxes_4 _ _ _ _ _ _ _ _ _ hW
  clear hW
  have Ha := Lib.hid (Is.keep Ha.out hk)
  have Hb := Lib.hid (Is.keep Hb.out hk)
  have X1 := Lib.hid x1
  have X2 := Lib.hid x2
  have X3 := Lib.hid x3
  have X4 := Lib.hid x4
  have HB := Lib.hid hb
  clear hk hb x1 x2 x3 x4
  (first | (have hcall := divmod_r0 Hz.out Hm.out Ha.out Hb.out hL; refine Calls.mono hcall ?_; clear hcall) | refine Calls.mono (divmod_r0 Hz.out Hm.out Ha.out Hb.out hL) ?_)
  rintro e w1 ⟨t1, rfl, ⟨v1, adr, capr, rfl, hq, hr⟩, hb⟩
  have X1 := Lib.hid (Box.pcall hb X1.out)
  have X2 := Lib.hid (Box.pcall hb X2.out)
  have X3 := Lib.hid (Box.pcall hb X3.out)
  have X4 := Lib.hid (Box.pcall hb X4.out)
  have HB := Lib.hid (below_call HB.out hb)
  have Hq := Lib.hid hq
  have Hr := Lib.hid hr
  clear hb hq hr
  obtain ⟨c10, c11, f10, f11⟩ := X1.out.c2
  obtain ⟨c20, c21, f20, f21⟩ := X2.out.c2
  obtain ⟨c30, c31, f30, f31⟩ := X3.out.c2
  obtain ⟨c40, c41, f40, f41⟩ := X4.out.c2
  go_wp2_with fail
  clear c10 c11 f10 f11 c20 c21 f20 f21 c30 c31 f30 f31 c40 c41 f40 f41
  (first | (have hcall := imake_ai (neg := false) Hq.out.is; refine Calls.mono hcall ?_; clear hcall) | refine Calls.mono (imake_ai (neg := false) Hq.out.is) ?_)
  rintro e w2 ⟨v2, rfl, hs, hb⟩
  obtain ⟨ads, ns, caps, rfl⟩ := hs.lit
  have Hr := Lib.hid (Can.keep Hr.out (Keep.call hb))
  have X1 := Lib.hid (Box.pcall hb X1.out)
  have X2 := Lib.hid (Box.pcall hb X2.out)
  have X3 := Lib.hid (Box.pcall hb X3.out)
  have X4 := Lib.hid (Box.pcall hb X4.out)
  have HB := Lib.hid (below_call HB.out hb)
  have Hs := Lib.hid hs
  clear hb hs
  obtain ⟨c10, c11, f10, f11⟩ := X1.out.c2
  obtain ⟨c20, c21, f20, f21⟩ := X2.out.c2
  obtain ⟨c30, c31, f30, f31⟩ := X3.out.c2
  obtain ⟨c40, c41, f40, f41⟩ := X4.out.c2
  go_wp2_with fail
  clear c10 c11 f10 f11 c20 c21 f20 f21 c30 c31 f30 f31 c40 c41 f40 f41
  (first | (have hcall := imake_ai (neg := false) Hr.out.is; refine Calls.mono hcall ?_; clear hcall) | refine Calls.mono (imake_ai (neg := false) Hr.out.is) ?_)
  rintro e w3 ⟨v3, rfl, ht, hb⟩
  obtain ⟨adt, nt, capt, rfl⟩ := ht.lit
  have Hs := Lib.hid (CL.keep Hs.out (Keep.call hb))
  have X1 := Lib.hid (Box.pcall hb X1.out)
  have X2 := Lib.hid (Box.pcall hb X2.out)
  have X3 := Lib.hid (Box.pcall hb X3.out)
  have X4 := Lib.hid (Box.pcall hb X4.out)
  have HB := Lib.hid (below_call HB.out hb)
  have Ht := Lib.hid ht
  clear hb ht
  have e0 := idiv_P2 true (a := ma) (b := mb) Hm.out
  have Hi := Lib.hid (CL.mono (CL.cast e0.1 Hs.out) (Nat.le_succ_of_le (Nat.le_max_left L 2)))
  have Hj := Lib.hid (CL.mono (CL.cast e0.2 Ht.out) (Nat.le_max_left L M))
  clear e0 Hz Hm
  obtain ⟨c10, c11, f10, f11⟩ := X1.out.c2
  obtain ⟨c20, c21, f20, f21⟩ := X2.out.c2
  obtain ⟨c30, c31, f30, f31⟩ := X3.out.c2
  obtain ⟨c40, c41, f40, f41⟩ := X4.out.c2
  go_wp2
  exact ret_cl2E rfl rfl rfl rfl rfl X3.out X4.out (by omega) (NoInt.bool _) (NoInt.slice _ _ _) (NoInt.bool _) (NoInt.slice _ _ _) Hi.out Hj.out HB.out (by omega) (by omega)


set_option maxRecDepth 100000 in
theorem idivmod_P3_true {L M : Nat} {ma mb : Nat} {sa sb : Value} {w : World} (hz : 0 < mb) (hm : 0 < ma % mb) (ha : Is ma L w sa) (hb : Is mb M w sb) (hL : L ≤ 4294967296) (hM : M ≤ 4294967296) :
    Calls Try.prog 57 #[.agg #[.bool true, sa], .agg #[.bool true, sb]] w (Ret w (CL2E (iv true ma / iv true mb) (iv true ma % iv true mb) (max L 2 + 1) (max L M) 0)) := by
  have Ha := Lib.hid ha
  have Hb := Lib.hid hb
  have Hz := Lib.hid hz
  have Hm := Lib.hid hm
  clear ha hb hz hm
  go_enter Try.func57, Try.ntmps57
  go_wp2_with fail
  obtain ⟨W, hW⟩ : ∃ W, W = ((((w.alloc (.cells #[.bool true, sa] 49)).alloc (.cells #[.bool true, sb] 49)).alloc (.cells #[.bool false, .slice none 0 0] 49)).alloc (.cells #[.bool false, .slice none 0 0] 49)) := ⟨_, rfl⟩
  rw [← hW]
  obtain ⟨x1, x2, x3, x4, hk, hb⟩ := boxes_4 _ _ _ _ _ _ _ _ _ hW
  clear hW
  have Ha := Lib.hid (Is.keep Ha.out hk)
  have Hb := Lib.hid (Is.keep Hb.out hk)
  have X1 := Lib.hid x1
  have X2 := Lib.hid x2
  have X3 := Lib.hid x3
  have X4 := Lib.hid x4
  have HB := Lib.hid hb
  clear hk hb x1 x2 x3 x4
  (first | (have hcall := divmod_rp Hz.out Hm.out Ha.out Hb.out hL; refine Calls.mono hcall ?_; clear hcall) | refine Calls.mono (divmod_rp Hz.out Hm.out Ha.out Hb.out hL) ?_)
  rintro e w1 ⟨t1, rfl, ⟨v1, adr, nr, capr, rfl, hq, hr, dr⟩, hb⟩
  have Hb := Lib.hid (Is.keep Hb.out (Keep.call hb))
  have X1 := Lib.hid (Box.pcall hb X1.out)
  have X2 := Lib.hid (Box.pcall hb X2.out)
  have X3 := Lib.hid (Box.pcall hb X3.out)
  have X4 := Lib.hid (Box.pcall hb X4.out)
  have HB := Lib.hid (below_call HB.out hb)
  have Hq := Lib.hid hq
  have Hr := Lib.hid hr
  clear hb hq hr
  obtain ⟨c10, c11, f10, f11⟩ := X1.out.c2
  obtain ⟨c20, c21, f20, f21⟩ := X2.out.c2
  obtain ⟨c30, c31, f30, f31⟩ := X3.out.c2
  obtain ⟨c40, c41, f40, f41⟩ := X4.out.c2
  go_wp2_with fail
  clear c10 c11 f10 f11 c20 c21 f20 f21 c30 c31 f30 f31 c40 c41 f40 f41
  refine Calls.mono (of_one _) ?_
  rintro e w2 ⟨v2, rfl, ho, hb⟩
  have Hb := Lib.hid (Is.keep Hb.out (Keep.call hb))
  have Hq := Lib.hid (Can.keep Hq.out (Keep.call hb))
  have Hr := Lib.hid (Can.keep Hr.out (Keep.call hb))
  have X1 := Lib.hid (Box.pcall hb X1.out)
  have X2 := Lib.hid (Box.pcall hb X2.out)
  have X3 := Lib.hid (Box.pcall hb X3.out)
  have X4 := Lib.hid (Box.pcall hb X4.out)
  have HB := Lib.hid (below_call HB.out hb)
  have Ho := Lib.hid ho
  clear hb ho
  obtain ⟨c10, c11, f10, f11⟩ := X1.out.c2
  obtain ⟨c20, c21, f20, f21⟩ := X2.out.c2
  obtain ⟨c30, c31, f30, f31⟩ := X3.out.c2
  obtain ⟨c40, c41, f40, f41⟩ := X4.out.c2
  go_wp2_with fail
  clear c10 c11 f10 f11 c20 c21 f20 f21 c30 c31 f30 f31 c40 c41 f40 f41
  (first | (have hcall := add_is Hq.out.is Ho.out.is hL (by decide); refine Calls.mono hcall ?_; clear hcall) | refine Calls.mono (add_is Hq.out.is Ho.out.is hL (by decide)) ?_)
  rintro e w3 ⟨v3, rfl, hp, hb⟩
  have Hb := Lib.hid (Is.keep Hb.out (Keep.call hb))
  have Hr := Lib.hid (Can.keep Hr.out (Keep.call hb))
  have X1 := Lib.hid (Box.pcall hb X1.out)
  have X2 := Lib.hid (Box.pcall hb X2.out)
  have X3 := Lib.hid (Box.pcall hb X3.out)
  have X4 := Lib.hid (Box.pcall hb X4.out)
  have HB := Lib.hid (below_call HB.out hb)
  have Hp := Lib.hid hp
  clear hb hp
  obtain ⟨c10, c11, f10, f11⟩ := X1.out.c2
  obtain ⟨c20, c21, f20, f21⟩ := X2.out.c2
  obtain ⟨c30, c31, f30, f31⟩ := X3.out.c2
  obtain ⟨c40, c41, f40, f41⟩ := X4.out.c2
  go_wp2_with fail
  clear c10 c11 f10 f11 c20 c21 f20 f21 c30 c31 f30 f31 c40 c41 f40 f41
  refine Calls.mono (sub_is2 (subErr_le (Nat.le_of_lt (Nat.mod_lt _ Hz.out))) Hb.out Hr.out.is hM) ?_
  rintro e w4 ⟨t4, rfl, ⟨v4, rfl, hd⟩, hb⟩
  have Hp := Lib.hid (Can.keep Hp.out (Keep.call hb))
  have X1 := Lib.hid (Box.pcall hb X1.out)
  have X2 := Lib.hid (Box.pcall hb X2.out)
  have X3 := Lib.hid (Box.pcall hb X3.out)
  have X4 := Lib.hid (Box.pcall hb X4.out)
  have HB := Lib.hid (below_call HB.out hb)
  have Hd := Lib.hid hd
  clear hb hd
  obtain ⟨c10, c11, f10, f11⟩ := X1.out.c2
  obtain ⟨c20, c21, f20, f21⟩ := X2.out.c2
  obtain ⟨c30, c31, f30, f31⟩ := X3.out.c2
  obtain ⟨c40, c41, f40, f41⟩ := X4.out.c2
  go_wp2_with fail
  clear c10 c11 f10 f11 c20 c21 f20 f21 c30 c31 f30 f31 c40 c41 f40 f41
  (first | (have hcall := imake_ai (neg := false) Hp.out.is; refine Calls.mono hcall ?_; clear hcall) | refine Calls.mono (imake_ai (neg := false) Hp.out.is) ?_)
  rintro e w5 ⟨v5, rfl, hs, hb⟩
  obtain ⟨ads, ns, caps, rfl⟩ := hs.lit
  have Hd := Lib.hid (Can.keep Hd.out (Keep.call hb))
  have X1 := Lib.hid (Box.pcall hb X1.out)
  have X2 := Lib.hid (Box.pcall hb X2.out)
  have X3 := Lib.hid (Box.pcall hb X3.out)
  have X4 := Lib.hid (Box.pcall hb X4.out)
  have HB := Lib.hid (below_call HB.out hb)
  have Hs := Lib.hid hs
  clear hb hs
  obtain ⟨c10, c11, f10, f11⟩ := X1.out.c2
  obtain ⟨c20, c21, f20, f21⟩ := X2.out.c2
  obtain ⟨c30, c31, f30, f31⟩ := X3.out.c2
  obtain ⟨c40, c41, f40, f41⟩ := X4.out.c2
  go_wp2_with fail
  clear c10 c11 f10 f11 c20 c21 f20 f21 c30 c31 f30 f31 c40 c41 f40 f41
  (first | (have hcall := imake_ai (neg := false) Hd.out.is; refine Calls.mono hcall ?_; clear hcall) | refine Calls.mono (imake_ai (neg := false) Hd.out.is) ?_)
  rintro e w6 ⟨v6, rfl, ht, hb⟩
  obtain ⟨adt, nt, capt, rfl⟩ := ht.lit
  have Hs := Lib.hid (CL.keep Hs.out (Keep.call hb))
  have X1 := Lib.hid (Box.pcall hb X1.out)
  have X2 := Lib.hid (Box.pcall hb X2.out)
  have X3 := Lib.hid (Box.pcall hb X3.out)
  have X4 := Lib.hid (Box.pcall hb X4.out)
  have HB := Lib.hid (below_call HB.out hb)
  have Ht := Lib.hid ht
  clear hb ht
  have e0 := idiv_P3 true (a := ma) (b := mb) Hz.out Hm.out
  have Hi := Lib.hid (CL.mono (CL.cast e0.1 Hs.out) (Nat.le_refl _))
  have Hj := Lib.hid (CL.mono (CL.cast e0.2 Ht.out) (Nat.le_max_right L M))
  clear e0 Hz Hm
  obtain ⟨c10, c11, f10, f11⟩ := X1.out.c2
  obtain ⟨c20, c21, f20, f21⟩ := X2.out.c2
  obtain ⟨c30, c31, f30, f31⟩ := X3.out.c2
  obtain ⟨c40, c41, f40, f41⟩ := X4.out.c2
  go_wp2
  exact ret_cl2E rfl rfl rfl rfl rfl X3.out X4.out (by omega) (NoInt.bool _) (NoInt.slice _ _ _) (NoInt.bool _) (NoInt.slice _ _ _) Hi.out Hj.out HB.out (by omega) (by omega)


set_option maxRecDepth 100000 in
theorem idivmod_P1_false {L M : Nat} {ma mb : Nat} {sa sb : Value} {w : World} (hz : 0 < mb) (ha : Is ma L w sa) (hb : Is mb M w sb) (hL : L ≤ 4294967296) (hM : M ≤ 4294967296) :
    Calls Try.prog 57 #[.agg #[.bool false, sa], .agg #[.bool false, sb]] w (Ret w (CL2E (iv false ma / iv false mb) (iv false ma % iv false mb) (max L 2 + 1) (max L M) 0)) := by
  have Ha := Lib.hid ha
  have Hb := Lib.hid hb
  have Hz := Lib.hid hz
  clear ha hb hz
  go_enter Try.func57, Try.ntmps57
  go_wp2_with fail
  obtain ⟨W, hW⟩ : ∃ W, W = ((((w.alloc (.cells #[.bool false, sa] 49)).alloc (.cells #[.bool false, sb] 49)).alloc (.cells #[.bool false, .slice none 0 0] 49)).alloc (.cells #[.bool false, .slice none 0 0] 49)) := ⟨_, rfl⟩
  rw [← hW]
  obtain ⟨x1, x2, x3, x4, hk, hb⟩ := boxes_4 _ _ _ _ _ _ _ _ _ hW
  clear hW
  have Ha := Lib.hid (Is.keep Ha.out hk)
  have Hb := Lib.hid (Is.keep Hb.out hk)
  have X1 := Lib.hid x1
  have X2 := Lib.hid x2
  have X3 := Lib.hid x3
  have X4 := Lib.hid x4
  have HB := Lib.hid hb
  clear hk hb x1 x2 x3 x4
  (first | (have hcall := divmod_pos Hz.out Ha.out Hb.out hL; refine Calls.mono hcall ?_; clear hcall) | refine Calls.mono (divmod_pos Hz.out Ha.out Hb.out hL) ?_)
  rintro e w1 ⟨t1, rfl, ⟨v1, u1, rfl, hq, hr⟩, hb⟩
  have X1 := Lib.hid (Box.pcall hb X1.out)
  have X2 := Lib.hid (Box.pcall hb X2.out)
  have X3 := Lib.hid (Box.pcall hb X3.out)
  have X4 := Lib.hid (Box.pcall hb X4.out)
  have HB := Lib.hid (below_call HB.out hb)
  have Hq := Lib.hid hq
  have Hr := Lib.hid hr
  clear hb hq hr
  obtain ⟨c10, c11, f10, f11⟩ := X1.out.c2
  obtain ⟨c20, c21, f20, f21⟩ := X2.out.c2
  obtain ⟨c30, c31, f30, f31⟩ := X3.out.c2
  obtain ⟨c40, c41, f40, f41⟩ := X4.out.c2
  go_wp2_with fail
  clear c10 c11 f10 f11 c20 c21 f20 f21 c30 c31 f30 f31 c40 c41 f40 f41
  (first | (have hcall := imake_ai (neg := false) Hq.out.is; refine Calls.mono hcall ?_; clear hcall) | refine Calls.mono (imake_ai (neg := false) Hq.out.is) ?_)
  rintro e w2 ⟨v2, rfl, hs, hb⟩
  obtain ⟨ads, ns, caps, rfl⟩ := hs.lit
  have Hr := Lib.hid (Can.keep Hr.out (Keep.call hb))
  have X1 := Lib.hid (Box.pcall hb X1.out)
  have X2 := Lib.hid (Box.pcall hb X2.out)
  have X3 := Lib.hid (Box.pcall hb X3.out)
  have X4 := Lib.hid (Box.pcall hb X4.out)
  have HB := Lib.hid (below_call HB.out hb)
  have Hs := Lib.hid hs
  clear hb hs
  obtain ⟨c10, c11, f10, f11⟩ := X1.out.c2
  obtain ⟨c20, c21, f20, f21⟩ := X2.out.c2
  obtain ⟨c30, c31, f30, f31⟩ := X3.out.c2
  obtain ⟨c40, c41, f40, f41⟩ := X4.out.c2
  go_wp2_with fail
  clear c10 c11 f10 f11 c20 c21 f20 f21 c30 c31 f30 f31 c40 c41 f40 f41
  (first | (have hcall := imake_ai (neg := false) Hr.out.is; refine Calls.mono hcall ?_; clear hcall) | refine Calls.mono (imake_ai (neg := false) Hr.out.is) ?_)
  rintro e w3 ⟨v3, rfl, ht, hb⟩
  obtain ⟨adt, nt, capt, rfl⟩ := ht.lit
  have Hs := Lib.hid (CL.keep Hs.out (Keep.call hb))
  have X1 := Lib.hid (Box.pcall hb X1.out)
  have X2 := Lib.hid (Box.pcall hb X2.out)
  have X3 := Lib.hid (Box.pcall hb X3.out)
  have X4 := Lib.hid (Box.pcall hb X4.out)
  have HB := Lib.hid (below_call HB.out hb)
  have Ht := Lib.hid ht
  clear hb ht
  have e0 := idiv_P1 false ma mb
  have Hi := Lib.hid (CL.mono (CL.cast e0.1 Hs.out) (Nat.le_succ_of_le (Nat.le_max_left L 2)))
  have Hj := Lib.hid (CL.mono (CL.cast e0.2 Ht.out) (Nat.le_max_left L M))
  clear e0 Hz
  obtain ⟨c10, c11, f10, f11⟩ := X1.out.c2
  obtain ⟨c20, c21, f20, f21⟩ := X2.out.c2
  obtain ⟨c30, c31, f30, f31⟩ := X3.out.c2
  obtain ⟨c40, c41, f40, f41⟩ := X4.out.c2
  go_wp2
  exact ret_cl2E rfl rfl rfl rfl rfl X3.out X4.out (by omega) (NoInt.bool _) (NoInt.slice _ _ _) (NoInt.bool _) (NoInt.slice _ _ _) Hi.out Hj.out HB.out (by omega) (by omega)


set_option maxRecDepth 100000 in
theorem idivmod_P2_false {L M : Nat} {ma mb : Nat} {sa sb : Value} {w : World} (hz : 0 < mb) (hm : ma % mb = 0) (ha : Is ma L w sa) (hb : Is mb M w sb) (hL : L ≤ 4294967296) (hM : M ≤ 4294967296) :
    Calls Try.prog 57 #[.agg #[.bool true, sa], .agg #[.bool false, sb]] w (Ret w (CL2E (iv true ma / iv false mb) (iv true ma % iv false mb) (max L 2 + 1) (max L M) 0)) := by
  have Ha := Lib.hid ha
  have Hb := Lib.hid hb
  have Hz := Lib.hid hz
  have Hm := Lib.hid hm
  clear ha hb hz hm
  go_enter Try.func57, Try.ntmps57
  go_wp2_with fail
  obtain ⟨W, hW⟩ : ∃ W, W = ((((w.alloc (.cells #[.bool true, sa] 49)).alloc (.cells #[.bool false, sb] 49)).alloc (.cells #[.bool false, .slice none 0 0] 49)).alloc (.cells #[.bool false, .slice none 0 0] 49)) := ⟨_, rfl⟩
  rw [← hW]
  obtain ⟨x1, x2, x3, x4, hk, hb⟩ := boxes_4 _ _ _ _ _ _ _ _ _ hW
  clear hW
  have Ha := Lib.hid (Is.keep Ha.out hk)
  have Hb := Lib.hid (Is.keep Hb.out hk)
  have X1 := Lib.hid x1
  have X2 := Lib.hid x2
  have X3 := Lib.hid x3
  have X4 := Lib.hid x4
  have HB := Lib.hid hb
  clear hk hb x1 x2 x3 x4
  (first | (have hcall := divmod_r0 Hz.out Hm.out Ha.out Hb.out hL; refine Calls.mono hcall ?_; clear hcall) | refine Calls.mono (divmod_r0 Hz.out Hm.out Ha.out Hb.out hL) ?_)
  rintro e w1 ⟨t1, rfl, ⟨v1, adr, capr, rfl, hq, hr⟩, hb⟩
  have X1 := Lib.hid (Box.pcall hb X1.out)
  have X2 := Lib.hid (Box.pcall hb X2.out)
  have X3 := Lib.hid (Box.pcall hb X3.out)
  have X4 := Lib.hid (Box.pcall hb X4.out)
  have HB := Lib.hid (below_call HB.out hb)
  have Hq := Lib.hid hq
  have Hr := Lib.hid hr
  clear hb hq hr
  obtain ⟨c10, c11, f10, f11⟩ := X1.out.c2
  obtain ⟨c20, c21, f20, f21⟩ := X2.out.c2
  obtain ⟨c30, c31, f30, f31⟩ := X3.out.c2
  obtain ⟨c40, c41, f40, f41⟩ := X4.out.c2
  go_wp2_with fail
  clear c10 c11 f10 f11 c20 c21 f20 f21 c30 c31 f30 f31 c40 c41 f40 f41
  (first | (have hcall := imake_ai (neg := true) Hq.out.is; refine Calls.mono hcall ?_; clear hcall) | refine Calls.mono (imake_ai (neg := true) Hq.out.is) ?_)
  rintro e w2 ⟨v2, rfl, hs, hb⟩
  obtain ⟨ads, ns, caps, rfl⟩ := hs.lit
  have Hr := Lib.hid (Can.keep Hr.out (Keep.call hb))
  have X1 := Lib.hid (Box.pcall hb X1.out)
  have X2 := Lib.hid (Box.pcall hb X2.out)
  have X3 := Lib.hid (Box.pcall hb X3.out)
  have X4 := Lib.hid (Box.pcall hb X4.out)
  have HB := Lib.hid (below_call HB.out hb)
  have Hs := Lib.hid hs
  clear hb hs
  obtain ⟨c10, c11, f10, f11⟩ := X1.out.c2
  obtain ⟨c20, c21, f20, f21⟩ := X2.out.c2
  obtain ⟨c30, c31, f30, f31⟩ := X3.out.c2
  obtain ⟨c40, c41, f40, f41⟩ := X4.out.c2
  go_wp2_with fail
  clear c10 c11 f10 f11 c20 c21 f20 f21 c30 c31 f30 f31 c40 c41 f40 f41
  (first | (have hcall := imake_ai (neg := false) Hr.out.is; refine Calls.mono hcall ?_; clear hcall) | refine Calls.mono (imake_ai (neg := false) Hr.out.is) ?_)
  rintro e w3 ⟨v3, rfl, ht, hb⟩
  obtain ⟨adt, nt, capt, rfl⟩ := ht.lit
  have Hs := Lib.hid (CL.keep Hs.out (Keep.call hb))
  have X1 := Lib.hid (Box.pcall hb X1.out)
  have X2 := Lib.hid (Box.pcall hb X2.out)
  have X3 := Lib.hid (Box.pcall hb X3.out)
  have X4 := Lib.hid (Box.pcall hb X4.out)
  have HB := Lib.hid (below_call HB.out hb)
  have Ht := Lib.hid ht
  clear hb ht
  have e0 := idiv_P2 false (a := ma) (b := mb) Hm.out
  have Hi := Lib.hid (CL.mono (CL.cast e0.1 Hs.out) (Nat.le_succ_of_le (Nat.le_max_left L 2)))
  have Hj := Lib.hid (CL.mono (CL.cast e0.2 Ht.out) (Nat.le_max_left L M))
  clear e0 Hz Hm
  obtain ⟨c10, c11, f10, f11⟩ := X1.out.c2
  obtain ⟨c20, c21, f20, f21⟩ := X2.out.c2
  obtain ⟨c30, c31, f30, f31⟩ := X3.out.c2
  obtain ⟨c40, c41, f40, f41⟩ := X4.out.c2
  go_wp2
  exact ret_cl2E rfl rfl rfl rfl rfl X3.out X4.out (by omega) (NoInt.bool _) (NoInt.slice _ _ _) (NoInt.bool _) (NoInt.slice _ _ _) Hi.out Hj.out HB.out (by omega) (by omega)


set_option maxRecDepth 100000 in
theorem idivmod_P3_false {L M : Nat} {ma mb : Nat} {sa sb : Value} {w : World} (hz : 0 < mb) (hm : 0 < ma % mb) (ha : Is ma L w sa) (hb : Is mb M w sb) (hL : L ≤ 4294967296) (hM : M ≤ 4294967296) :
    Calls Try.prog 57 #[.agg #[.bool true, sa], .agg #[.bool false, sb]] w (Ret w (CL2E (iv true ma / iv false mb) (iv true ma % iv false mb) (max L 2 + 1) (max L M) 0)) := by
  have Ha := Lib.hid ha
  have Hb := Lib.hid hb
  have Hz := Lib.hid hz
  have Hm := Lib.hid hm
  clear ha hb hz hm
  go_enter Try.func57, Try.ntmps57
  go_wp2_with fail
  obtain ⟨W, hW⟩ : ∃ W, W = ((((w.alloc (.cells #[.bool true, sa] 49)).alloc (.cells #[.bool false, sb] 49)).alloc (.cells #[.bool false, .slice none 0 0] 49)).alloc (.cells #[.bool false, .slice none 0 0] 49)) := ⟨_, rfl⟩
  rw [← hW]
  obtain ⟨x1, x2, x3, x4, hk, hb⟩ := boxes_4 _ _ _ _ _ _ _ _ _ hW
  clear hW
  have Ha := Lib.hid (Is.keep Ha.out hk)
  have Hb := Lib.hid (Is.keep Hb.out hk)
  have X1 := Lib.hid x1
  have X2 := Lib.hid x2
  have X3 := Lib.hid x3
  have X4 := Lib.hid x4
  have HB := Lib.hid hb
  clear hk hb x1 x2 x3 x4
  (first | (have hcall := divmod_rp Hz.out Hm.out Ha.out Hb.out hL; refine Calls.mono hcall ?_; clear hcall) | refine Calls.mono (divmod_rp Hz.out Hm.out Ha.out Hb.out hL) ?_)
  rintro e w1 ⟨t1, rfl, ⟨v1, adr, nr, capr, rfl, hq, hr, dr⟩, hb⟩
  have Hb := Lib.hid (Is.keep Hb.out (Keep.call hb))
  have X1 := Lib.hid (Box.pcall hb X1.out)
  have X2 := Lib.hid (Box.pcall hb X2.out)
  have X3 := Lib.hid (Box.pcall hb X3.out)
  have X4 := Lib.hid (Box.pcall hb X4.out)
  have HB := Lib.hid (below_call HB.out hb)
  have Hq := Lib.hid hq
  have Hr := Lib.hid hr
  clear hb hq hr
  obtain ⟨c10, c11, f10, f11⟩ := X1.out.c2
  obtain ⟨c20, c21, f20, f21⟩ := X2.out.c2
  obtain ⟨c30, c31, f30, f31⟩ := X3.out.c2
  obtain ⟨c40, c41, f40, f41⟩ := X4.out.c2
  go_wp2_with fail
  clear c10 c11 f10 f11 c20 c21 f20 f21 c30 c31 f30 f31 c40 c41 f40 f41
  refine Calls.mono (of_one _) ?_
  rintro e w2 ⟨v2, rfl, ho, hb⟩
  have Hb := Lib.hid (Is.keep Hb.out (Keep.call hb))
  have Hq := Lib.hid (Can.keep Hq.out (Keep.call hb))
  have Hr := Lib.hid (Can.keep Hr.out (Keep.call hb))
  have X1 := Lib.hid (Box.pcall hb X1.out)
  have X2 := Lib.hid (Box.pcall hb X2.out)
  have X3 := Lib.hid (Box.pcall hb X3.out)
  have X4 := Lib.hid (Box.pcall hb X4.out)
  have HB := Lib.hid (below_call HB.out hb)
  have Ho := Lib.hid ho
  clear hb ho
  obtain ⟨c10, c11, f10, f11⟩ := X1.out.c2
  obtain ⟨c20, c21, f20, f21⟩ := X2.out.c2
  obtain ⟨c30, c31, f30, f31⟩ := X3.out.c2
  obtain ⟨c40, c41, f40, f41⟩ := X4.out.c2
  go_wp2_with fail
  clear c10 c11 f10 f11 c20 c21 f20 f21 c30 c31 f30 f31 c40 c41 f40 f41
  (first | (have hcall := add_is Hq.out.is Ho.out.is hL (by decide); refine Calls.mono hcall ?_; clear hcall) | refine Calls.mono (add_is Hq.out.is Ho.out.is hL (by decide)) ?_)
  rintro e w3 ⟨v3, rfl, hp, hb⟩
  have Hb := Lib.hid (Is.keep Hb.out (Keep.call hb))
  have Hr := Lib.hid (Can.keep Hr.out (Keep.call hb))
  have X1 := Lib.hid (Box.pcall hb X1.out)
  have X2 := Lib.hid (Box.pcall hb X2.out)
  have X3 := Lib.hid (Box.pcall hb X3.out)
  have X4 := Lib.hid (Box.pcall hb X4.out)
  have HB := Lib.hid (below_call HB.out hb)
  have Hp := Lib.hid hp
  clear hb hp
  obtain ⟨c10, c11, f10, f11⟩ := X1.out.c2
  obtain ⟨c20, c21, f20, f21⟩ := X2.out.c2
  obtain ⟨c30, c31, f30, f31⟩ := X3.out.c2
  obtain ⟨c40, c41, f40, f41⟩ := X4.out.c2
  go_wp2_with fail
  clear c10 c11 f10 f11 c20 c21 f20 f21 c30 c31 f30 f31 c40 c41 f40 f41
  refine Calls.mono (sub_is2 (subErr_le (Nat.le_of_lt (Nat.mod_lt _ Hz.out))) Hb.out Hr.out.is hM) ?_
  rintro e w4 ⟨t4, rfl, ⟨v4, rfl, hd⟩, hb⟩
  have Hp := Lib.hid (Can.keep Hp.out (Keep.call hb))
  have X1 := Lib.hid (Box.pcall hb X1.out)
  have X2 := Lib.hid (Box.pcall hb X2.out)
  have X3 := Lib.hid (Box.pcall hb X3.out)
  have X4 := Lib.hid (Box.pcall hb X4.out)
  have HB := Lib.hid (below_call HB.out hb)
  have Hd := Lib.hid hd
  clear hb hd
  obtain ⟨c10, c11, f10, f11⟩ := X1.out.c2
  obtain ⟨c20, c21, f20, f21⟩ := X2.out.c2
  obtain ⟨c30, c31, f30, f31⟩ := X3.out.c2
  obtain ⟨c40, c41, f40, f41⟩ := X4.out.c2
  go_wp2_with fail
  clear c10 c11 f10 f11 c20 c21 f20 f21 c30 c31 f30 f31 c40 c41 f40 f41
  (first | (have hcall := imake_ai (neg := true) Hp.out.is; refine Calls.mono hcall ?_; clear hcall) | refine Calls.mono (imake_ai (neg := true) Hp.out.is) ?_)
  rintro e w5 ⟨v5, rfl, hs, hb⟩
  obtain ⟨ads, ns, caps, rfl⟩ := hs.lit
  have Hd := Lib.hid (Can.keep Hd.out (Keep.call hb))
  have X1 := Lib.hid (Box.pcall hb X1.out)
  have X2 := Lib.hid (Box.pcall hb X2.out)
  have X3 := Lib.hid (Box.pcall hb X3.out)
  have X4 := Lib.hid (Box.pcall hb X4.out)
  have HB := Lib.hid (below_call HB.out hb)
  have Hs := Lib.hid hs
  clear hb hs
  obtain ⟨c10, c11, f10, f11⟩ := X1.out.c2
  obtain ⟨c20, c21, f20, f21⟩ := X2.out.c2
  obtain ⟨c30, c31, f30, f31⟩ := X3.out.c2
  obtain ⟨c40, c41, f40, f41⟩ := X4.out.c2
  go_wp2_with fail
  clear c10 c11 f10 f11 c20 c21 f20 f21 c30 c31 f30 f31 c40 c41 f40 f41
  (first | (have hcall := imake_ai (neg := false) Hd.out.is; refine Calls.mono hcall ?_; clear hcall) | refine Calls.mono (imake_ai (neg := false) Hd.out.is) ?_)
  rintro e w6 ⟨v6, rfl, ht, hb⟩
  obtain ⟨adt, nt, capt, rfl⟩ := ht.lit
  have Hs := Lib.hid (CL.keep Hs.out (Keep.call hb))
  have X1 := Lib.hid (Box.pcall hb X1.out)
  have X2 := Lib.hid (Box.pcall hb X2.out)
  have X3 := Lib.hid (Box.pcall hb X3.out)
  have X4 := Lib.hid (Box.pcall hb X4.out)
  have HB := Lib.hid (below_call HB.out hb)
  have Ht := Lib.hid ht
  clear hb ht
  have e0 := idiv_P3 false (a := ma) (b := mb) Hz.out Hm.out
  have Hi := Lib.hid (CL.mono (CL.cast e0.1 Hs.out) (Nat.le_refl _))
  have Hj := Lib.hid (CL.mono (CL.cast e0.2 Ht.out) (Nat.le_max_right L M))
  clear e0 Hz Hm
  obtain ⟨c10, c11, f10, f11⟩ := X1.out.c2
  obtain ⟨c20, c21, f20, f21⟩ := X2.out.c2
  obtain ⟨c30, c31, f30, f31⟩ := X3.out.c2
  obtain ⟨c40, c41, f40, f41⟩ := X4.out.c2
  go_wp2
  exact ret_cl2E rfl rfl rfl rfl rfl X3.out X4.out (by omega) (NoInt.bool _) (NoInt.slice _ _ _) (NoInt.bool _) (NoInt.slice _ _ _) Hi.out Hj.out HB.out (by omega) (by omega)


set_option maxRecDepth 100000 in
theorem idivmod_Z {L M : Nat} {ma mb : Nat} {sa sb : Value} {w : World} (na nb : Bool) (hz : mb = 0) (ha : Is ma L w sa) (hb : Is mb M w sb) (hL : L ≤ 4294967296) :
    Calls Try.prog 57 #[.agg #[.bool na, sa], .agg #[.bool nb, sb]] w (Ret w (Val (.tuple #[.agg #[.bool false, .slice none 0 0], .agg #[.bool false, .slice none 0 0], .int .i64 3]))) := by
  have Ha := Lib.hid ha
  have Hb := Lib.hid hb
  have Hz := Lib.hid hz
  clear ha hb hz
  go_enter Try.func57, Try.ntmps57
  go_wp2_with fail
  obtain ⟨W, hW⟩ : ∃ W, W = ((((w.alloc (.cells #[.bool na, sa] 49)).alloc (.cells #[.bool nb, sb] 49)).alloc (.cells #[.bool false, .slice none 0 0] 49)).alloc (.cells #[.bool false, .slice none 0 0] 49)) := ⟨_, rfl⟩
  rw [← hW]
  obtain ⟨x1, x2, x3, x4, hk, hb⟩ := boxes_4 _ _ _ _ _ _ _ _ _ hW
  clear hW
  have Ha := Lib.hid (Is.keep Ha.out hk)
  have Hb := Lib.hid (Is.keep Hb.out hk)
  have X1 := Lib.hid x1
  have X2 := Lib.hid x2
  have X3 := Lib.hid x3
  have X4 := Lib.hid x4
  have HB := Lib.hid hb
  clear hk hb x1 x2 x3 x4
  (first | (have hcall := divmod_zero Hz.out Ha.out Hb.out hL; refine Calls.mono hcall ?_; clear hcall) | refine Calls.mono (divmod_zero Hz.out Ha.out Hb.out hL) ?_)
  rintro e w1 ⟨v1, rfl, ⟨ad1, ct1, ad2, ct2, rfl⟩, hb⟩
  have X1 := Lib.hid (Box.pcall hb X1.out)
  have X2 := Lib.hid (Box.pcall hb X2.out)
  have X3 := Lib.hid (Box.pcall hb X3.out)
  have X4 := Lib.hid (Box.pcall hb X4.out)
  have HB := Lib.hid (below_call HB.out hb)
  clear hb
  obtain ⟨c10, c11, f10, f11⟩ := X1.out.c2
  obtain ⟨c20, c21, f20, f21⟩ := X2.out.c2
  obtain ⟨c30, c31, f30, f31⟩ := X3.out.c2
  obtain ⟨c40, c41, f40, f41⟩ := X4.out.c2
  go_wp2
  exact ret_iie rfl rfl rfl rfl rfl X3.out X4.out (by omega) rfl HB.out (by omega) (by omega)


theorem idivmod_ai {y z : Int} {L M : Nat} {u v : Value} {w : World} (hz : z ≠ 0) (h : AI y L w u) (h' : AI z M w v) (hL : L ≤ 4294967296) (hM : M ≤ 4294967296) :
    Calls Try.prog 57 #[u, v] w (Ret w (CL2E (y / z) (y % z) (max L 2 + 1) (max L M) 0)) := by
  obtain ⟨na, sa, ma, rfl, ha, rfl⟩ := h
  obtain ⟨nb, sb, mb, rfl, hb, rfl⟩ := h'
  have h0 : 0 < mb := by
    rcases Nat.eq_zero_or_pos mb with rfl | h0
    · exact absurd (by cases nb <;> rfl) hz
    · exact h0
  cases na
  · cases nb
    · exact idivmod_P1_false h0 ha hb hL hM
    · exact idivmod_P1_true h0 ha hb hL hM
  · rcases Nat.eq_zero_or_pos (ma % mb) with hm | hm <;> cases nb
    · exact idivmod_P2_false h0 hm ha hb hL hM
    · exact idivmod_P2_true h0 hm ha hb hL hM
    · exact idivmod_P3_false h0 hm ha hb hL hM
    · exact idivmod_P3_true h0 hm ha hb hL hM
theorem idivmod_zero {y z : Int} {L M : Nat} {u v : Value} {w : World} (hz : z = 0) (h : AI y L w u) (h' : AI z M w v) (hL : L ≤ 4294967296) :
    Calls Try.prog 57 #[u, v] w (Ret w (Val (.tuple #[.agg #[.bool false, .slice none 0 0], .agg #[.bool false, .slice none 0 0], .int .i64 3]))) := by
  obtain ⟨na, sa, ma, rfl, ha, rfl⟩ := h
  obtain ⟨nb, sb, mb, rfl, hb, rfl⟩ := h'
  exact idivmod_Z na nb (by cases nb <;> simp [iv] at hz <;> omega) ha hb hL

set_option maxRecDepth 100000 in
theorem iof_neg {x : Int} {w : World} (h1 : -9223372036854775808 ≤ x) (h2 : x < 0) :
    Calls Try.prog 56 #[.int .i64 x] w (Ret w (CL x 2)) := by
  have h0 : decide (x < 0) = true := by simp; omega
  go_enter Try.func56, Try.ntmps56
  go_wp2_with fail
  obtain ⟨W, hW⟩ : ∃ W, W = (w.alloc (.cells #[.bool false, .slice none 0 0] 49)) := ⟨_, rfl⟩
  rw [← hW]
  obtain ⟨x3, hk, hb⟩ := boxes_1 _ _ _ hW
  clear hW
  have X3 := Lib.hid x3
  have HB := Lib.hid hb
  clear hk hb x3
  refine Calls.mono (of_neg h1 h2 _) ?_
  rintro e w1 ⟨v1, rfl, hm, hb⟩
  obtain ⟨adm, nm, capm, rfl⟩ := hm.is.lit
  have X3 := Lib.hid (Box.pcall hb X3.out)
  have HB := Lib.hid (below_call HB.out hb)
  have Hm := Lib.hid hm
  clear hb hm
  have Hs := Lib.hid (CL.of_can true h0 Hm.out)
  obtain ⟨c30, c31, f30, f31⟩ := X3.out.c2
  go_wp2
  exact ret_cl rfl rfl rfl X3.out (NoInt.bool _) (NoInt.slice _ _ _) Hs.out HB.out (by omega)


set_option maxRecDepth 100000 in
theorem riof_neg {x : Int} {w : World} (h1 : -9223372036854775808 ≤ x) (h2 : x < 0) :
    Calls Try.prog 53 #[.int .i64 x] w (Ret w (CL x 2)) := by
  have h0 : decide (x < 0) = true := by simp; omega
  go_enter Try.func53, Try.ntmps53
  go_wp2_with fail
  obtain ⟨W, hW⟩ : ∃ W, W = (w.alloc (.cells #[.bool false, .slice none 0 0] 49)) := ⟨_, rfl⟩
  rw [← hW]
  obtain ⟨x3, hk, hb⟩ := boxes_1 _ _ _ hW
  clear hW
  have X3 := Lib.hid x3
  have HB := Lib.hid hb
  clear hk hb x3
  refine Calls.mono (rof_neg h1 h2 _) ?_
  rintro e w1 ⟨v1, rfl, hm, hb⟩
  have X3 := Lib.hid (Box.pcall hb X3.out)
  have HB := Lib.hid (below_call HB.out hb)
  have Hm := Lib.hid hm
  clear hb hm
  obtain ⟨c30, c31, f30, f31⟩ := X3.out.c2
  go_wp2_with fail
  clear c30 c31 f30 f31
  (first | (have hcall := rimake_ai (neg := true) Hm.out.is; refine Calls.mono hcall ?_; clear hcall) | refine Calls.mono (rimake_ai (neg := true) Hm.out.is) ?_)
  rintro e w2 ⟨v2, rfl, hn, hb⟩
  obtain ⟨adn, nn, capn, rfl⟩ := hn.lit
  have X3 := Lib.hid (Box.pcall hb X3.out)
  have HB := Lib.hid (below_call HB.out hb)
  have Hn := Lib.hid hn
  clear hb hn
  have Hs := Lib.hid (CL.cast (iv_of_neg h2) Hn.out)
  clear Hn
  obtain ⟨c30, c31, f30, f31⟩ := X3.out.c2
  go_wp2
  exact ret_cl rfl rfl rfl X3.out (NoInt.bool _) (NoInt.slice _ _ _) Hs.out HB.out (by omega)


set_option maxRecDepth 100000 in
theorem iof_pos {x : Int} {w : World} (h1 : 0 ≤ x) (h2 : x < 9223372036854775808) :
    Calls Try.prog 56 #[.int .i64 x] w (Ret w (CL x 2)) := by
  have h0 : decide (x < 0) = false := by simp; omega
  go_enter Try.func56, Try.ntmps56
  go_wp2_with fail
  obtain ⟨W, hW⟩ : ∃ W, W = (w.alloc (.cells #[.bool false, .slice none 0 0] 49)) := ⟨_, rfl⟩
  rw [← hW]
  obtain ⟨x3, hk, hb⟩ := boxes_1 _ _ _ hW
  clear hW
  have X3 := Lib.hid x3
  have HB := Lib.hid hb
  clear hk hb x3
  refine Calls.mono (of_pos h1 h2 _) ?_
  rintro e w1 ⟨v1, rfl, hm, hb⟩
  obtain ⟨adm, nm, capm, rfl⟩ := hm.is.lit
  have X3 := Lib.hid (Box.pcall hb X3.out)
  have HB := Lib.hid (below_call HB.out hb)
  have Hm := Lib.hid hm
  clear hb hm
  have Hs := Lib.hid (CL.of_can false h0 Hm.out)
  obtain ⟨c30, c31, f30, f31⟩ := X3.out.c2
  go_wp2
  exact ret_cl rfl rfl rfl X3.out (NoInt.bool _) (NoInt.slice _ _ _) Hs.out HB.out (by omega)


set_option maxRecDepth 100000 in
theorem riof_pos {x : Int} {w : World} (h1 : 0 ≤ x) (h2 : x < 9223372036854775808) :
    Calls Try.prog 53 #[.int .i64 x] w (Ret w (CL x 2)) := by
  have h0 : decide (x < 0) = false := by simp; omega
  go_enter Try.func53, Try.ntmps53
  go_wp2_with fail
  obtain ⟨W, hW⟩ : ∃ W, W = (w.alloc (.cells #[.bool false, .slice none 0 0] 49)) := ⟨_, rfl⟩
  rw [← hW]
  obtain ⟨x3, hk, hb⟩ := boxes_1 _ _ _ hW
  clear hW
  have X3 := Lib.hid x3
  have HB := Lib.hid hb
  clear hk hb x3
  refine Calls.mono (rof_pos h1 h2 _) ?_
  rintro e w1 ⟨v1, rfl, hm, hb⟩
  have X3 := Lib.hid (Box.pcall hb X3.out)
  have HB := Lib.hid (below_call HB.out hb)
  have Hm := Lib.hid hm
  clear hb hm
  obtain ⟨c30, c31, f30, f31⟩ := X3.out.c2
  go_wp2_with fail
  clear c30 c31 f30 f31
  (first | (have hcall := rimake_ai (neg := false) Hm.out.is; refine Calls.mono hcall ?_; clear hcall) | refine Calls.mono (rimake_ai (neg := false) Hm.out.is) ?_)
  rintro e w2 ⟨v2, rfl, hn, hb⟩
  obtain ⟨adn, nn, capn, rfl⟩ := hn.lit
  have X3 := Lib.hid (Box.pcall hb X3.out)
  have HB := Lib.hid (below_call HB.out hb)
  have Hn := Lib.hid hn
  clear hb hn
  have Hs := Lib.hid (CL.cast (iv_of_pos h1) Hn.out)
  clear Hn
  obtain ⟨c30, c31, f30, f31⟩ := X3.out.c2
  go_wp2
  exact ret_cl rfl rfl rfl X3.out (NoInt.bool _) (NoInt.slice _ _ _) Hs.out HB.out (by omega)


theorem iof_any {x : Int} {w : World} (h1 : -9223372036854775808 ≤ x) (h2 : x < 9223372036854775808) : Calls Try.prog 56 #[.int .i64 x] w (Ret w (CL x 2)) := by
  rcases Int.lt_or_le x 0 with h | h
  · exact iof_neg h1 h
  · exact iof_pos h h2

theorem riof_any {x : Int} {w : World} (h1 : -9223372036854775808 ≤ x) (h2 : x < 9223372036854775808) : Calls Try.prog 53 #[.int .i64 x] w (Ret w (CL x 2)) := by
  rcases Int.lt_or_le x 0 with h | h
  · exact riof_neg h1 h
  · exact riof_pos h h2

set_option maxRecDepth 100000 in
theorem iint_out_true {L m : Nat} {sa : Value} {w : World} (ha : Is m L w sa) (hm : 18446744073709551616 ≤ m) :
    Calls Try.prog 35 #[.agg #[.bool true, sa]] w (Ret w (Val (.tuple #[.int .i64 0, .bool false]))) := by
  have Ha := Lib.hid ha
  have Hm := Lib.hid hm
  clear ha hm
  go_enter Try.func35, Try.ntmps35
  go_wp2_with fail
  obtain ⟨W, hW⟩ : ∃ W, W = (w.alloc (.cells #[.bool true, sa] 49)) := ⟨_, rfl⟩
  rw [← hW]
  obtain ⟨x1, hk, hb⟩ := boxes_1 _ _ _ hW
  clear hW
  have Ha := Lib.hid (Is.keep Ha.out hk)
  have X1 := Lib.hid x1
  have HB := Lib.hid hb
  clear hk hb x1
  (first | (have hcall := uint_out Hm.out Ha.out; refine Calls.mono hcall ?_; clear hcall) | refine Calls.mono (uint_out Hm.out Ha.out) ?_)
  rintro e w1 ⟨v1, rfl, rfl, hb⟩
  have X1 := Lib.hid (Box.pcall hb X1.out)
  have HB := Lib.hid (below_call HB.out hb)
  clear hb
  obtain ⟨c10, c11, f10, f11⟩ := X1.out.c2
  go_wp2_with fail
  go_ret2
  exact ⟨_, rfl, rfl, HB.out⟩


set_option maxRecDepth 100000 in
theorem iint_out_false {L m : Nat} {sa : Value} {w : World} (ha : Is m L w sa) (hm : 18446744073709551616 ≤ m) :
    Calls Try.prog 35 #[.agg #[.bool false, sa]] w (Ret w (Val (.tuple #[.int .i64 0, .bool false]))) := by
  have Ha := Lib.hid ha
  have Hm := Lib.hid hm
  clear ha hm
  go_enter Try.func35, Try.ntmps35
  go_wp2_with fail
  obtain ⟨W, hW⟩ : ∃ W, W = (w.alloc (.cells #[.bool false, sa] 49)) := ⟨_, rfl⟩
  rw [← hW]
  obtain ⟨x1, hk, hb⟩ := boxes_1 _ _ _ hW
  clear hW
  have Ha := Lib.hid (Is.keep Ha.out hk)
  have X1 := Lib.hid x1
  have HB := Lib.hid hb
  clear hk hb x1
  (first | (have hcall := uint_out Hm.out Ha.out; refine Calls.mono hcall ?_; clear hcall) | refine Calls.mono (uint_out Hm.out Ha.out) ?_)
  rintro e w1 ⟨v1, rfl, rfl, hb⟩
  have X1 := Lib.hid (Box.pcall hb X1.out)
  have HB := Lib.hid (below_call HB.out hb)
  clear hb
  obtain ⟨c10, c11, f10, f11⟩ := X1.out.c2
  go_wp2_with fail
  go_ret2
  exact ⟨_, rfl, rfl, HB.out⟩


set_option maxRecDepth 100000 in
theorem iint_tt {L m : Nat} {sa : Value} {w : World} (ha : Is m L w sa) (hd : decide ((m : Int) ≤ 9223372036854775808) = true)(hm : m < 18446744073709551616) (hq : m ≤ 9223372036854775808) :
    Calls Try.prog 35 #[.agg #[.bool true, sa]] w (Ret w (Val (.tuple #[.int .i64 (-(m : Int)), .bool true]))) := by
  have Ha := Lib.hid ha
  have Hm := Lib.hid hm
  have Hq := Lib.hid hq
  clear ha hm hq
  go_enter Try.func35, Try.ntmps35
  go_wp2_with fail
  obtain ⟨W, hW⟩ : ∃ W, W = (w.alloc (.cells #[.bool true, sa] 49)) := ⟨_, rfl⟩
  rw [← hW]
  obtain ⟨x1, hk, hb⟩ := boxes_1 _ _ _ hW
  clear hW
  have Ha := Lib.hid (Is.keep Ha.out hk)
  have X1 := Lib.hid x1
  have HB := Lib.hid hb
  clear hk hb x1
  (first | (have hcall := uint_in Hm.out Ha.out; refine Calls.mono hcall ?_; clear hcall) | refine Calls.mono (uint_in Hm.out Ha.out) ?_)
  rintro e w1 ⟨v1, rfl, rfl, hb⟩
  have X1 := Lib.hid (Box.pcall hb X1.out)
  have HB := Lib.hid (below_call HB.out hb)
  clear hb
  obtain ⟨c10, c11, f10, f11⟩ := X1.out.c2
  go_wp2_with fail
  all_goals (go_ret2; exact ⟨_, rfl, tuple_int (wrap_neg Hq.out) rfl, HB.out⟩)


set_option maxRecDepth 100000 in
theorem iint_tf {L m : Nat} {sa : Value} {w : World} (ha : Is m L w sa) (hd : decide ((m : Int) ≤ 9223372036854775808) = false)(hm : m < 18446744073709551616) (hq : True) :
    Calls Try.prog 35 #[.agg #[.bool true, sa]] w (Ret w (Val (.tuple #[.int .i64 0, .bool false]))) := by
  have Ha := Lib.hid ha
  have Hm := Lib.hid hm
  have Hq := Lib.hid hq
  clear ha hm hq
  go_enter Try.func35, Try.ntmps35
  go_wp2_with fail
  obtain ⟨W, hW⟩ : ∃ W, W = (w.alloc (.cells #[.bool true, sa] 49)) := ⟨_, rfl⟩
  rw [← hW]
  obtain ⟨x1, hk, hb⟩ := boxes_1 _ _ _ hW
  clear hW
  have Ha := Lib.hid (Is.keep Ha.out hk)
  have X1 := Lib.hid x1
  have HB := Lib.hid hb
  clear hk hb x1
  (first | (have hcall := uint_in Hm.out Ha.out; refine Calls.mono hcall ?_; clear hcall) | refine Calls.mono (uint_in Hm.out Ha.out) ?_)
  rintro e w1 ⟨v1, rfl, rfl, hb⟩
  have X1 := Lib.hid (Box.pcall hb X1.out)
  have HB := Lib.hid (below_call HB.out hb)
  clear hb
  obtain ⟨c10, c11, f10, f11⟩ := X1.out.c2
  go_wp2_with fail
  all_goals (go_ret2; exact ⟨_, rfl, tuple_int rfl rfl, HB.out⟩)


set_option maxRecDepth 100000 in
theorem iint_ft {L m : Nat} {sa : Value} {w : World} (ha : Is m L w sa) (hd : decide ((m : Int) < 9223372036854775808) = true)(hm : m < 18446744073709551616) (hq : m < 9223372036854775808) :
    Calls Try.prog 35 #[.agg #[.bool false, sa]] w (Ret w (Val (.tuple #[.int .i64 (m : Int), .bool true]))) := by
  have Ha := Lib.hid ha
  have Hm := Lib.hid hm
  have Hq := Lib.hid hq
  clear ha hm hq
  go_enter Try.func35, Try.ntmps35
  go_wp2_with fail
  obtain ⟨W, hW⟩ : ∃ W, W = (w.alloc (.cells #[.bool false, sa] 49)) := ⟨_, rfl⟩
  rw [← hW]
  obtain ⟨x1, hk, hb⟩ := boxes_1 _ _ _ hW
  clear hW
  have Ha := Lib.hid (Is.keep Ha.out hk)
  have X1 := Lib.hid x1
  have HB := Lib.hid hb
  clear hk hb x1
  (first | (have hcall := uint_in Hm.out Ha.out; refine Calls.mono hcall ?_; clear hcall) | refine Calls.mono (uint_in Hm.out Ha.out) ?_)
  rintro e w1 ⟨v1, rfl, rfl, hb⟩
  have X1 := Lib.hid (Box.pcall hb X1.out)
  have HB := Lib.hid (below_call HB.out hb)
  clear hb
  obtain ⟨c10, c11, f10, f11⟩ := X1.out.c2
  go_wp2_with fail
  all_goals (go_ret2; first | exact ⟨_, rfl, rfl, HB.out⟩ | exact ⟨_, rfl, tuple_int (wrap_pos Hq.out) rfl, HB.out⟩)


set_option maxRecDepth 100000 in
theorem iint_ff {L m : Nat} {sa : Value} {w : World} (ha : Is m L w sa) (hd : decide ((m : Int) < 9223372036854775808) = false)(hm : m < 18446744073709551616) (hq : True) :
    Calls Try.prog 35 #[.agg #[.bool false, sa]] w (Ret w (Val (.tuple #[.int .i64 0, .bool false]))) := by
  have Ha := Lib.hid ha
  have Hm := Lib.hid hm
  have Hq := Lib.hid hq
  clear ha hm hq
  go_enter Try.func35, Try.ntmps35
  go_wp2_with fail
  obtain ⟨W, hW⟩ : ∃ W, W = (w.alloc (.cells #[.bool false, sa] 49)) := ⟨_, rfl⟩
  rw [← hW]
  obtain ⟨x1, hk, hb⟩ := boxes_1 _ _ _ hW
  clear hW
  have Ha := Lib.hid (Is.keep Ha.out hk)
  have X1 := Lib.hid x1
  have HB := Lib.hid hb
  clear hk hb x1
  (first | (have hcall := uint_in Hm.out Ha.out; refine Calls.mono hcall ?_; clear hcall) | refine Calls.mono (uint_in Hm.out Ha.out) ?_)
  rintro e w1 ⟨v1, rfl, rfl, hb⟩
  have X1 := Lib.hid (Box.pcall hb X1.out)
  have HB := Lib.hid (below_call HB.out hb)
  clear hb
  obtain ⟨c10, c11, f10, f11⟩ := X1.out.c2
  go_wp2_with fail
  all_goals (go_ret2; exact ⟨_, rfl, tuple_int rfl rfl, HB.out⟩)


set_option maxRecDepth 100000 in
theorem riint_out_true {L m : Nat} {sa : Value} {w : World} (ha : Is m L w sa) (hm : 18446744073709551616 ≤ m) :
    Calls Try.prog 93 #[.agg #[.bool true, sa]] w (Ret w (Val (.tuple #[.int .i64 0, .bool false]))) := by
  have Ha := Lib.hid ha
  have Hm := Lib.hid hm
  clear ha hm
  go_enter Try.func93, Try.ntmps93
  go_wp2_with fail
  obtain ⟨W, hW⟩ : ∃ W, W = (w.alloc (.cells #[.bool true, sa] 49)) := ⟨_, rfl⟩
  rw [← hW]
  obtain ⟨x1, hk, hb⟩ := boxes_1 _ _ _ hW
  clear hW
  have Ha := Lib.hid (Is.keep Ha.out hk)
  have X1 := Lib.hid x1
  have HB := Lib.hid hb
  clear hk hb x1
  (first | (have hcall := ruint_out Hm.out Ha.out; refine Calls.mono hcall ?_; clear hcall) | refine Calls.mono (ruint_out Hm.out Ha.out) ?_)
  rintro e w1 ⟨v1, rfl, rfl, hb⟩
  have X1 := Lib.hid (Box.pcall hb X1.out)
  have HB := Lib.hid (below_call HB.out hb)
  clear hb
  obtain ⟨c10, c11, f10, f11⟩ := X1.out.c2
  go_wp2_with fail
  go_ret2
  exact ⟨_, rfl, rfl, HB.out⟩


set_option maxRecDepth 100000 in
theorem riint_out_false {L m : Nat} {sa : Value} {w : World} (ha : Is m L w sa) (hm : 18446744073709551616 ≤ m) :
    Calls Try.prog 93 #[.agg #[.bool false, sa]] w (Ret w (Val (.tuple #[.int .i64 0, .bool false]))) := by
  have Ha := Lib.hid ha
  have Hm := Lib.hid hm
  clear ha hm
  go_enter Try.func93, Try.ntmps93
  go_wp2_with fail
  obtain ⟨W, hW⟩ : ∃ W, W = (w.alloc (.cells #[.bool false, sa] 49)) := ⟨_, rfl⟩
  rw [← hW]
  obtain ⟨x1, hk, hb⟩ := boxes_1 _ _ _ hW
  clear hW
  have Ha := Lib.hid (Is.keep Ha.out hk)
  have X1 := Lib.hid x1
  have HB := Lib.hid hb
  clear hk hb x1
  (first | (have hcall := ruint_out Hm.out Ha.out; refine Calls.mono hcall ?_; clear hcall) | refine Calls.mono (ruint_out Hm.out Ha.out) ?_)
  rintro e w1 ⟨v1, rfl, rfl, hb⟩
  have X1 := Lib.hid (Box.pcall hb X1.out)
  have HB := Lib.hid (below_call HB.out hb)
  clear hb
  obtain ⟨c10, c11, f10, f11⟩ := X1.out.c2
  go_wp2_with fail
  go_ret2
  exact ⟨_, rfl, rfl, HB.out⟩


set_option maxRecDepth 100000 in
theorem riint_tt {L m : Nat} {sa : Value} {w : World} (ha : Is m L w sa) (hd : decide ((9223372036854775808 : Int) < m) = false) (he : ((m : Int) == 9223372036854775808) = false) (hm : m < 18446744073709551616) (hq : m ≤ 9223372036854775808) :
    Calls Try.prog 93 #[.agg #[.bool true, sa]] w (Ret w (Val (.tuple #[.int .i64 (-(m : Int)), .bool true]))) := by
  have Ha := Lib.hid ha
  have Hm := Lib.hid hm
  have Hq := Lib.hid hq
  clear ha hm hq
  go_enter Try.func93, Try.ntmps93
  go_wp2_with fail
  obtain ⟨W, hW⟩ : ∃ W, W = (w.alloc (.cells #[.bool true, sa] 49)) := ⟨_, rfl⟩
  rw [← hW]
  obtain ⟨x1, hk, hb⟩ := boxes_1 _ _ _ hW
  clear hW
  have Ha := Lib.hid (Is.keep Ha.out hk)
  have X1 := Lib.hid x1
  have HB := Lib.hid hb
  clear hk hb x1
  (first | (have hcall := ruint_in Hm.out Ha.out; refine Calls.mono hcall ?_; clear hcall) | refine Calls.mono (ruint_in Hm.out Ha.out) ?_)
  rintro e w1 ⟨v1, rfl, rfl, hb⟩
  have X1 := Lib.hid (Box.pcall hb X1.out)
  have HB := Lib.hid (below_call HB.out hb)
  clear hb
  obtain ⟨c10, c11, f10, f11⟩ := X1.out.c2
  go_wp2_with fail
  all_goals (go_ret2; exact ⟨_, rfl, tuple_int (wrap_neg Hq.out) rfl, HB.out⟩)


set_option maxRecDepth 100000 in
theorem riint_te {L m : Nat} {sa : Value} {w : World} (ha : Is m L w sa) (hd : decide ((9223372036854775808 : Int) < m) = false) (he : ((m : Int) == 9223372036854775808) = true) (hm : m < 18446744073709551616) (hq : m ≤ 9223372036854775808) :
    Calls Try.prog 93 #[.agg #[.bool true, sa]] w (Ret w (Val (.tuple #[.int .i64 (-(m : Int)), .bool true]))) := by
  have Ha := Lib.hid ha
  have Hm := Lib.hid hm
  have Hq := Lib.hid hq
  clear ha hm hq
  go_enter Try.func93, Try.ntmps93
  go_wp2_with fail
  obtain ⟨W, hW⟩ : ∃ W, W = (w.alloc (.cells #[.bool true, sa] 49)) := ⟨_, rfl⟩
  rw [← hW]
  obtain ⟨x1, hk, hb⟩ := boxes_1 _ _ _ hW
  clear hW
  have Ha := Lib.hid (Is.keep Ha.out hk)
  have X1 := Lib.hid x1
  have HB := Lib.hid hb
  clear hk hb x1
  (first | (have hcall := ruint_in Hm.out Ha.out; refine Calls.mono hcall ?_; clear hcall) | refine Calls.mono (ruint_in Hm.out Ha.out) ?_)
  rintro e w1 ⟨v1, rfl, rfl, hb⟩
  have X1 := Lib.hid (Box.pcall hb X1.out)
  have HB := Lib.hid (below_call HB.out hb)
  clear hb
  obtain ⟨c10, c11, f10, f11⟩ := X1.out.c2
  go_wp2_with fail
  all_goals (go_ret2; exact ⟨_, rfl, tuple_int (wrap_neg Hq.out) rfl, HB.out⟩)


set_option maxRecDepth 100000 in
theorem riint_tf {L m : Nat} {sa : Value} {w : World} (ha : Is m L w sa) (hd : decide ((9223372036854775808 : Int) < m) = true) (hm : m < 18446744073709551616) (hq : True) :
    Calls Try.prog 93 #[.agg #[.bool true, sa]] w (Ret w (Val (.tuple #[.int .i64 0, .bool false]))) := by
  have Ha := Lib.hid ha
  have Hm := Lib.hid hm
  have Hq := Lib.hid hq
  clear ha hm hq
  go_enter Try.func93, Try.ntmps93
  go_wp2_with fail
  obtain ⟨W, hW⟩ : ∃ W, W = (w.alloc (.cells #[.bool true, sa] 49)) := ⟨_, rfl⟩
  rw [← hW]
  obtain ⟨x1, hk, hb⟩ := boxes_1 _ _ _ hW
  clear hW
  have Ha := Lib.hid (Is.keep Ha.out hk)
  have X1 := Lib.hid x1
  have HB := Lib.hid hb
  clear hk hb x1
  (first | (have hcall := ruint_in Hm.out Ha.out; refine Calls.mono hcall ?_; clear hcall) | refine Calls.mono (ruint_in Hm.out Ha.out) ?_)
  rintro e w1 ⟨v1, rfl, rfl, hb⟩
  have X1 := Lib.hid (Box.pcall hb X1.out)
  have HB := Lib.hid (below_call HB.out hb)
  clear hb
  obtain ⟨c10, c11, f10, f11⟩ := X1.out.c2
  go_wp2_with fail
  all_goals (go_ret2; exact ⟨_, rfl, tuple_int rfl rfl, HB.out⟩)


set_option maxRecDepth 100000 in
theorem riint_ft {L m : Nat} {sa : Value} {w : World} (ha : Is m L w sa) (hd : decide ((9223372036854775808 : Int) < m) = false) (he : ((m : Int) == 9223372036854775808) = false) (hm : m < 18446744073709551616) (hq : m < 9223372036854775808) :
    Calls Try.prog 93 #[.agg #[.bool false, sa]] w (Ret w (Val (.tuple #[.int .i64 (m : Int), .bool true]))) := by
  have Ha := Lib.hid ha
  have Hm := Lib.hid hm
  have Hq := Lib.hid hq
  clear ha hm hq
  go_enter Try.func93, Try.ntmps93
  go_wp2_with fail
  obtain ⟨W, hW⟩ : ∃ W, W = (w.alloc (.cells #[.bool false, sa] 49)) := ⟨_, rfl⟩
  rw [← hW]
  obtain ⟨x1, hk, hb⟩ := boxes_1 _ _ _ hW
  clear hW
  have Ha := Lib.hid (Is.keep Ha.out hk)
  have X1 := Lib.hid x1
  have HB := Lib.hid hb
  clear hk hb x1
  (first | (have hcall := ruint_in Hm.out Ha.out; refine Calls.mono hcall ?_; clear hcall) | refine Calls.mono (ruint_in Hm.out Ha.out) ?_)
  rintro e w1 ⟨v1, rfl, rfl, hb⟩
  have X1 := Lib.hid (Box.pcall hb X1.out)
  have HB := Lib.hid (below_call HB.out hb)
  clear hb
  obtain ⟨c10, c11, f10, f11⟩ := X1.out.c2
  go_wp2_with fail
  all_goals (go_ret2; first | exact ⟨_, rfl, rfl, HB.out⟩ | exact ⟨_, rfl, tuple_int (wrap_pos Hq.out) rfl, HB.out⟩)


set_option maxRecDepth 100000 in
theorem riint_ff {L m : Nat} {sa : Value} {w : World} (ha : Is m L w sa) (hd : decide ((9223372036854775808 : Int) < m) = true) (hm : m < 18446744073709551616) (hq : True) :
    Calls Try.prog 93 #[.agg #[.bool false, sa]] w (Ret w (Val (.tuple #[.int .i64 0, .bool false]))) := by
  have Ha := Lib.hid ha
  have Hm := Lib.hid hm
  have Hq := Lib.hid hq
  clear ha hm hq
  go_enter Try.func93, Try.ntmps93
  go_wp2_with fail
  obtain ⟨W, hW⟩ : ∃ W, W = (w.alloc (.cells #[.bool false, sa] 49)) := ⟨_, rfl⟩
  rw [← hW]
  obtain ⟨x1, hk, hb⟩ := boxes_1 _ _ _ hW
  clear hW
  have Ha := Lib.hid (Is.keep Ha.out hk)
  have X1 := Lib.hid x1
  have HB := Lib.hid hb
  clear hk hb x1
  (first | (have hcall := ruint_in Hm.out Ha.out; refine Calls.mono hcall ?_; clear hcall) | refine Calls.mono (ruint_in Hm.out Ha.out) ?_)
  rintro e w1 ⟨v1, rfl, rfl, hb⟩
  have X1 := Lib.hid (Box.pcall hb X1.out)
  have HB := Lib.hid (below_call HB.out hb)
  clear hb
  obtain ⟨c10, c11, f10, f11⟩ := X1.out.c2
  go_wp2_with fail
  all_goals (go_ret2; exact ⟨_, rfl, tuple_int rfl rfl, HB.out⟩)


set_option maxRecDepth 100000 in
theorem riint_fe {L m : Nat} {sa : Value} {w : World} (ha : Is m L w sa) (hd : decide ((9223372036854775808 : Int) < m) = false) (he : ((m : Int) == 9223372036854775808) = true) (hm : m < 18446744073709551616) (hq : True) :
    Calls Try.prog 93 #[.agg #[.bool false, sa]] w (Ret w (Val (.tuple #[.int .i64 0, .bool false]))) := by
  have Ha := Lib.hid ha
  have Hm := Lib.hid hm
  have Hq := Lib.hid hq
  clear ha hm hq
  go_enter Try.func93, Try.ntmps93
  go_wp2_with fail
  obtain ⟨W, hW⟩ : ∃ W, W = (w.alloc (.cells #[.bool false, sa] 49)) := ⟨_, rfl⟩
  rw [← hW]
  obtain ⟨x1, hk, hb⟩ := boxes_1 _ _ _ hW
  clear hW
  have Ha := Lib.hid (Is.keep Ha.out hk)
  have X1 := Lib.hid x1
  have HB := Lib.hid hb
  clear hk hb x1
  (first | (have hcall := ruint_in Hm.out Ha.out; refine Calls.mono hcall ?_; clear hcall) | refine Calls.mono (ruint_in Hm.out Ha.out) ?_)
  rintro e w1 ⟨v1, rfl, rfl, hb⟩
  have X1 := Lib.hid (Box.pcall hb X1.out)
  have HB := Lib.hid (below_call HB.out hb)
  clear hb
  obtain ⟨c10, c11, f10, f11⟩ := X1.out.c2
  go_wp2_with fail
  all_goals (go_ret2; exact ⟨_, rfl, tuple_int rfl rfl, HB.out⟩)



theorem iv_ff (m : Nat) : iv false m = (m : Int) := rfl
theorem iv_tt (m : Nat) : iv true m = -(m : Int) := rfl
theorem intV_in {z : Int} (h : -9223372036854775808 ≤ z ∧ z < 9223372036854775808) : intV z = z := if_pos h
theorem intV_out {z : Int} (h : ¬ (-9223372036854775808 ≤ z ∧ z < 9223372036854775808)) : intV z = 0 := if_neg h
theorem intB_in {z : Int} (h : -9223372036854775808 ≤ z ∧ z < 9223372036854775808) : intB z = true := decide_eq_true h
theorem intB_out {z : Int} (h : ¬ (-9223372036854775808 ≤ z ∧ z < 9223372036854775808)) : intB z = false := decide_eq_false h

theorem val_of {P : Program} {f : FuncId} {args : Array Value} {w : World} {u v : Value} (h : Calls P f args w (Ret w (Val u))) (e : u = v) : Calls P f args w (Ret w (Val v)) := e ▸ h
theorem iint_ai {z : Int} {L : Nat} {u : Value} {w : World} (h : AI z L w u) : Calls Try.prog 35 #[u] w (Ret w (Val (.tuple #[.int .i64 (intV z), .bool (intB z)]))) := by
  obtain ⟨n, s, m, rfl, h, rfl⟩ := h
  rcases Nat.lt_or_ge m 18446744073709551616 with hm | hm
  · cases n
    · rcases Nat.lt_or_ge m 9223372036854775808 with hd | hd
      · exact val_of (iint_ft h (by simp; omega) hm hd) (tuple_int (intV_in (by first | omega | (simp only [iv_ff]; omega) | (simp only [iv_tt]; omega))).symm (intB_in (by first | omega | (simp only [iv_ff]; omega) | (simp only [iv_tt]; omega))).symm)
      · exact val_of (iint_ff h (by simp; omega) hm trivial) (tuple_int (intV_out (by first | omega | (simp only [iv_ff]; omega) | (simp only [iv_tt]; omega))).symm (intB_out (by first | omega | (simp only [iv_ff]; omega) | (simp only [iv_tt]; omega))).symm)
    · rcases Nat.lt_or_ge 9223372036854775808 m with hd | hd
      · exact val_of (iint_tf h (by simp; omega) hm trivial) (tuple_int (intV_out (by first | omega | (simp only [iv_ff]; omega) | (simp only [iv_tt]; omega))).symm (intB_out (by first | omega | (simp only [iv_ff]; omega) | (simp only [iv_tt]; omega))).symm)
      · exact val_of (iint_tt h (by simp; omega) hm hd) (tuple_int (intV_in (by first | omega | (simp only [iv_ff]; omega) | (simp only [iv_tt]; omega))).symm (intB_in (by first | omega | (simp only [iv_ff]; omega) | (simp only [iv_tt]; omega))).symm)
  · cases n
    · exact val_of (iint_out_false h hm) (tuple_int (intV_out (by first | omega | (simp only [iv_ff]; omega) | (simp only [iv_tt]; omega))).symm (intB_out (by first | omega | (simp only [iv_ff]; omega) | (simp only [iv_tt]; omega))).symm)
    · exact val_of (iint_out_true h hm) (tuple_int (intV_out (by first | omega | (simp only [iv_ff]; omega) | (simp only [iv_tt]; omega))).symm (intB_out (by first | omega | (simp only [iv_ff]; omega) | (simp only [iv_tt]; omega))).symm)
theorem riint_ai {z : Int} {L : Nat} {u : Value} {w : World} (h : AI z L w u) : Calls Try.prog 93 #[u] w (Ret w (Val (.tuple #[.int .i64 (intV z), .bool (intB z)]))) := by
  obtain ⟨n, s, m, rfl, h, rfl⟩ := h
  rcases Nat.lt_or_ge m 18446744073709551616 with hm | hm
  · cases n
    · rcases Nat.lt_trichotomy m 9223372036854775808 with hd | hd | hd
      · exact val_of (riint_ft h (by simp; omega) (by simp; omega) hm hd) (tuple_int (intV_in (by first | omega | (simp only [iv_ff]; omega) | (simp only [iv_tt]; omega))).symm (intB_in (by first | omega | (simp only [iv_ff]; omega) | (simp only [iv_tt]; omega))).symm)
      · exact val_of (riint_fe h (by simp; omega) (by simp; omega) hm trivial) (tuple_int (intV_out (by first | omega | (simp only [iv_ff]; omega) | (simp only [iv_tt]; omega))).symm (intB_out (by first | omega | (simp only [iv_ff]; omega) | (simp only [iv_tt]; omega))).symm)
      · exact val_of (riint_ff h (by simp; omega) hm trivial) (tuple_int (intV_out (by first | omega | (simp only [iv_ff]; omega) | (simp only [iv_tt]; omega))).symm (intB_out (by first | omega | (simp only [iv_ff]; omega) | (simp only [iv_tt]; omega))).symm)
    · rcases Nat.lt_trichotomy m 9223372036854775808 with hd | hd | hd
      · exact val_of (riint_tt h (by simp; omega) (by simp; omega) hm (by omega)) (tuple_int (intV_in (by first | omega | (simp only [iv_ff]; omega) | (simp only [iv_tt]; omega))).symm (intB_in (by first | omega | (simp only [iv_ff]; omega) | (simp only [iv_tt]; omega))).symm)
      · exact val_of (riint_te h (by simp; omega) (by simp; omega) hm (by omega)) (tuple_int (intV_in (by first | omega | (simp only [iv_ff]; omega) | (simp only [iv_tt]; omega))).symm (intB_in (by first | omega | (simp only [iv_ff]; omega) | (simp only [iv_tt]; omega))).symm)
      · exact val_of (riint_tf h (by simp; omega) hm trivial) (tuple_int (intV_out (by first | omega | (simp only [iv_ff]; omega) | (simp only [iv_tt]; omega))).symm (intB_out (by first | omega | (simp only [iv_ff]; omega) | (simp only [iv_tt]; omega))).symm)
  · cases n
    · exact val_of (riint_out_false h hm) (tuple_int (intV_out (by first | omega | (simp only [iv_ff]; omega) | (simp only [iv_tt]; omega))).symm (intB_out (by first | omega | (simp only [iv_ff]; omega) | (simp only [iv_tt]; omega))).symm)
    · exact val_of (riint_out_true h hm) (tuple_int (intV_out (by first | omega | (simp only [iv_ff]; omega) | (simp only [iv_tt]; omega))).symm (intB_out (by first | omega | (simp only [iv_ff]; omega) | (simp only [iv_tt]; omega))).symm)

theorem CL.litb {z : Int} {L : Nat} {w : World} {v : Value} (h : CL z L w v) : ∃ b ad n cap, v = .agg #[.bool b, .slice ad n cap] := let ⟨ad, n, cap, h⟩ := h.lit; ⟨_, ad, n, cap, h⟩
def ivB (n : Bool) (xs : List Nat) : Bool := canon xs && (!n || decide (0 < xs.length))
theorem ivB_can {z : Int} : ivB (decide (z < 0)) (limbs z.natAbs) = true := by
  have hc := canon_limbs z.natAbs
  have hs := @sz_pos z.natAbs
  unfold sz at hs
  by_cases hz : z < 0
  · have h1 := hs (by omega)
    simp [ivB, hc, h1, hz]
  · simp [ivB, hc, hz]
end Go.Proofs.Ytfffehmkohcgcaa
namespace Go.Proofs.Ytfffehmkohcgcaa
open Go.RowKit Nt

/-- The denominator that is meant. -/
def un (d : Nat) : Nat := if d = 0 then 1 else d
theorem un_pos (d : Nat) : 0 < un d := by unfold un; split <;> omega
theorem un_ne (d : Nat) : un d ≠ 0 := Nat.ne_of_gt (un_pos d)
/-- The number that a sign, a numerator and a denominator stand for. -/
def rv (neg : Bool) (n d : Nat) : Rat := mkRat (iv neg n) (un d)
/-- An api.Rat in any form, its parts of at most L limbs, that stands for q. -/
def AR (q : Rat) (L : Nat) (w : World) (v : Value) : Prop := ∃ neg s t n d, v = .agg #[.bool neg, s, t] ∧ Is n L w s ∧ Is d L w t ∧ rv neg n d = q
def dn (q : Rat) : Nat := if q.den = 1 then 0 else q.den
/-- A canonical api.Rat. -/
def CQ (q : Rat) (w : World) (v : Value) : Prop := ∃ s t, v = .agg #[.bool (decide (q < 0)), s, t] ∧ Num q.num.natAbs w s ∧ Num (dn q) w t
def Sm (L : Nat) (q : Rat) : Prop := sz q.num.natAbs ≤ L ∧ sz q.den ≤ L
def CR (q : Rat) (L : Nat) (w : World) (v : Value) : Prop := CQ q w v ∧ Sm L q

theorem AR.keep {q : Rat} {L : Nat} {w w' : World} {v : Value} (h : AR q L w v) (k : Keep w w') : AR q L w' v :=
  let ⟨neg, s, t, n, d, h1, h2, h3, h4⟩ := h; ⟨neg, s, t, n, d, h1, h2.keep k, h3.keep k, h4⟩
theorem CQ.keep {q : Rat} {w w' : World} {v : Value} (h : CQ q w v) (k : Keep w w') : CQ q w' v := let ⟨s, t, h1, h2, h3⟩ := h; ⟨s, t, h1, k _ _ h2, k _ _ h3⟩
theorem CR.keep {q : Rat} {L : Nat} {w w' : World} {v : Value} (h : CR q L w v) (k : Keep w w') : CR q L w' v := ⟨h.1.keep k, h.2⟩
theorem un_dn (q : Rat) : un (dn q) = q.den := by
  unfold un dn
  have := q.den_pos
  by_cases h : q.den = 1
  · rw [if_pos h, if_pos rfl, h]
  · rw [if_neg h, if_neg (by omega)]
theorem num_sign (q : Rat) : iv (decide (q < 0)) q.num.natAbs = q.num := by
  unfold iv
  by_cases h : q < 0
  · have : ¬ 0 ≤ q.num := by rw [Rat.num_nonneg]; exact Rat.not_le.mpr h
    simp [h]; omega
  · have : 0 ≤ q.num := by rw [Rat.num_nonneg]; exact Rat.not_lt.mp h
    simp [h]; omega
theorem rv_self (q : Rat) : rv (decide (q < 0)) q.num.natAbs (dn q) = q := by
  unfold rv; rw [num_sign, un_dn]; exact Rat.mkRat_self q
theorem sz_zero_le (L : Nat) : sz 0 ≤ L := by rw [sz_zero]; exact Nat.zero_le _
theorem Sm.dn {L : Nat} {q : Rat} (h : Sm L q) : sz (dn q) ≤ L := by
  unfold Go.Proofs.Ytfffehmkohcgcaa.dn; split
  · exact sz_zero_le L
  · exact h.2
theorem CR.ar {q : Rat} {L : Nat} {w : World} {v : Value} (h : CR q L w v) : AR q L w v := by
  obtain ⟨⟨s, t, h1, h2, h3⟩, h4⟩ := h
  exact ⟨_, s, t, _, _, h1, ⟨_, h2, val_limbs _, h4.1⟩, ⟨_, h3, val_limbs _, h4.dn⟩, rv_self q⟩
theorem Sm.mono {L M : Nat} {q : Rat} (h : Sm L q) (hl : L ≤ M) : Sm M q := ⟨Nat.le_trans h.1 hl, Nat.le_trans h.2 hl⟩
theorem CR.mono {q : Rat} {L M : Nat} {w : World} {v : Value} (h : CR q L w v) (hl : L ≤ M) : CR q M w v := ⟨h.1, h.2.mono hl⟩
theorem AR.mono {q : Rat} {L M : Nat} {w : World} {v : Value} (h : AR q L w v) (hl : L ≤ M) : AR q M w v :=
  let ⟨neg, s, t, n, d, h1, h2, h3, h4⟩ := h; ⟨neg, s, t, n, d, h1, h2.mono hl, h3.mono hl, h4⟩
theorem CR.cast {y z : Rat} {L : Nat} {w : World} {v : Value} (e : y = z) (h : CR y L w v) : CR z L w v := e ▸ h
theorem AR.cast {y z : Rat} {L : Nat} {w : World} {v : Value} (e : y = z) (h : AR y L w v) : AR z L w v := e ▸ h
theorem CR.small {q : Rat} {L M : Nat} {w : World} {v : Value} (h : CR q L w v) (hs : Sm M q) : CR q M w v := ⟨h.1, hs⟩
theorem CR.litb {q : Rat} {L : Nat} {w : World} {v : Value} (h : CR q L w v) : ∃ b a n c a' n' c', v = .agg #[.bool b, .slice a n c, .slice a' n' c'] := by
  obtain ⟨⟨s, t, rfl, h2, h3⟩, -⟩ := h
  obtain ⟨a, n, c, rfl⟩ := Sl.lit h2
  obtain ⟨a', n', c', rfl⟩ := Sl.lit h3
  exact ⟨_, _, _, _, _, _, _, rfl⟩
theorem AR.litb {q : Rat} {L : Nat} {w : World} {v : Value} (h : AR q L w v) : ∃ b a n c a' n' c', v = .agg #[.bool b, .slice a n c, .slice a' n' c'] := by
  obtain ⟨b, s, t, n, d, rfl, h2, h3, -⟩ := h
  obtain ⟨a, n, c, rfl⟩ := h2.lit
  obtain ⟨a', n', c', rfl⟩ := h3.lit
  exact ⟨_, _, _, _, _, _, _, rfl⟩
theorem AR.agg {q : Rat} {L : Nat} {w : World} {v : Value} (h : AR q L w v) : ∃ neg s t, v = .agg #[.bool neg, s, t] := let ⟨n, s, t, _, _, h1, _⟩ := h; ⟨n, s, t, h1⟩
theorem AR.mk {neg : Bool} {n d L : Nat} {s t : Value} {w : World} (h : Is n L w s) (h' : Is d L w t) : AR (rv neg n d) L w (.agg #[.bool neg, s, t]) := ⟨_, _, _, _, _, rfl, h, h', rfl⟩
theorem agg3_inj {a b c a' b' c' : Value} (h : Value.agg #[a, b, c] = .agg #[a', b', c']) : a = a' ∧ b = b' ∧ c = c' := by
  injection h with h; injection h with h; injection h with e1 h; injection h with e2 h; injection h with e3 _
  exact ⟨e1, e2, e3⟩
/-- The parts of a number that came in. -/
theorem AR.parts {q : Rat} {L : Nat} {w : World} {neg : Bool} {s t : Value} (h : AR q L w (.agg #[.bool neg, s, t])) : ∃ n d, Is n L w s ∧ Is d L w t ∧ rv neg n d = q := by
  obtain ⟨neg', s', t', n, d, he, h2, h3, h4⟩ := h
  obtain ⟨e1, e2, e3⟩ := agg3_inj he
  injection e1 with e1
  subst e1 e2 e3
  exact ⟨n, d, h2, h3, h4⟩
theorem CR.numC {q : Rat} {L : Nat} {w : World} {b : Bool} {s t : Value} (h : CR q L w (.agg #[.bool b, s, t])) : Can q.num.natAbs L w s := by
  obtain ⟨⟨s', t', he, h2, h3⟩, h4⟩ := h
  obtain ⟨e1, e2, e3⟩ := agg3_inj he
  subst e2
  exact ⟨h2, h4.1⟩
theorem CR.denC {q : Rat} {L : Nat} {w : World} {b : Bool} {s t : Value} (h : CR q L w (.agg #[.bool b, s, t])) : Can (dn q) L w t := by
  obtain ⟨⟨s', t', he, h2, h3⟩, h4⟩ := h
  obtain ⟨e1, e2, e3⟩ := agg3_inj he
  subst e3
  exact ⟨h3, h4.dn⟩
theorem CR.negC {q : Rat} {L : Nat} {w : World} {b : Bool} {s t : Value} (h : CR q L w (.agg #[.bool b, s, t])) : b = decide (q < 0) := by
  obtain ⟨⟨s', t', he, h2, h3⟩, h4⟩ := h
  obtain ⟨e1, e2, e3⟩ := agg3_inj he
  injection e1
theorem rv_neg (neg : Bool) (n d : Nat) : rv (!neg) n d = - rv neg n d := by unfold rv; rw [iv_not, Rat.neg_mkRat]
theorem mkRat_lt {z : Int} {d : Nat} (hd : 0 < d) : mkRat z d < 0 ↔ z < 0 := by
  rw [← Rat.not_le, ← Rat.divInt_ofNat, Rat.divInt_nonneg_iff_of_pos_right (by omega)]; omega
theorem iv_neg_iff {neg : Bool} {n : Nat} (hn : 0 < n) : iv neg n < 0 ↔ neg = true := by cases neg <;> simp [iv] <;> omega
theorem rat_num {neg : Bool} {n d : Nat} (hd : 0 < d) : (mkRat (iv neg n) d).num.natAbs = n / Nat.gcd n d := by
  rw [Rat.num_mkRat, if_neg (by omega), iv_abs, Nat.gcd_comm]
  have hdv : ((Nat.gcd n d : Nat) : Int) ∣ (n : Int) := by exact_mod_cast Nat.gcd_dvd_left n d
  cases neg
  · simp [iv]; rfl
  · show (-(n : Int) / _).natAbs = _
    rw [Int.neg_ediv_of_dvd hdv, Int.natAbs_neg]; rfl
theorem rat_den {neg : Bool} {n d : Nat} (hd : 0 < d) : (mkRat (iv neg n) d).den = d / Nat.gcd n d := by
  rw [Rat.den_mkRat, if_neg (by omega), iv_abs, Nat.gcd_comm]
theorem CR.of_parts {neg : Bool} {n d L : Nat} {s t : Value} {w : World} (hn : 0 < n) (hd : 0 < d) (hs : Can (n / Nat.gcd n d) L w s) (ht : Can (if d / Nat.gcd n d = 1 then 0 else d / Nat.gcd n d) L w t) (hL : 1 ≤ L) :
    CR (mkRat (iv neg n) d) L w (.agg #[.bool neg, s, t]) := by
  refine ⟨⟨s, t, ?_, ?_, ?_⟩, ?_, ?_⟩
  · rw [show decide (mkRat (iv neg n) d < 0) = neg by rw [Bool.eq_iff_iff]; simp only [decide_eq_true_eq]; rw [mkRat_lt hd, iv_neg_iff hn]]
  · rw [rat_num hd]; exact hs.1
  · unfold dn; rw [rat_den hd]; exact ht.1
  · rw [rat_num hd]; exact hs.2
  · rw [rat_den hd]
    have h2 := ht.2
    split at h2
    · next h => rw [h]; exact Nat.le_trans (sz_le (by decide)) hL
    · exact h2
theorem CR.zero (w : World) : CR 0 1 w (.agg #[.bool false, .slice none 0 0, .slice none 0 0]) := by
  refine ⟨⟨_, _, rfl, ?_, ?_⟩, ?_, ?_⟩
  · show Sl w _ (limbs 0); rw [limbs_zero]; exact Sl.nil w
  · show Sl w _ (limbs 0); rw [limbs_zero]; exact Sl.nil w
  · exact sz_zero_le _
  · exact sz_le (by decide)
theorem AR.sm {q : Rat} {L : Nat} {w : World} {v : Value} (h : AR q L w v) : Sm (max L 1) q := by
  obtain ⟨neg, s, t, n, d, -, h2, h3, rfl⟩ := h
  have h2' := h2.sz_le
  have h3' := h3.sz_le
  unfold rv
  refine ⟨?_, ?_⟩
  · rw [rat_num (un_pos d)]; exact Nat.le_trans (sz_div _ _) (by omega)
  · rw [rat_den (un_pos d)]; refine Nat.le_trans (sz_div _ _) ?_
    unfold un; split
    · exact Nat.le_trans (sz_le (by decide)) (Nat.le_max_right _ _)
    · omega
end Go.Proofs.Ytfffehmkohcgcaa
