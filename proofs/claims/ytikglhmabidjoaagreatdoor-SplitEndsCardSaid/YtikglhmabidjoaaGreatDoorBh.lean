/- Texts IntF Rat0, in this order. -/
import Derived.Test.YtikglhmabidjoaaGreatDoorBg
import Derived.Test.YtikglhmabidjoaaGreatDoorBf
namespace Go.Proofs.YtikglhmabidjoaaGreatDoor
open Go.RowKit Nt
set_option linter.unusedVariables false
def CLE (z : Int) (L : Nat) (err : Int) (w : World) (v : Value) : Prop := ∃ a, v = .tuple #[a, .int .i64 err] ∧ CL z L w a
def CL2E (y z : Int) (L M : Nat) (err : Int) (w : World) (v : Value) : Prop := ∃ a b, v = .tuple #[a, b, .int .i64 err] ∧ CL y L w a ∧ CL z M w b
def QR0 (q L : Nat) (w : World) (v : Value) : Prop := ∃ a ad c, v = .tuple #[a, .slice ad 0 c, .int .i64 0] ∧ Can q L w a ∧ Can 0 L w (.slice ad 0 c)
def QRp (q r L : Nat) (w : World) (v : Value) : Prop := ∃ a ad n c, v = .tuple #[a, .slice ad n c, .int .i64 0] ∧ Can q L w a ∧ Can r L w (.slice ad n c) ∧ decide (0 < n) = true
theorem Ret.imp {w w' : World} {e : Ending} {R S : World → Value → Prop} (h : Ret w R e w') (hRS : ∀ w v, R w v → S w v) : Ret w S e w' := let ⟨v, h1, h2, h3⟩ := h; ⟨v, h1, hRS _ _ h2, h3⟩
theorem CL.of_can {x : Int} {L : Nat} {w : World} {s : Value} (b : Bool) (hb : decide (x < 0) = b) (h : Can x.natAbs L w s) : CL x L w (.agg #[.bool b, s]) := ⟨⟨s, by rw [hb], h.1⟩, h.2⟩
theorem u64_wrap (n : Int) : IntKind.u64.wrap n = n % 18446744073709551616 := rfl
theorem neg_arg {x : Int} (h1 : -9223372036854775808 ≤ x) (h2 : x < 0) : IntKind.u64.wrap (-IntKind.u64.wrap x) = ((x.natAbs : Nat) : Int) := by
  rw [u64_wrap, u64_wrap]; omega
theorem of_neg {x : Int} (h1 : -9223372036854775808 ≤ x) (h2 : x < 0) (w : World) : Calls Tryz.prog 182 #[.int .u64 (IntKind.u64.wrap (-IntKind.u64.wrap x))] w (Ret w (Can x.natAbs 2)) := by
  rw [neg_arg h1 h2]; exact of_can (by omega)
theorem rof_neg {x : Int} (h1 : -9223372036854775808 ≤ x) (h2 : x < 0) (w : World) : Calls Tryz.prog 109 #[.int .u64 (IntKind.u64.wrap (-IntKind.u64.wrap x))] w (Ret w (Can x.natAbs 2)) := by
  rw [neg_arg h1 h2]; exact rof_can (by omega)
theorem of_pos {x : Int} (h1 : 0 ≤ x) (h2 : x < 9223372036854775808) (w : World) : Calls Tryz.prog 182 #[.int .u64 x] w (Ret w (Can x.natAbs 2)) := by
  obtain ⟨n, rfl⟩ := Int.eq_ofNat_of_zero_le h1
  exact of_can (by omega)
theorem rof_pos {x : Int} (h1 : 0 ≤ x) (h2 : x < 9223372036854775808) (w : World) : Calls Tryz.prog 109 #[.int .u64 x] w (Ret w (Can x.natAbs 2)) := by
  obtain ⟨n, rfl⟩ := Int.eq_ofNat_of_zero_le h1
  exact rof_can (by omega)
theorem iv_of_neg {x : Int} (h : x < 0) : iv true x.natAbs = x := by simp [iv]; omega
theorem iv_of_pos {x : Int} (h : 0 ≤ x) : iv false x.natAbs = x := by simp [iv]; omega
def intV (z : Int) : Int := if -9223372036854775808 ≤ z ∧ z < 9223372036854775808 then z else 0
def intB (z : Int) : Bool := decide (-9223372036854775808 ≤ z ∧ z < 9223372036854775808)
set_option maxRecDepth 100000 in
theorem iof_neg {x : Int} {w : World} (h1 : -9223372036854775808 ≤ x) (h2 : x < 0) :
    Calls Tryz.prog 137 #[.int .i64 x] w (Ret w (CL x 2)) := by
  have h0 : decide (x < 0) = true := by simp; omega
  go_enter Tryz.func137, Tryz.ntmps137
  go_wp2_with fail
  obtain ⟨W, hW⟩ : ∃ W, W = (w.alloc (.cells #[.bool false, .slice none 0 0] 105)) := ⟨_, rfl⟩
  rw [← hW]
  obtain ⟨x3, hk, hb⟩ := boxes_1 _ _ _ hW
  clear hW
  have X3 := Lib.hid x3
  have HB := Lib.hid hb
  clear hk hb x3
  refine Calls.mono (of_neg h1 h2 _) ?_
  rintro e w1 ⟨v1, rfl, hm, hb⟩
  obtain ⟨adm, nm, capm, rfl⟩ := hm.is.lit
  have X3 := Lib.hid (Box.pcall hb X3.out)
  have HB := Lib.hid (below_call HB.out hb)
  have Hm := Lib.hid hm
  clear hb hm
  have Hs := Lib.hid (CL.of_can true h0 Hm.out)
  obtain ⟨c30, c31, f30, f31⟩ := X3.out.c2
  go_wp2
  exact ret_cl rfl rfl rfl X3.out (NoInt.bool _) (NoInt.slice _ _ _) Hs.out HB.out (by omega)
set_option maxRecDepth 100000 in
theorem riof_neg {x : Int} {w : World} (h1 : -9223372036854775808 ≤ x) (h2 : x < 0) :
    Calls Tryz.prog 55 #[.int .i64 x] w (Ret w (CL x 2)) := by
  have h0 : decide (x < 0) = true := by simp; omega
  go_enter Tryz.func55, Tryz.ntmps55
  go_wp2_with fail
  obtain ⟨W, hW⟩ : ∃ W, W = (w.alloc (.cells #[.bool false, .slice none 0 0] 105)) := ⟨_, rfl⟩
  rw [← hW]
  obtain ⟨x3, hk, hb⟩ := boxes_1 _ _ _ hW
  clear hW
  have X3 := Lib.hid x3
  have HB := Lib.hid hb
  clear hk hb x3
  refine Calls.mono (rof_neg h1 h2 _) ?_
  rintro e w1 ⟨v1, rfl, hm, hb⟩
  have X3 := Lib.hid (Box.pcall hb X3.out)
  have HB := Lib.hid (below_call HB.out hb)
  have Hm := Lib.hid hm
  clear hb hm
  obtain ⟨c30, c31, f30, f31⟩ := X3.out.c2
  go_wp2_with fail
  clear c30 c31 f30 f31
  (first | (have hcall := rimake_ai (neg := true) Hm.out.is; refine Calls.mono hcall ?_; clear hcall) | refine Calls.mono (rimake_ai (neg := true) Hm.out.is) ?_)
  rintro e w2 ⟨v2, rfl, hn, hb⟩
  obtain ⟨adn, nn, capn, rfl⟩ := hn.lit
  have X3 := Lib.hid (Box.pcall hb X3.out)
  have HB := Lib.hid (below_call HB.out hb)
  have Hn := Lib.hid hn
  clear hb hn
  have Hs := Lib.hid (CL.cast (iv_of_neg h2) Hn.out)
  clear Hn
  obtain ⟨c30, c31, f30, f31⟩ := X3.out.c2
  go_wp2
  exact ret_cl rfl rfl rfl X3.out (NoInt.bool _) (NoInt.slice _ _ _) Hs.out HB.out (by omega)
set_option maxRecDepth 100000 in
theorem iof_pos {x : Int} {w : World} (h1 : 0 ≤ x) (h2 : x < 9223372036854775808) :
    Calls Tryz.prog 137 #[.int .i64 x] w (Ret w (CL x 2)) := by
  have h0 : decide (x < 0) = false := by simp; omega
  go_enter Tryz.func137, Tryz.ntmps137
  go_wp2_with fail
  obtain ⟨W, hW⟩ : ∃ W, W = (w.alloc (.cells #[.bool false, .slice none 0 0] 105)) := ⟨_, rfl⟩
  rw [← hW]
  obtain ⟨x3, hk, hb⟩ := boxes_1 _ _ _ hW
  clear hW
  have X3 := Lib.hid x3
  have HB := Lib.hid hb
  clear hk hb x3
  refine Calls.mono (of_pos h1 h2 _) ?_
  rintro e w1 ⟨v1, rfl, hm, hb⟩
  obtain ⟨adm, nm, capm, rfl⟩ := hm.is.lit
  have X3 := Lib.hid (Box.pcall hb X3.out)
  have HB := Lib.hid (below_call HB.out hb)
  have Hm := Lib.hid hm
  clear hb hm
  have Hs := Lib.hid (CL.of_can false h0 Hm.out)
  obtain ⟨c30, c31, f30, f31⟩ := X3.out.c2
  go_wp2
  exact ret_cl rfl rfl rfl X3.out (NoInt.bool _) (NoInt.slice _ _ _) Hs.out HB.out (by omega)
set_option maxRecDepth 100000 in
theorem riof_pos {x : Int} {w : World} (h1 : 0 ≤ x) (h2 : x < 9223372036854775808) :
    Calls Tryz.prog 55 #[.int .i64 x] w (Ret w (CL x 2)) := by
  have h0 : decide (x < 0) = false := by simp; omega
  go_enter Tryz.func55, Tryz.ntmps55
  go_wp2_with fail
  obtain ⟨W, hW⟩ : ∃ W, W = (w.alloc (.cells #[.bool false, .slice none 0 0] 105)) := ⟨_, rfl⟩
  rw [← hW]
  obtain ⟨x3, hk, hb⟩ := boxes_1 _ _ _ hW
  clear hW
  have X3 := Lib.hid x3
  have HB := Lib.hid hb
  clear hk hb x3
  refine Calls.mono (rof_pos h1 h2 _) ?_
  rintro e w1 ⟨v1, rfl, hm, hb⟩
  have X3 := Lib.hid (Box.pcall hb X3.out)
  have HB := Lib.hid (below_call HB.out hb)
  have Hm := Lib.hid hm
  clear hb hm
  obtain ⟨c30, c31, f30, f31⟩ := X3.out.c2
  go_wp2_with fail
  clear c30 c31 f30 f31
  (first | (have hcall := rimake_ai (neg := false) Hm.out.is; refine Calls.mono hcall ?_; clear hcall) | refine Calls.mono (rimake_ai (neg := false) Hm.out.is) ?_)
  rintro e w2 ⟨v2, rfl, hn, hb⟩
  obtain ⟨adn, nn, capn, rfl⟩ := hn.lit
  have X3 := Lib.hid (Box.pcall hb X3.out)
  have HB := Lib.hid (below_call HB.out hb)
  have Hn := Lib.hid hn
  clear hb hn
  have Hs := Lib.hid (CL.cast (iv_of_pos h1) Hn.out)
  clear Hn
  obtain ⟨c30, c31, f30, f31⟩ := X3.out.c2
  go_wp2
  exact ret_cl rfl rfl rfl X3.out (NoInt.bool _) (NoInt.slice _ _ _) Hs.out HB.out (by omega)
theorem iof_any {x : Int} {w : World} (h1 : -9223372036854775808 ≤ x) (h2 : x < 9223372036854775808) : Calls Tryz.prog 137 #[.int .i64 x] w (Ret w (CL x 2)) := by
  rcases Int.lt_or_le x 0 with h | h
  · exact iof_neg h1 h
  · exact iof_pos h h2
theorem riof_any {x : Int} {w : World} (h1 : -9223372036854775808 ≤ x) (h2 : x < 9223372036854775808) : Calls Tryz.prog 55 #[.int .i64 x] w (Ret w (CL x 2)) := by
  rcases Int.lt_or_le x 0 with h | h
  · exact riof_neg h1 h
  · exact riof_pos h h2
theorem CL.litb {z : Int} {L : Nat} {w : World} {v : Value} (h : CL z L w v) : ∃ b ad n cap, v = .agg #[.bool b, .slice ad n cap] := let ⟨ad, n, cap, h⟩ := h.lit; ⟨_, ad, n, cap, h⟩
def ivB (n : Bool) (xs : List Nat) : Bool := canon xs && (!n || decide (0 < xs.length))
end Go.Proofs.YtikglhmabidjoaaGreatDoor
namespace Go.Proofs.YtikglhmabidjoaaGreatDoor
open Go.RowKit Nt
def un (d : Nat) : Nat := if d = 0 then 1 else d
theorem un_pos (d : Nat) : 0 < un d := by unfold un; split <;> omega
theorem un_ne (d : Nat) : un d ≠ 0 := Nat.ne_of_gt (un_pos d)
def rv (neg : Bool) (n d : Nat) : Rat := mkRat (iv neg n) (un d)
def AR (q : Rat) (L : Nat) (w : World) (v : Value) : Prop := ∃ neg s t n d, v = .agg #[.bool neg, s, t] ∧ Is n L w s ∧ Is d L w t ∧ rv neg n d = q
def dn (q : Rat) : Nat := if q.den = 1 then 0 else q.den
def CQ (q : Rat) (w : World) (v : Value) : Prop := ∃ s t, v = .agg #[.bool (decide (q < 0)), s, t] ∧ Num q.num.natAbs w s ∧ Num (dn q) w t
def Sm (L : Nat) (q : Rat) : Prop := sz q.num.natAbs ≤ L ∧ sz q.den ≤ L
def CR (q : Rat) (L : Nat) (w : World) (v : Value) : Prop := CQ q w v ∧ Sm L q
theorem AR.keep {q : Rat} {L : Nat} {w w' : World} {v : Value} (h : AR q L w v) (k : Keep w w') : AR q L w' v :=
  let ⟨neg, s, t, n, d, h1, h2, h3, h4⟩ := h; ⟨neg, s, t, n, d, h1, h2.keep k, h3.keep k, h4⟩
theorem CQ.keep {q : Rat} {w w' : World} {v : Value} (h : CQ q w v) (k : Keep w w') : CQ q w' v := let ⟨s, t, h1, h2, h3⟩ := h; ⟨s, t, h1, k _ _ h2, k _ _ h3⟩
theorem CR.keep {q : Rat} {L : Nat} {w w' : World} {v : Value} (h : CR q L w v) (k : Keep w w') : CR q L w' v := ⟨h.1.keep k, h.2⟩
theorem un_dn (q : Rat) : un (dn q) = q.den := by
  unfold un dn
  have := q.den_pos
  by_cases h : q.den = 1
  · rw [if_pos h, if_pos rfl, h]
  · rw [if_neg h, if_neg (by omega)]
theorem num_sign (q : Rat) : iv (decide (q < 0)) q.num.natAbs = q.num := by
  unfold iv
  by_cases h : q < 0
  · have : ¬ 0 ≤ q.num := by rw [Rat.num_nonneg]; exact Rat.not_le.mpr h
    simp [h]; omega
  · have : 0 ≤ q.num := by rw [Rat.num_nonneg]; exact Rat.not_lt.mp h
    simp [h]; omega
theorem rv_self (q : Rat) : rv (decide (q < 0)) q.num.natAbs (dn q) = q := by
  unfold rv; rw [num_sign, un_dn]; exact Rat.mkRat_self q
theorem sz_zero_le (L : Nat) : sz 0 ≤ L := by rw [sz_zero]; exact Nat.zero_le _
theorem Sm.dn {L : Nat} {q : Rat} (h : Sm L q) : sz (dn q) ≤ L := by
  unfold Go.Proofs.YtikglhmabidjoaaGreatDoor.dn; split
  · exact sz_zero_le L
  · exact h.2
theorem CR.ar {q : Rat} {L : Nat} {w : World} {v : Value} (h : CR q L w v) : AR q L w v := by
  obtain ⟨⟨s, t, h1, h2, h3⟩, h4⟩ := h
  exact ⟨_, s, t, _, _, h1, ⟨_, h2, val_limbs _, h4.1⟩, ⟨_, h3, val_limbs _, h4.dn⟩, rv_self q⟩
theorem Sm.mono {L M : Nat} {q : Rat} (h : Sm L q) (hl : L ≤ M) : Sm M q := ⟨Nat.le_trans h.1 hl, Nat.le_trans h.2 hl⟩
theorem CR.mono {q : Rat} {L M : Nat} {w : World} {v : Value} (h : CR q L w v) (hl : L ≤ M) : CR q M w v := ⟨h.1, h.2.mono hl⟩
theorem AR.mono {q : Rat} {L M : Nat} {w : World} {v : Value} (h : AR q L w v) (hl : L ≤ M) : AR q M w v :=
  let ⟨neg, s, t, n, d, h1, h2, h3, h4⟩ := h; ⟨neg, s, t, n, d, h1, h2.mono hl, h3.mono hl, h4⟩
theorem CR.cast {y z : Rat} {L : Nat} {w : World} {v : Value} (e : y = z) (h : CR y L w v) : CR z L w v := e ▸ h
theorem AR.cast {y z : Rat} {L : Nat} {w : World} {v : Value} (e : y = z) (h : AR y L w v) : AR z L w v := e ▸ h
theorem CR.litb {q : Rat} {L : Nat} {w : World} {v : Value} (h : CR q L w v) : ∃ b a n c a' n' c', v = .agg #[.bool b, .slice a n c, .slice a' n' c'] := by
  obtain ⟨⟨s, t, rfl, h2, h3⟩, -⟩ := h
  obtain ⟨a, n, c, rfl⟩ := Sl.lit h2
  obtain ⟨a', n', c', rfl⟩ := Sl.lit h3
  exact ⟨_, _, _, _, _, _, _, rfl⟩
theorem AR.litb {q : Rat} {L : Nat} {w : World} {v : Value} (h : AR q L w v) : ∃ b a n c a' n' c', v = .agg #[.bool b, .slice a n c, .slice a' n' c'] := by
  obtain ⟨b, s, t, n, d, rfl, h2, h3, -⟩ := h
  obtain ⟨a, n, c, rfl⟩ := h2.lit
  obtain ⟨a', n', c', rfl⟩ := h3.lit
  exact ⟨_, _, _, _, _, _, _, rfl⟩
theorem AR.agg {q : Rat} {L : Nat} {w : World} {v : Value} (h : AR q L w v) : ∃ neg s t, v = .agg #[.bool neg, s, t] := let ⟨n, s, t, _, _, h1, _⟩ := h; ⟨n, s, t, h1⟩
theorem AR.mk {neg : Bool} {n d L : Nat} {s t : Value} {w : World} (h : Is n L w s) (h' : Is d L w t) : AR (rv neg n d) L w (.agg #[.bool neg, s, t]) := ⟨_, _, _, _, _, rfl, h, h', rfl⟩
theorem agg3_inj {a b c a' b' c' : Value} (h : Value.agg #[a, b, c] = .agg #[a', b', c']) : a = a' ∧ b = b' ∧ c = c' := by
  injection h with h; injection h with h; injection h with e1 h; injection h with e2 h; injection h with e3 _
  exact ⟨e1, e2, e3⟩
theorem AR.parts {q : Rat} {L : Nat} {w : World} {neg : Bool} {s t : Value} (h : AR q L w (.agg #[.bool neg, s, t])) : ∃ n d, Is n L w s ∧ Is d L w t ∧ rv neg n d = q := by
  obtain ⟨neg', s', t', n, d, he, h2, h3, h4⟩ := h
  obtain ⟨e1, e2, e3⟩ := agg3_inj he
  injection e1 with e1
  subst e1 e2 e3
  exact ⟨n, d, h2, h3, h4⟩
theorem CR.numC {q : Rat} {L : Nat} {w : World} {b : Bool} {s t : Value} (h : CR q L w (.agg #[.bool b, s, t])) : Can q.num.natAbs L w s := by
  obtain ⟨⟨s', t', he, h2, h3⟩, h4⟩ := h
  obtain ⟨e1, e2, e3⟩ := agg3_inj he
  subst e2
  exact ⟨h2, h4.1⟩
theorem CR.denC {q : Rat} {L : Nat} {w : World} {b : Bool} {s t : Value} (h : CR q L w (.agg #[.bool b, s, t])) : Can (dn q) L w t := by
  obtain ⟨⟨s', t', he, h2, h3⟩, h4⟩ := h
  obtain ⟨e1, e2, e3⟩ := agg3_inj he
  subst e3
  exact ⟨h3, h4.dn⟩
theorem CR.negC {q : Rat} {L : Nat} {w : World} {b : Bool} {s t : Value} (h : CR q L w (.agg #[.bool b, s, t])) : b = decide (q < 0) := by
  obtain ⟨⟨s', t', he, h2, h3⟩, h4⟩ := h
  obtain ⟨e1, e2, e3⟩ := agg3_inj he
  injection e1
theorem rv_neg (neg : Bool) (n d : Nat) : rv (!neg) n d = - rv neg n d := by unfold rv; rw [iv_not, Rat.neg_mkRat]
theorem mkRat_lt {z : Int} {d : Nat} (hd : 0 < d) : mkRat z d < 0 ↔ z < 0 := by
  rw [← Rat.not_le, ← Rat.divInt_ofNat, Rat.divInt_nonneg_iff_of_pos_right (by omega)]; omega
theorem iv_neg_iff {neg : Bool} {n : Nat} (hn : 0 < n) : iv neg n < 0 ↔ neg = true := by cases neg <;> simp [iv] <;> omega
theorem rat_num {neg : Bool} {n d : Nat} (hd : 0 < d) : (mkRat (iv neg n) d).num.natAbs = n / Nat.gcd n d := by
  rw [Rat.num_mkRat, if_neg (by omega), iv_abs, Nat.gcd_comm]
  have hdv : ((Nat.gcd n d : Nat) : Int) ∣ (n : Int) := by exact_mod_cast Nat.gcd_dvd_left n d
  cases neg
  · simp [iv]; rfl
  · show (-(n : Int) / _).natAbs = _
    rw [Int.neg_ediv_of_dvd hdv, Int.natAbs_neg]; rfl
theorem rat_den {neg : Bool} {n d : Nat} (hd : 0 < d) : (mkRat (iv neg n) d).den = d / Nat.gcd n d := by
  rw [Rat.den_mkRat, if_neg (by omega), iv_abs, Nat.gcd_comm]
theorem CR.of_parts {neg : Bool} {n d L : Nat} {s t : Value} {w : World} (hn : 0 < n) (hd : 0 < d) (hs : Can (n / Nat.gcd n d) L w s) (ht : Can (if d / Nat.gcd n d = 1 then 0 else d / Nat.gcd n d) L w t) (hL : 1 ≤ L) :
    CR (mkRat (iv neg n) d) L w (.agg #[.bool neg, s, t]) := by
  refine ⟨⟨s, t, ?_, ?_, ?_⟩, ?_, ?_⟩
  · rw [show decide (mkRat (iv neg n) d < 0) = neg by rw [Bool.eq_iff_iff]; simp only [decide_eq_true_eq]; rw [mkRat_lt hd, iv_neg_iff hn]]
  · rw [rat_num hd]; exact hs.1
  · unfold dn; rw [rat_den hd]; exact ht.1
  · rw [rat_num hd]; exact hs.2
  · rw [rat_den hd]
    have h2 := ht.2
    split at h2
    · next h => rw [h]; exact Nat.le_trans (sz_le (by decide)) hL
    · exact h2
theorem CR.zero (w : World) : CR 0 1 w (.agg #[.bool false, .slice none 0 0, .slice none 0 0]) := by
  refine ⟨⟨_, _, rfl, ?_, ?_⟩, ?_, ?_⟩
  · show Sl w _ (limbs 0); rw [limbs_zero]; exact Sl.nil w
  · show Sl w _ (limbs 0); rw [limbs_zero]; exact Sl.nil w
  · exact sz_zero_le _
  · exact sz_le (by decide)
theorem AR.sm {q : Rat} {L : Nat} {w : World} {v : Value} (h : AR q L w v) : Sm (max L 1) q := by
  obtain ⟨neg, s, t, n, d, -, h2, h3, rfl⟩ := h
  have h2' := h2.sz_le
  have h3' := h3.sz_le
  unfold rv
  refine ⟨?_, ?_⟩
  · rw [rat_num (un_pos d)]; exact Nat.le_trans (sz_div _ _) (by omega)
  · rw [rat_den (un_pos d)]; refine Nat.le_trans (sz_div _ _) ?_
    unfold un; split
    · exact Nat.le_trans (sz_le (by decide)) (Nat.le_max_right _ _)
    · omega
end Go.Proofs.YtikglhmabidjoaaGreatDoor
