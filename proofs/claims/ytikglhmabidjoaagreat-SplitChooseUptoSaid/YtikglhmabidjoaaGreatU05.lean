/- Texts Bh Ca Cb of this proof, in this order. -/
import Derived.Test.YtikglhmabidjoaaGreatU04
import Derived.Deep.RegionHeld3
set_option linter.unusedVariables false
set_option linter.unusedSimpArgs false
set_option maxRecDepth 100000
set_option maxHeartbeats 4000000
namespace Go.Proofs.YtikglhmabidjoaaGreat
open Go.RowKit Nt
theorem Ret.imp {w w' : World} {e : Ending} {R S : World → Value → Prop} (h : Ret w R e w') (hRS : ∀ w v, R w v → S w v) : Ret w S e w' := let ⟨v, h1, h2, h3⟩ := h; ⟨v, h1, hRS _ _ h2, h3⟩
theorem CL.of_can {x : Int} {L : Nat} {w : World} {s : Value} (b : Bool) (hb : decide (x < 0) = b) (h : Can x.natAbs L w s) : CL x L w (.agg #[.bool b, s]) := ⟨⟨s, by rw [hb], h.1⟩, h.2⟩
theorem u64_wrap (n : Int) : IntKind.u64.wrap n = n % 18446744073709551616 := rfl
theorem neg_arg {x : Int} (h1 : -9223372036854775808 ≤ x) (h2 : x < 0) : IntKind.u64.wrap (-IntKind.u64.wrap x) = ((x.natAbs : Nat) : Int) := by
 rw [u64_wrap, u64_wrap]; omega
theorem of_neg {x : Int} (h1 : -9223372036854775808 ≤ x) (h2 : x < 0) (w : World) : Calls Tryz.prog 175 #[.int .u64 (IntKind.u64.wrap (-IntKind.u64.wrap x))] w (Ret w (Can x.natAbs 2)) := by
 rw [neg_arg h1 h2]; exact of_can (by omega)
theorem rof_neg {x : Int} (h1 : -9223372036854775808 ≤ x) (h2 : x < 0) (w : World) : Calls Tryz.prog 97 #[.int .u64 (IntKind.u64.wrap (-IntKind.u64.wrap x))] w (Ret w (Can x.natAbs 2)) := by
 rw [neg_arg h1 h2]; exact rof_can (by omega)
theorem of_pos {x : Int} (h1 : 0 ≤ x) (h2 : x < 9223372036854775808) (w : World) : Calls Tryz.prog 175 #[.int .u64 x] w (Ret w (Can x.natAbs 2)) := by
 obtain ⟨n, rfl⟩ := Int.eq_ofNat_of_zero_le h1
 exact of_can (by omega)
theorem rof_pos {x : Int} (h1 : 0 ≤ x) (h2 : x < 9223372036854775808) (w : World) : Calls Tryz.prog 97 #[.int .u64 x] w (Ret w (Can x.natAbs 2)) := by
 obtain ⟨n, rfl⟩ := Int.eq_ofNat_of_zero_le h1
 exact rof_can (by omega)
theorem iv_of_neg {x : Int} (h : x < 0) : iv true x.natAbs = x := by simp [iv]; omega
theorem iv_of_pos {x : Int} (h : 0 ≤ x) : iv false x.natAbs = x := by simp [iv]; omega
def intV (z : Int) : Int := if -9223372036854775808 ≤ z ∧ z < 9223372036854775808 then z else 0
theorem iof_neg {x : Int} {w : World} (h1 : -9223372036854775808 ≤ x) (h2 : x < 0) :
  Calls Tryz.prog 133 #[.int .i64 x] w (Ret w (CL x 2)) := by
 have h0 : decide (x < 0) = true := by simp; omega
 go_enter Tryz.func133, Tryz.ntmps133
 go_wp2_with fail
 obtain ⟨W, hW⟩ : ∃ W, W = (w.alloc (.cells #[.bool false, .slice none 0 0] 103)) := ⟨_, rfl⟩
 rw [← hW]
 obtain ⟨x3, hk, hb⟩ := boxes_1 _ _ _ hW
 clear hW
 have X3 := lH x3
 have HB := lH hb
 clear hk hb x3
 refine cM (of_neg h1 h2 _) ?_
 rintro e w1 ⟨v1, rfl, hm, hb⟩
 obtain ⟨adm, nm, capm, rfl⟩ := hm.is.lit
 have X3 := lH (xP hb X3.out)
 have HB := lH (bC HB.out hb)
 have Hm := lH hm
 clear hb hm
 have Hs := lH (CL.of_can true h0 Hm.out)
 obtain ⟨c30, c31, f30, f31⟩ := X3.out.c2
 go_wp2
 exact ret_cl rfl rfl rfl X3.out (nB_ _) (nS_ _ _ _) Hs.out HB.out (by omega)
theorem riof_neg {x : Int} {w : World} (h1 : -9223372036854775808 ≤ x) (h2 : x < 0) :
  Calls Tryz.prog 49 #[.int .i64 x] w (Ret w (CL x 2)) := by
 have h0 : decide (x < 0) = true := by simp; omega
 go_enter Tryz.func49, Tryz.ntmps49
 go_wp2_with fail
 obtain ⟨W, hW⟩ : ∃ W, W = (w.alloc (.cells #[.bool false, .slice none 0 0] 103)) := ⟨_, rfl⟩
 rw [← hW]
 obtain ⟨x3, hk, hb⟩ := boxes_1 _ _ _ hW
 clear hW
 have X3 := lH x3
 have HB := lH hb
 clear hk hb x3
 refine cM (rof_neg h1 h2 _) ?_
 rintro e w1 ⟨v1, rfl, hm, hb⟩
 have X3 := lH (xP hb X3.out)
 have HB := lH (bC HB.out hb)
 have Hm := lH hm
 clear hb hm
 obtain ⟨c30, c31, f30, f31⟩ := X3.out.c2
 go_wp2_with fail
 clear c30 c31 f30 f31
 (first | (have hcall := rimake_ai (neg := true) Hm.out.is; refine cM hcall ?_; clear hcall) | refine cM (rimake_ai (neg := true) Hm.out.is) ?_)
 rintro e w2 ⟨v2, rfl, hn, hb⟩
 obtain ⟨adn, nn, capn, rfl⟩ := hn.lit
 have X3 := lH (xP hb X3.out)
 have HB := lH (bC HB.out hb)
 have Hn := lH hn
 clear hb hn
 have Hs := lH (CL.cast (iv_of_neg h2) Hn.out)
 clear Hn
 obtain ⟨c30, c31, f30, f31⟩ := X3.out.c2
 go_wp2
 exact ret_cl rfl rfl rfl X3.out (nB_ _) (nS_ _ _ _) Hs.out HB.out (by omega)
theorem iof_pos {x : Int} {w : World} (h1 : 0 ≤ x) (h2 : x < 9223372036854775808) :
  Calls Tryz.prog 133 #[.int .i64 x] w (Ret w (CL x 2)) := by
 have h0 : decide (x < 0) = false := by simp; omega
 go_enter Tryz.func133, Tryz.ntmps133
 go_wp2_with fail
 obtain ⟨W, hW⟩ : ∃ W, W = (w.alloc (.cells #[.bool false, .slice none 0 0] 103)) := ⟨_, rfl⟩
 rw [← hW]
 obtain ⟨x3, hk, hb⟩ := boxes_1 _ _ _ hW
 clear hW
 have X3 := lH x3
 have HB := lH hb
 clear hk hb x3
 refine cM (of_pos h1 h2 _) ?_
 rintro e w1 ⟨v1, rfl, hm, hb⟩
 obtain ⟨adm, nm, capm, rfl⟩ := hm.is.lit
 have X3 := lH (xP hb X3.out)
 have HB := lH (bC HB.out hb)
 have Hm := lH hm
 clear hb hm
 have Hs := lH (CL.of_can false h0 Hm.out)
 obtain ⟨c30, c31, f30, f31⟩ := X3.out.c2
 go_wp2
 exact ret_cl rfl rfl rfl X3.out (nB_ _) (nS_ _ _ _) Hs.out HB.out (by omega)
theorem riof_pos {x : Int} {w : World} (h1 : 0 ≤ x) (h2 : x < 9223372036854775808) :
  Calls Tryz.prog 49 #[.int .i64 x] w (Ret w (CL x 2)) := by
 have h0 : decide (x < 0) = false := by simp; omega
 go_enter Tryz.func49, Tryz.ntmps49
 go_wp2_with fail
 obtain ⟨W, hW⟩ : ∃ W, W = (w.alloc (.cells #[.bool false, .slice none 0 0] 103)) := ⟨_, rfl⟩
 rw [← hW]
 obtain ⟨x3, hk, hb⟩ := boxes_1 _ _ _ hW
 clear hW
 have X3 := lH x3
 have HB := lH hb
 clear hk hb x3
 refine cM (rof_pos h1 h2 _) ?_
 rintro e w1 ⟨v1, rfl, hm, hb⟩
 have X3 := lH (xP hb X3.out)
 have HB := lH (bC HB.out hb)
 have Hm := lH hm
 clear hb hm
 obtain ⟨c30, c31, f30, f31⟩ := X3.out.c2
 go_wp2_with fail
 clear c30 c31 f30 f31
 (first | (have hcall := rimake_ai (neg := false) Hm.out.is; refine cM hcall ?_; clear hcall) | refine cM (rimake_ai (neg := false) Hm.out.is) ?_)
 rintro e w2 ⟨v2, rfl, hn, hb⟩
 obtain ⟨adn, nn, capn, rfl⟩ := hn.lit
 have X3 := lH (xP hb X3.out)
 have HB := lH (bC HB.out hb)
 have Hn := lH hn
 clear hb hn
 have Hs := lH (CL.cast (iv_of_pos h1) Hn.out)
 clear Hn
 obtain ⟨c30, c31, f30, f31⟩ := X3.out.c2
 go_wp2
 exact ret_cl rfl rfl rfl X3.out (nB_ _) (nS_ _ _ _) Hs.out HB.out (by omega)
theorem iof_any {x : Int} {w : World} (h1 : -9223372036854775808 ≤ x) (h2 : x < 9223372036854775808) : Calls Tryz.prog 133 #[.int .i64 x] w (Ret w (CL x 2)) := by
 rcases Int.lt_or_le x 0 with h | h
 ·
  exact iof_neg h1 h
 ·
  exact iof_pos h h2
theorem riof_any {x : Int} {w : World} (h1 : -9223372036854775808 ≤ x) (h2 : x < 9223372036854775808) : Calls Tryz.prog 49 #[.int .i64 x] w (Ret w (CL x 2)) := by
 rcases Int.lt_or_le x 0 with h | h
 ·
  exact riof_neg h1 h
 ·
  exact riof_pos h h2
theorem CL.litb {z : Int} {L : Nat} {w : World} {v : Value} (h : CL z L w v) : ∃ b ad n cap, v = .agg #[.bool b, .slice ad n cap] := let ⟨ad, n, cap, h⟩ := h.lit; ⟨_, ad, n, cap, h⟩
def un (d : Nat) : Nat := if d = 0 then 1 else d
theorem un_pos (d : Nat) : 0 < un d := by unfold un; split <;> omega
theorem un_ne (d : Nat) : un d ≠ 0 := Nat.ne_of_gt (un_pos d)
def rv (neg : Bool) (n d : Nat) : Rat := mkRat (iv neg n) (un d)
def AR (q : Rat) (L : Nat) (w : World) (v : Value) : Prop := ∃ neg s t n d, v = .agg #[.bool neg, s, t] ∧ Is n L w s ∧ Is d L w t ∧ rv neg n d = q
def dn (q : Rat) : Nat := if q.den = 1 then 0 else q.den
def CQ (q : Rat) (w : World) (v : Value) : Prop := ∃ s t, v = .agg #[.bool (decide (q < 0)), s, t] ∧ Num q.num.natAbs w s ∧ Num (dn q) w t
def Sm (L : Nat) (q : Rat) : Prop := sz q.num.natAbs ≤ L ∧ sz q.den ≤ L
def CR (q : Rat) (L : Nat) (w : World) (v : Value) : Prop := CQ q w v ∧ Sm L q
theorem AR.keep {q : Rat} {L : Nat} {w w' : World} {v : Value} (h : AR q L w v) (k : Keep w w') : AR q L w' v :=
 let ⟨neg, s, t, n, d, h1, h2, h3, h4⟩ := h; ⟨neg, s, t, n, d, h1, h2.keep k, h3.keep k, h4⟩
theorem CQ.keep {q : Rat} {w w' : World} {v : Value} (h : CQ q w v) (k : Keep w w') : CQ q w' v := let ⟨s, t, h1, h2, h3⟩ := h; ⟨s, t, h1, k _ _ h2, k _ _ h3⟩
theorem CR.keep {q : Rat} {L : Nat} {w w' : World} {v : Value} (h : CR q L w v) (k : Keep w w') : CR q L w' v := ⟨h.1.keep k, h.2⟩
theorem un_dn (q : Rat) : un (dn q) = q.den := by
 unfold un dn
 have := q.den_pos
 by_cases h : q.den = 1
 ·
  rw [if_pos h, if_pos rfl, h]
 ·
  rw [if_neg h, if_neg (by omega)]
theorem num_sign (q : Rat) : iv (decide (q < 0)) q.num.natAbs = q.num := by
 unfold iv
 by_cases h : q < 0
 ·
  have : ¬ 0 ≤ q.num := by rw [Rat.num_nonneg]; exact Rat.not_le.mpr h
  simp [h]; omega
 ·
  have : 0 ≤ q.num := by rw [Rat.num_nonneg]; exact Rat.not_lt.mp h
  simp [h]; omega
theorem rv_self (q : Rat) : rv (decide (q < 0)) q.num.natAbs (dn q) = q := by
 unfold rv; rw [num_sign, un_dn]; exact Rat.mkRat_self q
theorem sz_zero_le (L : Nat) : sz 0 ≤ L := by rw [sz_zero]; exact zL_ _
theorem Sm.dn {L : Nat} {q : Rat} (h : Sm L q) : sz (dn q) ≤ L := by
 unfold Go.Proofs.YtikglhmabidjoaaGreat.dn; split
 ·
  exact sz_zero_le L
 ·
  exact h.2
theorem CR.ar {q : Rat} {L : Nat} {w : World} {v : Value} (h : CR q L w v) : AR q L w v := by
 obtain ⟨⟨s, t, h1, h2, h3⟩, h4⟩ := h
 exact ⟨_, s, t, _, _, h1, ⟨_, h2, val_limbs _, h4.1⟩, ⟨_, h3, val_limbs _, h4.dn⟩, rv_self q⟩
theorem Sm.mono {L M : Nat} {q : Rat} (h : Sm L q) (hl : L ≤ M) : Sm M q := ⟨tL_ h.1 hl, tL_ h.2 hl⟩
theorem CR.mono {q : Rat} {L M : Nat} {w : World} {v : Value} (h : CR q L w v) (hl : L ≤ M) : CR q M w v := ⟨h.1, h.2.mono hl⟩
theorem CR.cast {y z : Rat} {L : Nat} {w : World} {v : Value} (e : y = z) (h : CR y L w v) : CR z L w v := e ▸ h
theorem CR.litb {q : Rat} {L : Nat} {w : World} {v : Value} (h : CR q L w v) : ∃ b a n c a' n' c', v = .agg #[.bool b, .slice a n c, .slice a' n' c'] := by
 obtain ⟨⟨s, t, rfl, h2, h3⟩, -⟩ := h
 obtain ⟨a, n, c, rfl⟩ := Sl.lit h2
 obtain ⟨a', n', c', rfl⟩ := Sl.lit h3
 exact ⟨_, _, _, _, _, _, _, rfl⟩
theorem AR.agg {q : Rat} {L : Nat} {w : World} {v : Value} (h : AR q L w v) : ∃ neg s t, v = .agg #[.bool neg, s, t] := let ⟨n, s, t, _, _, h1, _⟩ := h; ⟨n, s, t, h1⟩
theorem AR.mk {neg : Bool} {n d L : Nat} {s t : Value} {w : World} (h : Is n L w s) (h' : Is d L w t) : AR (rv neg n d) L w (.agg #[.bool neg, s, t]) := ⟨_, _, _, _, _, rfl, h, h', rfl⟩
theorem agg3_inj {a b c a' b' c' : Value} (h : Value.agg #[a, b, c] = .agg #[a', b', c']) : a = a' ∧ b = b' ∧ c = c' := by
 injection h with h; injection h with h; injection h with e1 h; injection h with e2 h; injection h with e3 _
 exact ⟨e1, e2, e3⟩
theorem AR.parts {q : Rat} {L : Nat} {w : World} {neg : Bool} {s t : Value} (h : AR q L w (.agg #[.bool neg, s, t])) : ∃ n d, Is n L w s ∧ Is d L w t ∧ rv neg n d = q := by
 obtain ⟨neg', s', t', n, d, he, h2, h3, h4⟩ := h
 obtain ⟨e1, e2, e3⟩ := agg3_inj he
 injection e1 with e1
 subst e1 e2 e3
 exact ⟨n, d, h2, h3, h4⟩
theorem CR.numC {q : Rat} {L : Nat} {w : World} {b : Bool} {s t : Value} (h : CR q L w (.agg #[.bool b, s, t])) : Can q.num.natAbs L w s := by
 obtain ⟨⟨s', t', he, h2, h3⟩, h4⟩ := h
 obtain ⟨e1, e2, e3⟩ := agg3_inj he
 subst e2
 exact ⟨h2, h4.1⟩
theorem CR.denC {q : Rat} {L : Nat} {w : World} {b : Bool} {s t : Value} (h : CR q L w (.agg #[.bool b, s, t])) : Can (dn q) L w t := by
 obtain ⟨⟨s', t', he, h2, h3⟩, h4⟩ := h
 obtain ⟨e1, e2, e3⟩ := agg3_inj he
 subst e3
 exact ⟨h3, h4.dn⟩
theorem CR.negC {q : Rat} {L : Nat} {w : World} {b : Bool} {s t : Value} (h : CR q L w (.agg #[.bool b, s, t])) : b = decide (q < 0) := by
 obtain ⟨⟨s', t', he, h2, h3⟩, h4⟩ := h
 obtain ⟨e1, e2, e3⟩ := agg3_inj he
 injection e1
theorem rv_neg (neg : Bool) (n d : Nat) : rv (!neg) n d = - rv neg n d := by unfold rv; rw [iv_not, Rat.neg_mkRat]
theorem mkRat_lt {z : Int} {d : Nat} (hd : 0 < d) : mkRat z d < 0 ↔ z < 0 := by
 rw [← Rat.not_le, ← Rat.divInt_ofNat, Rat.divInt_nonneg_iff_of_pos_right (by omega)]; omega
theorem iv_neg_iff {neg : Bool} {n : Nat} (hn : 0 < n) : iv neg n < 0 ↔ neg = true := by cases neg <;> simp [iv] <;> omega
theorem rat_num {neg : Bool} {n d : Nat} (hd : 0 < d) : (mkRat (iv neg n) d).num.natAbs = n / Nat.gcd n d := by
 rw [Rat.num_mkRat, if_neg (by omega), iv_abs, Nat.gcd_comm]
 have hdv : ((Nat.gcd n d : Nat) : Int) ∣ (n : Int) := by exact_mod_cast Nat.gcd_dvd_left n d
 cases neg
 ·
  simp [iv]; rfl
 ·
  show (-(n : Int) / _).natAbs = _
  rw [Int.neg_ediv_of_dvd hdv, Int.natAbs_neg]; rfl
theorem rat_den {neg : Bool} {n d : Nat} (hd : 0 < d) : (mkRat (iv neg n) d).den = d / Nat.gcd n d := by
 rw [Rat.den_mkRat, if_neg (by omega), iv_abs, Nat.gcd_comm]
theorem CR.of_parts {neg : Bool} {n d L : Nat} {s t : Value} {w : World} (hn : 0 < n) (hd : 0 < d) (hs : Can (n / Nat.gcd n d) L w s) (ht : Can (if d / Nat.gcd n d = 1 then 0 else d / Nat.gcd n d) L w t) (hL : 1 ≤ L) :
  CR (mkRat (iv neg n) d) L w (.agg #[.bool neg, s, t]) := by
 refine ⟨⟨s, t, ?_, ?_, ?_⟩, ?_, ?_⟩
 ·
  rw [show decide (mkRat (iv neg n) d < 0) = neg by rw [Bool.eq_iff_iff]; simp only [decide_eq_true_eq]; rw [mkRat_lt hd, iv_neg_iff hn]]
 ·
  rw [rat_num hd]; exact hs.1
 ·
  unfold dn; rw [rat_den hd]; exact ht.1
 ·
  rw [rat_num hd]; exact hs.2
 ·
  rw [rat_den hd]
  have h2 := ht.2
  split at h2
  ·
   next h => rw [h]; exact tL_ (sz_le (by decide)) hL
  ·
   exact h2
theorem CR.zero (w : World) : CR 0 1 w (.agg #[.bool false, .slice none 0 0, .slice none 0 0]) := by
 refine ⟨⟨_, _, rfl, ?_, ?_⟩, ?_, ?_⟩
 ·
  show Sl w _ (limbs 0); rw [limbs_zero]; exact Sl.nil w
 ·
  show Sl w _ (limbs 0); rw [limbs_zero]; exact Sl.nil w
 ·
  exact sz_zero_le _
 ·
  exact sz_le (by decide)
theorem box_range {w : World} {g : Nat} {t : TypeId} {cs : Array Value} (h : Box w g t cs) : w.rangeAt g 0 cs.toList := by
 intro j v hv
 rw [Nat.zero_add]
 exact h.cell j (by simpa using hv)
theorem results_ie {fn : Func} {p r : Tmp} {ty : TypeId} (h : fn.results = #[.cell p ty, .tmp r]) (tmps : Array Value) (P : Program) (w : World) (g : Nat) (cs : List Value) (z : Value) (d : TypeDesc)
  (hp : tmps.getD p undef = .pointer (some ⟨g, 0, none⟩)) (hz : tmps.getD r undef = z) (hc : w.rangeAt g 0 cs) (hu : P.underlying ty = some d) (hd : d.isRow = true) (hi : (P.info? ty).map (·.size) = some cs.length) :
  (results fn tmps).run P w = .ok (.tuple #[.agg cs.toArray, z]) w := by
 have hp' : tmps[p]?.getD undef = .pointer (some ⟨g, 0, none⟩) := by simpa using hp
 have hz' : tmps[r]?.getD undef = z := by simpa using hz
 simp [results, h, hp', hz', asAddr, run_loadVar_mid w g 0 ty cs d hc hu hd hi]
theorem results_ii {fn : Func} {p q : Tmp} {ty ty' : TypeId} (h : fn.results = #[.cell p ty, .cell q ty']) (tmps : Array Value) (P : Program) (w : World) (g g' : Nat) (cs cs' : List Value) (d d' : TypeDesc)
  (hp : tmps.getD p undef = .pointer (some ⟨g, 0, none⟩)) (hq : tmps.getD q undef = .pointer (some ⟨g', 0, none⟩)) (hc : w.rangeAt g 0 cs) (hc' : w.rangeAt g' 0 cs')
  (hu : P.underlying ty = some d) (hd : d.isRow = true) (hi : (P.info? ty).map (·.size) = some cs.length) (hu' : P.underlying ty' = some d') (hd' : d'.isRow = true) (hi' : (P.info? ty').map (·.size) = some cs'.length) :
  (results fn tmps).run P w = .ok (.tuple #[.agg cs.toArray, .agg cs'.toArray]) w := by
 have hp' : tmps[p]?.getD undef = .pointer (some ⟨g, 0, none⟩) := by simpa using hp
 have hq' : tmps[q]?.getD undef = .pointer (some ⟨g', 0, none⟩) := by simpa using hq
 simp [results, h, hp', hq', asAddr, run_loadVar_mid w g 0 ty cs d hc hu hd hi, run_loadVar_mid w g' 0 ty' cs' d' hc' hu' hd' hi']
theorem ret_int1 {fn : Func} {p : Tmp} {a : Act} {w0 W : World} {R : World → Value → Prop} {g : Nat} {t : TypeId} {x y : Value} (hres : fn.results = #[.cell p 103])
  (hp : a.tmps.getD p undef = .pointer (some ⟨g, 0, none⟩)) (hd : a.defers = []) (X : Box W g t #[x, y]) (hR : R W (.agg #[x, y])) (HB : Below w0.heap.size w0 W) : bodyPost Tryz.prog fn (Ret w0 R) .ret a W :=
 bodyPost_ret (results_mid hres a.tmps _ W g [x, y] _ hp (box_range X) Tryz.underlying103 rfl (by kernel_rfl)) hd ⟨_, rfl, hR, HB⟩
theorem ret_rat1 {fn : Func} {p : Tmp} {a : Act} {w0 W : World} {R : World → Value → Prop} {g : Nat} {t : TypeId} {x y z : Value} (hres : fn.results = #[.cell p 37])
  (hp : a.tmps.getD p undef = .pointer (some ⟨g, 0, none⟩)) (hd : a.defers = []) (X : Box W g t #[x, y, z]) (hR : R W (.agg #[x, y, z])) (HB : Below w0.heap.size w0 W) : bodyPost Tryz.prog fn (Ret w0 R) .ret a W :=
 bodyPost_ret (results_mid hres a.tmps _ W g [x, y, z] _ hp (box_range X) Tryz.underlying37 rfl (by kernel_rfl)) hd ⟨_, rfl, hR, HB⟩
theorem ret_re {fn : Func} {p r : Tmp} {a : Act} {w0 W : World} {R : World → Value → Prop} {g : Nat} {t : TypeId} {x y z u : Value} (hres : fn.results = #[.cell p 37, .tmp r])
  (hp : a.tmps.getD p undef = .pointer (some ⟨g, 0, none⟩)) (hz : a.tmps.getD r undef = u) (hd : a.defers = []) (X : Box W g t #[x, y, z]) (hR : R W (.tuple #[.agg #[x, y, z], u])) (HB : Below w0.heap.size w0 W) : bodyPost Tryz.prog fn (Ret w0 R) .ret a W :=
 bodyPost_ret (results_ie hres a.tmps _ W g [x, y, z] u _ hp hz (box_range X) Tryz.underlying37 rfl (by kernel_rfl)) hd ⟨_, rfl, hR, HB⟩
theorem ret_ii {fn : Func} {p q : Tmp} {a : Act} {w0 W : World} {R : World → Value → Prop} {g h : Nat} {t t' : TypeId} {x y x' y' : Value} (hres : fn.results = #[.cell p 103, .cell q 103])
  (hp : a.tmps.getD p undef = .pointer (some ⟨g, 0, none⟩)) (hq : a.tmps.getD q undef = .pointer (some ⟨h, 0, none⟩)) (hd : a.defers = []) (X : Box W g t #[x, y]) (Y : Box W h t' #[x', y'])
  (hR : R W (.tuple #[.agg #[x, y], .agg #[x', y']])) (HB : Below w0.heap.size w0 W) : bodyPost Tryz.prog fn (Ret w0 R) .ret a W :=
 bodyPost_ret (results_ii hres a.tmps _ W g h [x, y] [x', y'] _ _ hp hq (box_range X) (box_range Y) Tryz.underlying103 rfl (by kernel_rfl) Tryz.underlying103 rfl (by kernel_rfl)) hd ⟨_, rfl, hR, HB⟩
theorem AR.neg {q : Rat} {L : Nat} {w : World} {b : Bool} {s t : Value} (h : AR q L w (.agg #[.bool b, s, t])) : AR (-q) L w (.agg #[.bool (!b), s, t]) := by
 obtain ⟨n, d, h2, h3, rfl⟩ := h.parts
 exact ⟨_, _, _, n, d, rfl, h2, h3, rv_neg b n d⟩
def CL2 (y z : Int) (L M : Nat) (w : World) (v : Value) : Prop := ∃ a b, v = .tuple #[a, b] ∧ CL y L w a ∧ CL z M w b
def CRE (q : Rat) (L : Nat) (err : Int) (w : World) (v : Value) : Prop := ∃ a, v = .tuple #[a, .int .i64 err] ∧ CR q L w a
theorem Is.cast {m n L : Nat} {w : World} {v : Value} (e : m = n) (h : Is m L w v) : Is n L w v := e ▸ h
theorem Can.len {m L : Nat} {w : World} {a : Option Addr} {n c : Nat} (h : Can m L w (.slice a n c)) : n = sz m := by
 obtain ⟨⟨ad, n', cap, he, hn, -⟩, -⟩ := h
 injection he with e1 e2 e3
 subst e2; exact hn.symm
theorem Can.len0 {m L : Nat} {w : World} {a : Option Addr} {n c : Nat} (h : Can m L w (.slice a n c)) (b : Bool) (hb : (m == 0) = b) : ((n : Int) == 0) = b := limbs_len0 (by rw [h.len]; rfl) b hb
theorem Is.one (w : World) (t : TypeId) : Is 1 1 (w.alloc (.cells #[.int .u32 1] t)) (.slice (some ⟨w.heap.size, 0, none⟩) 1 1) := ⟨_, sl_one w t 1 (by decide), by simp [val], by simp⟩
theorem one_is (w : World) : Calls Tryz.prog 161 #[] w (Ret w (Is 1 1)) := by
 go_enter Tryz.func161, Tryz.ntmps161
 go_wp2
 go_ret
 exact ⟨_, rfl, Is.one _ _, (bR_ _ _).alloc (lR_ _) _⟩
theorem unit_any {m L : Nat} {s : Value} {w : World} (B : Bool) (hB : (m == 1) = B) (h : Can m L w s) : Calls Tryz.prog 157 #[s] w (Ret w (Val (.bool B))) := by
 subst hB
 obtain ⟨⟨ad, n, cap, rfl, hn, hnc, hm, hl, hs⟩, -⟩ := h
 have hz := @sz_eq_zero m
 unfold sz at hz
 rcases eP_ m with h0 | h0
 ·
  obtain rfl : n = 0 := by omega
  clear hz hs hn hl
  rw [show (m == 1) = false by simp; omega]
  go_enter Tryz.func157, Tryz.ntmps157
  go_wp2
  go_ret
  exact ⟨_, rfl, rfl, bR_ _ _⟩
 ·
  by_cases h1 : m < 4294967296
  ·
   rw [limbs_single h0 h1] at hn hs
   obtain rfl : n = 1 := by simpa using hn.symm
   obtain ⟨b, off, rfl, hb, hc⟩ := hs (by decide)
   have hc0 : w.cell? ⟨b, off, none⟩ = some (.int .u32 (m : Int)) := hc 0 (by decide)
   clear hz hs hn hl hc hm
   by_cases h2 : m = 1
   ·
    subst h2
    go_enter Tryz.func157, Tryz.ntmps157
    go_wp2
    go_ret
    exact ⟨_, rfl, rfl, bR_ _ _⟩
   ·
    rw [show (m == 1) = false by simpa using h2]
    have hd : ((m : Int) == 1) = false := by simp; omega
    go_enter Tryz.func157, Tryz.ntmps157
    go_wp2
    go_ret
    exact ⟨_, rfl, rfl, bR_ _ _⟩
  ·
   have h2 : n ≠ 1 := by
    rintro rfl
    have := val_lt (xs := limbs m) hl
    rw [val_limbs, hn] at this
    omega
   clear hz hs hn hl
   rw [show (m == 1) = false by simp; omega]
   have hd : ((n : Int) == 1) = false := by simp; omega
   go_enter Tryz.func157, Tryz.ntmps157
   go_wp2
   go_ret
   exact ⟨_, rfl, rfl, bR_ _ _⟩
theorem gcd_pos {n d : Nat} (h : 0 < d) : 0 < Nat.gcd n d := Nat.gcd_pos_of_pos_right n h
theorem one_le_of_is {d M : Nat} {w : World} {t : Value} (hd : 0 < d) (h : Is d M w t) : 1 ≤ M := by
 have h1 := sz_pos hd
 have := h.sz_le
 omega
theorem quot_zero {neg : Bool} {n d L M : Nat} {w W : World} {t : Value} (hz : n = 0) (hd : 0 < d) (h : Is d M w t) : CR (mkRat (iv neg n) d) (max L M) W (.agg #[.bool false, .slice none 0 0, .slice none 0 0]) := by
 have h1 := one_le_of_is hd h
 rw [hz, show iv neg 0 = 0 by cases neg <;> rfl, Rat.zero_mkRat]
 exact (CR.zero W).mono (by omega)
theorem quot_one {neg : Bool} {n d L M : Nat} {w W : World} {s t : Value} (hz : 0 < n) (hd : 0 < d) (hv : (d == 1) = true) (hs : Can n L W s) (h : Is d M w t) : CR (mkRat (iv neg n) d) (max L M) W (.agg #[.bool neg, s, .slice none 0 0]) := by
 have h1 := one_le_of_is hd h
 have e : d = 1 := by simpa using hv
 subst e
 refine CR.of_parts hz hd ?_ ?_ (by omega)
 ·
  rw [Nat.gcd_one_right, Nat.div_one]; exact hs.mono (Nat.le_max_left _ _)
 ·
  rw [Nat.gcd_one_right, Nat.div_one, if_pos rfl]
  exact ⟨by show Sl W _ (limbs 0); rw [limbs_zero]; exact Sl.nil W, sz_zero_le _⟩
theorem quot_two {neg : Bool} {n d L M : Nat} {W : World} {s t : Value} (hz : 0 < n) (hd : 0 < d) (hv : (d == 1) = false) (hg : (Nat.gcd n d == 1) = true) (hs : Can n L W s) (ht : Can d M W t) : CR (mkRat (iv neg n) d) (max L M) W (.agg #[.bool neg, s, t]) := by
 have h1 := one_le_of_is hd ht.is
 have e : Nat.gcd n d = 1 := by simpa using hg
 have e' : d ≠ 1 := by simpa using hv
 refine CR.of_parts hz hd ?_ ?_ (by omega)
 ·
  rw [e, Nat.div_one]; exact hs.mono (Nat.le_max_left _ _)
 ·
  rw [e, Nat.div_one, if_neg e']; exact ht.mono (Nat.le_max_right _ _)
theorem quot_three {neg : Bool} {n d L M : Nat} {w W : World} {s t : Value} (hz : 0 < n) (hd : 0 < d) (he : (d / Nat.gcd n d == 1) = true) (hs : Can (n / Nat.gcd n d) L W s) (ht : Is d M w t) : CR (mkRat (iv neg n) d) (max L M) W (.agg #[.bool neg, s, .slice none 0 0]) := by
 have h1 := one_le_of_is hd ht
 refine CR.of_parts hz hd (hs.mono (Nat.le_max_left _ _)) ?_ (by omega)
 rw [if_pos (by simpa using he)]
 exact ⟨by show Sl W _ (limbs 0); rw [limbs_zero]; exact Sl.nil W, sz_zero_le _⟩
theorem quot_four {neg : Bool} {n d L M : Nat} {W : World} {s t : Value} (hz : 0 < n) (hd : 0 < d) (he : (d / Nat.gcd n d == 1) = false) (hs : Can (n / Nat.gcd n d) L W s) (ht : Can (d / Nat.gcd n d) M W t) : CR (mkRat (iv neg n) d) (max L M) W (.agg #[.bool neg, s, t]) := by
 have hp : 0 < d / Nat.gcd n d := Nat.div_pos (Nat.le_of_dvd hd (Nat.gcd_dvd_right n d)) (gcd_pos hd)
 have h1 := one_le_of_is hp ht.is
 refine CR.of_parts hz hd (hs.mono (Nat.le_max_left _ _)) ?_ (by omega)
 rw [if_neg (by simpa using he)]
 exact ht.mono (Nat.le_max_right _ _)
theorem stored2s {W W' : World} {g : Nat} {t : TypeId} {x y x' y' : Value} (hW : W' = (W.setCell ⟨g, 0, none⟩ x').setCell ⟨g, 1, none⟩ y') (X : Box W g t #[x, y]) (hx : NoInt x) (hy : NoInt y) :
  Box W' g t #[x', y'] ∧ Keep W W' ∧ (∀ g' t' cs, Box W g' t' cs → g' ≠ g → Box W' g' t' cs) ∧ (∀ w0 : World, Below w0.heap.size w0 W → w0.heap.size ≤ g → Below w0.heap.size w0 W') ∧ W'.heap.size = W.heap.size :=
 let ⟨a, b, c, d⟩ := stored2 hW X hx hy; ⟨a, b, c, d, by subst hW; simp⟩
theorem stored3s {W W' : World} {g : Nat} {t : TypeId} {x y z x' y' z' : Value} (hW : W' = ((W.setCell ⟨g, 0, none⟩ x').setCell ⟨g, 1, none⟩ y').setCell ⟨g, 2, none⟩ z') (X : Box W g t #[x, y, z]) (hx : NoInt x) (hy : NoInt y) (hz : NoInt z) :
  Box W' g t #[x', y', z'] ∧ Keep W W' ∧ (∀ g' t' cs, Box W g' t' cs → g' ≠ g → Box W' g' t' cs) ∧ (∀ w0 : World, Below w0.heap.size w0 W → w0.heap.size ≤ g → Below w0.heap.size w0 W') ∧ W'.heap.size = W.heap.size :=
 let ⟨a, b, c, d⟩ := stored3 hW X hx hy hz; ⟨a, b, c, d, by subst hW; simp⟩
theorem quot_0 {neg : Bool} {n d L M : Nat} {s t : Value}  {w : World} (hz : n = 0) (hn : Is n L w s) (hm : Is d M w t) (hd : 0 < d) (hL : L ≤ 1000000000) (hM : M ≤ 1000000000) :
  Calls Tryz.prog 116 #[.bool neg, s, t] w (Ret w (CR (mkRat (iv neg n) d) (max L M))) := by
 have Hn := lH hn
 have Hm := lH hm
 have Hd := lH hd
 have Hz := lH hz
 clear hn hm hd hz
 go_enter Tryz.func116, Tryz.ntmps116
 have HB := lH (bR_ w.heap.size w)
 go_wp2_with fail
 obtain ⟨W1, hW⟩ : ∃ W1, W1 = (World.alloc w (.cells #[.bool false, .slice none 0 0, .slice none 0 0] 37)) := ⟨_, rfl⟩
 rw [← hW]
 obtain ⟨xa0, hk, hb⟩ := boxes_1 _ _ _ hW
 clear hW
 have Hn := lH (iK Hn.out hk)
 have Hm := lH (iK Hm.out hk)
 have Ga0 := lH (show w.heap.size ≤ w.heap.size from tL_ HB.out.size (by omega))
 have Xa0 := lH xa0
 have HB := lH (bC HB.out hb)
 clear hk hb xa0
 (first | (have hcall := make_is Hn.out; refine cM hcall ?_; clear hcall) | refine cM (make_is Hn.out) ?_)
 rintro e w2 ⟨v2, rfl, hx, hb⟩
 obtain ⟨x_a, x_n, x_c, rfl⟩ := hx.is.lit
 have Hm := lH (iK Hm.out (kC hb))
 have Xa0 := lH (xP hb Xa0.out)
 have HB := lH (bC HB.out hb)
 have Hx := lH hx
 clear hb hx
 have dx : ((x_n : Int) == 0) = true := Hx.out.len0 true (by rw [Hz.out]; rfl)
 obtain ⟨ca00, ca01, ca02, fa00, fa01, fa02⟩ := Xa0.out.c3
 have la0 := Xa0.out.lt
 go_wp2
 clear ca00 ca01 ca02 fa00 fa01 fa02 la0
 obtain ⟨W3, hW⟩ : ∃ W3, W3 = (World.setCell (World.setCell (World.setCell w2 ⟨w.heap.size, 0, none⟩ (.bool false)) ⟨w.heap.size, 1, none⟩ (.slice none 0 0)) ⟨w.heap.size, 2, none⟩ (.slice none 0 0)) := ⟨_, rfl⟩
 rw [← hW]
 obtain ⟨xa0, hk, hf, hbb, hz⟩ := stored3s hW Xa0.out (by first | exact nB_ _ | exact nS_ _ _ _) (by first | exact nB_ _ | exact nS_ _ _ _) (by first | exact nB_ _ | exact nS_ _ _ _)
 have Hm := lH (iK Hm.out hk)
 have Xa0 := lH xa0
 have HB := lH (hbb _ HB.out Ga0.out)
 clear hW hk hf hbb xa0
 clear hz
 exact ret_rat1 rfl rfl rfl Xa0.out (quot_zero Hz.out Hd.out Hm.out) HB.out
theorem quot_1 {neg : Bool} {n d L M : Nat} {s t : Value}  {w : World} (hz : 0 < n) (hv : (d == 1) = true) (hn : Is n L w s) (hm : Is d M w t) (hd : 0 < d) (hL : L ≤ 1000000000) (hM : M ≤ 1000000000) :
  Calls Tryz.prog 116 #[.bool neg, s, t] w (Ret w (CR (mkRat (iv neg n) d) (max L M))) := by
 have Hn := lH hn
 have Hm := lH hm
 have Hd := lH hd
 have Hz := lH hz
 have Hv := lH hv
 clear hn hm hd hz hv
 go_enter Tryz.func116, Tryz.ntmps116
 have HB := lH (bR_ w.heap.size w)
 go_wp2_with fail
 obtain ⟨W1, hW⟩ : ∃ W1, W1 = (World.alloc w (.cells #[.bool false, .slice none 0 0, .slice none 0 0] 37)) := ⟨_, rfl⟩
 rw [← hW]
 obtain ⟨xa0, hk, hb⟩ := boxes_1 _ _ _ hW
 clear hW
 have Hn := lH (iK Hn.out hk)
 have Hm := lH (iK Hm.out hk)
 have Ga0 := lH (show w.heap.size ≤ w.heap.size from tL_ HB.out.size (by omega))
 have Xa0 := lH xa0
 have HB := lH (bC HB.out hb)
 clear hk hb xa0
 (first | (have hcall := make_is Hn.out; refine cM hcall ?_; clear hcall) | refine cM (make_is Hn.out) ?_)
 rintro e w2 ⟨v2, rfl, hx, hb⟩
 obtain ⟨x_a, x_n, x_c, rfl⟩ := hx.is.lit
 have Hm := lH (iK Hm.out (kC hb))
 have Xa0 := lH (xP hb Xa0.out)
 have HB := lH (bC HB.out hb)
 have Hx := lH hx
 clear hb hx
 have dx : ((x_n : Int) == 0) = false := Hx.out.len0 false (beq_eq_false_iff_ne.2 (Nat.ne_of_gt Hz.out))
 obtain ⟨ca00, ca01, ca02, fa00, fa01, fa02⟩ := Xa0.out.c3
 have la0 := Xa0.out.lt
 go_wp2_with fail
 clear ca00 ca01 ca02 fa00 fa01 fa02 la0
 (first | (have hcall := make_is Hm.out; refine cM hcall ?_; clear hcall) | refine cM (make_is Hm.out) ?_)
 rintro e w3 ⟨v3, rfl, hy, hb⟩
 obtain ⟨y_a, y_n, y_c, rfl⟩ := hy.is.lit
 have Hm := lH (iK Hm.out (kC hb))
 have Hx := lH (Can.keep Hx.out (kC hb))
 have Xa0 := lH (xP hb Xa0.out)
 have HB := lH (bC HB.out hb)
 have Hy := lH hy
 clear hb hy
 obtain ⟨ca00, ca01, ca02, fa00, fa01, fa02⟩ := Xa0.out.c3
 have la0 := Xa0.out.lt
 go_wp2_with fail
 clear ca00 ca01 ca02 fa00 fa01 fa02 la0
 (first | (have hcall := unit_any true Hv.out Hy.out; refine cM hcall ?_; clear hcall) | refine cM (unit_any true Hv.out Hy.out) ?_)
 rintro e w4 ⟨v4, rfl, rfl, hb⟩
 have Hm := lH (iK Hm.out (kC hb))
 have Hx := lH (Can.keep Hx.out (kC hb))
 have Xa0 := lH (xP hb Xa0.out)
 have HB := lH (bC HB.out hb)
 clear hb
 obtain ⟨ca00, ca01, ca02, fa00, fa01, fa02⟩ := Xa0.out.c3
 have la0 := Xa0.out.lt
 go_wp2
 clear ca00 ca01 ca02 fa00 fa01 fa02 la0
 obtain ⟨W5, hW⟩ : ∃ W5, W5 = (World.setCell (World.setCell (World.setCell w4 ⟨w.heap.size, 0, none⟩ (.bool neg)) ⟨w.heap.size, 1, none⟩ (.slice x_a x_n x_c)) ⟨w.heap.size, 2, none⟩ (.slice none 0 0)) := ⟨_, rfl⟩
 rw [← hW]
 obtain ⟨xa0, hk, hf, hbb, hz⟩ := stored3s hW Xa0.out (by first | exact nB_ _ | exact nS_ _ _ _) (by first | exact nB_ _ | exact nS_ _ _ _) (by first | exact nB_ _ | exact nS_ _ _ _)
 have Hm := lH (iK Hm.out hk)
 have Hx := lH (Can.keep Hx.out hk)
 have Xa0 := lH xa0
 have HB := lH (hbb _ HB.out Ga0.out)
 clear hW hk hf hbb xa0
 clear hz
 exact ret_rat1 rfl rfl rfl Xa0.out (quot_one Hz.out Hd.out Hv.out Hx.out Hm.out) HB.out
theorem quot_2 {neg : Bool} {n d L M : Nat} {s t : Value}  {w : World} (hz : 0 < n) (hv : (d == 1) = false) (hg : (Nat.gcd n d == 1) = true) (hn : Is n L w s) (hm : Is d M w t) (hd : 0 < d) (hL : L ≤ 1000000000) (hM : M ≤ 1000000000) :
  Calls Tryz.prog 116 #[.bool neg, s, t] w (Ret w (CR (mkRat (iv neg n) d) (max L M))) := by
 have Hn := lH hn
 have Hm := lH hm
 have Hd := lH hd
 have Hz := lH hz
 have Hv := lH hv
 have Hg := lH hg
 clear hn hm hd hz hv hg
 go_enter Tryz.func116, Tryz.ntmps116
 have HB := lH (bR_ w.heap.size w)
 go_wp2_with fail
 obtain ⟨W1, hW⟩ : ∃ W1, W1 = (World.alloc w (.cells #[.bool false, .slice none 0 0, .slice none 0 0] 37)) := ⟨_, rfl⟩
 rw [← hW]
 obtain ⟨xa0, hk, hb⟩ := boxes_1 _ _ _ hW
 clear hW
 have Hn := lH (iK Hn.out hk)
 have Hm := lH (iK Hm.out hk)
 have Ga0 := lH (show w.heap.size ≤ w.heap.size from tL_ HB.out.size (by omega))
 have Xa0 := lH xa0
 have HB := lH (bC HB.out hb)
 clear hk hb xa0
 (first | (have hcall := make_is Hn.out; refine cM hcall ?_; clear hcall) | refine cM (make_is Hn.out) ?_)
 rintro e w2 ⟨v2, rfl, hx, hb⟩
 obtain ⟨x_a, x_n, x_c, rfl⟩ := hx.is.lit
 have Hm := lH (iK Hm.out (kC hb))
 have Xa0 := lH (xP hb Xa0.out)
 have HB := lH (bC HB.out hb)
 have Hx := lH hx
 clear hb hx
 have dx : ((x_n : Int) == 0) = false := Hx.out.len0 false (beq_eq_false_iff_ne.2 (Nat.ne_of_gt Hz.out))
 obtain ⟨ca00, ca01, ca02, fa00, fa01, fa02⟩ := Xa0.out.c3
 have la0 := Xa0.out.lt
 go_wp2_with fail
 clear ca00 ca01 ca02 fa00 fa01 fa02 la0
 (first | (have hcall := make_is Hm.out; refine cM hcall ?_; clear hcall) | refine cM (make_is Hm.out) ?_)
 rintro e w3 ⟨v3, rfl, hy, hb⟩
 obtain ⟨y_a, y_n, y_c, rfl⟩ := hy.is.lit
 have Hx := lH (Can.keep Hx.out (kC hb))
 have Xa0 := lH (xP hb Xa0.out)
 have HB := lH (bC HB.out hb)
 have Hy := lH hy
 clear hb hy
 obtain ⟨ca00, ca01, ca02, fa00, fa01, fa02⟩ := Xa0.out.c3
 have la0 := Xa0.out.lt
 go_wp2_with fail
 clear ca00 ca01 ca02 fa00 fa01 fa02 la0
 (first | (have hcall := unit_any false Hv.out Hy.out; refine cM hcall ?_; clear hcall) | refine cM (unit_any false Hv.out Hy.out) ?_)
 rintro e w4 ⟨v4, rfl, rfl, hb⟩
 have Hx := lH (Can.keep Hx.out (kC hb))
 have Hy := lH (Can.keep Hy.out (kC hb))
 have Xa0 := lH (xP hb Xa0.out)
 have HB := lH (bC HB.out hb)
 clear hb
 obtain ⟨ca00, ca01, ca02, fa00, fa01, fa02⟩ := Xa0.out.c3
 have la0 := Xa0.out.lt
 go_wp2_with fail
 clear ca00 ca01 ca02 fa00 fa01 fa02 la0
 (first | (have hcall := gcd_can Hx.out.is Hy.out.is (by omega) (by omega); refine cM hcall ?_; clear hcall) | refine cM (gcd_can Hx.out.is Hy.out.is (by omega) (by omega)) ?_)
 rintro e w5 ⟨v5, rfl, hk, hb⟩
 obtain ⟨k_a, k_n, k_c, rfl⟩ := hk.is.lit
 have Hx := lH (Can.keep Hx.out (kC hb))
 have Hy := lH (Can.keep Hy.out (kC hb))
 have Xa0 := lH (xP hb Xa0.out)
 have HB := lH (bC HB.out hb)
 have Hk := lH hk
 clear hb hk
 obtain ⟨ca00, ca01, ca02, fa00, fa01, fa02⟩ := Xa0.out.c3
 have la0 := Xa0.out.lt
 go_wp2_with fail
 clear ca00 ca01 ca02 fa00 fa01 fa02 la0
 (first | (have hcall := unit_any true Hg.out Hk.out; refine cM hcall ?_; clear hcall) | refine cM (unit_any true Hg.out Hk.out) ?_)
 rintro e w6 ⟨v6, rfl, rfl, hb⟩
 have Hx := lH (Can.keep Hx.out (kC hb))
 have Hy := lH (Can.keep Hy.out (kC hb))
 have Xa0 := lH (xP hb Xa0.out)
 have HB := lH (bC HB.out hb)
 clear hb
 obtain ⟨ca00, ca01, ca02, fa00, fa01, fa02⟩ := Xa0.out.c3
 have la0 := Xa0.out.lt
 go_wp2_with fail
 clear ca00 ca01 ca02 fa00 fa01 fa02 la0
 (first | (have hcall := unit_any false Hv.out Hy.out; refine cM hcall ?_; clear hcall) | refine cM (unit_any false Hv.out Hy.out) ?_)
 rintro e w7 ⟨v7, rfl, rfl, hb⟩
 have Hx := lH (Can.keep Hx.out (kC hb))
 have Hy := lH (Can.keep Hy.out (kC hb))
 have Xa0 := lH (xP hb Xa0.out)
 have HB := lH (bC HB.out hb)
 clear hb
 obtain ⟨ca00, ca01, ca02, fa00, fa01, fa02⟩ := Xa0.out.c3
 have la0 := Xa0.out.lt
 go_wp2
 clear ca00 ca01 ca02 fa00 fa01 fa02 la0
 obtain ⟨W8, hW⟩ : ∃ W8, W8 = (World.setCell (World.setCell (World.setCell w7 ⟨w.heap.size, 0, none⟩ (.bool neg)) ⟨w.heap.size, 1, none⟩ (.slice x_a x_n x_c)) ⟨w.heap.size, 2, none⟩ (.slice y_a y_n y_c)) := ⟨_, rfl⟩
 rw [← hW]
 obtain ⟨xa0, hk, hf, hbb, hz⟩ := stored3s hW Xa0.out (by first | exact nB_ _ | exact nS_ _ _ _) (by first | exact nB_ _ | exact nS_ _ _ _) (by first | exact nB_ _ | exact nS_ _ _ _)
 have Hx := lH (Can.keep Hx.out hk)
 have Hy := lH (Can.keep Hy.out hk)
 have Xa0 := lH xa0
 have HB := lH (hbb _ HB.out Ga0.out)
 clear hW hk hf hbb xa0
 clear hz
 exact ret_rat1 rfl rfl rfl Xa0.out (quot_two Hz.out Hd.out Hv.out Hg.out Hx.out Hy.out) HB.out
theorem quot_3 {neg : Bool} {n d L M : Nat} {s t : Value}  {w : World} (hz : 0 < n) (hv : (d == 1) = false) (hg : (Nat.gcd n d == 1) = false) (he : (d / Nat.gcd n d == 1) = true) (hn : Is n L w s) (hm : Is d M w t) (hd : 0 < d) (hL : L ≤ 1000000000) (hM : M ≤ 1000000000) :
  Calls Tryz.prog 116 #[.bool neg, s, t] w (Ret w (CR (mkRat (iv neg n) d) (max L M))) := by
 have Hn := lH hn
 have Hm := lH hm
 have Hd := lH hd
 have Hz := lH hz
 have Hv := lH hv
 have Hg := lH hg
 have He := lH he
 clear hn hm hd hz hv hg he
 go_enter Tryz.func116, Tryz.ntmps116
 have HB := lH (bR_ w.heap.size w)
 go_wp2_with fail
 obtain ⟨W1, hW⟩ : ∃ W1, W1 = (World.alloc w (.cells #[.bool false, .slice none 0 0, .slice none 0 0] 37)) := ⟨_, rfl⟩
 rw [← hW]
 obtain ⟨xa0, hk, hb⟩ := boxes_1 _ _ _ hW
 clear hW
 have Hn := lH (iK Hn.out hk)
 have Hm := lH (iK Hm.out hk)
 have Ga0 := lH (show w.heap.size ≤ w.heap.size from tL_ HB.out.size (by omega))
 have Xa0 := lH xa0
 have HB := lH (bC HB.out hb)
 clear hk hb xa0
 (first | (have hcall := make_is Hn.out; refine cM hcall ?_; clear hcall) | refine cM (make_is Hn.out) ?_)
 rintro e w2 ⟨v2, rfl, hx, hb⟩
 obtain ⟨x_a, x_n, x_c, rfl⟩ := hx.is.lit
 have Hm := lH (iK Hm.out (kC hb))
 have Xa0 := lH (xP hb Xa0.out)
 have HB := lH (bC HB.out hb)
 have Hx := lH hx
 clear hb hx
 have dx : ((x_n : Int) == 0) = false := Hx.out.len0 false (beq_eq_false_iff_ne.2 (Nat.ne_of_gt Hz.out))
 obtain ⟨ca00, ca01, ca02, fa00, fa01, fa02⟩ := Xa0.out.c3
 have la0 := Xa0.out.lt
 go_wp2_with fail
 clear ca00 ca01 ca02 fa00 fa01 fa02 la0
 (first | (have hcall := make_is Hm.out; refine cM hcall ?_; clear hcall) | refine cM (make_is Hm.out) ?_)
 rintro e w3 ⟨v3, rfl, hy, hb⟩
 obtain ⟨y_a, y_n, y_c, rfl⟩ := hy.is.lit
 have Hm := lH (iK Hm.out (kC hb))
 have Hx := lH (Can.keep Hx.out (kC hb))
 have Xa0 := lH (xP hb Xa0.out)
 have HB := lH (bC HB.out hb)
 have Hy := lH hy
 clear hb hy
 obtain ⟨ca00, ca01, ca02, fa00, fa01, fa02⟩ := Xa0.out.c3
 have la0 := Xa0.out.lt
 go_wp2_with fail
 clear ca00 ca01 ca02 fa00 fa01 fa02 la0
 (first | (have hcall := unit_any false Hv.out Hy.out; refine cM hcall ?_; clear hcall) | refine cM (unit_any false Hv.out Hy.out) ?_)
 rintro e w4 ⟨v4, rfl, rfl, hb⟩
 have Hm := lH (iK Hm.out (kC hb))
 have Hx := lH (Can.keep Hx.out (kC hb))
 have Hy := lH (Can.keep Hy.out (kC hb))
 have Xa0 := lH (xP hb Xa0.out)
 have HB := lH (bC HB.out hb)
 clear hb
 obtain ⟨ca00, ca01, ca02, fa00, fa01, fa02⟩ := Xa0.out.c3
 have la0 := Xa0.out.lt
 go_wp2_with fail
 clear ca00 ca01 ca02 fa00 fa01 fa02 la0
 (first | (have hcall := gcd_can Hx.out.is Hy.out.is (by omega) (by omega); refine cM hcall ?_; clear hcall) | refine cM (gcd_can Hx.out.is Hy.out.is (by omega) (by omega)) ?_)
 rintro e w5 ⟨v5, rfl, hk, hb⟩
 obtain ⟨k_a, k_n, k_c, rfl⟩ := hk.is.lit
 have Hm := lH (iK Hm.out (kC hb))
 have Hx := lH (Can.keep Hx.out (kC hb))
 have Hy := lH (Can.keep Hy.out (kC hb))
 have Xa0 := lH (xP hb Xa0.out)
 have HB := lH (bC HB.out hb)
 have Hk := lH hk
 clear hb hk
 obtain ⟨ca00, ca01, ca02, fa00, fa01, fa02⟩ := Xa0.out.c3
 have la0 := Xa0.out.lt
 go_wp2_with fail
 clear ca00 ca01 ca02 fa00 fa01 fa02 la0
 (first | (have hcall := unit_any false Hg.out Hk.out; refine cM hcall ?_; clear hcall) | refine cM (unit_any false Hg.out Hk.out) ?_)
 rintro e w6 ⟨v6, rfl, rfl, hb⟩
 have Hm := lH (iK Hm.out (kC hb))
 have Hx := lH (Can.keep Hx.out (kC hb))
 have Hy := lH (Can.keep Hy.out (kC hb))
 have Hk := lH (Can.keep Hk.out (kC hb))
 have Xa0 := lH (xP hb Xa0.out)
 have HB := lH (bC HB.out hb)
 clear hb
 obtain ⟨ca00, ca01, ca02, fa00, fa01, fa02⟩ := Xa0.out.c3
 have la0 := Xa0.out.lt
 go_wp2_with fail
 clear ca00 ca01 ca02 fa00 fa01 fa02 la0
 (first | (have hcall := divmod_pos (gcd_pos Hd.out) Hx.out.is Hk.out.is (by omega); refine cM hcall ?_; clear hcall) | refine cM (divmod_pos (gcd_pos Hd.out) Hx.out.is Hk.out.is (by omega)) ?_)
 rintro e w7 ⟨t7, rfl, ⟨v7, u7, rfl, hqa, hra⟩, hb⟩
 obtain ⟨qa_a, qa_n, qa_c, rfl⟩ := hqa.is.lit
 obtain ⟨ra_a, ra_n, ra_c, rfl⟩ := hra.is.lit
 have Hm := lH (iK Hm.out (kC hb))
 have Hy := lH (Can.keep Hy.out (kC hb))
 have Hk := lH (Can.keep Hk.out (kC hb))
 have Xa0 := lH (xP hb Xa0.out)
 have HB := lH (bC HB.out hb)
 have Hqa := lH hqa
 have Hra := lH hra
 clear hb hqa hra
 obtain ⟨ca00, ca01, ca02, fa00, fa01, fa02⟩ := Xa0.out.c3
 have la0 := Xa0.out.lt
 go_wp2_with fail
 clear ca00 ca01 ca02 fa00 fa01 fa02 la0
 (first | (have hcall := divmod_pos (gcd_pos Hd.out) Hy.out.is Hk.out.is (by omega); refine cM hcall ?_; clear hcall) | refine cM (divmod_pos (gcd_pos Hd.out) Hy.out.is Hk.out.is (by omega)) ?_)
 rintro e w8 ⟨t8, rfl, ⟨v8, u8, rfl, hqb, hrb⟩, hb⟩
 obtain ⟨qb_a, qb_n, qb_c, rfl⟩ := hqb.is.lit
 obtain ⟨rb_a, rb_n, rb_c, rfl⟩ := hrb.is.lit
 have Hm := lH (iK Hm.out (kC hb))
 have Hqa := lH (Can.keep Hqa.out (kC hb))
 have Xa0 := lH (xP hb Xa0.out)
 have HB := lH (bC HB.out hb)
 have Hqb := lH hqb
 have Hrb := lH hrb
 clear hb hqb hrb
 obtain ⟨ca00, ca01, ca02, fa00, fa01, fa02⟩ := Xa0.out.c3
 have la0 := Xa0.out.lt
 go_wp2_with fail
 clear ca00 ca01 ca02 fa00 fa01 fa02 la0
 (first | (have hcall := unit_any true He.out Hqb.out; refine cM hcall ?_; clear hcall) | refine cM (unit_any true He.out Hqb.out) ?_)
 rintro e w9 ⟨v9, rfl, rfl, hb⟩
 have Hm := lH (iK Hm.out (kC hb))
 have Hqa := lH (Can.keep Hqa.out (kC hb))
 have Xa0 := lH (xP hb Xa0.out)
 have HB := lH (bC HB.out hb)
 clear hb
 obtain ⟨ca00, ca01, ca02, fa00, fa01, fa02⟩ := Xa0.out.c3
 have la0 := Xa0.out.lt
 go_wp2
 clear ca00 ca01 ca02 fa00 fa01 fa02 la0
 obtain ⟨W10, hW⟩ : ∃ W10, W10 = (World.setCell (World.setCell (World.setCell w9 ⟨w.heap.size, 0, none⟩ (.bool neg)) ⟨w.heap.size, 1, none⟩ (.slice qa_a qa_n qa_c)) ⟨w.heap.size, 2, none⟩ (.slice none 0 0)) := ⟨_, rfl⟩
 rw [← hW]
 obtain ⟨xa0, hk, hf, hbb, hz⟩ := stored3s hW Xa0.out (by first | exact nB_ _ | exact nS_ _ _ _) (by first | exact nB_ _ | exact nS_ _ _ _) (by first | exact nB_ _ | exact nS_ _ _ _)
 have Hm := lH (iK Hm.out hk)
 have Hqa := lH (Can.keep Hqa.out hk)
 have Xa0 := lH xa0
 have HB := lH (hbb _ HB.out Ga0.out)
 clear hW hk hf hbb xa0
 clear hz
 exact ret_rat1 rfl rfl rfl Xa0.out (quot_three Hz.out Hd.out He.out Hqa.out Hm.out) HB.out
theorem quot_4 {neg : Bool} {n d L M : Nat} {s t : Value}  {w : World} (hz : 0 < n) (hv : (d == 1) = false) (hg : (Nat.gcd n d == 1) = false) (he : (d / Nat.gcd n d == 1) = false) (hn : Is n L w s) (hm : Is d M w t) (hd : 0 < d) (hL : L ≤ 1000000000) (hM : M ≤ 1000000000) :
  Calls Tryz.prog 116 #[.bool neg, s, t] w (Ret w (CR (mkRat (iv neg n) d) (max L M))) := by
 have Hn := lH hn
 have Hm := lH hm
 have Hd := lH hd
 have Hz := lH hz
 have Hv := lH hv
 have Hg := lH hg
 have He := lH he
 clear hn hm hd hz hv hg he
 go_enter Tryz.func116, Tryz.ntmps116
 have HB := lH (bR_ w.heap.size w)
 go_wp2_with fail
 obtain ⟨W1, hW⟩ : ∃ W1, W1 = (World.alloc w (.cells #[.bool false, .slice none 0 0, .slice none 0 0] 37)) := ⟨_, rfl⟩
 rw [← hW]
 obtain ⟨xa0, hk, hb⟩ := boxes_1 _ _ _ hW
 clear hW
 have Hn := lH (iK Hn.out hk)
 have Hm := lH (iK Hm.out hk)
 have Ga0 := lH (show w.heap.size ≤ w.heap.size from tL_ HB.out.size (by omega))
 have Xa0 := lH xa0
 have HB := lH (bC HB.out hb)
 clear hk hb xa0
 (first | (have hcall := make_is Hn.out; refine cM hcall ?_; clear hcall) | refine cM (make_is Hn.out) ?_)
 rintro e w2 ⟨v2, rfl, hx, hb⟩
 obtain ⟨x_a, x_n, x_c, rfl⟩ := hx.is.lit
 have Hm := lH (iK Hm.out (kC hb))
 have Xa0 := lH (xP hb Xa0.out)
 have HB := lH (bC HB.out hb)
 have Hx := lH hx
 clear hb hx
 have dx : ((x_n : Int) == 0) = false := Hx.out.len0 false (beq_eq_false_iff_ne.2 (Nat.ne_of_gt Hz.out))
 obtain ⟨ca00, ca01, ca02, fa00, fa01, fa02⟩ := Xa0.out.c3
 have la0 := Xa0.out.lt
 go_wp2_with fail
 clear ca00 ca01 ca02 fa00 fa01 fa02 la0
 (first | (have hcall := make_is Hm.out; refine cM hcall ?_; clear hcall) | refine cM (make_is Hm.out) ?_)
 rintro e w3 ⟨v3, rfl, hy, hb⟩
 obtain ⟨y_a, y_n, y_c, rfl⟩ := hy.is.lit
 have Hx := lH (Can.keep Hx.out (kC hb))
 have Xa0 := lH (xP hb Xa0.out)
 have HB := lH (bC HB.out hb)
 have Hy := lH hy
 clear hb hy
 obtain ⟨ca00, ca01, ca02, fa00, fa01, fa02⟩ := Xa0.out.c3
 have la0 := Xa0.out.lt
 go_wp2_with fail
 clear ca00 ca01 ca02 fa00 fa01 fa02 la0
 (first | (have hcall := unit_any false Hv.out Hy.out; refine cM hcall ?_; clear hcall) | refine cM (unit_any false Hv.out Hy.out) ?_)
 rintro e w4 ⟨v4, rfl, rfl, hb⟩
 have Hx := lH (Can.keep Hx.out (kC hb))
 have Hy := lH (Can.keep Hy.out (kC hb))
 have Xa0 := lH (xP hb Xa0.out)
 have HB := lH (bC HB.out hb)
 clear hb
 obtain ⟨ca00, ca01, ca02, fa00, fa01, fa02⟩ := Xa0.out.c3
 have la0 := Xa0.out.lt
 go_wp2_with fail
 clear ca00 ca01 ca02 fa00 fa01 fa02 la0
 (first | (have hcall := gcd_can Hx.out.is Hy.out.is (by omega) (by omega); refine cM hcall ?_; clear hcall) | refine cM (gcd_can Hx.out.is Hy.out.is (by omega) (by omega)) ?_)
 rintro e w5 ⟨v5, rfl, hk, hb⟩
 obtain ⟨k_a, k_n, k_c, rfl⟩ := hk.is.lit
 have Hx := lH (Can.keep Hx.out (kC hb))
 have Hy := lH (Can.keep Hy.out (kC hb))
 have Xa0 := lH (xP hb Xa0.out)
 have HB := lH (bC HB.out hb)
 have Hk := lH hk
 clear hb hk
 obtain ⟨ca00, ca01, ca02, fa00, fa01, fa02⟩ := Xa0.out.c3
 have la0 := Xa0.out.lt
 go_wp2_with fail
 clear ca00 ca01 ca02 fa00 fa01 fa02 la0
 (first | (have hcall := unit_any false Hg.out Hk.out; refine cM hcall ?_; clear hcall) | refine cM (unit_any false Hg.out Hk.out) ?_)
 rintro e w6 ⟨v6, rfl, rfl, hb⟩
 have Hx := lH (Can.keep Hx.out (kC hb))
 have Hy := lH (Can.keep Hy.out (kC hb))
 have Hk := lH (Can.keep Hk.out (kC hb))
 have Xa0 := lH (xP hb Xa0.out)
 have HB := lH (bC HB.out hb)
 clear hb
 obtain ⟨ca00, ca01, ca02, fa00, fa01, fa02⟩ := Xa0.out.c3
 have la0 := Xa0.out.lt
 go_wp2_with fail
 clear ca00 ca01 ca02 fa00 fa01 fa02 la0
 (first | (have hcall := divmod_pos (gcd_pos Hd.out) Hx.out.is Hk.out.is (by omega); refine cM hcall ?_; clear hcall) | refine cM (divmod_pos (gcd_pos Hd.out) Hx.out.is Hk.out.is (by omega)) ?_)
 rintro e w7 ⟨t7, rfl, ⟨v7, u7, rfl, hqa, hra⟩, hb⟩
 obtain ⟨qa_a, qa_n, qa_c, rfl⟩ := hqa.is.lit
 obtain ⟨ra_a, ra_n, ra_c, rfl⟩ := hra.is.lit
 have Hy := lH (Can.keep Hy.out (kC hb))
 have Hk := lH (Can.keep Hk.out (kC hb))
 have Xa0 := lH (xP hb Xa0.out)
 have HB := lH (bC HB.out hb)
 have Hqa := lH hqa
 have Hra := lH hra
 clear hb hqa hra
 obtain ⟨ca00, ca01, ca02, fa00, fa01, fa02⟩ := Xa0.out.c3
 have la0 := Xa0.out.lt
 go_wp2_with fail
 clear ca00 ca01 ca02 fa00 fa01 fa02 la0
 (first | (have hcall := divmod_pos (gcd_pos Hd.out) Hy.out.is Hk.out.is (by omega); refine cM hcall ?_; clear hcall) | refine cM (divmod_pos (gcd_pos Hd.out) Hy.out.is Hk.out.is (by omega)) ?_)
 rintro e w8 ⟨t8, rfl, ⟨v8, u8, rfl, hqb, hrb⟩, hb⟩
 obtain ⟨qb_a, qb_n, qb_c, rfl⟩ := hqb.is.lit
 obtain ⟨rb_a, rb_n, rb_c, rfl⟩ := hrb.is.lit
 have Hqa := lH (Can.keep Hqa.out (kC hb))
 have Xa0 := lH (xP hb Xa0.out)
 have HB := lH (bC HB.out hb)
 have Hqb := lH hqb
 have Hrb := lH hrb
 clear hb hqb hrb
 obtain ⟨ca00, ca01, ca02, fa00, fa01, fa02⟩ := Xa0.out.c3
 have la0 := Xa0.out.lt
 go_wp2_with fail
 clear ca00 ca01 ca02 fa00 fa01 fa02 la0
 (first | (have hcall := unit_any false He.out Hqb.out; refine cM hcall ?_; clear hcall) | refine cM (unit_any false He.out Hqb.out) ?_)
 rintro e w9 ⟨v9, rfl, rfl, hb⟩
 have Hqa := lH (Can.keep Hqa.out (kC hb))
 have Hqb := lH (Can.keep Hqb.out (kC hb))
 have Xa0 := lH (xP hb Xa0.out)
 have HB := lH (bC HB.out hb)
 clear hb
 obtain ⟨ca00, ca01, ca02, fa00, fa01, fa02⟩ := Xa0.out.c3
 have la0 := Xa0.out.lt
 go_wp2
 clear ca00 ca01 ca02 fa00 fa01 fa02 la0
 obtain ⟨W10, hW⟩ : ∃ W10, W10 = (World.setCell (World.setCell (World.setCell w9 ⟨w.heap.size, 0, none⟩ (.bool neg)) ⟨w.heap.size, 1, none⟩ (.slice qa_a qa_n qa_c)) ⟨w.heap.size, 2, none⟩ (.slice qb_a qb_n qb_c)) := ⟨_, rfl⟩
 rw [← hW]
 obtain ⟨xa0, hk, hf, hbb, hz⟩ := stored3s hW Xa0.out (by first | exact nB_ _ | exact nS_ _ _ _) (by first | exact nB_ _ | exact nS_ _ _ _) (by first | exact nB_ _ | exact nS_ _ _ _)
 have Hqa := lH (Can.keep Hqa.out hk)
 have Hqb := lH (Can.keep Hqb.out hk)
 have Xa0 := lH xa0
 have HB := lH (hbb _ HB.out Ga0.out)
 clear hW hk hf hbb xa0
 clear hz
 exact ret_rat1 rfl rfl rfl Xa0.out (quot_four Hz.out Hd.out He.out Hqa.out Hqb.out) HB.out
theorem quot_is {neg : Bool} {n d L M : Nat} {s t : Value} {w : World} (hd : 0 < d) (hn : Is n L w s) (hm : Is d M w t) (hL : L ≤ 1000000000) (hM : M ≤ 1000000000) :
  Calls Tryz.prog 116 #[.bool neg, s, t] w (Ret w (CR (mkRat (iv neg n) d) (max L M))) := by
 rcases eP_ n with h0 | h0
 ·
  exact quot_0 h0 hn hm hd hL hM
 ·
  cases h1 : d == 1
  ·
   cases h2 : Nat.gcd n d == 1
   ·
    cases h3 : d / Nat.gcd n d == 1
    ·
     exact quot_4 h0 h1 h2 h3 hn hm hd hL hM
    ·
     exact quot_3 h0 h1 h2 h3 hn hm hd hL hM
   ·
    exact quot_2 h0 h1 h2 hn hm hd hL hM
  ·
   exact quot_1 h0 h1 hn hm hd hL hM
theorem un_zero {d : Nat} (h : d = 0) : 1 = un d := by subst h; rfl
theorem un_of {d : Nat} (h : 0 < d) : d = un d := by unfold un; rw [if_neg (by omega)]
theorem mkRat_one (z : Int) : mkRat z 1 = (z : Rat) := Rat.ext (by rw [Rat.num_mkRat]; simp) (by rw [Rat.den_mkRat]; simp)
theorem div_sign (ba bb : Bool) (na nb : Nat) (h : 0 < nb) : mkRat (iv (!ba == bb) na) nb = ((iv ba na : Int) : Rat) / ((iv bb nb : Int) : Rat) := by
 rw [← Rat.divInt_eq_div]
 cases bb
 ·
  rw [show (!ba == false) = ba by cases ba <;> rfl]
  show _ = Rat.divInt (iv ba na) (nb : Int)
  rw [Rat.divInt_ofNat]
 ·
  rw [show (!ba == true) = (!ba) by cases ba <;> rfl, iv_not]
  show _ = Rat.divInt (iv ba na) (-(nb : Int))
  rw [Rat.divInt_neg', Rat.divInt_ofNat]
theorem rv_sign (b : Bool) (n d : Nat) : (iv b n).sign = (rv b n d).num.sign := by
 have h := mkRat_lt (z := iv b n) (un_pos d)
 have h2 := Rat.mkRat_eq_zero (n := iv b n) (un_ne d)
 rcases Int.lt_trichotomy (iv b n) 0 with h3 | h3 | h3
 ·
  rw [Int.sign_eq_neg_one_of_neg h3, Int.sign_eq_neg_one_of_neg]
  have := h.2 h3
  rw [← Rat.not_le, ← Rat.num_nonneg] at this
  unfold rv; omega
 ·
  unfold rv; rw [h3]; simp
 ·
  rw [Int.sign_eq_one_of_pos h3, Int.sign_eq_one_of_pos]
  have h4 : ¬ mkRat (iv b n) (un d) < 0 := by rw [h]; omega
  have h5 : ¬ mkRat (iv b n) (un d) = 0 := by rw [h2]; omega
  rw [← Rat.num_eq_zero] at h5
  rw [Rat.not_lt, ← Rat.num_nonneg] at h4
  unfold rv; omega
theorem under_0 {ba : Bool} {da L : Nat} {sa ta : Value}  {w : World} (hz : da = 0) (hda : Is da L w ta) (hL : L ≤ 1000000000) :
  Calls Tryz.prog 117 #[.agg #[.bool ba, sa, ta]] w (Ret w (Is (un da) (max L 1))) := by
 have Hda := lH hda
 have Hz := lH hz
 clear hda hz
 go_enter Tryz.func117, Tryz.ntmps117
 have HB := lH (bR_ w.heap.size w)
 go_wp2_with fail
 obtain ⟨W1, hW⟩ : ∃ W1, W1 = (World.alloc w (.cells #[.bool ba, sa, ta] 37)) := ⟨_, rfl⟩
 rw [← hW]
 obtain ⟨xa0, hk, hb⟩ := boxes_1 _ _ _ hW
 clear hW
 have Hda := lH (iK Hda.out hk)
 have Ga0 := lH (show w.heap.size ≤ w.heap.size from tL_ HB.out.size (by omega))
 have Xa0 := lH xa0
 have HB := lH (bC HB.out hb)
 clear hk hb xa0
 (first | (have hcall := bits_zero Hz.out Hda.out (by omega); refine cM hcall ?_; clear hcall) | refine cM (bits_zero Hz.out Hda.out (by omega)) ?_)
 rintro e w2 ⟨v2, rfl, rfl, hb⟩
 have Xa0 := lH (xP hb Xa0.out)
 have HB := lH (bC HB.out hb)
 clear hb
 obtain ⟨ca00, ca01, ca02, fa00, fa01, fa02⟩ := Xa0.out.c3
 have la0 := Xa0.out.lt
 go_wp2_with fail
 clear ca00 ca01 ca02 fa00 fa01 fa02 la0
 refine cM (one_is _) ?_
 rintro e w3 ⟨v3, rfl, hu, hb⟩
 obtain ⟨u_a, u_n, u_c, rfl⟩ := hu.lit
 have Xa0 := lH (xP hb Xa0.out)
 have HB := lH (bC HB.out hb)
 have Hu := lH hu
 clear hb hu
 obtain ⟨ca00, ca01, ca02, fa00, fa01, fa02⟩ := Xa0.out.c3
 have la0 := Xa0.out.lt
 go_wp2
 clear ca00 ca01 ca02 fa00 fa01 fa02 la0
 go_ret
 exact ⟨_, rfl, Is.cast (un_zero Hz.out) (Is.mono Hu.out (Nat.le_max_right _ _)), HB.out⟩
theorem under_1 {ba : Bool} {da L : Nat} {sa ta : Value}  {w : World} (hz : 0 < da) (hda : Is da L w ta) (hL : L ≤ 1000000000) :
  Calls Tryz.prog 117 #[.agg #[.bool ba, sa, ta]] w (Ret w (Is (un da) (max L 1))) := by
 have Hda := lH hda
 have Hz := lH hz
 clear hda hz
 go_enter Tryz.func117, Tryz.ntmps117
 have HB := lH (bR_ w.heap.size w)
 go_wp2_with fail
 obtain ⟨W1, hW⟩ : ∃ W1, W1 = (World.alloc w (.cells #[.bool ba, sa, ta] 37)) := ⟨_, rfl⟩
 rw [← hW]
 obtain ⟨xa0, hk, hb⟩ := boxes_1 _ _ _ hW
 clear hW
 have Hda := lH (iK Hda.out hk)
 have Ga0 := lH (show w.heap.size ≤ w.heap.size from tL_ HB.out.size (by omega))
 have Xa0 := lH xa0
 have HB := lH (bC HB.out hb)
 clear hk hb xa0
 (first | (have hcall := bits_pos Hz.out Hda.out (by omega); refine cM hcall ?_; clear hcall) | refine cM (bits_pos Hz.out Hda.out (by omega)) ?_)
 rintro e w2 ⟨v2, rfl, ⟨U, rfl, hU⟩, hb⟩
 have Hda := lH (iK Hda.out (kC hb))
 have Xa0 := lH (xP hb Xa0.out)
 have HB := lH (bC HB.out hb)
 clear hb
 obtain ⟨ca00, ca01, ca02, fa00, fa01, fa02⟩ := Xa0.out.c3
 have la0 := Xa0.out.lt
 go_wp2
 clear ca00 ca01 ca02 fa00 fa01 fa02 la0
 go_ret
 exact ⟨_, rfl, Is.cast (un_of Hz.out) (Is.mono Hda.out (Nat.le_max_left _ _)), HB.out⟩
theorem under_is {b : Bool} {d L : Nat} {s t : Value} {w : World} (h : Is d L w t) (hL : L ≤ 1000000000) : Calls Tryz.prog 117 #[.agg #[.bool b, s, t]] w (Ret w (Is (un d) (max L 1))) := by
 rcases eP_ d with h0 | h0
 ·
  exact under_0 h0 h hL
 ·
  exact under_1 h0 h hL
theorem signed_is {neg : Bool} {na L : Nat} {sa ta : Value}  {w : World} (hna : Is na L w sa) :
  Calls Tryz.prog 119 #[.agg #[.bool neg, sa, ta]] w (Ret w (CL (iv neg na) L)) := by
 have Hna := lH hna
 clear hna
 go_enter Tryz.func119, Tryz.ntmps119
 have HB := lH (bR_ w.heap.size w)
 go_wp2_with fail
 obtain ⟨W1, hW⟩ : ∃ W1, W1 = (World.alloc (World.alloc w (.cells #[.bool neg, sa, ta] 37)) (.cells #[.bool false, .slice none 0 0] 103)) := ⟨_, rfl⟩
 rw [← hW]
 obtain ⟨xa0, xb0, hk, hb⟩ := boxes_2 _ _ _ _ _ hW
 clear hW
 have Hna := lH (iK Hna.out hk)
 have Ga0 := lH (show w.heap.size ≤ w.heap.size from tL_ HB.out.size (by omega))
 have Gb0 := lH (show w.heap.size ≤ w.heap.size + 1 from tL_ HB.out.size (by omega))
 have Xa0 := lH xa0
 have Xb0 := lH xb0
 have HB := lH (bC HB.out hb)
 clear hk hb xa0 xb0
 (first | (have hcall := imake_ai (neg := neg) Hna.out; refine cM hcall ?_; clear hcall) | refine cM (imake_ai (neg := neg) Hna.out) ?_)
 rintro e w2 ⟨v2, rfl, hz, hb⟩
 obtain ⟨z_b, z_a, z_n, z_c, rfl⟩ := hz.litb
 have Xa0 := lH (xP hb Xa0.out)
 have Xb0 := lH (xP hb Xb0.out)
 have HB := lH (bC HB.out hb)
 have Hz := lH hz
 clear hb hz
 obtain ⟨ca00, ca01, ca02, fa00, fa01, fa02⟩ := Xa0.out.c3
 have la0 := Xa0.out.lt
 obtain ⟨cb00, cb01, fb00, fb01⟩ := Xb0.out.c2
 have lb0 := Xb0.out.lt
 go_wp2
 clear ca00 ca01 ca02 fa00 fa01 fa02 la0 cb00 cb01 fb00 fb01 lb0
 obtain ⟨W3, hW⟩ : ∃ W3, W3 = (World.setCell (World.setCell w2 ⟨w.heap.size + 1, 0, none⟩ (.bool z_b)) ⟨w.heap.size + 1, 1, none⟩ (.slice z_a z_n z_c)) := ⟨_, rfl⟩
 rw [← hW]
 obtain ⟨xb0, hk, hf, hbb, hz⟩ := stored2s hW Xb0.out (by first | exact nB_ _ | exact nS_ _ _ _) (by first | exact nB_ _ | exact nS_ _ _ _)
 have Hz := lH (CL.keep Hz.out hk)
 have Xa0 := lH (hf _ _ _ Xa0.out (by omega))
 have Xb0 := lH xb0
 have HB := lH (hbb _ HB.out Gb0.out)
 clear hW hk hf hbb xb0
 clear hz
 exact ret_int1 rfl rfl rfl Xb0.out Hz.out HB.out
theorem canon_p {L : Nat} {ba : Bool} {na da : Nat} {sa ta : Value} {w : World} (hna : Is na L w sa) (hda : Is da L w ta) (hL : L ≤ 100000000) :
  Calls Tryz.prog 67 #[.agg #[.bool ba, sa, ta]] w (Ret w (CR (rv ba na da) (max L 1))) := by
 have Hna := lH hna
 have Hda := lH hda
 clear hna hda
 go_enter Tryz.func67, Tryz.ntmps67
 have HB := lH (bR_ w.heap.size w)
 go_wp2_with fail
 obtain ⟨W1, hW⟩ : ∃ W1, W1 = (World.alloc (World.alloc w (.cells #[.bool ba, sa, ta] 37)) (.cells #[.bool false, .slice none 0 0, .slice none 0 0] 37)) := ⟨_, rfl⟩
 rw [← hW]
 obtain ⟨xa0, xb0, hk, hb⟩ := boxes_2 _ _ _ _ _ hW
 clear hW
 have Hna := lH (iK Hna.out hk)
 have Hda := lH (iK Hda.out hk)
 have Ga0 := lH (show w.heap.size ≤ w.heap.size from tL_ HB.out.size (by omega))
 have Gb0 := lH (show w.heap.size ≤ w.heap.size + 1 from tL_ HB.out.size (by omega))
 have Xa0 := lH xa0
 have Xb0 := lH xb0
 have HB := lH (bC HB.out hb)
 clear hk hb xa0 xb0
 have Hna := lH (iK Hna.out (Keep.drew W1))
 have Hda := lH (iK Hda.out (Keep.drew W1))
 have Xa0 := lH (Box.drew Xa0.out)
 have Xb0 := lH (Box.drew Xb0.out)
 have HB := lH (Below.drew HB.out)
 refine wp_region_float [w.heap.size + 1] [] (by kernel_rfl) (by kernel_rfl) 10 (by kernel_rfl) Flok.nil ?_
 intro ok
 have Hok := lH ok
 clear ok
 have HG := lH (bR_ (W1.drew).heap.size (W1.drew))
 refine good_pureX 0 (some 3) (Go.Op.fieldAddr 37 (Go.Operand.tmp 1) 0) (none) (.pointer (some ⟨w.heap.size, 0, none⟩)) (by kernel_rfl) (by kernel_rfl) (by kernel_rfl) (fun _ _ _ h => h) (fun w' hw' => ?_) ?_
 ·
  first | (go_simp; done) | (go_simp; simp_all; done) | (go_simp; rfl)
 simp only [Act.put, sI, sZ, sS]
 refine good_pureX 1 (some 4) (Go.Op.load 4 (Go.Operand.tmp 3)) (none) (.bool ba) (by kernel_rfl) (by kernel_rfl) (by kernel_rfl) (fun _ _ _ h => h) (fun w' hw' => ?_) ?_
 ·
  obtain ⟨ca00, ca01, ca02, fa00, fa01, fa02⟩ := (Box.se hw' Xa0.out (notin1 (by omega))).c3
  first | (go_simp; done) | (go_simp; simp_all; done) | (go_simp; rfl)
 simp only [Act.put, sI, sZ, sS]
 refine good_pureX 2 (some 5) (Go.Op.fieldAddr 37 (Go.Operand.tmp 1) 1) (none) (.pointer (some ⟨w.heap.size, 1, none⟩)) (by kernel_rfl) (by kernel_rfl) (by kernel_rfl) (fun _ _ _ h => h) (fun w' hw' => ?_) ?_
 ·
  first | (go_simp; done) | (go_simp; simp_all; done) | (go_simp; rfl)
 simp only [Act.put, sI, sZ, sS]
 refine good_pureX 3 (some 6) (Go.Op.load 35 (Go.Operand.tmp 5)) (none) (sa) (by kernel_rfl) (by kernel_rfl) (by kernel_rfl) (fun _ _ _ h => h) (fun w' hw' => ?_) ?_
 ·
  obtain ⟨ca00, ca01, ca02, fa00, fa01, fa02⟩ := (Box.se hw' Xa0.out (notin1 (by omega))).c3
  first | (go_simp; done) | (go_simp; simp_all; done) | (go_simp; rfl)
 simp only [Act.put, sI, sZ, sS]
 refine good_pureX 4 (some 7) (Go.Op.load 37 (Go.Operand.tmp 1)) (none) (.agg #[.bool ba, sa, ta]) (by kernel_rfl) (by kernel_rfl) (by kernel_rfl) (fun _ _ _ h => h) (fun w' hw' => ?_) ?_
 ·
  obtain ⟨ca00, ca01, ca02, fa00, fa01, fa02⟩ := (Box.se hw' Xa0.out (notin1 (by omega))).c3
  first | (go_simp; done) | (go_simp; simp_all; done) | (go_simp; rfl)
 simp only [Act.put, sI, sZ, sS]
 refine good_callX 5 117 (some 8) #[Go.Operand.tmp 7] #[37] (none) #[.agg #[.bool ba, sa, ta]] (by kernel_rfl) Hok.out (by kernel_rfl) (by kernel_rfl) (by kernel_rfl) (by kernel_rfl) rfl rfl rfl (by kernel_rfl) (fun w2 hb => ?_)
 have HG := lH (bC HG.out hb)
 clear hb
 (first | (have hcall := under_is (b := ba) (iK Hda.out (kC HG.out)) (by omega); refine cM hcall ?_; clear hcall) | refine cM (under_is (b := ba) (iK Hda.out (kC HG.out)) (by omega)) ?_)
 rintro e w3 ⟨v3, rfl, hu, hb⟩
 obtain ⟨u_a, u_n, u_c, rfl⟩ := hu.lit
 refine ⟨_, rfl, ?_, hb⟩
 have HG := lH (bC HG.out hb)
 have Hu := lH hu
 clear hb hu
 simp only [Act.put, sI, sZ, sS]
 refine good_callX 6 116 (some 9) #[Go.Operand.tmp 4, Go.Operand.tmp 6, Go.Operand.tmp 8] #[4, 35, 35] (none) #[.bool ba, sa, .slice u_a u_n u_c] (by kernel_rfl) Hok.out (by kernel_rfl) (by kernel_rfl) (by kernel_rfl) (by kernel_rfl) rfl rfl rfl (by kernel_rfl) (fun w4 hb => ?_)
 have Hu := lH (iK Hu.out (kC hb))
 have HG := lH (bC HG.out hb)
 clear hb
 refine cM (quot_is (neg := ba) (un_pos _) (iK Hna.out (kC HG.out)) Hu.out (by omega) (by omega)) ?_
 rintro e w5 ⟨v5, rfl, hz, hb⟩
 obtain ⟨z_b, z_a, z_n, z_c, z_d, z_m, z_e, rfl⟩ := hz.litb
 refine ⟨_, rfl, ?_, hb⟩
 have HG := lH (bC HG.out hb)
 have Hz := lH hz
 clear hb hz
 simp only [Act.put, sI, sZ, sS]
 refine good_end0 1 (by kernel_rfl) (fun _ w6 hb => ?_)
 have Hz := lH (CR.keep Hz.out (kC hb))
 have HG := lH (bC HG.out hb)
 clear hb
 have Xa0 := lH (xP HG.out Xa0.out)
 have Xb0 := lH (xP HG.out Xb0.out)
 have HB := lH (bC HB.out HG.out)
 have HS := lH (SE.of (E := [w.heap.size + 1]) HG.out)
 refine held_oneX 7 (Go.Op.store 37 (Go.Operand.tmp 2) (Go.Operand.tmp 9)) (none) (World.setCell (World.setCell (World.setCell w6 ⟨w.heap.size + 1, 0, none⟩ (.bool z_b)) ⟨w.heap.size + 1, 1, none⟩ (.slice z_a z_n z_c)) ⟨w.heap.size + 1, 2, none⟩ (.slice z_d z_m z_e)) (by kernel_rfl) (by kernel_rfl) (by kernel_rfl) (by kernel_rfl) ?_ (HS.out.store3 in1) ?_
 ·
  obtain ⟨cb00, cb01, cb02, fb00, fb01, fb02⟩ := Xb0.out.c3
  first | (go_simp; done) | (go_simp; simp_all; done) | (go_simp; rfl)
 obtain ⟨W7, hW⟩ : ∃ W7, W7 = (World.setCell (World.setCell (World.setCell w6 ⟨w.heap.size + 1, 0, none⟩ (.bool z_b)) ⟨w.heap.size + 1, 1, none⟩ (.slice z_a z_n z_c)) ⟨w.heap.size + 1, 2, none⟩ (.slice z_d z_m z_e)) := ⟨_, rfl⟩
 rw [← hW]
 obtain ⟨xb0, hk, hf, hbb, hz⟩ := stored3s hW Xb0.out (by first | exact nB_ _ | exact nS_ _ _ _) (by first | exact nB_ _ | exact nS_ _ _ _) (by first | exact nB_ _ | exact nS_ _ _ _)
 have Hz := lH (CR.keep Hz.out hk)
 have Xa0 := lH (hf _ _ _ Xa0.out (by omega))
 have Xb0 := lH xb0
 have HB := lH (hbb _ HB.out Gb0.out)
 have HS := lH (show SE (W1.drew) [w.heap.size + 1] W7 from by rw [hW]; exact HS.out.store3 in1)
 clear hW hk hf hbb xb0
 clear hz
 refine wpAnyH_done (by kernel_rfl) ?_ _
 clear HG HS Hok 
 obtain ⟨ca00, ca01, ca02, fa00, fa01, fa02⟩ := Xa0.out.c3
 have la0 := Xa0.out.lt
 obtain ⟨cb00, cb01, cb02, fb00, fb01, fb02⟩ := Xb0.out.c3
 have lb0 := Xb0.out.lt
 go_wp2
 clear ca00 ca01 ca02 fa00 fa01 fa02 la0 cb00 cb01 cb02 fb00 fb01 fb02 lb0
 exact ret_rat1 rfl rfl rfl Xb0.out (CR.mono Hz.out (by omega)) HB.out
theorem canon_ar {q : Rat} {L : Nat} {v : Value} {w : World} (h : AR q L w v) (hL : L ≤ 100000000) : Calls Tryz.prog 67 #[v] w (Ret w (CR q (max L 1))) := by
 obtain ⟨b, s, t, n, d, rfl, h1, h2, rfl⟩ := h
 exact canon_p h1 h2 hL
theorem whole_p {L : Nat} {ba : Bool} {na : Nat} {sa : Value} {w : World} (hna : Is na L w sa) (hL : L ≤ 100000000) :
  Calls Tryz.prog 132 #[.agg #[.bool ba, sa]] w (Ret w (CR ((iv ba na : Int) : Rat) (max L 1))) := by
 have Hna := lH hna
 clear hna
 go_enter Tryz.func132, Tryz.ntmps132
 have HB := lH (bR_ w.heap.size w)
 go_wp2_with fail
 obtain ⟨W1, hW⟩ : ∃ W1, W1 = (World.alloc (World.alloc w (.cells #[.bool ba, sa] 103)) (.cells #[.bool false, .slice none 0 0, .slice none 0 0] 37)) := ⟨_, rfl⟩
 rw [← hW]
 obtain ⟨xa0, xb0, hk, hb⟩ := boxes_2 _ _ _ _ _ hW
 clear hW
 have Hna := lH (iK Hna.out hk)
 have Ga0 := lH (show w.heap.size ≤ w.heap.size from tL_ HB.out.size (by omega))
 have Gb0 := lH (show w.heap.size ≤ w.heap.size + 1 from tL_ HB.out.size (by omega))
 have Xa0 := lH xa0
 have Xb0 := lH xb0
 have HB := lH (bC HB.out hb)
 clear hk hb xa0 xb0
 have Hna := lH (iK Hna.out (Keep.drew W1))
 have Xa0 := lH (Box.drew Xa0.out)
 have Xb0 := lH (Box.drew Xb0.out)
 have HB := lH (Below.drew HB.out)
 refine wp_region_float [w.heap.size + 1] [] (by kernel_rfl) (by kernel_rfl) 9 (by kernel_rfl) Flok.nil ?_
 intro ok
 have Hok := lH ok
 clear ok
 have HG := lH (bR_ (W1.drew).heap.size (W1.drew))
 refine good_pureX 0 (some 3) (Go.Op.fieldAddr 103 (Go.Operand.tmp 1) 0) (none) (.pointer (some ⟨w.heap.size, 0, none⟩)) (by kernel_rfl) (by kernel_rfl) (by kernel_rfl) (fun _ _ _ h => h) (fun w' hw' => ?_) ?_
 ·
  first | (go_simp; done) | (go_simp; simp_all; done) | (go_simp; rfl)
 simp only [Act.put, sI, sZ, sS]
 refine good_pureX 1 (some 4) (Go.Op.load 4 (Go.Operand.tmp 3)) (none) (.bool ba) (by kernel_rfl) (by kernel_rfl) (by kernel_rfl) (fun _ _ _ h => h) (fun w' hw' => ?_) ?_
 ·
  obtain ⟨ca00, ca01, fa00, fa01⟩ := (Box.se hw' Xa0.out (notin1 (by omega))).c2
  first | (go_simp; done) | (go_simp; simp_all; done) | (go_simp; rfl)
 simp only [Act.put, sI, sZ, sS]
 refine good_pureX 2 (some 5) (Go.Op.fieldAddr 103 (Go.Operand.tmp 1) 1) (none) (.pointer (some ⟨w.heap.size, 1, none⟩)) (by kernel_rfl) (by kernel_rfl) (by kernel_rfl) (fun _ _ _ h => h) (fun w' hw' => ?_) ?_
 ·
  first | (go_simp; done) | (go_simp; simp_all; done) | (go_simp; rfl)
 simp only [Act.put, sI, sZ, sS]
 refine good_pureX 3 (some 6) (Go.Op.load 35 (Go.Operand.tmp 5)) (none) (sa) (by kernel_rfl) (by kernel_rfl) (by kernel_rfl) (fun _ _ _ h => h) (fun w' hw' => ?_) ?_
 ·
  obtain ⟨ca00, ca01, fa00, fa01⟩ := (Box.se hw' Xa0.out (notin1 (by omega))).c2
  first | (go_simp; done) | (go_simp; simp_all; done) | (go_simp; rfl)
 simp only [Act.put, sI, sZ, sS]
 refine good_callX 4 161 (some 7) #[] #[] (none) #[] (by kernel_rfl) Hok.out (by kernel_rfl) (by kernel_rfl) (by kernel_rfl) (by kernel_rfl) rfl rfl rfl (by kernel_rfl) (fun w2 hb => ?_)
 have HG := lH (bC HG.out hb)
 clear hb
 refine cM (one_is _) ?_
 rintro e w3 ⟨v3, rfl, hu, hb⟩
 obtain ⟨u_a, u_n, u_c, rfl⟩ := hu.lit
 refine ⟨_, rfl, ?_, hb⟩
 have HG := lH (bC HG.out hb)
 have Hu := lH hu
 clear hb hu
 simp only [Act.put, sI, sZ, sS]
 refine good_callX 5 116 (some 8) #[Go.Operand.tmp 4, Go.Operand.tmp 6, Go.Operand.tmp 7] #[4, 35, 35] (none) #[.bool ba, sa, .slice u_a u_n u_c] (by kernel_rfl) Hok.out (by kernel_rfl) (by kernel_rfl) (by kernel_rfl) (by kernel_rfl) rfl rfl rfl (by kernel_rfl) (fun w4 hb => ?_)
 have Hu := lH (iK Hu.out (kC hb))
 have HG := lH (bC HG.out hb)
 clear hb
 (first | (have hcall := quot_is (neg := ba) (by decide) (iK Hna.out (kC HG.out)) Hu.out (by omega) (by omega); refine cM hcall ?_; clear hcall) | refine cM (quot_is (neg := ba) (by decide) (iK Hna.out (kC HG.out)) Hu.out (by omega) (by omega)) ?_)
 rintro e w5 ⟨v5, rfl, hz, hb⟩
 obtain ⟨z_b, z_a, z_n, z_c, z_d, z_m, z_e, rfl⟩ := hz.litb
 refine ⟨_, rfl, ?_, hb⟩
 have HG := lH (bC HG.out hb)
 have Hz := lH hz
 clear hb hz
 simp only [Act.put, sI, sZ, sS]
 refine good_end0 1 (by kernel_rfl) (fun _ w6 hb => ?_)
 have Hz := lH (CR.keep Hz.out (kC hb))
 have HG := lH (bC HG.out hb)
 clear hb
 have Xa0 := lH (xP HG.out Xa0.out)
 have Xb0 := lH (xP HG.out Xb0.out)
 have HB := lH (bC HB.out HG.out)
 have HS := lH (SE.of (E := [w.heap.size + 1]) HG.out)
 refine held_oneX 6 (Go.Op.store 37 (Go.Operand.tmp 2) (Go.Operand.tmp 8)) (none) (World.setCell (World.setCell (World.setCell w6 ⟨w.heap.size + 1, 0, none⟩ (.bool z_b)) ⟨w.heap.size + 1, 1, none⟩ (.slice z_a z_n z_c)) ⟨w.heap.size + 1, 2, none⟩ (.slice z_d z_m z_e)) (by kernel_rfl) (by kernel_rfl) (by kernel_rfl) (by kernel_rfl) ?_ (HS.out.store3 in1) ?_
 ·
  obtain ⟨cb00, cb01, cb02, fb00, fb01, fb02⟩ := Xb0.out.c3
  first | (go_simp; done) | (go_simp; simp_all; done) | (go_simp; rfl)
 obtain ⟨W7, hW⟩ : ∃ W7, W7 = (World.setCell (World.setCell (World.setCell w6 ⟨w.heap.size + 1, 0, none⟩ (.bool z_b)) ⟨w.heap.size + 1, 1, none⟩ (.slice z_a z_n z_c)) ⟨w.heap.size + 1, 2, none⟩ (.slice z_d z_m z_e)) := ⟨_, rfl⟩
 rw [← hW]
 obtain ⟨xb0, hk, hf, hbb, hz⟩ := stored3s hW Xb0.out (by first | exact nB_ _ | exact nS_ _ _ _) (by first | exact nB_ _ | exact nS_ _ _ _) (by first | exact nB_ _ | exact nS_ _ _ _)
 have Hz := lH (CR.keep Hz.out hk)
 have Xa0 := lH (hf _ _ _ Xa0.out (by omega))
 have Xb0 := lH xb0
 have HB := lH (hbb _ HB.out Gb0.out)
 have HS := lH (show SE (W1.drew) [w.heap.size + 1] W7 from by rw [hW]; exact HS.out.store3 in1)
 clear hW hk hf hbb xb0
 clear hz
 refine wpAnyH_done (by kernel_rfl) ?_ _
 clear HG HS Hok 
 obtain ⟨ca00, ca01, fa00, fa01⟩ := Xa0.out.c2
 have la0 := Xa0.out.lt
 obtain ⟨cb00, cb01, cb02, fb00, fb01, fb02⟩ := Xb0.out.c3
 have lb0 := Xb0.out.lt
 go_wp2
 clear ca00 ca01 fa00 fa01 la0 cb00 cb01 cb02 fb00 fb01 fb02 lb0
 exact ret_rat1 rfl rfl rfl Xb0.out (CR.cast (mkRat_one _) Hz.out) HB.out
theorem whole_ai {z : Int} {L : Nat} {v : Value} {w : World} (h : AI z L w v) (hL : L ≤ 100000000) : Calls Tryz.prog 132 #[v] w (Ret w (CR (z : Rat) (max L 1))) := by
 obtain ⟨b, s, n, rfl, h1, rfl⟩ := h
 exact whole_p h1 hL
theorem of_rat {x : Int}  {w : World} (h1 : -9223372036854775808 ≤ x) (h2 : x < 9223372036854775808) :
  Calls Tryz.prog 87 #[.int .i64 x] w (Ret w (CR (x : Rat) 2)) := by
 go_enter Tryz.func87, Tryz.ntmps87
 have HB := lH (bR_ w.heap.size w)
 go_wp2_with fail
 obtain ⟨W1, hW⟩ : ∃ W1, W1 = (World.alloc w (.cells #[.bool false, .slice none 0 0, .slice none 0 0] 37)) := ⟨_, rfl⟩
 rw [← hW]
 obtain ⟨xa0, hk, hb⟩ := boxes_1 _ _ _ hW
 clear hW
 have Ga0 := lH (show w.heap.size ≤ w.heap.size from tL_ HB.out.size (by omega))
 have Xa0 := lH xa0
 have HB := lH (bC HB.out hb)
 clear hk hb xa0
 refine cM (iof_any h1 h2) ?_
 rintro e w2 ⟨v2, rfl, ho, hb⟩
 obtain ⟨o_b, o_a, o_n, o_c, rfl⟩ := ho.litb
 have Xa0 := lH (xP hb Xa0.out)
 have HB := lH (bC HB.out hb)
 have Ho := lH ho
 clear hb ho
 obtain ⟨ca00, ca01, ca02, fa00, fa01, fa02⟩ := Xa0.out.c3
 have la0 := Xa0.out.lt
 go_wp2_with fail
 clear ca00 ca01 ca02 fa00 fa01 fa02 la0
 (first | (have hcall := whole_ai Ho.out.ai (by omega); refine cM hcall ?_; clear hcall) | refine cM (whole_ai Ho.out.ai (by omega)) ?_)
 rintro e w3 ⟨v3, rfl, hz, hb⟩
 obtain ⟨z_b, z_a, z_n, z_c, z_d, z_m, z_e, rfl⟩ := hz.litb
 have Xa0 := lH (xP hb Xa0.out)
 have HB := lH (bC HB.out hb)
 have Hz := lH hz
 clear hb hz
 obtain ⟨ca00, ca01, ca02, fa00, fa01, fa02⟩ := Xa0.out.c3
 have la0 := Xa0.out.lt
 go_wp2
 clear ca00 ca01 ca02 fa00 fa01 fa02 la0
 obtain ⟨W4, hW⟩ : ∃ W4, W4 = (World.setCell (World.setCell (World.setCell w3 ⟨w.heap.size, 0, none⟩ (.bool z_b)) ⟨w.heap.size, 1, none⟩ (.slice z_a z_n z_c)) ⟨w.heap.size, 2, none⟩ (.slice z_d z_m z_e)) := ⟨_, rfl⟩
 rw [← hW]
 obtain ⟨xa0, hk, hf, hbb, hz⟩ := stored3s hW Xa0.out (by first | exact nB_ _ | exact nS_ _ _ _) (by first | exact nB_ _ | exact nS_ _ _ _) (by first | exact nB_ _ | exact nS_ _ _ _)
 have Hz := lH (CR.keep Hz.out hk)
 have Xa0 := lH xa0
 have HB := lH (hbb _ HB.out Ga0.out)
 clear hW hk hf hbb xa0
 clear hz
 exact ret_rat1 rfl rfl rfl Xa0.out Hz.out HB.out
theorem rsign_p {L : Nat} {ba : Bool} {na da : Nat} {sa ta : Value} {w : World} (k : Int) (hk : (iv ba na).sign = k) (hna : Is na L w sa) (hda : Is da L w ta) (hL : L ≤ 100000000) :
  Calls Tryz.prog 69 #[.agg #[.bool ba, sa, ta]] w (Ret w (Val (.int .i64 k))) := by
 have Hna := lH hna
 have Hda := lH hda
 have Hk := lH hk
 clear hna hda hk
 go_enter Tryz.func69, Tryz.ntmps69
 have HB := lH (bR_ w.heap.size w)
 go_wp2_with fail
 obtain ⟨W1, hW⟩ : ∃ W1, W1 = (World.alloc w (.cells #[.bool ba, sa, ta] 37)) := ⟨_, rfl⟩
 rw [← hW]
 obtain ⟨xa0, hk, hb⟩ := boxes_1 _ _ _ hW
 clear hW
 have Hna := lH (iK Hna.out hk)
 have Ga0 := lH (show w.heap.size ≤ w.heap.size from tL_ HB.out.size (by omega))
 have Xa0 := lH xa0
 have HB := lH (bC HB.out hb)
 clear hk hb xa0
 (first | (have hcall := signed_is (neg := ba) Hna.out; refine cM hcall ?_; clear hcall) | refine cM (signed_is (neg := ba) Hna.out) ?_)
 rintro e w2 ⟨v2, rfl, hz, hb⟩
 obtain ⟨z_b, z_a, z_n, z_c, rfl⟩ := hz.litb
 have Xa0 := lH (xP hb Xa0.out)
 have HB := lH (bC HB.out hb)
 have Hz := lH hz
 clear hb hz
 obtain ⟨ca00, ca01, ca02, fa00, fa01, fa02⟩ := Xa0.out.c3
 have la0 := Xa0.out.lt
 go_wp2_with fail
 clear ca00 ca01 ca02 fa00 fa01 fa02 la0
 (first | (have hcall := isign_ai k Hz.out.ai Hk.out (by omega); refine cM hcall ?_; clear hcall) | refine cM (isign_ai k Hz.out.ai Hk.out (by omega)) ?_)
 rintro e w3 ⟨v3, rfl, rfl, hb⟩
 have Xa0 := lH (xP hb Xa0.out)
 have HB := lH (bC HB.out hb)
 clear hb
 obtain ⟨ca00, ca01, ca02, fa00, fa01, fa02⟩ := Xa0.out.c3
 have la0 := Xa0.out.lt
 go_wp2
 clear ca00 ca01 ca02 fa00 fa01 fa02 la0
 go_ret
 exact ⟨_, rfl, rfl, HB.out⟩
theorem rsign_ar {q : Rat} {L : Nat} {v : Value} {w : World} (k : Int) (h : AR q L w v) (hk : q.num.sign = k) (hL : L ≤ 100000000) : Calls Tryz.prog 69 #[v] w (Ret w (Val (.int .i64 k))) := by
 obtain ⟨b, s, t, n, d, rfl, h1, h2, rfl⟩ := h
 exact rsign_p k (by rw [← hk, rv_sign]) h1 h2 hL
theorem CL.mag {z : Int} {L : Nat} {n : Bool} {s : Value} {w : World} (h : CL z L w (.agg #[.bool n, s])) : Can z.natAbs L w s := by
 obtain ⟨⟨s', he, h2⟩, h3⟩ := h
 injection he with he; injection he with he; injection he with e1 he; injection he with e2 _
 subst e2
 exact ⟨h2, h3⟩
def cmpQ (a b : Rat) : Int := (a - b).num.sign
theorem sign_mkRat {z : Int} {d : Nat} (hd : 0 < d) : (mkRat z d).num.sign = z.sign := by
 have h := mkRat_lt (z := z) hd
 have h2 := Rat.mkRat_eq_zero (n := z) (Nat.ne_of_gt hd)
 rcases Int.lt_trichotomy z 0 with h3 | h3 | h3
 ·
  rw [Int.sign_eq_neg_one_of_neg h3, Int.sign_eq_neg_one_of_neg]
  have := h.2 h3
  rw [← Rat.not_le, ← Rat.num_nonneg] at this
  omega
 ·
  rw [h3]; simp
 ·
  rw [Int.sign_eq_one_of_pos h3, Int.sign_eq_one_of_pos]
  have h4 : ¬ mkRat z d < 0 := by rw [h]; omega
  have h5 : ¬ mkRat z d = 0 := by rw [h2]; omega
  rw [← Rat.num_eq_zero] at h5
  rw [Rat.not_lt, ← Rat.num_nonneg] at h4
  omega
theorem cmpQ_rv (ba bb : Bool) (na da nb db : Nat) : cmpQ (rv ba na da) (rv bb nb db) = (iv ba na * (un db : Nat) - iv bb nb * (un da : Nat)).sign := by
 unfold cmpQ rv
 rw [Rat.sub_eq_add_neg, Rat.neg_mkRat, Rat.mkRat_add_mkRat _ _ (un_ne _) (un_ne _), sign_mkRat (Nat.mul_pos (un_pos _) (un_pos _)), Int.neg_mul, ← Int.sub_eq_add_neg]
theorem sgn_mul_un (z : Int) (d : Nat) : (z * (un d : Nat)).sign = z.sign := by
 have := un_pos d
 rw [Int.sign_mul, Int.sign_eq_one_of_pos (a := ((un d : Nat) : Int)) (by omega), Int.mul_one]
theorem cross_lt {x y : Int} {c d : Nat} (h : x.sign < y.sign) : (x * (un c : Nat) - y * (un d : Nat)).sign = -1 := sub_sign_lt (by rw [sgn_mul_un, sgn_mul_un]; exact h)
theorem cross_gt {x y : Int} {c d : Nat} (h : y.sign < x.sign) : (x * (un c : Nat) - y * (un d : Nat)).sign = 1 := sub_sign_gt (by rw [sgn_mul_un, sgn_mul_un]; exact h)
theorem CL.iv {z : Int} {L : Nat} {w : World} {b : Bool} {s : Value} (h : CL z L w (.agg #[.bool b, s])) : Go.Proofs.YtikglhmabidjoaaGreat.iv b z.natAbs = z := by
 obtain ⟨⟨s', he, h2⟩, h3⟩ := h
 injection he with he; injection he with he; injection he with e1 he; injection e1 with e1
 subst e1
 unfold Go.Proofs.YtikglhmabidjoaaGreat.iv
 by_cases hz : z < 0 <;> simp [hz] <;> omega
theorem add_parts {ba bb bs : Bool} {na da nb db : Nat} (h : iv bs (iv ba na * (un db : Nat) + iv bb nb * (un da : Nat)).natAbs = iv ba na * (un db : Nat) + iv bb nb * (un da : Nat)) :
  mkRat (iv bs (iv ba na * (un db : Nat) + iv bb nb * (un da : Nat)).natAbs) (un da * un db) = rv ba na da + rv bb nb db := by
 rw [h]; unfold rv
 rw [Rat.mkRat_add_mkRat _ _ (un_ne _) (un_ne _)]
theorem mul_parts (ba bb : Bool) (na da nb db : Nat) : mkRat (iv (!ba == bb) (na * nb)) (un da * un db) = rv ba na da * rv bb nb db := by
 rw [iv_mul]; unfold rv
 rw [Rat.mkRat_mul_mkRat]
theorem div_parts (ba bb : Bool) (na da nb db : Nat) (h : 0 < nb) : mkRat (iv (!ba == bb) (na * un db)) (un da * nb) = rv ba na da / rv bb nb db := by
 have e : rv bb nb db * mkRat (iv (!ba == bb) (na * un db)) (un da * nb) = rv ba na da := by
  unfold rv
  rw [Rat.mkRat_mul_mkRat]
  have e1 : iv bb nb * iv (!ba == bb) (na * un db) = iv ba na * ((un db * nb : Nat) : Int) := by
   cases ba <;> cases bb <;> simp [iv, Int.natCast_mul, Int.neg_mul, Int.mul_neg] <;> ac_rfl
  rw [e1, show un db * (un da * nb) = un da * (un db * nb) by ac_rfl]
  exact Rat.mkRat_mul_right (Nat.ne_of_gt (Nat.mul_pos (un_pos _) h))
 have h0 : rv bb nb db ≠ 0 := by
  unfold rv
  rw [Ne, Rat.mkRat_eq_zero (un_ne _)]
  cases bb <;> simp [iv] <;> omega
 rw [← e, Rat.mul_comm, Rat.mul_div_cancel h0]
theorem cmpQ_le {a b : Rat} : cmpQ a b ≤ 0 ↔ a ≤ b := by
 unfold cmpQ
 have e : b - a = -(a - b) := (Rat.neg_sub a b).symm
 rw [Rat.le_iff_sub_nonneg, e, ← Rat.num_nonneg, Rat.neg_num]
 rcases Int.lt_trichotomy (a - b).num 0 with h | h | h
 ·
  rw [Int.sign_eq_neg_one_of_neg h]; omega
 ·
  rw [h]; simp
 ·
  rw [Int.sign_eq_one_of_pos h]; omega
theorem cmpQ_ge {a b : Rat} : 0 ≤ cmpQ a b ↔ b ≤ a := by
 unfold cmpQ
 rw [Rat.le_iff_sub_nonneg, ← Rat.num_nonneg]
 rcases Int.lt_trichotomy (a - b).num 0 with h | h | h
 ·
  rw [Int.sign_eq_neg_one_of_neg h]; omega
 ·
  rw [h]; simp
 ·
  rw [Int.sign_eq_one_of_pos h]; omega
theorem cross_p {L M : Nat} {ba : Bool} {na da : Nat} {sa ta : Value} {bb : Bool} {nb db : Nat} {sb tb : Value} {w : World} (hna : Is na L w sa) (hda : Is da L w ta) (hnb : Is nb M w sb) (hdb : Is db M w tb) (hL : L ≤ 100000000) (hM : M ≤ 100000000) :
  Calls Tryz.prog 70 #[.agg #[.bool ba, sa, ta], .agg #[.bool bb, sb, tb]] w (Ret w (CL2 (iv ba na * (un db : Nat)) (iv bb nb * (un da : Nat)) (L + max M 1) (M + max L 1))) := by
 have Hna := lH hna
 have Hda := lH hda
 have Hnb := lH hnb
 have Hdb := lH hdb
 clear hna hda hnb hdb
 go_enter Tryz.func70, Tryz.ntmps70
 have HB := lH (bR_ w.heap.size w)
 go_wp2_with fail
 obtain ⟨W1, hW⟩ : ∃ W1, W1 = (World.alloc (World.alloc (World.alloc (World.alloc w (.cells #[.bool ba, sa, ta] 37)) (.cells #[.bool bb, sb, tb] 37)) (.cells #[.bool false, .slice none 0 0] 103)) (.cells #[.bool false, .slice none 0 0] 103)) := ⟨_, rfl⟩
 rw [← hW]
 obtain ⟨xa0, xb0, xc0, xd0, hk, hb⟩ := boxes_4 _ _ _ _ _ _ _ _ _ hW
 clear hW
 have Hna := lH (iK Hna.out hk)
 have Hda := lH (iK Hda.out hk)
 have Hnb := lH (iK Hnb.out hk)
 have Hdb := lH (iK Hdb.out hk)
 have Ga0 := lH (show w.heap.size ≤ w.heap.size from tL_ HB.out.size (by omega))
 have Gb0 := lH (show w.heap.size ≤ w.heap.size + 1 from tL_ HB.out.size (by omega))
 have Gc0 := lH (show w.heap.size ≤ w.heap.size + 1 + 1 from tL_ HB.out.size (by omega))
 have Gd0 := lH (show w.heap.size ≤ w.heap.size + 1 + 1 + 1 from tL_ HB.out.size (by omega))
 have Xa0 := lH xa0
 have Xb0 := lH xb0
 have Xc0 := lH xc0
 have Xd0 := lH xd0
 have HB := lH (bC HB.out hb)
 clear hk hb xa0 xb0 xc0 xd0
 have Hna := lH (iK Hna.out (Keep.drew W1))
 have Hda := lH (iK Hda.out (Keep.drew W1))
 have Hnb := lH (iK Hnb.out (Keep.drew W1))
 have Hdb := lH (iK Hdb.out (Keep.drew W1))
 have Xa0 := lH (Box.drew Xa0.out)
 have Xb0 := lH (Box.drew Xb0.out)
 have Xc0 := lH (Box.drew Xc0.out)
 have Xd0 := lH (Box.drew Xd0.out)
 have HB := lH (Below.drew HB.out)
 refine wp_region_float [] [] (by kernel_rfl) (by kernel_rfl) 22 (by kernel_rfl) Flok.nil ?_
 intro ok
 have Hok := lH ok
 clear ok
 have HG := lH (bR_ (W1.drew).heap.size (W1.drew))
 refine good_pureX 0 (some 8) (Go.Op.load 37 (Go.Operand.tmp 2)) (none) (.agg #[.bool ba, sa, ta]) (by kernel_rfl) (by kernel_rfl) (by kernel_rfl) (fun _ _ _ h => h) (fun w' hw' => ?_) ?_
 ·
  obtain ⟨ca00, ca01, ca02, fa00, fa01, fa02⟩ := (Box.se hw' Xa0.out notin0).c3
  first | (go_simp; done) | (go_simp; simp_all; done) | (go_simp; rfl)
 simp only [Act.put, sI, sZ, sS]
 refine good_pureX 2 (some 10) (Go.Op.load 37 (Go.Operand.tmp 3)) (none) (.agg #[.bool bb, sb, tb]) (by kernel_rfl) (by kernel_rfl) (by kernel_rfl) (fun _ _ _ h => h) (fun w' hw' => ?_) ?_
 ·
  obtain ⟨cb00, cb01, cb02, fb00, fb01, fb02⟩ := (Box.se hw' Xb0.out notin0).c3
  first | (go_simp; done) | (go_simp; simp_all; done) | (go_simp; rfl)
 simp only [Act.put, sI, sZ, sS]
 refine good_callX 1 117 (some 9) #[Go.Operand.tmp 8] #[37] (none) #[.agg #[.bool ba, sa, ta]] (by kernel_rfl) Hok.out (by kernel_rfl) (by kernel_rfl) (by kernel_rfl) (by kernel_rfl) rfl rfl rfl (by kernel_rfl) (fun w2 hb => ?_)
 have HG := lH (bC HG.out hb)
 clear hb
 (first | (have hcall := under_is (b := ba) (iK Hda.out (kC HG.out)) (by omega); refine cM hcall ?_; clear hcall) | refine cM (under_is (b := ba) (iK Hda.out (kC HG.out)) (by omega)) ?_)
 rintro e w3 ⟨v3, rfl, hp, hb⟩
 obtain ⟨p_a, p_n, p_c, rfl⟩ := hp.lit
 refine ⟨_, rfl, ?_, hb⟩
 have HG := lH (bC HG.out hb)
 have Hp := lH hp
 clear hb hp
 simp only [Act.put, sI, sZ, sS]
 refine good_callX 3 117 (some 11) #[Go.Operand.tmp 10] #[37] (none) #[.agg #[.bool bb, sb, tb]] (by kernel_rfl) Hok.out (by kernel_rfl) (by kernel_rfl) (by kernel_rfl) (by kernel_rfl) rfl rfl rfl (by kernel_rfl) (fun w4 hb => ?_)
 have Hp := lH (iK Hp.out (kC hb))
 have HG := lH (bC HG.out hb)
 clear hb
 (first | (have hcall := under_is (b := bb) (iK Hdb.out (kC HG.out)) (by omega); refine cM hcall ?_; clear hcall) | refine cM (under_is (b := bb) (iK Hdb.out (kC HG.out)) (by omega)) ?_)
 rintro e w5 ⟨v5, rfl, hq, hb⟩
 obtain ⟨q_a, q_n, q_c, rfl⟩ := hq.lit
 refine ⟨_, rfl, ?_, hb⟩
 have Hp := lH (iK Hp.out (kC hb))
 have HG := lH (bC HG.out hb)
 have Hq := lH hq
 clear hb hq
 simp only [Act.put, sI, sZ, sS]
 refine good_pureX 4 (some 6) (Go.Op.assign (Go.Operand.tmp 9)) (none) (.slice p_a p_n p_c) (by kernel_rfl) (by kernel_rfl) (by kernel_rfl) (fun _ _ _ h => h) (fun w' hw' => ?_) ?_
 ·
  first | (go_simp; done) | (go_simp; simp_all; done) | (go_simp; rfl)
 simp only [Act.put, sI, sZ, sS]
 refine good_pureX 5 (some 7) (Go.Op.assign (Go.Operand.tmp 11)) (none) (.slice q_a q_n q_c) (by kernel_rfl) (by kernel_rfl) (by kernel_rfl) (fun _ _ _ h => h) (fun w' hw' => ?_) ?_
 ·
  first | (go_simp; done) | (go_simp; simp_all; done) | (go_simp; rfl)
 simp only [Act.put, sI, sZ, sS]
 refine good_end0 0 (by kernel_rfl) (fun _ w6 hb => ?_)
 have Hp := lH (iK Hp.out (kC hb))
 have Hq := lH (iK Hq.out (kC hb))
 have HG := lH (bC HG.out hb)
 clear hb
 have Hna := lH (iK Hna.out (kC HG.out))
 have Hnb := lH (iK Hnb.out (kC HG.out))
 have Xa0 := lH (xP HG.out Xa0.out)
 have Xb0 := lH (xP HG.out Xb0.out)
 have Xc0 := lH (xP HG.out Xc0.out)
 have Xd0 := lH (xP HG.out Xd0.out)
 have HB := lH (bC HB.out HG.out)
 have HS := lH (SE.of (E := []) HG.out)
 refine wpAnyH_done (by kernel_rfl) ?_ _
 clear HG HS Hok 
 obtain ⟨ca00, ca01, ca02, fa00, fa01, fa02⟩ := Xa0.out.c3
 have la0 := Xa0.out.lt
 obtain ⟨cb00, cb01, cb02, fb00, fb01, fb02⟩ := Xb0.out.c3
 have lb0 := Xb0.out.lt
 obtain ⟨cc00, cc01, fc00, fc01⟩ := Xc0.out.c2
 have lc0 := Xc0.out.lt
 obtain ⟨cd00, cd01, fd00, fd01⟩ := Xd0.out.c2
 have ld0 := Xd0.out.lt
 go_wp2_with fail
 clear ca00 ca01 ca02 fa00 fa01 fa02 la0 cb00 cb01 cb02 fb00 fb01 fb02 lb0 cc00 cc01 fc00 fc01 lc0 cd00 cd01 fd00 fd01 ld0
 have Hna := lH (iK Hna.out (Keep.drew w6))
 have Hnb := lH (iK Hnb.out (Keep.drew w6))
 have Hp := lH (iK Hp.out (Keep.drew w6))
 have Hq := lH (iK Hq.out (Keep.drew w6))
 have Xa0 := lH (Box.drew Xa0.out)
 have Xb0 := lH (Box.drew Xb0.out)
 have Xc0 := lH (Box.drew Xc0.out)
 have Xd0 := lH (Box.drew Xd0.out)
 have HB := lH (Below.drew HB.out)
 refine wp_region_float [w.heap.size + 1 + 1, w.heap.size + 1 + 1 + 1] [] (by kernel_rfl) (by kernel_rfl) 22 (by kernel_rfl) Flok.nil ?_
 intro ok
 have Hok := lH ok
 clear ok
 have HG := lH (bR_ (w6.drew).heap.size (w6.drew))
 refine good_pureX 0 (some 12) (Go.Op.load 37 (Go.Operand.tmp 2)) (none) (.agg #[.bool ba, sa, ta]) (by kernel_rfl) (by kernel_rfl) (by kernel_rfl) (fun _ _ _ h => h) (fun w' hw' => ?_) ?_
 ·
  obtain ⟨ca00, ca01, ca02, fa00, fa01, fa02⟩ := (Box.se hw' Xa0.out (notin2 (by omega) (by omega))).c3
  first | (go_simp; done) | (go_simp; simp_all; done) | (go_simp; rfl)
 simp only [Act.put, sI, sZ, sS]
 refine good_pureX 2 (some 14) (Go.Op.move (Go.Operand.tmp 7)) (none) (.slice q_a q_n q_c) (by kernel_rfl) (by kernel_rfl) (by kernel_rfl) (fun _ _ _ h => h) (fun w' hw' => ?_) ?_
 ·
  first | (go_simp; done) | (go_simp; simp_all; done) | (go_simp; rfl)
 simp only [Act.put, sI, sZ, sS]
 refine good_pureX 3 (some 15) (Go.Op.build 103 #[(1, Go.Operand.tmp 14)]) (none) (.agg #[.bool false, .slice q_a q_n q_c]) (by kernel_rfl) (by kernel_rfl) (by kernel_rfl) (fun _ _ _ h => h) (fun w' hw' => ?_) ?_
 ·
  first | (go_simp; done) | (go_simp; simp_all; done) | (go_simp; rfl)
 simp only [Act.put, sI, sZ, sS]
 refine good_pureX 5 (some 17) (Go.Op.load 37 (Go.Operand.tmp 3)) (none) (.agg #[.bool bb, sb, tb]) (by kernel_rfl) (by kernel_rfl) (by kernel_rfl) (fun _ _ _ h => h) (fun w' hw' => ?_) ?_
 ·
  obtain ⟨cb00, cb01, cb02, fb00, fb01, fb02⟩ := (Box.se hw' Xb0.out (notin2 (by omega) (by omega))).c3
  first | (go_simp; done) | (go_simp; simp_all; done) | (go_simp; rfl)
 simp only [Act.put, sI, sZ, sS]
 refine good_pureX 7 (some 19) (Go.Op.move (Go.Operand.tmp 6)) (none) (.slice p_a p_n p_c) (by kernel_rfl) (by kernel_rfl) (by kernel_rfl) (fun _ _ _ h => h) (fun w' hw' => ?_) ?_
 ·
  first | (go_simp; done) | (go_simp; simp_all; done) | (go_simp; rfl)
 simp only [Act.put, sI, sZ, sS]
 refine good_pureX 8 (some 20) (Go.Op.build 103 #[(1, Go.Operand.tmp 19)]) (none) (.agg #[.bool false, .slice p_a p_n p_c]) (by kernel_rfl) (by kernel_rfl) (by kernel_rfl) (fun _ _ _ h => h) (fun w' hw' => ?_) ?_
 ·
  first | (go_simp; done) | (go_simp; simp_all; done) | (go_simp; rfl)
 simp only [Act.put, sI, sZ, sS]
 refine good_callX 1 119 (some 13) #[Go.Operand.tmp 12] #[37] (none) #[.agg #[.bool ba, sa, ta]] (by kernel_rfl) Hok.out (by kernel_rfl) (by kernel_rfl) (by kernel_rfl) (by kernel_rfl) rfl rfl rfl (by kernel_rfl) (fun w7 hb => ?_)
 have HG := lH (bC HG.out hb)
 clear hb
 (first | (have hcall := signed_is (neg := ba) (iK Hna.out (kC HG.out)); refine cM hcall ?_; clear hcall) | refine cM (signed_is (neg := ba) (iK Hna.out (kC HG.out))) ?_)
 rintro e w8 ⟨v8, rfl, hx, hb⟩
 obtain ⟨x_b, x_a, x_n, x_c, rfl⟩ := hx.litb
 refine ⟨_, rfl, ?_, hb⟩
 have HG := lH (bC HG.out hb)
 have Hx := lH hx
 clear hb hx
 simp only [Act.put, sI, sZ, sS]
 refine good_callX 4 120 (some 16) #[Go.Operand.tmp 13, Go.Operand.tmp 15] #[103, 103] (none) #[.agg #[.bool x_b, .slice x_a x_n x_c], .agg #[.bool false, .slice q_a q_n q_c]] (by kernel_rfl) Hok.out (by kernel_rfl) (by kernel_rfl) (by kernel_rfl) (by kernel_rfl) rfl rfl rfl (by kernel_rfl) (fun w9 hb => ?_)
 have Hx := lH (CL.keep Hx.out (kC hb))
 have HG := lH (bC HG.out hb)
 clear hb
 (first | (have hcall := imul_ai Hx.out.ai (AI.mk (n := false) (iK Hq.out (kC HG.out))) (by omega) (by omega); refine cM hcall ?_; clear hcall) | refine cM (imul_ai Hx.out.ai (AI.mk (n := false) (iK Hq.out (kC HG.out))) (by omega) (by omega)) ?_)
 rintro e w10 ⟨v10, rfl, hm, hb⟩
 obtain ⟨m_b, m_a, m_n, m_c, rfl⟩ := hm.litb
 refine ⟨_, rfl, ?_, hb⟩
 have HG := lH (bC HG.out hb)
 have Hm := lH hm
 clear hb hm
 simp only [Act.put, sI, sZ, sS]
 refine good_callX 6 119 (some 18) #[Go.Operand.tmp 17] #[37] (none) #[.agg #[.bool bb, sb, tb]] (by kernel_rfl) Hok.out (by kernel_rfl) (by kernel_rfl) (by kernel_rfl) (by kernel_rfl) rfl rfl rfl (by kernel_rfl) (fun w11 hb => ?_)
 have Hm := lH (CL.keep Hm.out (kC hb))
 have HG := lH (bC HG.out hb)
 clear hb
 (first | (have hcall := signed_is (neg := bb) (iK Hnb.out (kC HG.out)); refine cM hcall ?_; clear hcall) | refine cM (signed_is (neg := bb) (iK Hnb.out (kC HG.out))) ?_)
 rintro e w12 ⟨v12, rfl, hv, hb⟩
 obtain ⟨v_b, v_a, v_n, v_c, rfl⟩ := hv.litb
 refine ⟨_, rfl, ?_, hb⟩
 have Hm := lH (CL.keep Hm.out (kC hb))
 have HG := lH (bC HG.out hb)
 have Hv := lH hv
 clear hb hv
 simp only [Act.put, sI, sZ, sS]
 refine good_callX 9 120 (some 21) #[Go.Operand.tmp 18, Go.Operand.tmp 20] #[103, 103] (none) #[.agg #[.bool v_b, .slice v_a v_n v_c], .agg #[.bool false, .slice p_a p_n p_c]] (by kernel_rfl) Hok.out (by kernel_rfl) (by kernel_rfl) (by kernel_rfl) (by kernel_rfl) rfl rfl rfl (by kernel_rfl) (fun w13 hb => ?_)
 have Hm := lH (CL.keep Hm.out (kC hb))
 have Hv := lH (CL.keep Hv.out (kC hb))
 have HG := lH (bC HG.out hb)
 clear hb
 (first | (have hcall := imul_ai Hv.out.ai (AI.mk (n := false) (iK Hp.out (kC HG.out))) (by omega) (by omega); refine cM hcall ?_; clear hcall) | refine cM (imul_ai Hv.out.ai (AI.mk (n := false) (iK Hp.out (kC HG.out))) (by omega) (by omega)) ?_)
 rintro e w14 ⟨v14, rfl, hn, hb⟩
 obtain ⟨n_b, n_a, n_n, n_c, rfl⟩ := hn.litb
 refine ⟨_, rfl, ?_, hb⟩
 have Hm := lH (CL.keep Hm.out (kC hb))
 have HG := lH (bC HG.out hb)
 have Hn := lH hn
 clear hb hn
 simp only [Act.put, sI, sZ, sS]
 refine good_end0 2 (by kernel_rfl) (fun _ w15 hb => ?_)
 have Hm := lH (CL.keep Hm.out (kC hb))
 have Hn := lH (CL.keep Hn.out (kC hb))
 have HG := lH (bC HG.out hb)
 clear hb
 have Xa0 := lH (xP HG.out Xa0.out)
 have Xb0 := lH (xP HG.out Xb0.out)
 have Xc0 := lH (xP HG.out Xc0.out)
 have Xd0 := lH (xP HG.out Xd0.out)
 have HB := lH (bC HB.out HG.out)
 have HS := lH (SE.of (E := [w.heap.size + 1 + 1, w.heap.size + 1 + 1 + 1]) HG.out)
 refine held_oneX 10 (Go.Op.store 103 (Go.Operand.tmp 4) (Go.Operand.tmp 16)) (none) (World.setCell (World.setCell w15 ⟨w.heap.size + 1 + 1, 0, none⟩ (.bool m_b)) ⟨w.heap.size + 1 + 1, 1, none⟩ (.slice m_a m_n m_c)) (by kernel_rfl) (by kernel_rfl) (by kernel_rfl) (by kernel_rfl) ?_ (HS.out.store2 in21) ?_
 ·
  obtain ⟨cc00, cc01, fc00, fc01⟩ := Xc0.out.c2
  first | (go_simp; done) | (go_simp; simp_all; done) | (go_simp; rfl)
 obtain ⟨W16, hW⟩ : ∃ W16, W16 = (World.setCell (World.setCell w15 ⟨w.heap.size + 1 + 1, 0, none⟩ (.bool m_b)) ⟨w.heap.size + 1 + 1, 1, none⟩ (.slice m_a m_n m_c)) := ⟨_, rfl⟩
 rw [← hW]
 obtain ⟨xc0, hk, hf, hbb, hz⟩ := stored2s hW Xc0.out (by first | exact nB_ _ | exact nS_ _ _ _) (by first | exact nB_ _ | exact nS_ _ _ _)
 have Hm := lH (CL.keep Hm.out hk)
 have Hn := lH (CL.keep Hn.out hk)
 have Xa0 := lH (hf _ _ _ Xa0.out (by omega))
 have Xb0 := lH (hf _ _ _ Xb0.out (by omega))
 have Xc0 := lH xc0
 have Xd0 := lH (hf _ _ _ Xd0.out (by omega))
 have HB := lH (hbb _ HB.out Gc0.out)
 have HS := lH (show SE (w6.drew) [w.heap.size + 1 + 1, w.heap.size + 1 + 1 + 1] W16 from by rw [hW]; exact HS.out.store2 in21)
 clear hW hk hf hbb xc0
 clear hz
 refine held_oneX 11 (Go.Op.store 103 (Go.Operand.tmp 5) (Go.Operand.tmp 21)) (none) (World.setCell (World.setCell W16 ⟨w.heap.size + 1 + 1 + 1, 0, none⟩ (.bool n_b)) ⟨w.heap.size + 1 + 1 + 1, 1, none⟩ (.slice n_a n_n n_c)) (by kernel_rfl) (by kernel_rfl) (by kernel_rfl) (by kernel_rfl) ?_ (HS.out.store2 in22) ?_
 ·
  obtain ⟨cd00, cd01, fd00, fd01⟩ := Xd0.out.c2
  first | (go_simp; done) | (go_simp; simp_all; done) | (go_simp; rfl)
 obtain ⟨W17, hW⟩ : ∃ W17, W17 = (World.setCell (World.setCell W16 ⟨w.heap.size + 1 + 1 + 1, 0, none⟩ (.bool n_b)) ⟨w.heap.size + 1 + 1 + 1, 1, none⟩ (.slice n_a n_n n_c)) := ⟨_, rfl⟩
 rw [← hW]
 obtain ⟨xd0, hk, hf, hbb, hz⟩ := stored2s hW Xd0.out (by first | exact nB_ _ | exact nS_ _ _ _) (by first | exact nB_ _ | exact nS_ _ _ _)
 have Hm := lH (CL.keep Hm.out hk)
 have Hn := lH (CL.keep Hn.out hk)
 have Xa0 := lH (hf _ _ _ Xa0.out (by omega))
 have Xb0 := lH (hf _ _ _ Xb0.out (by omega))
 have Xc0 := lH (hf _ _ _ Xc0.out (by omega))
 have Xd0 := lH xd0
 have HB := lH (hbb _ HB.out Gd0.out)
 have HS := lH (show SE (w6.drew) [w.heap.size + 1 + 1, w.heap.size + 1 + 1 + 1] W17 from by rw [hW]; exact HS.out.store2 in22)
 clear hW hk hf hbb xd0
 clear hz
 refine wpAnyH_done (by kernel_rfl) ?_ _
 clear HG HS Hok 
 obtain ⟨ca00, ca01, ca02, fa00, fa01, fa02⟩ := Xa0.out.c3
 have la0 := Xa0.out.lt
 obtain ⟨cb00, cb01, cb02, fb00, fb01, fb02⟩ := Xb0.out.c3
 have lb0 := Xb0.out.lt
 obtain ⟨cc00, cc01, fc00, fc01⟩ := Xc0.out.c2
 have lc0 := Xc0.out.lt
 obtain ⟨cd00, cd01, fd00, fd01⟩ := Xd0.out.c2
 have ld0 := Xd0.out.lt
 go_wp2
 clear ca00 ca01 ca02 fa00 fa01 fa02 la0 cb00 cb01 cb02 fb00 fb01 fb02 lb0 cc00 cc01 fc00 fc01 lc0 cd00 cd01 fd00 fd01 ld0
 exact ret_ii rfl rfl rfl rfl Xc0.out Xd0.out ⟨_, _, rfl, Hm.out, Hn.out⟩ HB.out
theorem rcmp_lt {L M : Nat} {ba : Bool} {na da : Nat} {sa ta : Value} {bb : Bool} {nb db : Nat} {sb tb : Value} {w : World} (s t : Int) (hs : (iv ba na).sign = s) (ht : (iv bb nb).sign = t) (d1 : (s != t) = true) (d2 : decide (s < t) = true) (hna : Is na L w sa) (hda : Is da L w ta) (hnb : Is nb M w sb) (hdb : Is db M w tb) (hL : L ≤ 100000000) (hM : M ≤ 100000000) :
  Calls Tryz.prog 36 #[.agg #[.bool ba, sa, ta], .agg #[.bool bb, sb, tb]] w (Ret w (Val (.int .i64 (-1)))) := by
 have Hna := lH hna
 have Hda := lH hda
 have Hnb := lH hnb
 have Hdb := lH hdb
 have Hs := lH hs
 have Ht := lH ht
 clear hna hda hnb hdb hs ht
 go_enter Tryz.func36, Tryz.ntmps36
 have HB := lH (bR_ w.heap.size w)
 go_wp2_with fail
 obtain ⟨W1, hW⟩ : ∃ W1, W1 = (World.alloc (World.alloc w (.cells #[.bool ba, sa, ta] 37)) (.cells #[.bool bb, sb, tb] 37)) := ⟨_, rfl⟩
 rw [← hW]
 obtain ⟨xa0, xb0, hk, hb⟩ := boxes_2 _ _ _ _ _ hW
 clear hW
 have Hna := lH (iK Hna.out hk)
 have Hda := lH (iK Hda.out hk)
 have Hnb := lH (iK Hnb.out hk)
 have Hdb := lH (iK Hdb.out hk)
 have Ga0 := lH (show w.heap.size ≤ w.heap.size from tL_ HB.out.size (by omega))
 have Gb0 := lH (show w.heap.size ≤ w.heap.size + 1 from tL_ HB.out.size (by omega))
 have Xa0 := lH xa0
 have Xb0 := lH xb0
 have HB := lH (bC HB.out hb)
 clear hk hb xa0 xb0
 have Hna := lH (iK Hna.out (Keep.drew W1))
 have Hda := lH (iK Hda.out (Keep.drew W1))
 have Hnb := lH (iK Hnb.out (Keep.drew W1))
 have Hdb := lH (iK Hdb.out (Keep.drew W1))
 have Xa0 := lH (Box.drew Xa0.out)
 have Xb0 := lH (Box.drew Xb0.out)
 have HB := lH (Below.drew HB.out)
 refine wp_region_float [] [] (by kernel_rfl) (by kernel_rfl) 28 (by kernel_rfl) Flok.nil ?_
 intro ok
 have Hok := lH ok
 clear ok
 have HG := lH (bR_ (W1.drew).heap.size (W1.drew))
 refine good_pureX 0 (some 9) (Go.Op.load 37 (Go.Operand.tmp 2)) (none) (.agg #[.bool ba, sa, ta]) (by kernel_rfl) (by kernel_rfl) (by kernel_rfl) (fun _ _ _ h => h) (fun w' hw' => ?_) ?_
 ·
  obtain ⟨ca00, ca01, ca02, fa00, fa01, fa02⟩ := (Box.se hw' Xa0.out notin0).c3
  first | (go_simp; done) | (go_simp; simp_all; done) | (go_simp; rfl)
 simp only [Act.put, sI, sZ, sS]
 refine good_pureX 2 (some 11) (Go.Op.load 37 (Go.Operand.tmp 3)) (none) (.agg #[.bool bb, sb, tb]) (by kernel_rfl) (by kernel_rfl) (by kernel_rfl) (fun _ _ _ h => h) (fun w' hw' => ?_) ?_
 ·
  obtain ⟨cb00, cb01, cb02, fb00, fb01, fb02⟩ := (Box.se hw' Xb0.out notin0).c3
  first | (go_simp; done) | (go_simp; simp_all; done) | (go_simp; rfl)
 simp only [Act.put, sI, sZ, sS]
 refine good_callX 1 69 (some 10) #[Go.Operand.tmp 9] #[37] (none) #[.agg #[.bool ba, sa, ta]] (by kernel_rfl) Hok.out (by kernel_rfl) (by kernel_rfl) (by kernel_rfl) (by kernel_rfl) rfl rfl rfl (by kernel_rfl) (fun w2 hb => ?_)
 have HG := lH (bC HG.out hb)
 clear hb
 (first | (have hcall := rsign_p (ba := ba) s Hs.out (iK Hna.out (kC HG.out)) (iK Hda.out (kC HG.out)) (by omega); refine cM hcall ?_; clear hcall) | refine cM (rsign_p (ba := ba) s Hs.out (iK Hna.out (kC HG.out)) (iK Hda.out (kC HG.out)) (by omega)) ?_)
 rintro e w3 ⟨v3, rfl, rfl, hb⟩
 refine ⟨_, rfl, ?_, hb⟩
 have HG := lH (bC HG.out hb)
 clear hb
 simp only [Act.put, sI, sZ, sS]
 refine good_callX 3 69 (some 12) #[Go.Operand.tmp 11] #[37] (none) #[.agg #[.bool bb, sb, tb]] (by kernel_rfl) Hok.out (by kernel_rfl) (by kernel_rfl) (by kernel_rfl) (by kernel_rfl) rfl rfl rfl (by kernel_rfl) (fun w4 hb => ?_)
 have HG := lH (bC HG.out hb)
 clear hb
 (first | (have hcall := rsign_p (ba := bb) t Ht.out (iK Hnb.out (kC HG.out)) (iK Hdb.out (kC HG.out)) (by omega); refine cM hcall ?_; clear hcall) | refine cM (rsign_p (ba := bb) t Ht.out (iK Hnb.out (kC HG.out)) (iK Hdb.out (kC HG.out)) (by omega)) ?_)
 rintro e w5 ⟨v5, rfl, rfl, hb⟩
 refine ⟨_, rfl, ?_, hb⟩
 have HG := lH (bC HG.out hb)
 clear hb
 simp only [Act.put, sI, sZ, sS]
 refine good_pureX 4 (some 5) (Go.Op.assign (Go.Operand.tmp 10)) (none) (.int .i64 s) (by kernel_rfl) (by kernel_rfl) (by kernel_rfl) (fun _ _ _ h => h) (fun w' hw' => ?_) ?_
 ·
  first | (go_simp; done) | (go_simp; simp_all; done) | (go_simp; rfl)
 simp only [Act.put, sI, sZ, sS]
 refine good_pureX 5 (some 6) (Go.Op.assign (Go.Operand.tmp 12)) (none) (.int .i64 t) (by kernel_rfl) (by kernel_rfl) (by kernel_rfl) (fun _ _ _ h => h) (fun w' hw' => ?_) ?_
 ·
  first | (go_simp; done) | (go_simp; simp_all; done) | (go_simp; rfl)
 simp only [Act.put, sI, sZ, sS]
 refine good_end0 0 (by kernel_rfl) (fun _ w6 hb => ?_)
 have HG := lH (bC HG.out hb)
 clear hb
 have Xa0 := lH (xP HG.out Xa0.out)
 have Xb0 := lH (xP HG.out Xb0.out)
 have HB := lH (bC HB.out HG.out)
 have HS := lH (SE.of (E := []) HG.out)
 refine wpAnyH_done (by kernel_rfl) ?_ _
 clear HG HS Hok 
 obtain ⟨ca00, ca01, ca02, fa00, fa01, fa02⟩ := Xa0.out.c3
 have la0 := Xa0.out.lt
 obtain ⟨cb00, cb01, cb02, fb00, fb01, fb02⟩ := Xb0.out.c3
 have lb0 := Xb0.out.lt
 go_wp2
 clear ca00 ca01 ca02 fa00 fa01 fa02 la0 cb00 cb01 cb02 fb00 fb01 fb02 lb0
 go_ret
 exact ⟨_, rfl, rfl, HB.out⟩
theorem rcmp_gt {L M : Nat} {ba : Bool} {na da : Nat} {sa ta : Value} {bb : Bool} {nb db : Nat} {sb tb : Value} {w : World} (s t : Int) (hs : (iv ba na).sign = s) (ht : (iv bb nb).sign = t) (d1 : (s != t) = true) (d2 : decide (s < t) = false) (hna : Is na L w sa) (hda : Is da L w ta) (hnb : Is nb M w sb) (hdb : Is db M w tb) (hL : L ≤ 100000000) (hM : M ≤ 100000000) :
  Calls Tryz.prog 36 #[.agg #[.bool ba, sa, ta], .agg #[.bool bb, sb, tb]] w (Ret w (Val (.int .i64 1))) := by
 have Hna := lH hna
 have Hda := lH hda
 have Hnb := lH hnb
 have Hdb := lH hdb
 have Hs := lH hs
 have Ht := lH ht
 clear hna hda hnb hdb hs ht
 go_enter Tryz.func36, Tryz.ntmps36
 have HB := lH (bR_ w.heap.size w)
 go_wp2_with fail
 obtain ⟨W1, hW⟩ : ∃ W1, W1 = (World.alloc (World.alloc w (.cells #[.bool ba, sa, ta] 37)) (.cells #[.bool bb, sb, tb] 37)) := ⟨_, rfl⟩
 rw [← hW]
 obtain ⟨xa0, xb0, hk, hb⟩ := boxes_2 _ _ _ _ _ hW
 clear hW
 have Hna := lH (iK Hna.out hk)
 have Hda := lH (iK Hda.out hk)
 have Hnb := lH (iK Hnb.out hk)
 have Hdb := lH (iK Hdb.out hk)
 have Ga0 := lH (show w.heap.size ≤ w.heap.size from tL_ HB.out.size (by omega))
 have Gb0 := lH (show w.heap.size ≤ w.heap.size + 1 from tL_ HB.out.size (by omega))
 have Xa0 := lH xa0
 have Xb0 := lH xb0
 have HB := lH (bC HB.out hb)
 clear hk hb xa0 xb0
 have Hna := lH (iK Hna.out (Keep.drew W1))
 have Hda := lH (iK Hda.out (Keep.drew W1))
 have Hnb := lH (iK Hnb.out (Keep.drew W1))
 have Hdb := lH (iK Hdb.out (Keep.drew W1))
 have Xa0 := lH (Box.drew Xa0.out)
 have Xb0 := lH (Box.drew Xb0.out)
 have HB := lH (Below.drew HB.out)
 refine wp_region_float [] [] (by kernel_rfl) (by kernel_rfl) 28 (by kernel_rfl) Flok.nil ?_
 intro ok
 have Hok := lH ok
 clear ok
 have HG := lH (bR_ (W1.drew).heap.size (W1.drew))
 refine good_pureX 0 (some 9) (Go.Op.load 37 (Go.Operand.tmp 2)) (none) (.agg #[.bool ba, sa, ta]) (by kernel_rfl) (by kernel_rfl) (by kernel_rfl) (fun _ _ _ h => h) (fun w' hw' => ?_) ?_
 ·
  obtain ⟨ca00, ca01, ca02, fa00, fa01, fa02⟩ := (Box.se hw' Xa0.out notin0).c3
  first | (go_simp; done) | (go_simp; simp_all; done) | (go_simp; rfl)
 simp only [Act.put, sI, sZ, sS]
 refine good_pureX 2 (some 11) (Go.Op.load 37 (Go.Operand.tmp 3)) (none) (.agg #[.bool bb, sb, tb]) (by kernel_rfl) (by kernel_rfl) (by kernel_rfl) (fun _ _ _ h => h) (fun w' hw' => ?_) ?_
 ·
  obtain ⟨cb00, cb01, cb02, fb00, fb01, fb02⟩ := (Box.se hw' Xb0.out notin0).c3
  first | (go_simp; done) | (go_simp; simp_all; done) | (go_simp; rfl)
 simp only [Act.put, sI, sZ, sS]
 refine good_callX 1 69 (some 10) #[Go.Operand.tmp 9] #[37] (none) #[.agg #[.bool ba, sa, ta]] (by kernel_rfl) Hok.out (by kernel_rfl) (by kernel_rfl) (by kernel_rfl) (by kernel_rfl) rfl rfl rfl (by kernel_rfl) (fun w2 hb => ?_)
 have HG := lH (bC HG.out hb)
 clear hb
 (first | (have hcall := rsign_p (ba := ba) s Hs.out (iK Hna.out (kC HG.out)) (iK Hda.out (kC HG.out)) (by omega); refine cM hcall ?_; clear hcall) | refine cM (rsign_p (ba := ba) s Hs.out (iK Hna.out (kC HG.out)) (iK Hda.out (kC HG.out)) (by omega)) ?_)
 rintro e w3 ⟨v3, rfl, rfl, hb⟩
 refine ⟨_, rfl, ?_, hb⟩
 have HG := lH (bC HG.out hb)
 clear hb
 simp only [Act.put, sI, sZ, sS]
 refine good_callX 3 69 (some 12) #[Go.Operand.tmp 11] #[37] (none) #[.agg #[.bool bb, sb, tb]] (by kernel_rfl) Hok.out (by kernel_rfl) (by kernel_rfl) (by kernel_rfl) (by kernel_rfl) rfl rfl rfl (by kernel_rfl) (fun w4 hb => ?_)
 have HG := lH (bC HG.out hb)
 clear hb
 (first | (have hcall := rsign_p (ba := bb) t Ht.out (iK Hnb.out (kC HG.out)) (iK Hdb.out (kC HG.out)) (by omega); refine cM hcall ?_; clear hcall) | refine cM (rsign_p (ba := bb) t Ht.out (iK Hnb.out (kC HG.out)) (iK Hdb.out (kC HG.out)) (by omega)) ?_)
 rintro e w5 ⟨v5, rfl, rfl, hb⟩
 refine ⟨_, rfl, ?_, hb⟩
 have HG := lH (bC HG.out hb)
 clear hb
 simp only [Act.put, sI, sZ, sS]
 refine good_pureX 4 (some 5) (Go.Op.assign (Go.Operand.tmp 10)) (none) (.int .i64 s) (by kernel_rfl) (by kernel_rfl) (by kernel_rfl) (fun _ _ _ h => h) (fun w' hw' => ?_) ?_
 ·
  first | (go_simp; done) | (go_simp; simp_all; done) | (go_simp; rfl)
 simp only [Act.put, sI, sZ, sS]
 refine good_pureX 5 (some 6) (Go.Op.assign (Go.Operand.tmp 12)) (none) (.int .i64 t) (by kernel_rfl) (by kernel_rfl) (by kernel_rfl) (fun _ _ _ h => h) (fun w' hw' => ?_) ?_
 ·
  first | (go_simp; done) | (go_simp; simp_all; done) | (go_simp; rfl)
 simp only [Act.put, sI, sZ, sS]
 refine good_end0 0 (by kernel_rfl) (fun _ w6 hb => ?_)
 have HG := lH (bC HG.out hb)
 clear hb
 have Xa0 := lH (xP HG.out Xa0.out)
 have Xb0 := lH (xP HG.out Xb0.out)
 have HB := lH (bC HB.out HG.out)
 have HS := lH (SE.of (E := []) HG.out)
 refine wpAnyH_done (by kernel_rfl) ?_ _
 clear HG HS Hok 
 obtain ⟨ca00, ca01, ca02, fa00, fa01, fa02⟩ := Xa0.out.c3
 have la0 := Xa0.out.lt
 obtain ⟨cb00, cb01, cb02, fb00, fb01, fb02⟩ := Xb0.out.c3
 have lb0 := Xb0.out.lt
 go_wp2
 clear ca00 ca01 ca02 fa00 fa01 fa02 la0 cb00 cb01 cb02 fb00 fb01 fb02 lb0
 go_ret
 exact ⟨_, rfl, rfl, HB.out⟩
theorem rcmp_eq {L M : Nat} {ba : Bool} {na da : Nat} {sa ta : Value} {bb : Bool} {nb db : Nat} {sb tb : Value} {w : World} (s k : Int) (hs : (iv ba na).sign = s) (ht : (iv bb nb).sign = s) (hk : (iv ba na * (un db : Nat) - iv bb nb * (un da : Nat)).sign = k) (hna : Is na L w sa) (hda : Is da L w ta) (hnb : Is nb M w sb) (hdb : Is db M w tb) (hL : L ≤ 100000000) (hM : M ≤ 100000000) :
  Calls Tryz.prog 36 #[.agg #[.bool ba, sa, ta], .agg #[.bool bb, sb, tb]] w (Ret w (Val (.int .i64 k))) := by
 have Hna := lH hna
 have Hda := lH hda
 have Hnb := lH hnb
 have Hdb := lH hdb
 have Hs := lH hs
 have Ht := lH ht
 have Hk := lH hk
 clear hna hda hnb hdb hs ht hk
 go_enter Tryz.func36, Tryz.ntmps36
 have HB := lH (bR_ w.heap.size w)
 go_wp2_with fail
 obtain ⟨W1, hW⟩ : ∃ W1, W1 = (World.alloc (World.alloc w (.cells #[.bool ba, sa, ta] 37)) (.cells #[.bool bb, sb, tb] 37)) := ⟨_, rfl⟩
 rw [← hW]
 obtain ⟨xa0, xb0, hk, hb⟩ := boxes_2 _ _ _ _ _ hW
 clear hW
 have Hna := lH (iK Hna.out hk)
 have Hda := lH (iK Hda.out hk)
 have Hnb := lH (iK Hnb.out hk)
 have Hdb := lH (iK Hdb.out hk)
 have Ga0 := lH (show w.heap.size ≤ w.heap.size from tL_ HB.out.size (by omega))
 have Gb0 := lH (show w.heap.size ≤ w.heap.size + 1 from tL_ HB.out.size (by omega))
 have Xa0 := lH xa0
 have Xb0 := lH xb0
 have HB := lH (bC HB.out hb)
 clear hk hb xa0 xb0
 have Hna := lH (iK Hna.out (Keep.drew W1))
 have Hda := lH (iK Hda.out (Keep.drew W1))
 have Hnb := lH (iK Hnb.out (Keep.drew W1))
 have Hdb := lH (iK Hdb.out (Keep.drew W1))
 have Xa0 := lH (Box.drew Xa0.out)
 have Xb0 := lH (Box.drew Xb0.out)
 have HB := lH (Below.drew HB.out)
 refine wp_region_float [] [] (by kernel_rfl) (by kernel_rfl) 28 (by kernel_rfl) Flok.nil ?_
 intro ok
 have Hok := lH ok
 clear ok
 have HG := lH (bR_ (W1.drew).heap.size (W1.drew))
 refine good_pureX 0 (some 9) (Go.Op.load 37 (Go.Operand.tmp 2)) (none) (.agg #[.bool ba, sa, ta]) (by kernel_rfl) (by kernel_rfl) (by kernel_rfl) (fun _ _ _ h => h) (fun w' hw' => ?_) ?_
 ·
  obtain ⟨ca00, ca01, ca02, fa00, fa01, fa02⟩ := (Box.se hw' Xa0.out notin0).c3
  first | (go_simp; done) | (go_simp; simp_all; done) | (go_simp; rfl)
 simp only [Act.put, sI, sZ, sS]
 refine good_pureX 2 (some 11) (Go.Op.load 37 (Go.Operand.tmp 3)) (none) (.agg #[.bool bb, sb, tb]) (by kernel_rfl) (by kernel_rfl) (by kernel_rfl) (fun _ _ _ h => h) (fun w' hw' => ?_) ?_
 ·
  obtain ⟨cb00, cb01, cb02, fb00, fb01, fb02⟩ := (Box.se hw' Xb0.out notin0).c3
  first | (go_simp; done) | (go_simp; simp_all; done) | (go_simp; rfl)
 simp only [Act.put, sI, sZ, sS]
 refine good_callX 1 69 (some 10) #[Go.Operand.tmp 9] #[37] (none) #[.agg #[.bool ba, sa, ta]] (by kernel_rfl) Hok.out (by kernel_rfl) (by kernel_rfl) (by kernel_rfl) (by kernel_rfl) rfl rfl rfl (by kernel_rfl) (fun w2 hb => ?_)
 have HG := lH (bC HG.out hb)
 clear hb
 (first | (have hcall := rsign_p (ba := ba) s Hs.out (iK Hna.out (kC HG.out)) (iK Hda.out (kC HG.out)) (by omega); refine cM hcall ?_; clear hcall) | refine cM (rsign_p (ba := ba) s Hs.out (iK Hna.out (kC HG.out)) (iK Hda.out (kC HG.out)) (by omega)) ?_)
 rintro e w3 ⟨v3, rfl, rfl, hb⟩
 refine ⟨_, rfl, ?_, hb⟩
 have HG := lH (bC HG.out hb)
 clear hb
 simp only [Act.put, sI, sZ, sS]
 refine good_callX 3 69 (some 12) #[Go.Operand.tmp 11] #[37] (none) #[.agg #[.bool bb, sb, tb]] (by kernel_rfl) Hok.out (by kernel_rfl) (by kernel_rfl) (by kernel_rfl) (by kernel_rfl) rfl rfl rfl (by kernel_rfl) (fun w4 hb => ?_)
 have HG := lH (bC HG.out hb)
 clear hb
 (first | (have hcall := rsign_p (ba := bb) s Ht.out (iK Hnb.out (kC HG.out)) (iK Hdb.out (kC HG.out)) (by omega); refine cM hcall ?_; clear hcall) | refine cM (rsign_p (ba := bb) s Ht.out (iK Hnb.out (kC HG.out)) (iK Hdb.out (kC HG.out)) (by omega)) ?_)
 rintro e w5 ⟨v5, rfl, rfl, hb⟩
 refine ⟨_, rfl, ?_, hb⟩
 have HG := lH (bC HG.out hb)
 clear hb
 simp only [Act.put, sI, sZ, sS]
 refine good_pureX 4 (some 5) (Go.Op.assign (Go.Operand.tmp 10)) (none) (.int .i64 s) (by kernel_rfl) (by kernel_rfl) (by kernel_rfl) (fun _ _ _ h => h) (fun w' hw' => ?_) ?_
 ·
  first | (go_simp; done) | (go_simp; simp_all; done) | (go_simp; rfl)
 simp only [Act.put, sI, sZ, sS]
 refine good_pureX 5 (some 6) (Go.Op.assign (Go.Operand.tmp 12)) (none) (.int .i64 s) (by kernel_rfl) (by kernel_rfl) (by kernel_rfl) (fun _ _ _ h => h) (fun w' hw' => ?_) ?_
 ·
  first | (go_simp; done) | (go_simp; simp_all; done) | (go_simp; rfl)
 simp only [Act.put, sI, sZ, sS]
 refine good_end0 0 (by kernel_rfl) (fun _ w6 hb => ?_)
 have HG := lH (bC HG.out hb)
 clear hb
 have Hna := lH (iK Hna.out (kC HG.out))
 have Hda := lH (iK Hda.out (kC HG.out))
 have Hnb := lH (iK Hnb.out (kC HG.out))
 have Hdb := lH (iK Hdb.out (kC HG.out))
 have Xa0 := lH (xP HG.out Xa0.out)
 have Xb0 := lH (xP HG.out Xb0.out)
 have HB := lH (bC HB.out HG.out)
 have HS := lH (SE.of (E := []) HG.out)
 refine wpAnyH_done (by kernel_rfl) ?_ _
 clear HG HS Hok 
 obtain ⟨ca00, ca01, ca02, fa00, fa01, fa02⟩ := Xa0.out.c3
 have la0 := Xa0.out.lt
 obtain ⟨cb00, cb01, cb02, fb00, fb01, fb02⟩ := Xb0.out.c3
 have lb0 := Xb0.out.lt
 go_wp2_with fail
 clear ca00 ca01 ca02 fa00 fa01 fa02 la0 cb00 cb01 cb02 fb00 fb01 fb02 lb0
 (first | (have hcall := cross_p (ba := ba) (bb := bb) Hna.out Hda.out Hnb.out Hdb.out (by omega) (by omega); refine cM hcall ?_; clear hcall) | refine cM (cross_p (ba := ba) (bb := bb) Hna.out Hda.out Hnb.out Hdb.out (by omega) (by omega)) ?_)
 rintro e w7 ⟨t7, rfl, ⟨v7, u7, rfl, hx, hv⟩, hb⟩
 obtain ⟨x_b, x_a, x_n, x_c, rfl⟩ := hx.litb
 obtain ⟨v_b, v_a, v_n, v_c, rfl⟩ := hv.litb
 have Xa0 := lH (xP hb Xa0.out)
 have Xb0 := lH (xP hb Xb0.out)
 have HB := lH (bC HB.out hb)
 have Hx := lH hx
 have Hv := lH hv
 clear hb hx hv
 obtain ⟨ca00, ca01, ca02, fa00, fa01, fa02⟩ := Xa0.out.c3
 have la0 := Xa0.out.lt
 obtain ⟨cb00, cb01, cb02, fb00, fb01, fb02⟩ := Xb0.out.c3
 have lb0 := Xb0.out.lt
 go_wp2_with fail
 clear ca00 ca01 ca02 fa00 fa01 fa02 la0 cb00 cb01 cb02 fb00 fb01 fb02 lb0
 obtain ⟨W8, hW⟩ : ∃ W8, W8 = (World.alloc (World.alloc w7 (.cells #[.bool x_b, .slice x_a x_n x_c] 103)) (.cells #[.bool v_b, .slice v_a v_n v_c] 103)) := ⟨_, rfl⟩
 rw [← hW]
 obtain ⟨xc0, xd0, hk, hb⟩ := boxes_2 _ _ _ _ _ hW
 clear hW
 have Hx := lH (CL.keep Hx.out hk)
 have Hv := lH (CL.keep Hv.out hk)
 have Na0c0 := lH (show w.heap.size ≠ w7.heap.size from Nat.ne_of_lt (Nat.lt_of_lt_of_le Xa0.out.lt (by omega)))
 have Nb0c0 := lH (show w.heap.size + 1 ≠ w7.heap.size from Nat.ne_of_lt (Nat.lt_of_lt_of_le Xb0.out.lt (by omega)))
 have Gc0 := lH (show w.heap.size ≤ w7.heap.size from tL_ HB.out.size (by omega))
 have Na0d0 := lH (show w.heap.size ≠ w7.heap.size + 1 from Nat.ne_of_lt (Nat.lt_of_lt_of_le Xa0.out.lt (by omega)))
 have Nb0d0 := lH (show w.heap.size + 1 ≠ w7.heap.size + 1 from Nat.ne_of_lt (Nat.lt_of_lt_of_le Xb0.out.lt (by omega)))
 have Gd0 := lH (show w.heap.size ≤ w7.heap.size + 1 from tL_ HB.out.size (by omega))
 have Xa0 := lH (xP hb Xa0.out)
 have Xb0 := lH (xP hb Xb0.out)
 have Xc0 := lH xc0
 have Xd0 := lH xd0
 have HB := lH (bC HB.out hb)
 clear hk hb xc0 xd0
 (first | (have hcall := icmp_ai k Hx.out.ai Hv.out.ai Hk.out (by omega) (by omega); refine cM hcall ?_; clear hcall) | refine cM (icmp_ai k Hx.out.ai Hv.out.ai Hk.out (by omega) (by omega)) ?_)
 rintro e w9 ⟨v9, rfl, rfl, hb⟩
 have Xa0 := lH (xP hb Xa0.out)
 have Xb0 := lH (xP hb Xb0.out)
 have Xc0 := lH (xP hb Xc0.out)
 have Xd0 := lH (xP hb Xd0.out)
 have HB := lH (bC HB.out hb)
 clear hb
 obtain ⟨ca00, ca01, ca02, fa00, fa01, fa02⟩ := Xa0.out.c3
 have la0 := Xa0.out.lt
 obtain ⟨cb00, cb01, cb02, fb00, fb01, fb02⟩ := Xb0.out.c3
 have lb0 := Xb0.out.lt
 obtain ⟨cc00, cc01, fc00, fc01⟩ := Xc0.out.c2
 have lc0 := Xc0.out.lt
 obtain ⟨cd00, cd01, fd00, fd01⟩ := Xd0.out.c2
 have ld0 := Xd0.out.lt
 go_wp2
 clear ca00 ca01 ca02 fa00 fa01 fa02 la0 cb00 cb01 cb02 fb00 fb01 fb02 lb0 cc00 cc01 fc00 fc01 lc0 cd00 cd01 fd00 fd01 ld0
 go_ret
 exact ⟨_, rfl, rfl, HB.out⟩
theorem rcmp_ar {a b : Rat} {L M : Nat} {u v : Value} {w : World} (k : Int) (h : AR a L w u) (h' : AR b M w v) (hk : cmpQ a b = k) (hL : L ≤ 100000000) (hM : M ≤ 100000000) :
  Calls Tryz.prog 36 #[u, v] w (Ret w (Val (.int .i64 k))) := by
 obtain ⟨ba, sa, ta, na, da, rfl, h1, h2, rfl⟩ := h
 obtain ⟨bb, sb, tb, nb, db, rfl, h3, h4, rfl⟩ := h'
 rw [cmpQ_rv] at hk
 rcases Int.lt_trichotomy (iv ba na).sign (iv bb nb).sign with hs | hs | hs
 ·
  rw [cross_lt hs] at hk
  subst hk
  exact rcmp_lt _ _ rfl rfl (by simp; omega) (by simpa using hs) h1 h2 h3 h4 hL hM
 ·
  exact rcmp_eq _ _ rfl hs.symm hk h1 h2 h3 h4 hL hM
 ·
  rw [cross_gt hs] at hk
  subst hk
  exact rcmp_gt _ _ rfl rfl (by simp; omega) (by simp; omega) h1 h2 h3 h4 hL hM
theorem rneg_p {L : Nat} {qa : Rat} {ba : Bool} {sa ta : Value} {w : World} (ha : AR qa L w (.agg #[.bool ba, sa, ta])) (hL : L ≤ 100000000) :
  Calls Tryz.prog 91 #[.agg #[.bool ba, sa, ta]] w (Ret w (CR (-qa) (max L 1))) := by
 have Ha := lH ha
 clear ha
 go_enter Tryz.func91, Tryz.ntmps91
 have HB := lH (bR_ w.heap.size w)
 go_wp2_with fail
 obtain ⟨W1, hW⟩ : ∃ W1, W1 = (World.alloc (World.alloc w (.cells #[.bool (!ba), sa, ta] 37)) (.cells #[.bool false, .slice none 0 0, .slice none 0 0] 37)) := ⟨_, rfl⟩
 rw [← hW]
 obtain ⟨xa0, xb0, hk, hb⟩ := boxes_2 _ _ _ _ _ hW
 clear hW
 have Ha := lH (AR.keep Ha.out hk)
 have Ga0 := lH (show w.heap.size ≤ w.heap.size from tL_ HB.out.size (by omega))
 have Gb0 := lH (show w.heap.size ≤ w.heap.size + 1 from tL_ HB.out.size (by omega))
 have Xa0 := lH xa0
 have Xb0 := lH xb0
 have HB := lH (bC HB.out hb)
 clear hk hb xa0 xb0
 (first | (have hcall := canon_ar (AR.neg Ha.out) (by omega); refine cM hcall ?_; clear hcall) | refine cM (canon_ar (AR.neg Ha.out) (by omega)) ?_)
 rintro e w2 ⟨v2, rfl, hz, hb⟩
 obtain ⟨z_b, z_a, z_n, z_c, z_d, z_m, z_e, rfl⟩ := hz.litb
 have Xa0 := lH (xP hb Xa0.out)
 have Xb0 := lH (xP hb Xb0.out)
 have HB := lH (bC HB.out hb)
 have Hz := lH hz
 clear hb hz
 obtain ⟨ca00, ca01, ca02, fa00, fa01, fa02⟩ := Xa0.out.c3
 have la0 := Xa0.out.lt
 obtain ⟨cb00, cb01, cb02, fb00, fb01, fb02⟩ := Xb0.out.c3
 have lb0 := Xb0.out.lt
 go_wp2
 clear ca00 ca01 ca02 fa00 fa01 fa02 la0 cb00 cb01 cb02 fb00 fb01 fb02 lb0
 obtain ⟨W3, hW⟩ : ∃ W3, W3 = (World.setCell (World.setCell (World.setCell w2 ⟨w.heap.size + 1, 0, none⟩ (.bool z_b)) ⟨w.heap.size + 1, 1, none⟩ (.slice z_a z_n z_c)) ⟨w.heap.size + 1, 2, none⟩ (.slice z_d z_m z_e)) := ⟨_, rfl⟩
 rw [← hW]
 obtain ⟨xb0, hk, hf, hbb, hz⟩ := stored3s hW Xb0.out (by first | exact nB_ _ | exact nS_ _ _ _) (by first | exact nB_ _ | exact nS_ _ _ _) (by first | exact nB_ _ | exact nS_ _ _ _)
 have Hz := lH (CR.keep Hz.out hk)
 have Xa0 := lH (hf _ _ _ Xa0.out (by omega))
 have Xb0 := lH xb0
 have HB := lH (hbb _ HB.out Gb0.out)
 clear hW hk hf hbb xb0
 clear hz
 exact ret_rat1 rfl rfl rfl Xb0.out Hz.out HB.out
theorem rneg_ar {q : Rat} {L : Nat} {v : Value} {w : World} (h : AR q L w v) (hL : L ≤ 100000000) : Calls Tryz.prog 91 #[v] w (Ret w (CR (-q) (max L 1))) := by
 obtain ⟨b, s, t, rfl⟩ := h.agg
 exact rneg_p h hL
theorem radd_p {L M : Nat} {ba : Bool} {na da : Nat} {sa ta : Value} {bb : Bool} {nb db : Nat} {sb tb : Value} {w : World} (hna : Is na L w sa) (hda : Is da L w ta) (hnb : Is nb M w sb) (hdb : Is db M w tb) (hL : L ≤ 100000000) (hM : M ≤ 100000000) :
  Calls Tryz.prog 86 #[.agg #[.bool ba, sa, ta], .agg #[.bool bb, sb, tb]] w (Ret w (CR (rv ba na da + rv bb nb db) (L + M + 3))) := by
 have Hna := lH hna
 have Hda := lH hda
 have Hnb := lH hnb
 have Hdb := lH hdb
 clear hna hda hnb hdb
 go_enter Tryz.func86, Tryz.ntmps86
 have HB := lH (bR_ w.heap.size w)
 go_wp2_with fail
 obtain ⟨W1, hW⟩ : ∃ W1, W1 = (World.alloc (World.alloc (World.alloc w (.cells #[.bool ba, sa, ta] 37)) (.cells #[.bool bb, sb, tb] 37)) (.cells #[.bool false, .slice none 0 0, .slice none 0 0] 37)) := ⟨_, rfl⟩
 rw [← hW]
 obtain ⟨xa0, xb0, xc0, hk, hb⟩ := boxes_3 _ _ _ _ _ _ _ hW
 clear hW
 have Hna := lH (iK Hna.out hk)
 have Hda := lH (iK Hda.out hk)
 have Hnb := lH (iK Hnb.out hk)
 have Hdb := lH (iK Hdb.out hk)
 have Ga0 := lH (show w.heap.size ≤ w.heap.size from tL_ HB.out.size (by omega))
 have Gb0 := lH (show w.heap.size ≤ w.heap.size + 1 from tL_ HB.out.size (by omega))
 have Gc0 := lH (show w.heap.size ≤ w.heap.size + 1 + 1 from tL_ HB.out.size (by omega))
 have Xa0 := lH xa0
 have Xb0 := lH xb0
 have Xc0 := lH xc0
 have HB := lH (bC HB.out hb)
 clear hk hb xa0 xb0 xc0
 (first | (have hcall := cross_p (ba := ba) (bb := bb) Hna.out Hda.out Hnb.out Hdb.out (by omega) (by omega); refine cM hcall ?_; clear hcall) | refine cM (cross_p (ba := ba) (bb := bb) Hna.out Hda.out Hnb.out Hdb.out (by omega) (by omega)) ?_)
 rintro e w2 ⟨t2, rfl, ⟨v2, u2, rfl, hx, hv⟩, hb⟩
 obtain ⟨x_b, x_a, x_n, x_c, rfl⟩ := hx.litb
 obtain ⟨v_b, v_a, v_n, v_c, rfl⟩ := hv.litb
 have Hda := lH (iK Hda.out (kC hb))
 have Hdb := lH (iK Hdb.out (kC hb))
 have Xa0 := lH (xP hb Xa0.out)
 have Xb0 := lH (xP hb Xb0.out)
 have Xc0 := lH (xP hb Xc0.out)
 have HB := lH (bC HB.out hb)
 have Hx := lH hx
 have Hv := lH hv
 clear hb hx hv
 obtain ⟨ca00, ca01, ca02, fa00, fa01, fa02⟩ := Xa0.out.c3
 have la0 := Xa0.out.lt
 obtain ⟨cb00, cb01, cb02, fb00, fb01, fb02⟩ := Xb0.out.c3
 have lb0 := Xb0.out.lt
 obtain ⟨cc00, cc01, cc02, fc00, fc01, fc02⟩ := Xc0.out.c3
 have lc0 := Xc0.out.lt
 go_wp2_with fail
 clear ca00 ca01 ca02 fa00 fa01 fa02 la0 cb00 cb01 cb02 fb00 fb01 fb02 lb0 cc00 cc01 cc02 fc00 fc01 fc02 lc0
 obtain ⟨W3, hW⟩ : ∃ W3, W3 = (World.alloc (World.alloc w2 (.cells #[.bool x_b, .slice x_a x_n x_c] 103)) (.cells #[.bool v_b, .slice v_a v_n v_c] 103)) := ⟨_, rfl⟩
 rw [← hW]
 obtain ⟨xd0, xe0, hk, hb⟩ := boxes_2 _ _ _ _ _ hW
 clear hW
 have Hda := lH (iK Hda.out hk)
 have Hdb := lH (iK Hdb.out hk)
 have Hx := lH (CL.keep Hx.out hk)
 have Hv := lH (CL.keep Hv.out hk)
 have Na0d0 := lH (show w.heap.size ≠ w2.heap.size from Nat.ne_of_lt (Nat.lt_of_lt_of_le Xa0.out.lt (by omega)))
 have Nb0d0 := lH (show w.heap.size + 1 ≠ w2.heap.size from Nat.ne_of_lt (Nat.lt_of_lt_of_le Xb0.out.lt (by omega)))
 have Nc0d0 := lH (show w.heap.size + 1 + 1 ≠ w2.heap.size from Nat.ne_of_lt (Nat.lt_of_lt_of_le Xc0.out.lt (by omega)))
 have Gd0 := lH (show w.heap.size ≤ w2.heap.size from tL_ HB.out.size (by omega))
 have Na0e0 := lH (show w.heap.size ≠ w2.heap.size + 1 from Nat.ne_of_lt (Nat.lt_of_lt_of_le Xa0.out.lt (by omega)))
 have Nb0e0 := lH (show w.heap.size + 1 ≠ w2.heap.size + 1 from Nat.ne_of_lt (Nat.lt_of_lt_of_le Xb0.out.lt (by omega)))
 have Nc0e0 := lH (show w.heap.size + 1 + 1 ≠ w2.heap.size + 1 from Nat.ne_of_lt (Nat.lt_of_lt_of_le Xc0.out.lt (by omega)))
 have Ge0 := lH (show w.heap.size ≤ w2.heap.size + 1 from tL_ HB.out.size (by omega))
 have Xa0 := lH (xP hb Xa0.out)
 have Xb0 := lH (xP hb Xb0.out)
 have Xc0 := lH (xP hb Xc0.out)
 have Xd0 := lH xd0
 have Xe0 := lH xe0
 have HB := lH (bC HB.out hb)
 clear hk hb xd0 xe0
 (first | (have hcall := iadd_ai Hx.out.ai Hv.out.ai (by omega) (by omega); refine cM hcall ?_; clear hcall) | refine cM (iadd_ai Hx.out.ai Hv.out.ai (by omega) (by omega)) ?_)
 rintro e w4 ⟨v4, rfl, hs, hb⟩
 obtain ⟨s_b, s_a, s_n, s_c, rfl⟩ := hs.litb
 have Hda := lH (iK Hda.out (kC hb))
 have Hdb := lH (iK Hdb.out (kC hb))
 have Xa0 := lH (xP hb Xa0.out)
 have Xb0 := lH (xP hb Xb0.out)
 have Xc0 := lH (xP hb Xc0.out)
 have Xd0 := lH (xP hb Xd0.out)
 have Xe0 := lH (xP hb Xe0.out)
 have HB := lH (bC HB.out hb)
 have Hs := lH hs
 clear hb hs
 obtain ⟨ca00, ca01, ca02, fa00, fa01, fa02⟩ := Xa0.out.c3
 have la0 := Xa0.out.lt
 obtain ⟨cb00, cb01, cb02, fb00, fb01, fb02⟩ := Xb0.out.c3
 have lb0 := Xb0.out.lt
 obtain ⟨cc00, cc01, cc02, fc00, fc01, fc02⟩ := Xc0.out.c3
 have lc0 := Xc0.out.lt
 obtain ⟨cd00, cd01, fd00, fd01⟩ := Xd0.out.c2
 have ld0 := Xd0.out.lt
 obtain ⟨ce00, ce01, fe00, fe01⟩ := Xe0.out.c2
 have le0 := Xe0.out.lt
 go_wp2_with fail
 clear ca00 ca01 ca02 fa00 fa01 fa02 la0 cb00 cb01 cb02 fb00 fb01 fb02 lb0 cc00 cc01 cc02 fc00 fc01 fc02 lc0 cd00 cd01 fd00 fd01 ld0 ce00 ce01 fe00 fe01 le0
 obtain ⟨W5, hW⟩ : ∃ W5, W5 = (World.alloc w4 (.cells #[.bool s_b, .slice s_a s_n s_c] 103)) := ⟨_, rfl⟩
 rw [← hW]
 obtain ⟨xf0, hk, hb⟩ := boxes_1 _ _ _ hW
 clear hW
 have Hda := lH (iK Hda.out hk)
 have Hdb := lH (iK Hdb.out hk)
 have Hs := lH (CL.keep Hs.out hk)
 have Na0f0 := lH (show w.heap.size ≠ w4.heap.size from Nat.ne_of_lt (Nat.lt_of_lt_of_le Xa0.out.lt (by omega)))
 have Nb0f0 := lH (show w.heap.size + 1 ≠ w4.heap.size from Nat.ne_of_lt (Nat.lt_of_lt_of_le Xb0.out.lt (by omega)))
 have Nc0f0 := lH (show w.heap.size + 1 + 1 ≠ w4.heap.size from Nat.ne_of_lt (Nat.lt_of_lt_of_le Xc0.out.lt (by omega)))
 have Nd0f0 := lH (show w2.heap.size ≠ w4.heap.size from Nat.ne_of_lt (Nat.lt_of_lt_of_le Xd0.out.lt (by omega)))
 have Ne0f0 := lH (show w2.heap.size + 1 ≠ w4.heap.size from Nat.ne_of_lt (Nat.lt_of_lt_of_le Xe0.out.lt (by omega)))
 have Gf0 := lH (show w.heap.size ≤ w4.heap.size from tL_ HB.out.size (by omega))
 have Xa0 := lH (xP hb Xa0.out)
 have Xb0 := lH (xP hb Xb0.out)
 have Xc0 := lH (xP hb Xc0.out)
 have Xd0 := lH (xP hb Xd0.out)
 have Xe0 := lH (xP hb Xe0.out)
 have Xf0 := lH xf0
 have HB := lH (bC HB.out hb)
 clear hk hb xf0
 have Hda := lH (iK Hda.out (Keep.drew W5))
 have Hdb := lH (iK Hdb.out (Keep.drew W5))
 have Hs := lH (CL.keep Hs.out (Keep.drew W5))
 have Xa0 := lH (Box.drew Xa0.out)
 have Xb0 := lH (Box.drew Xb0.out)
 have Xc0 := lH (Box.drew Xc0.out)
 have Xd0 := lH (Box.drew Xd0.out)
 have Xe0 := lH (Box.drew Xe0.out)
 have Xf0 := lH (Box.drew Xf0.out)
 have HB := lH (Below.drew HB.out)
 refine wp_region_float [w.heap.size + 1 + 1] [] (by kernel_rfl) (by kernel_rfl) 27 (by kernel_rfl) Flok.nil ?_
 intro ok
 have Hok := lH ok
 clear ok
 have HG := lH (bR_ (W5.drew).heap.size (W5.drew))
 refine good_pureX 0 (some 17) (Go.Op.fieldAddr 103 (Go.Operand.tmp 7) 0) (none) (.pointer (some ⟨w4.heap.size, 0, none⟩)) (by kernel_rfl) (by kernel_rfl) (by kernel_rfl) (fun _ _ _ h => h) (fun w' hw' => ?_) ?_
 ·
  first | (go_simp; done) | (go_simp; simp_all; done) | (go_simp; rfl)
 simp only [Act.put, sI, sZ, sS]
 refine good_pureX 1 (some 18) (Go.Op.load 4 (Go.Operand.tmp 17)) (none) (.bool s_b) (by kernel_rfl) (by kernel_rfl) (by kernel_rfl) (fun _ _ _ h => h) (fun w' hw' => ?_) ?_
 ·
  obtain ⟨cf00, cf01, ff00, ff01⟩ := (Box.se hw' Xf0.out (notin1 Nc0f0.out.symm)).c2
  first | (go_simp; done) | (go_simp; simp_all; done) | (go_simp; rfl)
 simp only [Act.put, sI, sZ, sS]
 refine good_pureX 2 (some 19) (Go.Op.fieldAddr 103 (Go.Operand.tmp 7) 1) (none) (.pointer (some ⟨w4.heap.size, 1, none⟩)) (by kernel_rfl) (by kernel_rfl) (by kernel_rfl) (fun _ _ _ h => h) (fun w' hw' => ?_) ?_
 ·
  first | (go_simp; done) | (go_simp; simp_all; done) | (go_simp; rfl)
 simp only [Act.put, sI, sZ, sS]
 refine good_pureX 3 (some 20) (Go.Op.load 35 (Go.Operand.tmp 19)) (none) (.slice s_a s_n s_c) (by kernel_rfl) (by kernel_rfl) (by kernel_rfl) (fun _ _ _ h => h) (fun w' hw' => ?_) ?_
 ·
  obtain ⟨cf00, cf01, ff00, ff01⟩ := (Box.se hw' Xf0.out (notin1 Nc0f0.out.symm)).c2
  first | (go_simp; done) | (go_simp; simp_all; done) | (go_simp; rfl)
 simp only [Act.put, sI, sZ, sS]
 refine good_pureX 4 (some 21) (Go.Op.load 37 (Go.Operand.tmp 2)) (none) (.agg #[.bool ba, sa, ta]) (by kernel_rfl) (by kernel_rfl) (by kernel_rfl) (fun _ _ _ h => h) (fun w' hw' => ?_) ?_
 ·
  obtain ⟨ca00, ca01, ca02, fa00, fa01, fa02⟩ := (Box.se hw' Xa0.out (notin1 (by omega))).c3
  first | (go_simp; done) | (go_simp; simp_all; done) | (go_simp; rfl)
 simp only [Act.put, sI, sZ, sS]
 refine good_pureX 6 (some 23) (Go.Op.load 37 (Go.Operand.tmp 3)) (none) (.agg #[.bool bb, sb, tb]) (by kernel_rfl) (by kernel_rfl) (by kernel_rfl) (fun _ _ _ h => h) (fun w' hw' => ?_) ?_
 ·
  obtain ⟨cb00, cb01, cb02, fb00, fb01, fb02⟩ := (Box.se hw' Xb0.out (notin1 (by omega))).c3
  first | (go_simp; done) | (go_simp; simp_all; done) | (go_simp; rfl)
 simp only [Act.put, sI, sZ, sS]
 refine good_callX 5 117 (some 22) #[Go.Operand.tmp 21] #[37] (none) #[.agg #[.bool ba, sa, ta]] (by kernel_rfl) Hok.out (by kernel_rfl) (by kernel_rfl) (by kernel_rfl) (by kernel_rfl) rfl rfl rfl (by kernel_rfl) (fun w6 hb => ?_)
 have HG := lH (bC HG.out hb)
 clear hb
 (first | (have hcall := under_is (b := ba) (iK Hda.out (kC HG.out)) (by omega); refine cM hcall ?_; clear hcall) | refine cM (under_is (b := ba) (iK Hda.out (kC HG.out)) (by omega)) ?_)
 rintro e w7 ⟨v7, rfl, hp, hb⟩
 obtain ⟨p_a, p_n, p_c, rfl⟩ := hp.lit
 refine ⟨_, rfl, ?_, hb⟩
 have HG := lH (bC HG.out hb)
 have Hp := lH hp
 clear hb hp
 simp only [Act.put, sI, sZ, sS]
 refine good_callX 7 117 (some 24) #[Go.Operand.tmp 23] #[37] (none) #[.agg #[.bool bb, sb, tb]] (by kernel_rfl) Hok.out (by kernel_rfl) (by kernel_rfl) (by kernel_rfl) (by kernel_rfl) rfl rfl rfl (by kernel_rfl) (fun w8 hb => ?_)
 have Hp := lH (iK Hp.out (kC hb))
 have HG := lH (bC HG.out hb)
 clear hb
 (first | (have hcall := under_is (b := bb) (iK Hdb.out (kC HG.out)) (by omega); refine cM hcall ?_; clear hcall) | refine cM (under_is (b := bb) (iK Hdb.out (kC HG.out)) (by omega)) ?_)
 rintro e w9 ⟨v9, rfl, hq, hb⟩
 obtain ⟨q_a, q_n, q_c, rfl⟩ := hq.lit
 refine ⟨_, rfl, ?_, hb⟩
 have Hp := lH (iK Hp.out (kC hb))
 have HG := lH (bC HG.out hb)
 have Hq := lH hq
 clear hb hq
 simp only [Act.put, sI, sZ, sS]
 refine good_callX 8 130 (some 25) #[Go.Operand.tmp 22, Go.Operand.tmp 24] #[35, 35] (none) #[.slice p_a p_n p_c, .slice q_a q_n q_c] (by kernel_rfl) Hok.out (by kernel_rfl) (by kernel_rfl) (by kernel_rfl) (by kernel_rfl) rfl rfl rfl (by kernel_rfl) (fun w10 hb => ?_)
 have Hp := lH (iK Hp.out (kC hb))
 have Hq := lH (iK Hq.out (kC hb))
 have HG := lH (bC HG.out hb)
 clear hb
 (first | (have hcall := mul_is Hp.out Hq.out (by omega) (by omega); refine cM hcall ?_; clear hcall) | refine cM (mul_is Hp.out Hq.out (by omega) (by omega)) ?_)
 rintro e w11 ⟨v11, rfl, hm, hb⟩
 obtain ⟨m_a, m_n, m_c, rfl⟩ := hm.is.lit
 refine ⟨_, rfl, ?_, hb⟩
 have HG := lH (bC HG.out hb)
 have Hm := lH hm
 clear hb hm
 simp only [Act.put, sI, sZ, sS]
 refine good_callX 9 116 (some 26) #[Go.Operand.tmp 18, Go.Operand.tmp 20, Go.Operand.tmp 25] #[4, 35, 35] (none) #[.bool s_b, .slice s_a s_n s_c, .slice m_a m_n m_c] (by kernel_rfl) Hok.out (by kernel_rfl) (by kernel_rfl) (by kernel_rfl) (by kernel_rfl) rfl rfl rfl (by kernel_rfl) (fun w12 hb => ?_)
 have Hm := lH (Can.keep Hm.out (kC hb))
 have HG := lH (bC HG.out hb)
 clear hb
 refine cM (quot_is (neg := s_b) (Nat.mul_pos (un_pos _) (un_pos _)) (CL.keep Hs.out (kC HG.out)).mag.is Hm.out.is (by omega) (by omega)) ?_
 rintro e w13 ⟨v13, rfl, hz, hb⟩
 obtain ⟨z_b, z_a, z_n, z_c, z_d, z_m, z_e, rfl⟩ := hz.litb
 refine ⟨_, rfl, ?_, hb⟩
 have HG := lH (bC HG.out hb)
 have Hz := lH hz
 clear hb hz
 simp only [Act.put, sI, sZ, sS]
 refine good_end0 1 (by kernel_rfl) (fun _ w14 hb => ?_)
 have Hz := lH (CR.keep Hz.out (kC hb))
 have HG := lH (bC HG.out hb)
 clear hb
 have Hs := lH (CL.keep Hs.out (kC HG.out))
 have Xa0 := lH (xP HG.out Xa0.out)
 have Xb0 := lH (xP HG.out Xb0.out)
 have Xc0 := lH (xP HG.out Xc0.out)
 have Xd0 := lH (xP HG.out Xd0.out)
 have Xe0 := lH (xP HG.out Xe0.out)
 have Xf0 := lH (xP HG.out Xf0.out)
 have HB := lH (bC HB.out HG.out)
 have HS := lH (SE.of (E := [w.heap.size + 1 + 1]) HG.out)
 refine held_oneX 10 (Go.Op.store 37 (Go.Operand.tmp 4) (Go.Operand.tmp 26)) (none) (World.setCell (World.setCell (World.setCell w14 ⟨w.heap.size + 1 + 1, 0, none⟩ (.bool z_b)) ⟨w.heap.size + 1 + 1, 1, none⟩ (.slice z_a z_n z_c)) ⟨w.heap.size + 1 + 1, 2, none⟩ (.slice z_d z_m z_e)) (by kernel_rfl) (by kernel_rfl) (by kernel_rfl) (by kernel_rfl) ?_ (HS.out.store3 in1) ?_
 ·
  obtain ⟨cc00, cc01, cc02, fc00, fc01, fc02⟩ := Xc0.out.c3
  first | (go_simp; done) | (go_simp; simp_all; done) | (go_simp; rfl)
 obtain ⟨W15, hW⟩ : ∃ W15, W15 = (World.setCell (World.setCell (World.setCell w14 ⟨w.heap.size + 1 + 1, 0, none⟩ (.bool z_b)) ⟨w.heap.size + 1 + 1, 1, none⟩ (.slice z_a z_n z_c)) ⟨w.heap.size + 1 + 1, 2, none⟩ (.slice z_d z_m z_e)) := ⟨_, rfl⟩
 rw [← hW]
 obtain ⟨xc0, hk, hf, hbb, hz⟩ := stored3s hW Xc0.out (by first | exact nB_ _ | exact nS_ _ _ _) (by first | exact nB_ _ | exact nS_ _ _ _) (by first | exact nB_ _ | exact nS_ _ _ _)
 have Hs := lH (CL.keep Hs.out hk)
 have Hz := lH (CR.keep Hz.out hk)
 have Xa0 := lH (hf _ _ _ Xa0.out (by omega))
 have Xb0 := lH (hf _ _ _ Xb0.out (by omega))
 have Xc0 := lH xc0
 have Xd0 := lH (hf _ _ _ Xd0.out Nc0d0.out.symm)
 have Xe0 := lH (hf _ _ _ Xe0.out Nc0e0.out.symm)
 have Xf0 := lH (hf _ _ _ Xf0.out Nc0f0.out.symm)
 have HB := lH (hbb _ HB.out Gc0.out)
 have HS := lH (show SE (W5.drew) [w.heap.size + 1 + 1] W15 from by rw [hW]; exact HS.out.store3 in1)
 clear hW hk hf hbb xc0
 clear hz
 refine wpAnyH_done (by kernel_rfl) ?_ _
 clear HG HS Hok 
 obtain ⟨ca00, ca01, ca02, fa00, fa01, fa02⟩ := Xa0.out.c3
 have la0 := Xa0.out.lt
 obtain ⟨cb00, cb01, cb02, fb00, fb01, fb02⟩ := Xb0.out.c3
 have lb0 := Xb0.out.lt
 obtain ⟨cc00, cc01, cc02, fc00, fc01, fc02⟩ := Xc0.out.c3
 have lc0 := Xc0.out.lt
 obtain ⟨cd00, cd01, fd00, fd01⟩ := Xd0.out.c2
 have ld0 := Xd0.out.lt
 obtain ⟨ce00, ce01, fe00, fe01⟩ := Xe0.out.c2
 have le0 := Xe0.out.lt
 obtain ⟨cf00, cf01, ff00, ff01⟩ := Xf0.out.c2
 have lf0 := Xf0.out.lt
 go_wp2
 clear ca00 ca01 ca02 fa00 fa01 fa02 la0 cb00 cb01 cb02 fb00 fb01 fb02 lb0 cc00 cc01 cc02 fc00 fc01 fc02 lc0 cd00 cd01 fd00 fd01 ld0 ce00 ce01 fe00 fe01 le0 cf00 cf01 ff00 ff01 lf0
 exact ret_rat1 rfl rfl rfl Xc0.out (CR.mono (CR.cast (add_parts (CL.iv Hs.out)) Hz.out) (by omega)) HB.out
theorem radd_ar {a b : Rat} {L M : Nat} {u v : Value} {w : World} (h : AR a L w u) (h' : AR b M w v) (hL : L ≤ 100000000) (hM : M ≤ 100000000) :
  Calls Tryz.prog 86 #[u, v] w (Ret w (CR (a + b) (L + M + 3))) := by
 obtain ⟨ba, sa, ta, na, da, rfl, h1, h2, rfl⟩ := h
 obtain ⟨bb, sb, tb, nb, db, rfl, h3, h4, rfl⟩ := h'
 exact radd_p h1 h2 h3 h4 hL hM
theorem rsub_p {L M : Nat} {qa : Rat} {ba : Bool} {sa ta : Value} {qb : Rat} {bb : Bool} {sb tb : Value} {w : World} (ha : AR qa L w (.agg #[.bool ba, sa, ta])) (hb : AR qb M w (.agg #[.bool bb, sb, tb])) (hL : L ≤ 100000000) (hM : M ≤ 100000000) :
  Calls Tryz.prog 84 #[.agg #[.bool ba, sa, ta], .agg #[.bool bb, sb, tb]] w (Ret w (CR (qa - qb) (L + M + 3))) := by
 have Ha := lH ha
 have Hb := lH hb
 clear ha hb
 go_enter Tryz.func84, Tryz.ntmps84
 have HB := lH (bR_ w.heap.size w)
 go_wp2_with fail
 obtain ⟨W1, hW⟩ : ∃ W1, W1 = (World.alloc (World.alloc (World.alloc w (.cells #[.bool ba, sa, ta] 37)) (.cells #[.bool (!bb), sb, tb] 37)) (.cells #[.bool false, .slice none 0 0, .slice none 0 0] 37)) := ⟨_, rfl⟩
 rw [← hW]
 obtain ⟨xa0, xb0, xc0, hk, hb⟩ := boxes_3 _ _ _ _ _ _ _ hW
 clear hW
 have Ha := lH (AR.keep Ha.out hk)
 have Hb := lH (AR.keep Hb.out hk)
 have Ga0 := lH (show w.heap.size ≤ w.heap.size from tL_ HB.out.size (by omega))
 have Gb0 := lH (show w.heap.size ≤ w.heap.size + 1 from tL_ HB.out.size (by omega))
 have Gc0 := lH (show w.heap.size ≤ w.heap.size + 1 + 1 from tL_ HB.out.size (by omega))
 have Xa0 := lH xa0
 have Xb0 := lH xb0
 have Xc0 := lH xc0
 have HB := lH (bC HB.out hb)
 clear hk hb xa0 xb0 xc0
 (first | (have hcall := radd_ar Ha.out (AR.neg Hb.out) (by omega) (by omega); refine cM hcall ?_; clear hcall) | refine cM (radd_ar Ha.out (AR.neg Hb.out) (by omega) (by omega)) ?_)
 rintro e w2 ⟨v2, rfl, hz, hb⟩
 obtain ⟨z_b, z_a, z_n, z_c, z_d, z_m, z_e, rfl⟩ := hz.litb
 have Xa0 := lH (xP hb Xa0.out)
 have Xb0 := lH (xP hb Xb0.out)
 have Xc0 := lH (xP hb Xc0.out)
 have HB := lH (bC HB.out hb)
 have Hz := lH hz
 clear hb hz
 obtain ⟨ca00, ca01, ca02, fa00, fa01, fa02⟩ := Xa0.out.c3
 have la0 := Xa0.out.lt
 obtain ⟨cb00, cb01, cb02, fb00, fb01, fb02⟩ := Xb0.out.c3
 have lb0 := Xb0.out.lt
 obtain ⟨cc00, cc01, cc02, fc00, fc01, fc02⟩ := Xc0.out.c3
 have lc0 := Xc0.out.lt
 go_wp2
 clear ca00 ca01 ca02 fa00 fa01 fa02 la0 cb00 cb01 cb02 fb00 fb01 fb02 lb0 cc00 cc01 cc02 fc00 fc01 fc02 lc0
 obtain ⟨W3, hW⟩ : ∃ W3, W3 = (World.setCell (World.setCell (World.setCell w2 ⟨w.heap.size + 1 + 1, 0, none⟩ (.bool z_b)) ⟨w.heap.size + 1 + 1, 1, none⟩ (.slice z_a z_n z_c)) ⟨w.heap.size + 1 + 1, 2, none⟩ (.slice z_d z_m z_e)) := ⟨_, rfl⟩
 rw [← hW]
 obtain ⟨xc0, hk, hf, hbb, hz⟩ := stored3s hW Xc0.out (by first | exact nB_ _ | exact nS_ _ _ _) (by first | exact nB_ _ | exact nS_ _ _ _) (by first | exact nB_ _ | exact nS_ _ _ _)
 have Hz := lH (CR.keep Hz.out hk)
 have Xa0 := lH (hf _ _ _ Xa0.out (by omega))
 have Xb0 := lH (hf _ _ _ Xb0.out (by omega))
 have Xc0 := lH xc0
 have HB := lH (hbb _ HB.out Gc0.out)
 clear hW hk hf hbb xc0
 clear hz
 exact ret_rat1 rfl rfl rfl Xc0.out (CR.cast (Rat.sub_eq_add_neg _ _).symm Hz.out) HB.out
theorem rsub_ar {a b : Rat} {L M : Nat} {u v : Value} {w : World} (h : AR a L w u) (h' : AR b M w v) (hL : L ≤ 100000000) (hM : M ≤ 100000000) : Calls Tryz.prog 84 #[u, v] w (Ret w (CR (a - b) (L + M + 3))) := by
 obtain ⟨ba, sa, ta, rfl⟩ := h.agg
 obtain ⟨bb, sb, tb, rfl⟩ := h'.agg
 exact rsub_p h h' hL hM
theorem rmul_p {L M : Nat} {ba : Bool} {na da : Nat} {sa ta : Value} {bb : Bool} {nb db : Nat} {sb tb : Value} {w : World} (hna : Is na L w sa) (hda : Is da L w ta) (hnb : Is nb M w sb) (hdb : Is db M w tb) (hL : L ≤ 100000000) (hM : M ≤ 100000000) :
  Calls Tryz.prog 134 #[.agg #[.bool ba, sa, ta], .agg #[.bool bb, sb, tb]] w (Ret w (CR (rv ba na da * rv bb nb db) (L + M + 2))) := by
 have Hna := lH hna
 have Hda := lH hda
 have Hnb := lH hnb
 have Hdb := lH hdb
 clear hna hda hnb hdb
 go_enter Tryz.func134, Tryz.ntmps134
 have HB := lH (bR_ w.heap.size w)
 go_wp2_with fail
 obtain ⟨W1, hW⟩ : ∃ W1, W1 = (World.alloc (World.alloc (World.alloc w (.cells #[.bool ba, sa, ta] 37)) (.cells #[.bool bb, sb, tb] 37)) (.cells #[.bool false, .slice none 0 0, .slice none 0 0] 37)) := ⟨_, rfl⟩
 rw [← hW]
 obtain ⟨xa0, xb0, xc0, hk, hb⟩ := boxes_3 _ _ _ _ _ _ _ hW
 clear hW
 have Hna := lH (iK Hna.out hk)
 have Hda := lH (iK Hda.out hk)
 have Hnb := lH (iK Hnb.out hk)
 have Hdb := lH (iK Hdb.out hk)
 have Ga0 := lH (show w.heap.size ≤ w.heap.size from tL_ HB.out.size (by omega))
 have Gb0 := lH (show w.heap.size ≤ w.heap.size + 1 from tL_ HB.out.size (by omega))
 have Gc0 := lH (show w.heap.size ≤ w.heap.size + 1 + 1 from tL_ HB.out.size (by omega))
 have Xa0 := lH xa0
 have Xb0 := lH xb0
 have Xc0 := lH xc0
 have HB := lH (bC HB.out hb)
 clear hk hb xa0 xb0 xc0
 have Hna := lH (iK Hna.out (Keep.drew W1))
 have Hda := lH (iK Hda.out (Keep.drew W1))
 have Hnb := lH (iK Hnb.out (Keep.drew W1))
 have Hdb := lH (iK Hdb.out (Keep.drew W1))
 have Xa0 := lH (Box.drew Xa0.out)
 have Xb0 := lH (Box.drew Xb0.out)
 have Xc0 := lH (Box.drew Xc0.out)
 have HB := lH (Below.drew HB.out)
 refine wp_region_float [w.heap.size + 1 + 1] [] (by kernel_rfl) (by kernel_rfl) 21 (by kernel_rfl) Flok.nil ?_
 intro ok
 have Hok := lH ok
 clear ok
 have HG := lH (bR_ (W1.drew).heap.size (W1.drew))
 refine good_pureX 0 (some 5) (Go.Op.fieldAddr 37 (Go.Operand.tmp 2) 0) (none) (.pointer (some ⟨w.heap.size, 0, none⟩)) (by kernel_rfl) (by kernel_rfl) (by kernel_rfl) (fun _ _ _ h => h) (fun w' hw' => ?_) ?_
 ·
  first | (go_simp; done) | (go_simp; simp_all; done) | (go_simp; rfl)
 simp only [Act.put, sI, sZ, sS]
 refine good_pureX 1 (some 6) (Go.Op.load 4 (Go.Operand.tmp 5)) (none) (.bool ba) (by kernel_rfl) (by kernel_rfl) (by kernel_rfl) (fun _ _ _ h => h) (fun w' hw' => ?_) ?_
 ·
  obtain ⟨ca00, ca01, ca02, fa00, fa01, fa02⟩ := (Box.se hw' Xa0.out (notin1 (by omega))).c3
  first | (go_simp; done) | (go_simp; simp_all; done) | (go_simp; rfl)
 simp only [Act.put, sI, sZ, sS]
 refine good_pureX 2 (some 7) (Go.Op.fieldAddr 37 (Go.Operand.tmp 3) 0) (none) (.pointer (some ⟨w.heap.size + 1, 0, none⟩)) (by kernel_rfl) (by kernel_rfl) (by kernel_rfl) (fun _ _ _ h => h) (fun w' hw' => ?_) ?_
 ·
  first | (go_simp; done) | (go_simp; simp_all; done) | (go_simp; rfl)
 simp only [Act.put, sI, sZ, sS]
 refine good_pureX 3 (some 8) (Go.Op.load 4 (Go.Operand.tmp 7)) (none) (.bool bb) (by kernel_rfl) (by kernel_rfl) (by kernel_rfl) (fun _ _ _ h => h) (fun w' hw' => ?_) ?_
 ·
  obtain ⟨cb00, cb01, cb02, fb00, fb01, fb02⟩ := (Box.se hw' Xb0.out (notin1 (by omega))).c3
  first | (go_simp; done) | (go_simp; simp_all; done) | (go_simp; rfl)
 simp only [Act.put, sI, sZ, sS]
 refine good_pureX 4 (some 9) (Go.Op.binOp Go.BinOp.neq 4 (Go.Operand.tmp 6) (Go.Operand.tmp 8) 4) (none) (.bool (!ba == bb)) (by kernel_rfl) (by kernel_rfl) (by kernel_rfl) (fun _ _ _ h => h) (fun w' hw' => ?_) ?_
 ·
  first | (go_simp; done) | (go_simp; simp_all; done) | (go_simp; rfl)
 simp only [Act.put, sI, sZ, sS]
 refine good_pureX 5 (some 10) (Go.Op.fieldAddr 37 (Go.Operand.tmp 2) 1) (none) (.pointer (some ⟨w.heap.size, 1, none⟩)) (by kernel_rfl) (by kernel_rfl) (by kernel_rfl) (fun _ _ _ h => h) (fun w' hw' => ?_) ?_
 ·
  first | (go_simp; done) | (go_simp; simp_all; done) | (go_simp; rfl)
 simp only [Act.put, sI, sZ, sS]
 refine good_pureX 6 (some 11) (Go.Op.load 35 (Go.Operand.tmp 10)) (none) (sa) (by kernel_rfl) (by kernel_rfl) (by kernel_rfl) (fun _ _ _ h => h) (fun w' hw' => ?_) ?_
 ·
  obtain ⟨ca00, ca01, ca02, fa00, fa01, fa02⟩ := (Box.se hw' Xa0.out (notin1 (by omega))).c3
  first | (go_simp; done) | (go_simp; simp_all; done) | (go_simp; rfl)
 simp only [Act.put, sI, sZ, sS]
 refine good_pureX 7 (some 12) (Go.Op.fieldAddr 37 (Go.Operand.tmp 3) 1) (none) (.pointer (some ⟨w.heap.size + 1, 1, none⟩)) (by kernel_rfl) (by kernel_rfl) (by kernel_rfl) (fun _ _ _ h => h) (fun w' hw' => ?_) ?_
 ·
  first | (go_simp; done) | (go_simp; simp_all; done) | (go_simp; rfl)
 simp only [Act.put, sI, sZ, sS]
 refine good_pureX 8 (some 13) (Go.Op.load 35 (Go.Operand.tmp 12)) (none) (sb) (by kernel_rfl) (by kernel_rfl) (by kernel_rfl) (fun _ _ _ h => h) (fun w' hw' => ?_) ?_
 ·
  obtain ⟨cb00, cb01, cb02, fb00, fb01, fb02⟩ := (Box.se hw' Xb0.out (notin1 (by omega))).c3
  first | (go_simp; done) | (go_simp; simp_all; done) | (go_simp; rfl)
 simp only [Act.put, sI, sZ, sS]
 refine good_pureX 10 (some 15) (Go.Op.load 37 (Go.Operand.tmp 2)) (none) (.agg #[.bool ba, sa, ta]) (by kernel_rfl) (by kernel_rfl) (by kernel_rfl) (fun _ _ _ h => h) (fun w' hw' => ?_) ?_
 ·
  obtain ⟨ca00, ca01, ca02, fa00, fa01, fa02⟩ := (Box.se hw' Xa0.out (notin1 (by omega))).c3
  first | (go_simp; done) | (go_simp; simp_all; done) | (go_simp; rfl)
 simp only [Act.put, sI, sZ, sS]
 refine good_pureX 12 (some 17) (Go.Op.load 37 (Go.Operand.tmp 3)) (none) (.agg #[.bool bb, sb, tb]) (by kernel_rfl) (by kernel_rfl) (by kernel_rfl) (fun _ _ _ h => h) (fun w' hw' => ?_) ?_
 ·
  obtain ⟨cb00, cb01, cb02, fb00, fb01, fb02⟩ := (Box.se hw' Xb0.out (notin1 (by omega))).c3
  first | (go_simp; done) | (go_simp; simp_all; done) | (go_simp; rfl)
 simp only [Act.put, sI, sZ, sS]
 refine good_callX 9 130 (some 14) #[Go.Operand.tmp 11, Go.Operand.tmp 13] #[35, 35] (none) #[sa, sb] (by kernel_rfl) Hok.out (by kernel_rfl) (by kernel_rfl) (by kernel_rfl) (by kernel_rfl) rfl rfl rfl (by kernel_rfl) (fun w2 hb => ?_)
 have HG := lH (bC HG.out hb)
 clear hb
 (first | (have hcall := mul_is (iK Hna.out (kC HG.out)) (iK Hnb.out (kC HG.out)) (by omega) (by omega); refine cM hcall ?_; clear hcall) | refine cM (mul_is (iK Hna.out (kC HG.out)) (iK Hnb.out (kC HG.out)) (by omega) (by omega)) ?_)
 rintro e w3 ⟨v3, rfl, hx, hb⟩
 obtain ⟨x_a, x_n, x_c, rfl⟩ := hx.is.lit
 refine ⟨_, rfl, ?_, hb⟩
 have HG := lH (bC HG.out hb)
 have Hx := lH hx
 clear hb hx
 simp only [Act.put, sI, sZ, sS]
 refine good_callX 11 117 (some 16) #[Go.Operand.tmp 15] #[37] (none) #[.agg #[.bool ba, sa, ta]] (by kernel_rfl) Hok.out (by kernel_rfl) (by kernel_rfl) (by kernel_rfl) (by kernel_rfl) rfl rfl rfl (by kernel_rfl) (fun w4 hb => ?_)
 have Hx := lH (Can.keep Hx.out (kC hb))
 have HG := lH (bC HG.out hb)
 clear hb
 (first | (have hcall := under_is (b := ba) (iK Hda.out (kC HG.out)) (by omega); refine cM hcall ?_; clear hcall) | refine cM (under_is (b := ba) (iK Hda.out (kC HG.out)) (by omega)) ?_)
 rintro e w5 ⟨v5, rfl, hp, hb⟩
 obtain ⟨p_a, p_n, p_c, rfl⟩ := hp.lit
 refine ⟨_, rfl, ?_, hb⟩
 have Hx := lH (Can.keep Hx.out (kC hb))
 have HG := lH (bC HG.out hb)
 have Hp := lH hp
 clear hb hp
 simp only [Act.put, sI, sZ, sS]
 refine good_callX 13 117 (some 18) #[Go.Operand.tmp 17] #[37] (none) #[.agg #[.bool bb, sb, tb]] (by kernel_rfl) Hok.out (by kernel_rfl) (by kernel_rfl) (by kernel_rfl) (by kernel_rfl) rfl rfl rfl (by kernel_rfl) (fun w6 hb => ?_)
 have Hx := lH (Can.keep Hx.out (kC hb))
 have Hp := lH (iK Hp.out (kC hb))
 have HG := lH (bC HG.out hb)
 clear hb
 (first | (have hcall := under_is (b := bb) (iK Hdb.out (kC HG.out)) (by omega); refine cM hcall ?_; clear hcall) | refine cM (under_is (b := bb) (iK Hdb.out (kC HG.out)) (by omega)) ?_)
 rintro e w7 ⟨v7, rfl, hq, hb⟩
 obtain ⟨q_a, q_n, q_c, rfl⟩ := hq.lit
 refine ⟨_, rfl, ?_, hb⟩
 have Hx := lH (Can.keep Hx.out (kC hb))
 have Hp := lH (iK Hp.out (kC hb))
 have HG := lH (bC HG.out hb)
 have Hq := lH hq
 clear hb hq
 simp only [Act.put, sI, sZ, sS]
 refine good_callX 14 130 (some 19) #[Go.Operand.tmp 16, Go.Operand.tmp 18] #[35, 35] (none) #[.slice p_a p_n p_c, .slice q_a q_n q_c] (by kernel_rfl) Hok.out (by kernel_rfl) (by kernel_rfl) (by kernel_rfl) (by kernel_rfl) rfl rfl rfl (by kernel_rfl) (fun w8 hb => ?_)
 have Hx := lH (Can.keep Hx.out (kC hb))
 have Hp := lH (iK Hp.out (kC hb))
 have Hq := lH (iK Hq.out (kC hb))
 have HG := lH (bC HG.out hb)
 clear hb
 (first | (have hcall := mul_is Hp.out Hq.out (by omega) (by omega); refine cM hcall ?_; clear hcall) | refine cM (mul_is Hp.out Hq.out (by omega) (by omega)) ?_)
 rintro e w9 ⟨v9, rfl, hy, hb⟩
 obtain ⟨y_a, y_n, y_c, rfl⟩ := hy.is.lit
 refine ⟨_, rfl, ?_, hb⟩
 have Hx := lH (Can.keep Hx.out (kC hb))
 have HG := lH (bC HG.out hb)
 have Hy := lH hy
 clear hb hy
 simp only [Act.put, sI, sZ, sS]
 refine good_callX 15 116 (some 20) #[Go.Operand.tmp 9, Go.Operand.tmp 14, Go.Operand.tmp 19] #[4, 35, 35] (none) #[.bool (!ba == bb), .slice x_a x_n x_c, .slice y_a y_n y_c] (by kernel_rfl) Hok.out (by kernel_rfl) (by kernel_rfl) (by kernel_rfl) (by kernel_rfl) rfl rfl rfl (by kernel_rfl) (fun w10 hb => ?_)
 have Hx := lH (Can.keep Hx.out (kC hb))
 have Hy := lH (Can.keep Hy.out (kC hb))
 have HG := lH (bC HG.out hb)
 clear hb
 refine cM (quot_is (neg := (!ba == bb)) (Nat.mul_pos (un_pos _) (un_pos _)) Hx.out.is Hy.out.is (by omega) (by omega)) ?_
 rintro e w11 ⟨v11, rfl, hz, hb⟩
 obtain ⟨z_b, z_a, z_n, z_c, z_d, z_m, z_e, rfl⟩ := hz.litb
 refine ⟨_, rfl, ?_, hb⟩
 have HG := lH (bC HG.out hb)
 have Hz := lH hz
 clear hb hz
 simp only [Act.put, sI, sZ, sS]
 refine good_end0 1 (by kernel_rfl) (fun _ w12 hb => ?_)
 have Hz := lH (CR.keep Hz.out (kC hb))
 have HG := lH (bC HG.out hb)
 clear hb
 have Xa0 := lH (xP HG.out Xa0.out)
 have Xb0 := lH (xP HG.out Xb0.out)
 have Xc0 := lH (xP HG.out Xc0.out)
 have HB := lH (bC HB.out HG.out)
 have HS := lH (SE.of (E := [w.heap.size + 1 + 1]) HG.out)
 refine held_oneX 16 (Go.Op.store 37 (Go.Operand.tmp 4) (Go.Operand.tmp 20)) (none) (World.setCell (World.setCell (World.setCell w12 ⟨w.heap.size + 1 + 1, 0, none⟩ (.bool z_b)) ⟨w.heap.size + 1 + 1, 1, none⟩ (.slice z_a z_n z_c)) ⟨w.heap.size + 1 + 1, 2, none⟩ (.slice z_d z_m z_e)) (by kernel_rfl) (by kernel_rfl) (by kernel_rfl) (by kernel_rfl) ?_ (HS.out.store3 in1) ?_
 ·
  obtain ⟨cc00, cc01, cc02, fc00, fc01, fc02⟩ := Xc0.out.c3
  first | (go_simp; done) | (go_simp; simp_all; done) | (go_simp; rfl)
 obtain ⟨W13, hW⟩ : ∃ W13, W13 = (World.setCell (World.setCell (World.setCell w12 ⟨w.heap.size + 1 + 1, 0, none⟩ (.bool z_b)) ⟨w.heap.size + 1 + 1, 1, none⟩ (.slice z_a z_n z_c)) ⟨w.heap.size + 1 + 1, 2, none⟩ (.slice z_d z_m z_e)) := ⟨_, rfl⟩
 rw [← hW]
 obtain ⟨xc0, hk, hf, hbb, hz⟩ := stored3s hW Xc0.out (by first | exact nB_ _ | exact nS_ _ _ _) (by first | exact nB_ _ | exact nS_ _ _ _) (by first | exact nB_ _ | exact nS_ _ _ _)
 have Hz := lH (CR.keep Hz.out hk)
 have Xa0 := lH (hf _ _ _ Xa0.out (by omega))
 have Xb0 := lH (hf _ _ _ Xb0.out (by omega))
 have Xc0 := lH xc0
 have HB := lH (hbb _ HB.out Gc0.out)
 have HS := lH (show SE (W1.drew) [w.heap.size + 1 + 1] W13 from by rw [hW]; exact HS.out.store3 in1)
 clear hW hk hf hbb xc0
 clear hz
 refine wpAnyH_done (by kernel_rfl) ?_ _
 clear HG HS Hok 
 obtain ⟨ca00, ca01, ca02, fa00, fa01, fa02⟩ := Xa0.out.c3
 have la0 := Xa0.out.lt
 obtain ⟨cb00, cb01, cb02, fb00, fb01, fb02⟩ := Xb0.out.c3
 have lb0 := Xb0.out.lt
 obtain ⟨cc00, cc01, cc02, fc00, fc01, fc02⟩ := Xc0.out.c3
 have lc0 := Xc0.out.lt
 go_wp2
 clear ca00 ca01 ca02 fa00 fa01 fa02 la0 cb00 cb01 cb02 fb00 fb01 fb02 lb0 cc00 cc01 cc02 fc00 fc01 fc02 lc0
 exact ret_rat1 rfl rfl rfl Xc0.out (CR.mono (CR.cast (mul_parts _ _ _ _ _ _) Hz.out) (by omega)) HB.out
theorem rmul_ar {a b : Rat} {L M : Nat} {u v : Value} {w : World} (h : AR a L w u) (h' : AR b M w v) (hL : L ≤ 100000000) (hM : M ≤ 100000000) :
  Calls Tryz.prog 134 #[u, v] w (Ret w (CR (a * b) (L + M + 2))) := by
 obtain ⟨ba, sa, ta, na, da, rfl, h1, h2, rfl⟩ := h
 obtain ⟨bb, sb, tb, nb, db, rfl, h3, h4, rfl⟩ := h'
 exact rmul_p h1 h2 h3 h4 hL hM
theorem rdiv_1 {L M : Nat} {ba : Bool} {na da : Nat} {sa ta : Value} {bb : Bool} {nb db : Nat} {sb tb : Value} {w : World} (s : Int) (hs : (iv bb nb).sign = s) (hs0 : (s == 0) = false) (hp0 : 0 < nb) (hna : Is na L w sa) (hda : Is da L w ta) (hnb : Is nb M w sb) (hdb : Is db M w tb) (hL : L ≤ 100000000) (hM : M ≤ 100000000) :
  Calls Tryz.prog 85 #[.agg #[.bool ba, sa, ta], .agg #[.bool bb, sb, tb]] w (Ret w (CRE (rv ba na da / rv bb nb db) (L + M + 2) 0)) := by
 have Hna := lH hna
 have Hda := lH hda
 have Hnb := lH hnb
 have Hdb := lH hdb
 have Hs := lH hs
 have Hs0 := lH hs0
 have Hp0 := lH hp0
 clear hna hda hnb hdb hs hs0 hp0
 go_enter Tryz.func85, Tryz.ntmps85
 have HB := lH (bR_ w.heap.size w)
 go_wp2_with fail
 obtain ⟨W1, hW⟩ : ∃ W1, W1 = (World.alloc (World.alloc (World.alloc w (.cells #[.bool ba, sa, ta] 37)) (.cells #[.bool bb, sb, tb] 37)) (.cells #[.bool false, .slice none 0 0, .slice none 0 0] 37)) := ⟨_, rfl⟩
 rw [← hW]
 obtain ⟨xa0, xb0, xc0, hk, hb⟩ := boxes_3 _ _ _ _ _ _ _ hW
 clear hW
 have Hna := lH (iK Hna.out hk)
 have Hda := lH (iK Hda.out hk)
 have Hnb := lH (iK Hnb.out hk)
 have Hdb := lH (iK Hdb.out hk)
 have Ga0 := lH (show w.heap.size ≤ w.heap.size from tL_ HB.out.size (by omega))
 have Gb0 := lH (show w.heap.size ≤ w.heap.size + 1 from tL_ HB.out.size (by omega))
 have Gc0 := lH (show w.heap.size ≤ w.heap.size + 1 + 1 from tL_ HB.out.size (by omega))
 have Xa0 := lH xa0
 have Xb0 := lH xb0
 have Xc0 := lH xc0
 have HB := lH (bC HB.out hb)
 clear hk hb xa0 xb0 xc0
 (first | (have hcall := rsign_p (ba := bb) s Hs.out Hnb.out Hdb.out (by omega); refine cM hcall ?_; clear hcall) | refine cM (rsign_p (ba := bb) s Hs.out Hnb.out Hdb.out (by omega)) ?_)
 rintro e w2 ⟨v2, rfl, rfl, hb⟩
 have Hna := lH (iK Hna.out (kC hb))
 have Hda := lH (iK Hda.out (kC hb))
 have Hnb := lH (iK Hnb.out (kC hb))
 have Hdb := lH (iK Hdb.out (kC hb))
 have Xa0 := lH (xP hb Xa0.out)
 have Xb0 := lH (xP hb Xb0.out)
 have Xc0 := lH (xP hb Xc0.out)
 have HB := lH (bC HB.out hb)
 clear hb
 have hs0 : (s == 0) = false := Hs0.out
 obtain ⟨ca00, ca01, ca02, fa00, fa01, fa02⟩ := Xa0.out.c3
 have la0 := Xa0.out.lt
 obtain ⟨cb00, cb01, cb02, fb00, fb01, fb02⟩ := Xb0.out.c3
 have lb0 := Xb0.out.lt
 obtain ⟨cc00, cc01, cc02, fc00, fc01, fc02⟩ := Xc0.out.c3
 have lc0 := Xc0.out.lt
 go_wp2_with fail
 clear ca00 ca01 ca02 fa00 fa01 fa02 la0 cb00 cb01 cb02 fb00 fb01 fb02 lb0 cc00 cc01 cc02 fc00 fc01 fc02 lc0
 have Hna := lH (iK Hna.out (Keep.drew w2))
 have Hda := lH (iK Hda.out (Keep.drew w2))
 have Hnb := lH (iK Hnb.out (Keep.drew w2))
 have Hdb := lH (iK Hdb.out (Keep.drew w2))
 have Xa0 := lH (Box.drew Xa0.out)
 have Xb0 := lH (Box.drew Xb0.out)
 have Xc0 := lH (Box.drew Xc0.out)
 have HB := lH (Below.drew HB.out)
 refine wp_region_float [w.heap.size + 1 + 1] [] (by kernel_rfl) (by kernel_rfl) 26 (by kernel_rfl) Flok.nil ?_
 intro ok
 have Hok := lH ok
 clear ok
 have HG := lH (bR_ (w2.drew).heap.size (w2.drew))
 refine good_pureX 0 (some 10) (Go.Op.fieldAddr 37 (Go.Operand.tmp 2) 0) (none) (.pointer (some ⟨w.heap.size, 0, none⟩)) (by kernel_rfl) (by kernel_rfl) (by kernel_rfl) (fun _ _ _ h => h) (fun w' hw' => ?_) ?_
 ·
  first | (go_simp; done) | (go_simp; simp_all; done) | (go_simp; rfl)
 simp only [Act.put, sI, sZ, sS]
 refine good_pureX 1 (some 11) (Go.Op.load 4 (Go.Operand.tmp 10)) (none) (.bool ba) (by kernel_rfl) (by kernel_rfl) (by kernel_rfl) (fun _ _ _ h => h) (fun w' hw' => ?_) ?_
 ·
  obtain ⟨ca00, ca01, ca02, fa00, fa01, fa02⟩ := (Box.se hw' Xa0.out (notin1 (by omega))).c3
  first | (go_simp; done) | (go_simp; simp_all; done) | (go_simp; rfl)
 simp only [Act.put, sI, sZ, sS]
 refine good_pureX 2 (some 12) (Go.Op.fieldAddr 37 (Go.Operand.tmp 3) 0) (none) (.pointer (some ⟨w.heap.size + 1, 0, none⟩)) (by kernel_rfl) (by kernel_rfl) (by kernel_rfl) (fun _ _ _ h => h) (fun w' hw' => ?_) ?_
 ·
  first | (go_simp; done) | (go_simp; simp_all; done) | (go_simp; rfl)
 simp only [Act.put, sI, sZ, sS]
 refine good_pureX 3 (some 13) (Go.Op.load 4 (Go.Operand.tmp 12)) (none) (.bool bb) (by kernel_rfl) (by kernel_rfl) (by kernel_rfl) (fun _ _ _ h => h) (fun w' hw' => ?_) ?_
 ·
  obtain ⟨cb00, cb01, cb02, fb00, fb01, fb02⟩ := (Box.se hw' Xb0.out (notin1 (by omega))).c3
  first | (go_simp; done) | (go_simp; simp_all; done) | (go_simp; rfl)
 simp only [Act.put, sI, sZ, sS]
 refine good_pureX 4 (some 14) (Go.Op.binOp Go.BinOp.neq 4 (Go.Operand.tmp 11) (Go.Operand.tmp 13) 4) (none) (.bool (!ba == bb)) (by kernel_rfl) (by kernel_rfl) (by kernel_rfl) (fun _ _ _ h => h) (fun w' hw' => ?_) ?_
 ·
  first | (go_simp; done) | (go_simp; simp_all; done) | (go_simp; rfl)
 simp only [Act.put, sI, sZ, sS]
 refine good_pureX 5 (some 15) (Go.Op.fieldAddr 37 (Go.Operand.tmp 2) 1) (none) (.pointer (some ⟨w.heap.size, 1, none⟩)) (by kernel_rfl) (by kernel_rfl) (by kernel_rfl) (fun _ _ _ h => h) (fun w' hw' => ?_) ?_
 ·
  first | (go_simp; done) | (go_simp; simp_all; done) | (go_simp; rfl)
 simp only [Act.put, sI, sZ, sS]
 refine good_pureX 6 (some 16) (Go.Op.load 35 (Go.Operand.tmp 15)) (none) (sa) (by kernel_rfl) (by kernel_rfl) (by kernel_rfl) (fun _ _ _ h => h) (fun w' hw' => ?_) ?_
 ·
  obtain ⟨ca00, ca01, ca02, fa00, fa01, fa02⟩ := (Box.se hw' Xa0.out (notin1 (by omega))).c3
  first | (go_simp; done) | (go_simp; simp_all; done) | (go_simp; rfl)
 simp only [Act.put, sI, sZ, sS]
 refine good_pureX 7 (some 17) (Go.Op.load 37 (Go.Operand.tmp 3)) (none) (.agg #[.bool bb, sb, tb]) (by kernel_rfl) (by kernel_rfl) (by kernel_rfl) (fun _ _ _ h => h) (fun w' hw' => ?_) ?_
 ·
  obtain ⟨cb00, cb01, cb02, fb00, fb01, fb02⟩ := (Box.se hw' Xb0.out (notin1 (by omega))).c3
  first | (go_simp; done) | (go_simp; simp_all; done) | (go_simp; rfl)
 simp only [Act.put, sI, sZ, sS]
 refine good_pureX 10 (some 20) (Go.Op.load 37 (Go.Operand.tmp 2)) (none) (.agg #[.bool ba, sa, ta]) (by kernel_rfl) (by kernel_rfl) (by kernel_rfl) (fun _ _ _ h => h) (fun w' hw' => ?_) ?_
 ·
  obtain ⟨ca00, ca01, ca02, fa00, fa01, fa02⟩ := (Box.se hw' Xa0.out (notin1 (by omega))).c3
  first | (go_simp; done) | (go_simp; simp_all; done) | (go_simp; rfl)
 simp only [Act.put, sI, sZ, sS]
 refine good_pureX 12 (some 22) (Go.Op.fieldAddr 37 (Go.Operand.tmp 3) 1) (none) (.pointer (some ⟨w.heap.size + 1, 1, none⟩)) (by kernel_rfl) (by kernel_rfl) (by kernel_rfl) (fun _ _ _ h => h) (fun w' hw' => ?_) ?_
 ·
  first | (go_simp; done) | (go_simp; simp_all; done) | (go_simp; rfl)
 simp only [Act.put, sI, sZ, sS]
 refine good_pureX 13 (some 23) (Go.Op.load 35 (Go.Operand.tmp 22)) (none) (sb) (by kernel_rfl) (by kernel_rfl) (by kernel_rfl) (fun _ _ _ h => h) (fun w' hw' => ?_) ?_
 ·
  obtain ⟨cb00, cb01, cb02, fb00, fb01, fb02⟩ := (Box.se hw' Xb0.out (notin1 (by omega))).c3
  first | (go_simp; done) | (go_simp; simp_all; done) | (go_simp; rfl)
 simp only [Act.put, sI, sZ, sS]
 refine good_callX 8 117 (some 18) #[Go.Operand.tmp 17] #[37] (none) #[.agg #[.bool bb, sb, tb]] (by kernel_rfl) Hok.out (by kernel_rfl) (by kernel_rfl) (by kernel_rfl) (by kernel_rfl) rfl rfl rfl (by kernel_rfl) (fun w3 hb => ?_)
 have HG := lH (bC HG.out hb)
 clear hb
 (first | (have hcall := under_is (b := bb) (iK Hdb.out (kC HG.out)) (by omega); refine cM hcall ?_; clear hcall) | refine cM (under_is (b := bb) (iK Hdb.out (kC HG.out)) (by omega)) ?_)
 rintro e w4 ⟨v4, rfl, hq, hb⟩
 obtain ⟨q_a, q_n, q_c, rfl⟩ := hq.lit
 refine ⟨_, rfl, ?_, hb⟩
 have HG := lH (bC HG.out hb)
 have Hq := lH hq
 clear hb hq
 simp only [Act.put, sI, sZ, sS]
 refine good_callX 9 130 (some 19) #[Go.Operand.tmp 16, Go.Operand.tmp 18] #[35, 35] (none) #[sa, .slice q_a q_n q_c] (by kernel_rfl) Hok.out (by kernel_rfl) (by kernel_rfl) (by kernel_rfl) (by kernel_rfl) rfl rfl rfl (by kernel_rfl) (fun w5 hb => ?_)
 have Hq := lH (iK Hq.out (kC hb))
 have HG := lH (bC HG.out hb)
 clear hb
 (first | (have hcall := mul_is (iK Hna.out (kC HG.out)) Hq.out (by omega) (by omega); refine cM hcall ?_; clear hcall) | refine cM (mul_is (iK Hna.out (kC HG.out)) Hq.out (by omega) (by omega)) ?_)
 rintro e w6 ⟨v6, rfl, hx, hb⟩
 obtain ⟨x_a, x_n, x_c, rfl⟩ := hx.is.lit
 refine ⟨_, rfl, ?_, hb⟩
 have HG := lH (bC HG.out hb)
 have Hx := lH hx
 clear hb hx
 simp only [Act.put, sI, sZ, sS]
 refine good_callX 11 117 (some 21) #[Go.Operand.tmp 20] #[37] (none) #[.agg #[.bool ba, sa, ta]] (by kernel_rfl) Hok.out (by kernel_rfl) (by kernel_rfl) (by kernel_rfl) (by kernel_rfl) rfl rfl rfl (by kernel_rfl) (fun w7 hb => ?_)
 have Hx := lH (Can.keep Hx.out (kC hb))
 have HG := lH (bC HG.out hb)
 clear hb
 (first | (have hcall := under_is (b := ba) (iK Hda.out (kC HG.out)) (by omega); refine cM hcall ?_; clear hcall) | refine cM (under_is (b := ba) (iK Hda.out (kC HG.out)) (by omega)) ?_)
 rintro e w8 ⟨v8, rfl, hp, hb⟩
 obtain ⟨p_a, p_n, p_c, rfl⟩ := hp.lit
 refine ⟨_, rfl, ?_, hb⟩
 have Hx := lH (Can.keep Hx.out (kC hb))
 have HG := lH (bC HG.out hb)
 have Hp := lH hp
 clear hb hp
 simp only [Act.put, sI, sZ, sS]
 refine good_callX 14 130 (some 24) #[Go.Operand.tmp 21, Go.Operand.tmp 23] #[35, 35] (none) #[.slice p_a p_n p_c, sb] (by kernel_rfl) Hok.out (by kernel_rfl) (by kernel_rfl) (by kernel_rfl) (by kernel_rfl) rfl rfl rfl (by kernel_rfl) (fun w9 hb => ?_)
 have Hx := lH (Can.keep Hx.out (kC hb))
 have Hp := lH (iK Hp.out (kC hb))
 have HG := lH (bC HG.out hb)
 clear hb
 (first | (have hcall := mul_is Hp.out (iK Hnb.out (kC HG.out)) (by omega) (by omega); refine cM hcall ?_; clear hcall) | refine cM (mul_is Hp.out (iK Hnb.out (kC HG.out)) (by omega) (by omega)) ?_)
 rintro e w10 ⟨v10, rfl, hy, hb⟩
 obtain ⟨y_a, y_n, y_c, rfl⟩ := hy.is.lit
 refine ⟨_, rfl, ?_, hb⟩
 have Hx := lH (Can.keep Hx.out (kC hb))
 have HG := lH (bC HG.out hb)
 have Hy := lH hy
 clear hb hy
 simp only [Act.put, sI, sZ, sS]
 refine good_callX 15 116 (some 25) #[Go.Operand.tmp 14, Go.Operand.tmp 19, Go.Operand.tmp 24] #[4, 35, 35] (none) #[.bool (!ba == bb), .slice x_a x_n x_c, .slice y_a y_n y_c] (by kernel_rfl) Hok.out (by kernel_rfl) (by kernel_rfl) (by kernel_rfl) (by kernel_rfl) rfl rfl rfl (by kernel_rfl) (fun w11 hb => ?_)
 have Hx := lH (Can.keep Hx.out (kC hb))
 have Hy := lH (Can.keep Hy.out (kC hb))
 have HG := lH (bC HG.out hb)
 clear hb
 refine cM (quot_is (neg := (!ba == bb)) (Nat.mul_pos (un_pos _) Hp0.out) Hx.out.is Hy.out.is (by omega) (by omega)) ?_
 rintro e w12 ⟨v12, rfl, hz, hb⟩
 obtain ⟨z_b, z_a, z_n, z_c, z_d, z_m, z_e, rfl⟩ := hz.litb
 refine ⟨_, rfl, ?_, hb⟩
 have HG := lH (bC HG.out hb)
 have Hz := lH hz
 clear hb hz
 simp only [Act.put, sI, sZ, sS]
 refine good_end0 2 (by kernel_rfl) (fun _ w13 hb => ?_)
 have Hz := lH (CR.keep Hz.out (kC hb))
 have HG := lH (bC HG.out hb)
 clear hb
 have Xa0 := lH (xP HG.out Xa0.out)
 have Xb0 := lH (xP HG.out Xb0.out)
 have Xc0 := lH (xP HG.out Xc0.out)
 have HB := lH (bC HB.out HG.out)
 have HS := lH (SE.of (E := [w.heap.size + 1 + 1]) HG.out)
 refine held_oneX 16 (Go.Op.store 37 (Go.Operand.tmp 4) (Go.Operand.tmp 25)) (none) (World.setCell (World.setCell (World.setCell w13 ⟨w.heap.size + 1 + 1, 0, none⟩ (.bool z_b)) ⟨w.heap.size + 1 + 1, 1, none⟩ (.slice z_a z_n z_c)) ⟨w.heap.size + 1 + 1, 2, none⟩ (.slice z_d z_m z_e)) (by kernel_rfl) (by kernel_rfl) (by kernel_rfl) (by kernel_rfl) ?_ (HS.out.store3 in1) ?_
 ·
  obtain ⟨cc00, cc01, cc02, fc00, fc01, fc02⟩ := Xc0.out.c3
  first | (go_simp; done) | (go_simp; simp_all; done) | (go_simp; rfl)
 obtain ⟨W14, hW⟩ : ∃ W14, W14 = (World.setCell (World.setCell (World.setCell w13 ⟨w.heap.size + 1 + 1, 0, none⟩ (.bool z_b)) ⟨w.heap.size + 1 + 1, 1, none⟩ (.slice z_a z_n z_c)) ⟨w.heap.size + 1 + 1, 2, none⟩ (.slice z_d z_m z_e)) := ⟨_, rfl⟩
 rw [← hW]
 obtain ⟨xc0, hk, hf, hbb, hz⟩ := stored3s hW Xc0.out (by first | exact nB_ _ | exact nS_ _ _ _) (by first | exact nB_ _ | exact nS_ _ _ _) (by first | exact nB_ _ | exact nS_ _ _ _)
 have Hz := lH (CR.keep Hz.out hk)
 have Xa0 := lH (hf _ _ _ Xa0.out (by omega))
 have Xb0 := lH (hf _ _ _ Xb0.out (by omega))
 have Xc0 := lH xc0
 have HB := lH (hbb _ HB.out Gc0.out)
 have HS := lH (show SE (w2.drew) [w.heap.size + 1 + 1] W14 from by rw [hW]; exact HS.out.store3 in1)
 clear hW hk hf hbb xc0
 clear hz
 refine held_pureX 17 (some 5) (Go.Op.assign (Go.Operand.const (Go.Value.int Go.IntKind.i64 0))) (none) (.int .i64 0) (by kernel_rfl) (by kernel_rfl) (by kernel_rfl) (fun _ _ _ h => h) (fun w' => by first | (go_simp; done) | (go_simp; simp_all; done) | (go_simp; rfl)) HS.out ?_
 simp only [Act.put, sI, sZ, sS]
 refine wpAnyH_done (by kernel_rfl) ?_ _
 clear HG HS Hok 
 obtain ⟨ca00, ca01, ca02, fa00, fa01, fa02⟩ := Xa0.out.c3
 have la0 := Xa0.out.lt
 obtain ⟨cb00, cb01, cb02, fb00, fb01, fb02⟩ := Xb0.out.c3
 have lb0 := Xb0.out.lt
 obtain ⟨cc00, cc01, cc02, fc00, fc01, fc02⟩ := Xc0.out.c3
 have lc0 := Xc0.out.lt
 go_wp2
 clear ca00 ca01 ca02 fa00 fa01 fa02 la0 cb00 cb01 cb02 fb00 fb01 fb02 lb0 cc00 cc01 cc02 fc00 fc01 fc02 lc0
 exact ret_re rfl rfl rfl rfl Xc0.out ⟨_, rfl, CR.mono (CR.cast (div_parts _ _ _ _ _ _ Hp0.out) Hz.out) (by omega)⟩ HB.out
theorem rdiv_ar {a b : Rat} {L M : Nat} {u v : Value} {w : World} (h0 : b ≠ 0) (h : AR a L w u) (h' : AR b M w v) (hL : L ≤ 100000000) (hM : M ≤ 100000000) :
  Calls Tryz.prog 85 #[u, v] w (Ret w (CRE (a / b) (L + M + 2) 0)) := by
 obtain ⟨ba, sa, ta, na, da, rfl, h1, h2, rfl⟩ := h
 obtain ⟨bb, sb, tb, nb, db, rfl, h3, h4, rfl⟩ := h'
 have hp : 0 < nb := by
  rcases eP_ nb with rfl | h0'
  ·
   exact absurd (by unfold rv; rw [show iv bb 0 = 0 by cases bb <;> rfl]; exact Rat.zero_mkRat _) h0
  ·
   exact h0'
 exact rdiv_1 _ rfl (by cases bb <;> simp [iv, Int.sign_eq_zero_iff_zero] <;> omega) hp h1 h2 h3 h4 hL hM
theorem rmin_t {L M : Nat} {qa : Rat} {ba : Bool} {sa ta : Value} {qb : Rat} {bb : Bool} {sb tb : Value} {w : World} (k : Int) (hk : cmpQ qa qb = k) (hk0 : decide (k ≤ 0) = true) (ha : AR qa L w (.agg #[.bool ba, sa, ta])) (hb : AR qb M w (.agg #[.bool bb, sb, tb])) (hL : L ≤ 100000000) (hM : M ≤ 100000000) :
  Calls Tryz.prog 33 #[.agg #[.bool ba, sa, ta], .agg #[.bool bb, sb, tb]] w (Ret w (CR qa (max L 1))) := by
 have Ha := lH ha
 have Hb := lH hb
 have Hk := lH hk
 have Hk0 := lH hk0
 clear ha hb hk hk0
 go_enter Tryz.func33, Tryz.ntmps33
 have HB := lH (bR_ w.heap.size w)
 go_wp2_with fail
 obtain ⟨W1, hW⟩ : ∃ W1, W1 = (World.alloc (World.alloc (World.alloc w (.cells #[.bool ba, sa, ta] 37)) (.cells #[.bool bb, sb, tb] 37)) (.cells #[.bool false, .slice none 0 0, .slice none 0 0] 37)) := ⟨_, rfl⟩
 rw [← hW]
 obtain ⟨xa0, xb0, xc0, hk, hb⟩ := boxes_3 _ _ _ _ _ _ _ hW
 clear hW
 have Ha := lH (AR.keep Ha.out hk)
 have Hb := lH (AR.keep Hb.out hk)
 have Ga0 := lH (show w.heap.size ≤ w.heap.size from tL_ HB.out.size (by omega))
 have Gb0 := lH (show w.heap.size ≤ w.heap.size + 1 from tL_ HB.out.size (by omega))
 have Gc0 := lH (show w.heap.size ≤ w.heap.size + 1 + 1 from tL_ HB.out.size (by omega))
 have Xa0 := lH xa0
 have Xb0 := lH xb0
 have Xc0 := lH xc0
 have HB := lH (bC HB.out hb)
 clear hk hb xa0 xb0 xc0
 (first | (have hcall := rcmp_ar k Ha.out Hb.out Hk.out (by omega) (by omega); refine cM hcall ?_; clear hcall) | refine cM (rcmp_ar k Ha.out Hb.out Hk.out (by omega) (by omega)) ?_)
 rintro e w2 ⟨v2, rfl, rfl, hb⟩
 have Ha := lH (AR.keep Ha.out (kC hb))
 have Xa0 := lH (xP hb Xa0.out)
 have Xb0 := lH (xP hb Xb0.out)
 have Xc0 := lH (xP hb Xc0.out)
 have HB := lH (bC HB.out hb)
 clear hb
 have hk0 : decide (k ≤ 0) = true := Hk0.out
 obtain ⟨ca00, ca01, ca02, fa00, fa01, fa02⟩ := Xa0.out.c3
 have la0 := Xa0.out.lt
 obtain ⟨cb00, cb01, cb02, fb00, fb01, fb02⟩ := Xb0.out.c3
 have lb0 := Xb0.out.lt
 obtain ⟨cc00, cc01, cc02, fc00, fc01, fc02⟩ := Xc0.out.c3
 have lc0 := Xc0.out.lt
 go_wp2_with fail
 clear ca00 ca01 ca02 fa00 fa01 fa02 la0 cb00 cb01 cb02 fb00 fb01 fb02 lb0 cc00 cc01 cc02 fc00 fc01 fc02 lc0
 (first | (have hcall := canon_ar Ha.out (by omega); refine cM hcall ?_; clear hcall) | refine cM (canon_ar Ha.out (by omega)) ?_)
 rintro e w3 ⟨v3, rfl, hz, hb⟩
 obtain ⟨z_b, z_a, z_n, z_c, z_d, z_m, z_e, rfl⟩ := hz.litb
 have Xa0 := lH (xP hb Xa0.out)
 have Xb0 := lH (xP hb Xb0.out)
 have Xc0 := lH (xP hb Xc0.out)
 have HB := lH (bC HB.out hb)
 have Hz := lH hz
 clear hb hz
 obtain ⟨ca00, ca01, ca02, fa00, fa01, fa02⟩ := Xa0.out.c3
 have la0 := Xa0.out.lt
 obtain ⟨cb00, cb01, cb02, fb00, fb01, fb02⟩ := Xb0.out.c3
 have lb0 := Xb0.out.lt
 obtain ⟨cc00, cc01, cc02, fc00, fc01, fc02⟩ := Xc0.out.c3
 have lc0 := Xc0.out.lt
 go_wp2
 clear ca00 ca01 ca02 fa00 fa01 fa02 la0 cb00 cb01 cb02 fb00 fb01 fb02 lb0 cc00 cc01 cc02 fc00 fc01 fc02 lc0
 obtain ⟨W4, hW⟩ : ∃ W4, W4 = (World.setCell (World.setCell (World.setCell w3 ⟨w.heap.size + 1 + 1, 0, none⟩ (.bool z_b)) ⟨w.heap.size + 1 + 1, 1, none⟩ (.slice z_a z_n z_c)) ⟨w.heap.size + 1 + 1, 2, none⟩ (.slice z_d z_m z_e)) := ⟨_, rfl⟩
 rw [← hW]
 obtain ⟨xc0, hk, hf, hbb, hz⟩ := stored3s hW Xc0.out (by first | exact nB_ _ | exact nS_ _ _ _) (by first | exact nB_ _ | exact nS_ _ _ _) (by first | exact nB_ _ | exact nS_ _ _ _)
 have Hz := lH (CR.keep Hz.out hk)
 have Xa0 := lH (hf _ _ _ Xa0.out (by omega))
 have Xb0 := lH (hf _ _ _ Xb0.out (by omega))
 have Xc0 := lH xc0
 have HB := lH (hbb _ HB.out Gc0.out)
 clear hW hk hf hbb xc0
 clear hz
 exact ret_rat1 rfl rfl rfl Xc0.out Hz.out HB.out
theorem rmin_f {L M : Nat} {qa : Rat} {ba : Bool} {sa ta : Value} {qb : Rat} {bb : Bool} {sb tb : Value} {w : World} (k : Int) (hk : cmpQ qa qb = k) (hk0 : decide (k ≤ 0) = false) (ha : AR qa L w (.agg #[.bool ba, sa, ta])) (hb : AR qb M w (.agg #[.bool bb, sb, tb])) (hL : L ≤ 100000000) (hM : M ≤ 100000000) :
  Calls Tryz.prog 33 #[.agg #[.bool ba, sa, ta], .agg #[.bool bb, sb, tb]] w (Ret w (CR qb (max M 1))) := by
 have Ha := lH ha
 have Hb := lH hb
 have Hk := lH hk
 have Hk0 := lH hk0
 clear ha hb hk hk0
 go_enter Tryz.func33, Tryz.ntmps33
 have HB := lH (bR_ w.heap.size w)
 go_wp2_with fail
 obtain ⟨W1, hW⟩ : ∃ W1, W1 = (World.alloc (World.alloc (World.alloc w (.cells #[.bool ba, sa, ta] 37)) (.cells #[.bool bb, sb, tb] 37)) (.cells #[.bool false, .slice none 0 0, .slice none 0 0] 37)) := ⟨_, rfl⟩
 rw [← hW]
 obtain ⟨xa0, xb0, xc0, hk, hb⟩ := boxes_3 _ _ _ _ _ _ _ hW
 clear hW
 have Ha := lH (AR.keep Ha.out hk)
 have Hb := lH (AR.keep Hb.out hk)
 have Ga0 := lH (show w.heap.size ≤ w.heap.size from tL_ HB.out.size (by omega))
 have Gb0 := lH (show w.heap.size ≤ w.heap.size + 1 from tL_ HB.out.size (by omega))
 have Gc0 := lH (show w.heap.size ≤ w.heap.size + 1 + 1 from tL_ HB.out.size (by omega))
 have Xa0 := lH xa0
 have Xb0 := lH xb0
 have Xc0 := lH xc0
 have HB := lH (bC HB.out hb)
 clear hk hb xa0 xb0 xc0
 (first | (have hcall := rcmp_ar k Ha.out Hb.out Hk.out (by omega) (by omega); refine cM hcall ?_; clear hcall) | refine cM (rcmp_ar k Ha.out Hb.out Hk.out (by omega) (by omega)) ?_)
 rintro e w2 ⟨v2, rfl, rfl, hb⟩
 have Hb := lH (AR.keep Hb.out (kC hb))
 have Xa0 := lH (xP hb Xa0.out)
 have Xb0 := lH (xP hb Xb0.out)
 have Xc0 := lH (xP hb Xc0.out)
 have HB := lH (bC HB.out hb)
 clear hb
 have hk0 : decide (k ≤ 0) = false := Hk0.out
 obtain ⟨ca00, ca01, ca02, fa00, fa01, fa02⟩ := Xa0.out.c3
 have la0 := Xa0.out.lt
 obtain ⟨cb00, cb01, cb02, fb00, fb01, fb02⟩ := Xb0.out.c3
 have lb0 := Xb0.out.lt
 obtain ⟨cc00, cc01, cc02, fc00, fc01, fc02⟩ := Xc0.out.c3
 have lc0 := Xc0.out.lt
 go_wp2_with fail
 clear ca00 ca01 ca02 fa00 fa01 fa02 la0 cb00 cb01 cb02 fb00 fb01 fb02 lb0 cc00 cc01 cc02 fc00 fc01 fc02 lc0
 (first | (have hcall := canon_ar Hb.out (by omega); refine cM hcall ?_; clear hcall) | refine cM (canon_ar Hb.out (by omega)) ?_)
 rintro e w3 ⟨v3, rfl, hz, hb⟩
 obtain ⟨z_b, z_a, z_n, z_c, z_d, z_m, z_e, rfl⟩ := hz.litb
 have Xa0 := lH (xP hb Xa0.out)
 have Xb0 := lH (xP hb Xb0.out)
 have Xc0 := lH (xP hb Xc0.out)
 have HB := lH (bC HB.out hb)
 have Hz := lH hz
 clear hb hz
 obtain ⟨ca00, ca01, ca02, fa00, fa01, fa02⟩ := Xa0.out.c3
 have la0 := Xa0.out.lt
 obtain ⟨cb00, cb01, cb02, fb00, fb01, fb02⟩ := Xb0.out.c3
 have lb0 := Xb0.out.lt
 obtain ⟨cc00, cc01, cc02, fc00, fc01, fc02⟩ := Xc0.out.c3
 have lc0 := Xc0.out.lt
 go_wp2
 clear ca00 ca01 ca02 fa00 fa01 fa02 la0 cb00 cb01 cb02 fb00 fb01 fb02 lb0 cc00 cc01 cc02 fc00 fc01 fc02 lc0
 obtain ⟨W4, hW⟩ : ∃ W4, W4 = (World.setCell (World.setCell (World.setCell w3 ⟨w.heap.size + 1 + 1, 0, none⟩ (.bool z_b)) ⟨w.heap.size + 1 + 1, 1, none⟩ (.slice z_a z_n z_c)) ⟨w.heap.size + 1 + 1, 2, none⟩ (.slice z_d z_m z_e)) := ⟨_, rfl⟩
 rw [← hW]
 obtain ⟨xc0, hk, hf, hbb, hz⟩ := stored3s hW Xc0.out (by first | exact nB_ _ | exact nS_ _ _ _) (by first | exact nB_ _ | exact nS_ _ _ _) (by first | exact nB_ _ | exact nS_ _ _ _)
 have Hz := lH (CR.keep Hz.out hk)
 have Xa0 := lH (hf _ _ _ Xa0.out (by omega))
 have Xb0 := lH (hf _ _ _ Xb0.out (by omega))
 have Xc0 := lH xc0
 have HB := lH (hbb _ HB.out Gc0.out)
 clear hW hk hf hbb xc0
 clear hz
 exact ret_rat1 rfl rfl rfl Xc0.out Hz.out HB.out
theorem rmin_ar {a b : Rat} {L M : Nat} {u v : Value} {w : World} (h : AR a L w u) (h' : AR b M w v) (hL : L ≤ 100000000) (hM : M ≤ 100000000) : Calls Tryz.prog 33 #[u, v] w (Ret w (CR (if a ≤ b then a else b) (max (max L M) 1))) := by
 obtain ⟨ba, sa, ta, rfl⟩ := h.agg
 obtain ⟨bb, sb, tb, rfl⟩ := h'.agg
 by_cases hc : a ≤ b
 ·
  rw [if_pos hc]
  exact (rmin_t _ rfl (by simpa using cmpQ_le.2 hc) h h' hL hM).mono fun e w' k => k.imp fun _ _ x => x.mono (by omega)
 ·
  rw [if_neg hc]
  exact (rmin_f _ rfl (by simpa using mt cmpQ_le.1 hc) h h' hL hM).mono fun e w' k => k.imp fun _ _ x => x.mono (by omega)
theorem rmax_t {L M : Nat} {qa : Rat} {ba : Bool} {sa ta : Value} {qb : Rat} {bb : Bool} {sb tb : Value} {w : World} (k : Int) (hk : cmpQ qa qb = k) (hk0 : decide (0 ≤ k) = true) (ha : AR qa L w (.agg #[.bool ba, sa, ta])) (hb : AR qb M w (.agg #[.bool bb, sb, tb])) (hL : L ≤ 100000000) (hM : M ≤ 100000000) :
  Calls Tryz.prog 32 #[.agg #[.bool ba, sa, ta], .agg #[.bool bb, sb, tb]] w (Ret w (CR qa (max L 1))) := by
 have Ha := lH ha
 have Hb := lH hb
 have Hk := lH hk
 have Hk0 := lH hk0
 clear ha hb hk hk0
 go_enter Tryz.func32, Tryz.ntmps32
 have HB := lH (bR_ w.heap.size w)
 go_wp2_with fail
 obtain ⟨W1, hW⟩ : ∃ W1, W1 = (World.alloc (World.alloc (World.alloc w (.cells #[.bool ba, sa, ta] 37)) (.cells #[.bool bb, sb, tb] 37)) (.cells #[.bool false, .slice none 0 0, .slice none 0 0] 37)) := ⟨_, rfl⟩
 rw [← hW]
 obtain ⟨xa0, xb0, xc0, hk, hb⟩ := boxes_3 _ _ _ _ _ _ _ hW
 clear hW
 have Ha := lH (AR.keep Ha.out hk)
 have Hb := lH (AR.keep Hb.out hk)
 have Ga0 := lH (show w.heap.size ≤ w.heap.size from tL_ HB.out.size (by omega))
 have Gb0 := lH (show w.heap.size ≤ w.heap.size + 1 from tL_ HB.out.size (by omega))
 have Gc0 := lH (show w.heap.size ≤ w.heap.size + 1 + 1 from tL_ HB.out.size (by omega))
 have Xa0 := lH xa0
 have Xb0 := lH xb0
 have Xc0 := lH xc0
 have HB := lH (bC HB.out hb)
 clear hk hb xa0 xb0 xc0
 (first | (have hcall := rcmp_ar k Ha.out Hb.out Hk.out (by omega) (by omega); refine cM hcall ?_; clear hcall) | refine cM (rcmp_ar k Ha.out Hb.out Hk.out (by omega) (by omega)) ?_)
 rintro e w2 ⟨v2, rfl, rfl, hb⟩
 have Ha := lH (AR.keep Ha.out (kC hb))
 have Xa0 := lH (xP hb Xa0.out)
 have Xb0 := lH (xP hb Xb0.out)
 have Xc0 := lH (xP hb Xc0.out)
 have HB := lH (bC HB.out hb)
 clear hb
 have hk0 : decide (0 ≤ k) = true := Hk0.out
 obtain ⟨ca00, ca01, ca02, fa00, fa01, fa02⟩ := Xa0.out.c3
 have la0 := Xa0.out.lt
 obtain ⟨cb00, cb01, cb02, fb00, fb01, fb02⟩ := Xb0.out.c3
 have lb0 := Xb0.out.lt
 obtain ⟨cc00, cc01, cc02, fc00, fc01, fc02⟩ := Xc0.out.c3
 have lc0 := Xc0.out.lt
 go_wp2_with fail
 clear ca00 ca01 ca02 fa00 fa01 fa02 la0 cb00 cb01 cb02 fb00 fb01 fb02 lb0 cc00 cc01 cc02 fc00 fc01 fc02 lc0
 (first | (have hcall := canon_ar Ha.out (by omega); refine cM hcall ?_; clear hcall) | refine cM (canon_ar Ha.out (by omega)) ?_)
 rintro e w3 ⟨v3, rfl, hz, hb⟩
 obtain ⟨z_b, z_a, z_n, z_c, z_d, z_m, z_e, rfl⟩ := hz.litb
 have Xa0 := lH (xP hb Xa0.out)
 have Xb0 := lH (xP hb Xb0.out)
 have Xc0 := lH (xP hb Xc0.out)
 have HB := lH (bC HB.out hb)
 have Hz := lH hz
 clear hb hz
 obtain ⟨ca00, ca01, ca02, fa00, fa01, fa02⟩ := Xa0.out.c3
 have la0 := Xa0.out.lt
 obtain ⟨cb00, cb01, cb02, fb00, fb01, fb02⟩ := Xb0.out.c3
 have lb0 := Xb0.out.lt
 obtain ⟨cc00, cc01, cc02, fc00, fc01, fc02⟩ := Xc0.out.c3
 have lc0 := Xc0.out.lt
 go_wp2
 clear ca00 ca01 ca02 fa00 fa01 fa02 la0 cb00 cb01 cb02 fb00 fb01 fb02 lb0 cc00 cc01 cc02 fc00 fc01 fc02 lc0
 obtain ⟨W4, hW⟩ : ∃ W4, W4 = (World.setCell (World.setCell (World.setCell w3 ⟨w.heap.size + 1 + 1, 0, none⟩ (.bool z_b)) ⟨w.heap.size + 1 + 1, 1, none⟩ (.slice z_a z_n z_c)) ⟨w.heap.size + 1 + 1, 2, none⟩ (.slice z_d z_m z_e)) := ⟨_, rfl⟩
 rw [← hW]
 obtain ⟨xc0, hk, hf, hbb, hz⟩ := stored3s hW Xc0.out (by first | exact nB_ _ | exact nS_ _ _ _) (by first | exact nB_ _ | exact nS_ _ _ _) (by first | exact nB_ _ | exact nS_ _ _ _)
 have Hz := lH (CR.keep Hz.out hk)
 have Xa0 := lH (hf _ _ _ Xa0.out (by omega))
 have Xb0 := lH (hf _ _ _ Xb0.out (by omega))
 have Xc0 := lH xc0
 have HB := lH (hbb _ HB.out Gc0.out)
 clear hW hk hf hbb xc0
 clear hz
 exact ret_rat1 rfl rfl rfl Xc0.out Hz.out HB.out
theorem rmax_f {L M : Nat} {qa : Rat} {ba : Bool} {sa ta : Value} {qb : Rat} {bb : Bool} {sb tb : Value} {w : World} (k : Int) (hk : cmpQ qa qb = k) (hk0 : decide (0 ≤ k) = false) (ha : AR qa L w (.agg #[.bool ba, sa, ta])) (hb : AR qb M w (.agg #[.bool bb, sb, tb])) (hL : L ≤ 100000000) (hM : M ≤ 100000000) :
  Calls Tryz.prog 32 #[.agg #[.bool ba, sa, ta], .agg #[.bool bb, sb, tb]] w (Ret w (CR qb (max M 1))) := by
 have Ha := lH ha
 have Hb := lH hb
 have Hk := lH hk
 have Hk0 := lH hk0
 clear ha hb hk hk0
 go_enter Tryz.func32, Tryz.ntmps32
 have HB := lH (bR_ w.heap.size w)
 go_wp2_with fail
 obtain ⟨W1, hW⟩ : ∃ W1, W1 = (World.alloc (World.alloc (World.alloc w (.cells #[.bool ba, sa, ta] 37)) (.cells #[.bool bb, sb, tb] 37)) (.cells #[.bool false, .slice none 0 0, .slice none 0 0] 37)) := ⟨_, rfl⟩
 rw [← hW]
 obtain ⟨xa0, xb0, xc0, hk, hb⟩ := boxes_3 _ _ _ _ _ _ _ hW
 clear hW
 have Ha := lH (AR.keep Ha.out hk)
 have Hb := lH (AR.keep Hb.out hk)
 have Ga0 := lH (show w.heap.size ≤ w.heap.size from tL_ HB.out.size (by omega))
 have Gb0 := lH (show w.heap.size ≤ w.heap.size + 1 from tL_ HB.out.size (by omega))
 have Gc0 := lH (show w.heap.size ≤ w.heap.size + 1 + 1 from tL_ HB.out.size (by omega))
 have Xa0 := lH xa0
 have Xb0 := lH xb0
 have Xc0 := lH xc0
 have HB := lH (bC HB.out hb)
 clear hk hb xa0 xb0 xc0
 (first | (have hcall := rcmp_ar k Ha.out Hb.out Hk.out (by omega) (by omega); refine cM hcall ?_; clear hcall) | refine cM (rcmp_ar k Ha.out Hb.out Hk.out (by omega) (by omega)) ?_)
 rintro e w2 ⟨v2, rfl, rfl, hb⟩
 have Hb := lH (AR.keep Hb.out (kC hb))
 have Xa0 := lH (xP hb Xa0.out)
 have Xb0 := lH (xP hb Xb0.out)
 have Xc0 := lH (xP hb Xc0.out)
 have HB := lH (bC HB.out hb)
 clear hb
 have hk0 : decide (0 ≤ k) = false := Hk0.out
 obtain ⟨ca00, ca01, ca02, fa00, fa01, fa02⟩ := Xa0.out.c3
 have la0 := Xa0.out.lt
 obtain ⟨cb00, cb01, cb02, fb00, fb01, fb02⟩ := Xb0.out.c3
 have lb0 := Xb0.out.lt
 obtain ⟨cc00, cc01, cc02, fc00, fc01, fc02⟩ := Xc0.out.c3
 have lc0 := Xc0.out.lt
 go_wp2_with fail
 clear ca00 ca01 ca02 fa00 fa01 fa02 la0 cb00 cb01 cb02 fb00 fb01 fb02 lb0 cc00 cc01 cc02 fc00 fc01 fc02 lc0
 (first | (have hcall := canon_ar Hb.out (by omega); refine cM hcall ?_; clear hcall) | refine cM (canon_ar Hb.out (by omega)) ?_)
 rintro e w3 ⟨v3, rfl, hz, hb⟩
 obtain ⟨z_b, z_a, z_n, z_c, z_d, z_m, z_e, rfl⟩ := hz.litb
 have Xa0 := lH (xP hb Xa0.out)
 have Xb0 := lH (xP hb Xb0.out)
 have Xc0 := lH (xP hb Xc0.out)
 have HB := lH (bC HB.out hb)
 have Hz := lH hz
 clear hb hz
 obtain ⟨ca00, ca01, ca02, fa00, fa01, fa02⟩ := Xa0.out.c3
 have la0 := Xa0.out.lt
 obtain ⟨cb00, cb01, cb02, fb00, fb01, fb02⟩ := Xb0.out.c3
 have lb0 := Xb0.out.lt
 obtain ⟨cc00, cc01, cc02, fc00, fc01, fc02⟩ := Xc0.out.c3
 have lc0 := Xc0.out.lt
 go_wp2
 clear ca00 ca01 ca02 fa00 fa01 fa02 la0 cb00 cb01 cb02 fb00 fb01 fb02 lb0 cc00 cc01 cc02 fc00 fc01 fc02 lc0
 obtain ⟨W4, hW⟩ : ∃ W4, W4 = (World.setCell (World.setCell (World.setCell w3 ⟨w.heap.size + 1 + 1, 0, none⟩ (.bool z_b)) ⟨w.heap.size + 1 + 1, 1, none⟩ (.slice z_a z_n z_c)) ⟨w.heap.size + 1 + 1, 2, none⟩ (.slice z_d z_m z_e)) := ⟨_, rfl⟩
 rw [← hW]
 obtain ⟨xc0, hk, hf, hbb, hz⟩ := stored3s hW Xc0.out (by first | exact nB_ _ | exact nS_ _ _ _) (by first | exact nB_ _ | exact nS_ _ _ _) (by first | exact nB_ _ | exact nS_ _ _ _)
 have Hz := lH (CR.keep Hz.out hk)
 have Xa0 := lH (hf _ _ _ Xa0.out (by omega))
 have Xb0 := lH (hf _ _ _ Xb0.out (by omega))
 have Xc0 := lH xc0
 have HB := lH (hbb _ HB.out Gc0.out)
 clear hW hk hf hbb xc0
 clear hz
 exact ret_rat1 rfl rfl rfl Xc0.out Hz.out HB.out
theorem rmax_ar {a b : Rat} {L M : Nat} {u v : Value} {w : World} (h : AR a L w u) (h' : AR b M w v) (hL : L ≤ 100000000) (hM : M ≤ 100000000) : Calls Tryz.prog 32 #[u, v] w (Ret w (CR (if b ≤ a then a else b) (max (max L M) 1))) := by
 obtain ⟨ba, sa, ta, rfl⟩ := h.agg
 obtain ⟨bb, sb, tb, rfl⟩ := h'.agg
 by_cases hc : b ≤ a
 ·
  rw [if_pos hc]
  exact (rmax_t _ rfl (by simpa using cmpQ_ge.2 hc) h h' hL hM).mono fun e w' k => k.imp fun _ _ x => x.mono (by omega)
 ·
  rw [if_neg hc]
  exact (rmax_f _ rfl (by simpa using mt cmpQ_ge.1 hc) h h' hL hM).mono fun e w' k => k.imp fun _ _ x => x.mono (by omega)
end Go.Proofs.YtikglhmabidjoaaGreat
