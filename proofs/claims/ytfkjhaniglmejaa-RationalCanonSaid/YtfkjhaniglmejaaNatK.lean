/- Walks over package natural, tenth part: DivMod. -/
import Derived.Test.YtfkjhaniglmejaaNatJ
import Derived.Test.YtfkjhaniglmejaaNumF
namespace Go.Proofs.Ytfkjhaniglmejaa
open Go.RowKit Nt

theorem bitLenAux_spec : ∀ (f x : Nat), x < 2 ^ f → x < 2 ^ Lib.bitLenAux f x ∧ (0 < x → 2 ^ Lib.bitLenAux f x ≤ 2 * x)
  | 0, x, h => by simp at h; subst h; simp [Lib.bitLenAux]
  | f + 1, x, h => by
    by_cases h0 : x = 0
    · subst h0; simp [Lib.bitLenAux]
    · have ih := bitLenAux_spec f (x / 2) (by rw [Nat.pow_succ] at h; omega)
      simp only [Lib.bitLenAux, if_neg h0]
      rw [Nat.add_comm 1, Nat.pow_succ]
      refine ⟨by omega, fun _ => ?_⟩
      rcases Nat.eq_zero_or_pos (x / 2) with hz | hz
      · rw [hz]
        have : Lib.bitLenAux f 0 = 0 := by cases f <;> simp [Lib.bitLenAux]
        rw [this]; omega
      · have := ih.2 hz; omega

theorem bitLen_spec {x : Nat} (h : x < 18446744073709551616) : x < 2 ^ Lib.bitLen x ∧ (0 < x → 2 ^ Lib.bitLen x ≤ 2 * x) := bitLenAux_spec 64 x h

/-- How far the divisor is shifted. -/
theorem lead_spec {t : Nat} (h0 : 0 < t) (h : t < 4294967296) : ∃ s : Nat, (32 : Int) - (Lib.bitLen t : Int) = (s : Int) ∧ s ≤ 31 ∧ 2147483648 ≤ t * 2 ^ s ∧ (t + 1) * 2 ^ s ≤ 4294967296 := by
  obtain ⟨h1, h2⟩ := bitLen_spec (x := t) (by omega)
  have h3 := h2 h0
  generalize Lib.bitLen t = l at *
  have hl : l ≤ 32 := by
    rcases Nat.lt_or_ge 32 l with h4 | h4
    · exfalso
      have h5 : 2 ^ 33 ≤ 2 ^ l := Nat.pow_le_pow_right (by decide) h4
      have e : 2 ^ 33 = 8589934592 := by decide
      omega
    · exact h4
  have hl0 : 1 ≤ l := by
    rcases Nat.eq_zero_or_pos l with h4 | h4
    · subst h4; simp at h1; omega
    · exact h4
  refine ⟨32 - l, by omega, by omega, ?_, ?_⟩
  · have e : 2 ^ l * 2 ^ (32 - l) = 4294967296 := by rw [← Nat.pow_add, show l + (32 - l) = 32 by omega]
    have h6 : 2 ^ l * 2 ^ (32 - l) ≤ 2 * t * 2 ^ (32 - l) := Nat.mul_le_mul_right _ h3
    rw [Nat.mul_assoc] at h6
    omega
  · have e : 2 ^ l * 2 ^ (32 - l) = 4294967296 := by rw [← Nat.pow_add, show l + (32 - l) = 32 by omega]
    have h6 : (t + 1) * 2 ^ (32 - l) ≤ 2 ^ l * 2 ^ (32 - l) := Nat.mul_le_mul_right _ h1
    omega

/-- trim hands back the same memory. -/
theorem trim_fin_len {n k : Nat} {xs : List Nat} (hx : lims xs) (hn : xs.length = n) (hk : k ≤ n) (hk0 : 0 < k) (hv : val (xs.take k) = val xs) (hne : xs.getD (k - 1) 0 ≠ 0) : k = sz (val xs) := by
  unfold sz
  rw [← hv, limbs_val (lims_take hx k) (Or.inr (by simpa [List.getD, List.getElem?_take, show min k xs.length - 1 = k - 1 by omega, show k - 1 < k by omega] using hne))]
  simp; omega

set_option maxHeartbeats 400000 in
theorem trim_at (b off n cap : Nat) (xs : List Nat) (w : World) (h : Sl w (.slice (some ⟨b, off, none⟩) n cap) xs) (hpos : 0 < val xs) :
    Calls Try.prog 88 #[.slice (some ⟨b, off, none⟩) n cap] w fun e w' => e = .returned (.slice (some ⟨b, off, none⟩) (sz (val xs)) cap) ∧ Hid (Sl w (.slice (some ⟨b, off, none⟩) (sz (val xs)) cap) (limbs (val xs))) ∧ w = w' := by
  obtain ⟨ad, n', cap', hv, hn, hnc, hm, hx, hs⟩ := h
  injection hv with e1 e2 e3
  subst e1 e2 e3
  have Hn := Lib.hid hn; clear hn
  have Hx := Lib.hid hx; clear hx
  have Hp := Lib.hid hpos; clear hpos
  go_enter Try.func88, Try.ntmps88
  go_wp2
  go_loop [3] (fun t => ∃ k : Nat, k ≤ n ∧ t = .int .i64 k ∧ Hid (val (xs.take k) = val xs)) (fun t => (intOf t).toNat)
  case atStart => exact ⟨n, Nat.le_refl _, rfl, Lib.hid (val_take_ge (by rw [Hn.out]; exact Nat.le_refl _))⟩
  case round =>
    obtain ⟨k, hk, rfl, Hv⟩ := hrel
    have hk0 : 0 < k := by
      rcases Nat.eq_zero_or_pos k with h0 | h0
      · subst h0
        have h1 := Hv.out
        have h2 := Hp.out
        simp [val] at h1; omega
      · exact h0
    obtain ⟨b', off', hb', hbw, hc⟩ := hs (by omega)
    injection hb' with hb'
    injection hb' with e4 e5
    subst e4 e5
    have hck := hc (k-1) (by omega)
    have Hc := Lib.hid hc; clear hc hs
    go_wp2
    · go_round
      case rel =>
        refine ⟨k - 1, by omega, by go_num, ?_⟩
        have h0 : xs.getD (k - 1) 0 = 0 := by have := (by assumption : ((((xs[k - 1]?.getD 0 : Nat) : Int) == 0) = true)); simpa [List.getD] using this
        have := val_take_step xs (k - 1)
        rw [show k - 1 + 1 = k by omega, h0, Hv.out] at this
        exact Lib.hid (by omega)
      case measure => simp [intOf]; omega
    · go_ret
      have h0 : xs.getD (k - 1) 0 ≠ 0 := by have := (by assumption : ((((xs[k - 1]?.getD 0 : Nat) : Int) == 0) = false)); simpa [List.getD] using this
      have hsz := trim_fin_len Hx.out Hn.out hk hk0 Hv.out h0
      refine ⟨by rw [← hsz]; rfl, ?_, rfl⟩
      rw [← hsz]
      exact Lib.hid (trim_fin Hx.out Hn.out hk hk0 hnc hm hbw Hc.out Hv.out h0)

/-- Nothing below N has turned, but block b. -/
structure Most (N b : Nat) (w w' : World) : Prop where
  os : w'.os = w.os
  tape : w'.tape = w.tape
  output : w'.output = w.output
  size : w.heap.size ≤ w'.heap.size
  block : ∀ k, k < N → k ≠ b → w'.heap[k]? = w.heap[k]?

theorem Most.refl (N b : Nat) (w : World) : Most N b w w := ⟨rfl, rfl, rfl, Nat.le_refl _, fun _ _ _ => rfl⟩
theorem Most.below {N b M : Nat} {w w' w2 : World} (h : Most N b w w') (hb : Below M w' w2) (hM : N ≤ M) : Most N b w w2 :=
  ⟨hb.os.trans h.os, hb.tape.trans h.tape, hb.output.trans h.output, Nat.le_trans h.size hb.size, fun k hk hn => (hb.block k (by omega)).trans (h.block k hk hn)⟩
theorem Most.chg {N b : Nat} {w w' w2 : World} (h : Most N b w w') (hc : Chg b w' w2) : Most N b w w2 :=
  ⟨hc.os.trans h.os, hc.tape.trans h.tape, hc.output.trans h.output, by rw [hc.size]; exact h.size, fun k hk hn => (hc.block k hn).trans (h.block k hk hn)⟩
theorem Most.setCell {N b c i : Nat} {w w' : World} (h : Most N b w w') (hc : N ≤ c) (u : Value) : Most N b w (w'.setCell ⟨c, i, none⟩ u) :=
  ⟨h.os, h.tape, h.output, by simpa using h.size, fun k hk hn => (Below.heap_setCell w' ⟨c, i, none⟩ u k (by show k ≠ c; omega)).trans (h.block k hk hn)⟩
theorem Most.cell {N b : Nat} {w w' : World} (h : Most N b w w') {p : Addr} (hp : p.block < N) (hn : p.block ≠ b) : w'.cell? p = w.cell? p := World.cell?_of_block (w := w) (h.block p.block hp hn)
theorem Most.toBelow {N b B : Nat} {w w' : World} (h : Most N b w w') (hN : B ≤ N) (hb : B ≤ b) : Below B w w' :=
  ⟨h.os, h.tape, h.output, h.size, fun k hk => h.block k (by omega) (by omega)⟩
theorem Sl.most {N b bv o n c : Nat} {w w' : World} {xs : List Nat} (h : Sl w (.slice (some ⟨bv, o, none⟩) n c) xs) (hm : Most N b w w') (hne : bv ≠ b) (hN : w.heap.size ≤ N) : Sl w' (.slice (some ⟨bv, o, none⟩) n c) xs := by
  obtain ⟨ad, n', cap, hv, hl, hc, hmm, hx, hs⟩ := h
  refine ⟨ad, n', cap, hv, hl, hc, hmm, hx, fun h0 => ?_⟩
  obtain ⟨b', off, ha, hbs, hcell⟩ := hs h0
  have hbb : b' = bv := by
    injection hv with e1 _ _
    rw [ha] at e1
    injection e1 with e1
    injection e1 with e2 _ _
    exact e2.symm
  subst hbb
  exact ⟨b', off, ha, Nat.lt_of_lt_of_le hbs hm.size, fun i hi => (hm.cell (p := ⟨b', off + i, none⟩) (Nat.lt_of_lt_of_le hbs hN) hne).trans (hcell i hi)⟩
theorem Sl.cellsAt {bv o n c : Nat} {w : World} {xs : List Nat} (h : Sl w (.slice (some ⟨bv, o, none⟩) n c) xs) : ∀ j, j < n → w.cell? ⟨bv, o + j, none⟩ = some (.int .u32 ((xs.getD j 0 : Nat) : Int)) := by
  intro j hj
  obtain ⟨ad, n', cap, hv, hl, hc, hmm, hx, hs⟩ := h
  injection hv with e1 e2 e3
  subst e2
  obtain ⟨b', off, ha, hbs, hcell⟩ := hs (by omega)
  rw [ha] at e1
  injection e1 with e1
  injection e1 with e4 e5 _
  subst e4 e5
  exact hcell j hj
theorem Arr.chg {b c : Nat} {w w' : World} {xs : List Nat} (h : Arr w b xs) (hc : Chg c w w') (hne : b ≠ c) : Arr w' b xs := by
  obtain ⟨cur, e, hh, r⟩ := h
  exact ⟨cur, e, (hc.block b hne).trans hh, r⟩

set_option maxHeartbeats 400000 in
theorem div_zero (v v' : Value) (xs ys : List Nat) (w : World) (h : Sl w v xs) (h' : Sl w v' ys) (h0 : val ys = 0) :
    Calls Try.prog 87 #[v, v'] w (Ret w (Num2E 0 0 3)) := by
  go_enter Try.func87, Try.ntmps87
  go_wp2_with fail
  refine (trim_any _ xs _ h).mono ?_
  rintro e w' ⟨v1, rfl, h1, rfl⟩
  go_wp2_with fail
  refine (trim_any _ ys _ h').mono ?_
  rintro e w' ⟨v2, rfl, h2, rfl⟩
  rw [h0, limbs_zero] at h2
  obtain ⟨ad, n, cap, rfl, hn, -⟩ := h2
  have : n = 0 := by simpa using hn.symm
  subst this
  clear hn h h' h0 h1
  go_wp2
  go_ret3
  exact ⟨_, rfl, ⟨_, _, rfl, by rw [limbs_zero]; exact Sl.nil _, by rw [limbs_zero]; exact Sl.nil _⟩, Below.refl _ _⟩

set_option maxHeartbeats 400000 in
theorem div_less (v v' : Value) (xs ys : List Nat) (w : World) (h : Sl w v xs) (h' : Sl w v' ys) (hlt : val xs < val ys) :
    Calls Try.prog 87 #[v, v'] w (Ret w (Num2E 0 (val xs) 0)) := by
  have hp := sz_pos (Nat.lt_of_le_of_lt (Nat.zero_le _) hlt)
  unfold sz at hp
  go_enter Try.func87, Try.ntmps87
  go_wp2_with fail
  refine (trim_any _ xs _ h).mono ?_
  rintro e w' ⟨v1, rfl, h1, rfl⟩
  go_wp2_with fail
  refine (trim_any _ ys _ h').mono ?_
  rintro e w' ⟨v2, rfl, h2, rfl⟩
  have H2 := Lib.hid h2
  obtain ⟨ad, n, cap, rfl, hn, -⟩ := h2
  have hne : ((n : Int) == 0) = false := by simp; omega
  clear hn h h' hp
  go_wp2_with fail
  refine (cmp_any _ _ _ _ _ h1 H2.out).mono ?_
  rintro e wc ⟨v3, rfl, h3, hbc⟩
  unfold Val at h3
  subst h3
  have h1 := h1.below hbc
  rw [val_limbs, val_limbs, cmpN_lt hlt]
  clear hlt
  go_wp2_with fail
  refine (make_any _ _ _ h1).mono ?_
  rintro e w2 ⟨v4, rfl, h4, hb4⟩
  unfold Num at h4
  rw [val_limbs] at h4
  go_wp2
  go_ret3
  exact ⟨_, rfl, ⟨_, _, rfl, by rw [limbs_zero]; exact Sl.nil _, h4⟩, hbc.trans (hb4.mono hbc.size)⟩

theorem cmp_not_neg {a b : Nat} (h : b ≤ a) : decide (cmpN a b < 0) = false := by
  have : 0 ≤ cmpN a b := by
    rcases Nat.lt_or_ge b a with h' | h'
    · rw [cmpN_gt h']; decide
    · rw [cmpN_eq (by omega)]; decide
  simp; exact this

set_option maxHeartbeats 1000000 in
theorem div_short (v v' : Value) (xs ys : List Nat) (w : World) (h : Sl w v xs) (h' : Sl w v' ys) (hx : xs.length ≤ 4294967296) (hle : val ys ≤ val xs) (h1 : sz (val ys) = 1) :
    Calls Try.prog 87 #[v, v'] w (Ret w (Num2E (val xs / val ys) (val xs % val ys) 0)) := by
  have hla := sz_val h.lims
  unfold sz at hla h1
  have hcd := cmp_not_neg hle
  have hb0 : 0 < val ys := by
    rcases Nat.eq_zero_or_pos (val ys) with h0 | h0
    · rw [h0, limbs_zero] at h1; cases h1
    · exact h0
  have Hva := Lib.hid (val_limbs (val xs))
  have Hvb := Lib.hid (val_limbs (val ys))
  go_enter Try.func87, Try.ntmps87
  go_wp2_with fail
  refine (trim_any _ xs _ h).mono ?_
  rintro e w' ⟨v1, rfl, g1, rfl⟩
  go_wp2_with fail
  refine (trim_any _ ys _ h').mono ?_
  rintro e w' ⟨v2, rfl, g2, rfl⟩
  clear h h' hle
  generalize val xs = a at *
  generalize val ys = b at *
  generalize limbs a = ls at *
  generalize limbs b = ms at *
  have hd1 : val ms = ms.getD 0 0 := by
    have e := val_take_step ms 0
    rw [val_take_ge (by omega)] at e
    simpa [val] using e
  have hd2 := lims_getD g2.lims 0
  have hd3 : 1 ≤ ms.getD 0 0 := by have := Hvb.out; omega
  obtain ⟨d, hd⟩ : ∃ d, d = ms.getD 0 0 := ⟨_, rfl⟩
  have G2 := Lib.hid g2
  obtain ⟨ad, n, cap, rfl, hn, -, -, -, hs⟩ := g2
  obtain ⟨b1, off, rfl, hbw, hc⟩ := hs (by omega)
  have c1 := hc 0 (by omega)
  rw [Nat.add_zero, ← hd] at c1
  rw [← hd] at hd1 hd2 hd3
  obtain rfl : n = 1 := by omega
  have Hd1 := Lib.hid hd1
  have Hl : Hid (ls.length ≤ 8589934592) := Lib.hid (by omega)
  clear hn hs hc hd hd1 hla h1 hb0
  go_wp2_with fail
  refine (cmp_any _ _ _ _ _ g1 G2.out).mono ?_
  rintro e wc ⟨v3, rfl, h3, hbc⟩
  unfold Val at h3
  subst h3
  rw [Hva.out, Hvb.out]
  generalize cmpN a b = cm at *
  have g1 := g1.below hbc
  have c1 := (hbc.cell (p := ⟨b1, off, none⟩) hbw).trans c1
  go_wp2_with fail
  refine (short_any _ ls d _ g1 Hl.out hd3 hd2).mono ?_
  rintro e w2 ⟨v4, rfl, h4, hb4⟩
  obtain ⟨q, r, rfl, hq, hr⟩ := h4
  rw [Hva.out, ← Hd1.out, Hvb.out] at hq hr
  go_wp2
  go_ret3
  exact ⟨_, rfl, ⟨_, _, rfl, hq, hr⟩, hbc.trans (hb4.mono hbc.size)⟩

set_option maxRecDepth 100000 in
set_option maxHeartbeats 2000000 in
theorem div_long (v v' : Value) (xs ys : List Nat) (w : World) (h : Sl w v xs) (h' : Sl w v' ys) (hx : xs.length ≤ 4294967296) (hle : val ys ≤ val xs) (h1 : 2 ≤ sz (val ys)) :
    Calls Try.prog 87 #[v, v'] w (Ret w (Num2E (val xs / val ys) (val xs % val ys) 0)) := by
  have hla := sz_val h.lims
  have hsz := sz_mono hle
  have hcd := cmp_not_neg hle
  have hb0 : 0 < val ys := by
    rcases Nat.eq_zero_or_pos (val ys) with h0 | h0
    · rw [h0, sz_zero] at h1; cases h1
    · exact h0
  have HL := Lib.hid (limbs_last hb0)
  have Hva := Lib.hid (val_limbs (val xs))
  have Hvb := Lib.hid (val_limbs (val ys))
  go_enter Try.func87, Try.ntmps87
  go_wp2_with fail
  refine (trim_any _ xs _ h).mono ?_
  rintro e w' ⟨v1, rfl, g1, rfl⟩
  go_wp2_with fail
  refine (trim_any _ ys _ h').mono ?_
  rintro e w' ⟨v2, rfl, g2, rfl⟩
  clear h h' hle
  generalize val xs = a at *
  generalize val ys = b at *
  have G1 := Lib.hid g1
  have G2 := Lib.hid g2
  obtain ⟨ad, n, cap, rfl, hn, -, -, -, hs⟩ := g2
  have hnn : 2 ≤ n := by unfold sz at h1; omega
  obtain ⟨b1, off, rfl, hbw, hc⟩ := hs (by omega)
  have c1 := hc (n - 1) (by omega)
  obtain ⟨ad0, na, cap0, rfl, hna, -⟩ := g1
  have hnan : n ≤ na := by unfold sz at hsz; omega
  have hna4 : na ≤ 4294967296 := by unfold sz at hla; omega
  have Hna : Hid ((limbs a).length = na) := Lib.hid hna
  have Hn : Hid (sz b = n) := Lib.hid hn
  have ht := lims_getD (lims_limbs b) (n - 1)
  have ht0 : 0 < (limbs b).getD (n - 1) 0 := by have := HL.out; rw [hn] at this; omega
  obtain ⟨s, hse, hs31, hlo, hhi⟩ := lead_spec ht0 ht
  have HS := Lib.hid (norm_shift Hn.out (by omega) hlo hhi)
  obtain ⟨t, hT⟩ : ∃ t, t = (limbs b).getD (n - 1) 0 := ⟨_, rfl⟩
  rw [← hT] at c1 ht hse
  have Hse := Lib.hid hse
  have hn0 : ((n : Int) == 0) = false := by simp; omega
  have hn1 : ((n : Int) == 1) = false := by simp; omega
  clear hla hsz hb0 h1 hs hc hn hna ht0 hlo hhi hse hT
  go_wp2_with fail
  refine (cmp_any _ _ _ _ _ G1.out G2.out).mono ?_
  rintro e wc ⟨v3, rfl, h3, hbc⟩
  unfold Val at h3
  subst h3
  rw [Hva.out, Hvb.out]
  generalize cmpN a b = cm at *
  have g1 := G1.out.below hbc
  have g2 := G2.out.below hbc
  have c1 := (hbc.cell (p := ⟨b1, off + (n - 1), none⟩) hbw).trans c1
  go_wp2_with fail
  refine (Try.bits_LeadingZeros32 _ _ (by omega) (by omega)).mono ?_
  rintro e w2 ⟨rfl, rfl⟩
  rw [Int.toNat_natCast, Hse.out]
  go_wp2_with fail
  refine (left_any _ _ s _ g1 (by have := Hna.out; omega) hs31).mono ?_
  rintro e wu ⟨vu, rfl, ⟨bu, us, hvu, hbu, hAu, hlu, hul, huv⟩, hb5⟩
  rw [Hna.out] at hvu hul
  rw [Hva.out] at huv
  subst hvu
  have g2 := g2.below hb5
  have hlb : (limbs b).length = n := Hn.out
  go_wp2_with fail
  refine (left_any _ _ s _ g2 (by rw [hlb]; omega) hs31).mono ?_
  rintro e wv ⟨vv, rfl, ⟨bv, os2, hvv, hbv, hAv, hlv, hvl, hvv2⟩, hb6⟩
  rw [hlb] at hvv hvl
  rw [Hvb.out] at hvv2
  subst hvv
  have hbuv : bv ≠ bu := by have := hAu.lt; omega
  have hAu := hAu.below hb6 hAu.lt
  have hVpos : 0 < val os2 := by
    rw [hvv2]
    have h3 := HS.out.2.1
    have h4 : 0 < 4294967296 ^ n := Nat.pow_pos (by decide)
    omega
  have HV0 := Lib.hid (hAv.sl (cap := n + 1) hlv (n + 1) hvl (Nat.le_refl _) (by omega))
  have Hb6 := Lib.hid ((hbc.trans (hb5.mono hbc.size)).trans (hb6.mono (Nat.le_trans hbc.size hb5.size)))
  have Hbu := Lib.hid (Nat.le_trans hbc.size hbu)
  have Hwv : Hid (w.heap.size ≤ wv.heap.size) := Lib.hid (Nat.le_trans hbc.size (Nat.le_trans hb5.size hb6.size))
  have HbuN : Hid (bu < wv.heap.size) := Lib.hid hAu.lt
  have Hul := Lib.hid hul
  have Hlu := Lib.hid hlu
  have Huv := Lib.hid huv
  have HAu := Lib.hid hAu
  clear g1 g2 c1 hlb hAv hlv hvl hbu hbv hlu hul huv hAu hb5 hb6 hbc hbw
  go_wp2_with fail
  refine (trim_at bv 0 (n + 1) (n + 1) os2 wv HV0.out hVpos).mono ?_
  rintro e w' ⟨rfl, HV, rfl⟩
  rw [hvv2, HS.out.2.2.1] at HV ⊢
  have Hnorm := Lib.hid HS.out.2.2.2
  have HVn := Lib.hid HS.out.1
  have HVn2 := Lib.hid HS.out.2.1
  have HVval := Lib.hid (val_limbs (2 ^ s * b))
  have HVlen : Hid ((limbs (2 ^ s * b)).length = n) := Lib.hid HS.out.2.2.1
  have HVpos : Hid (0 < 2 ^ s * b) := Lib.hid (by rw [← hvv2]; exact hVpos)
  obtain ⟨m, hm⟩ : ∃ m, m + n = na + 1 := ⟨na + 1 - n, by omega⟩
  have Hm := Lib.hid hm
  have hm1 : m + n ≤ na + 1 := by omega
  have hm2 : na + 1 ≤ m + n := by omega
  have HU : Hid (2 * (2 ^ s * a) < 4294967296 * 4294967296 ^ na) := Lib.hid (by
    have h3 := lt_pow_sz a
    have h4 : sz a = na := Hna.out
    rw [h4] at h3
    have h5 : 2 ^ s ≤ 2 ^ 31 := Nat.pow_le_pow_right (by decide) hs31
    have h6 : 2 ^ s * a < 2 ^ s * 4294967296 ^ na := Nat.mul_lt_mul_of_pos_left h3 (Nat.pow_pos (by decide))
    have h7 : 2 ^ s * 4294967296 ^ na ≤ 2 ^ 31 * 4294967296 ^ na := Nat.mul_le_mul_right _ h5
    have e31 : 2 ^ 31 = 2147483648 := by decide
    rw [e31] at h7; omega)
  have HQ : Hid (2 ^ s * a / (2 ^ s * b) = a / b) := Lib.hid (Nat.mul_div_mul_left _ _ (Nat.pow_pos (by decide)))
  have HM : Hid (2 ^ s * a % (2 ^ s * b) = 2 ^ s * (a % b)) := Lib.hid (Nat.mul_mod_mul_left _ _ _)
  clear hm hvv2 hVpos HV0 HS
  generalize 2 ^ s * b = V at *
  generalize 2 ^ s * a = U0 at *
  generalize limbs V = vs at *
  go_wp2_with (at_make; refine wpList_make_u32 _ rfl _ _ _ rfl 64 Try.underlying23 Try.infoU32 _ m rfl rfl (by omega) (by omega) ?_; intro w0 hA0 hb0 _)
  have HT := Lib.hid (dmInv_top (na := na) (m := m) (n := n) Hul.out Hlu.out Huv.out Hm.out HVn2.out HU.out)
  have hAu0 := HAu.out.below hb0 HbuN.out
  have HM0 : Hid (Most wv.heap.size bu wv w0) := Lib.hid ((Most.refl _ _ _).below hb0 (Nat.le_refl _))
  clear g2 hAu hcd hn0 hn1
  go_wp2
  go_loopw [13] (fun i wr => ∃ k us out, k ≤ m ∧ i = .int .i64 ((k : Int) - 1) ∧ Arr wr bu us ∧ Arr wr wv.heap.size out ∧ Hid (dmInv na m U0 V k us out) ∧ Hid (Most wv.heap.size bu wv wr)) (fun i _ => (intOf i + 1).toNat)
  case atStart => exact ⟨m, us, _, Nat.le_refl _, rfl, hAu0, hA0, HT, HM0⟩
  case round =>
    clear hAu0 hA0 hb0
    obtain ⟨k, us1, out, hk, rfl, hAu, hAo, Hi, Hmo⟩ := hrel
    rcases Nat.eq_zero_or_pos k with hk0 | hk0
    · subst hk0
      have hE := dmInv_end Hi.out
      rw [HQ.out, HM.out] at hE
      have HE := Lib.hid hE; clear hE
      have HS0 := Lib.hid (hAu.sl (cap := na + 1) Hi.out.2.1 (na + 1) Hi.out.1 (Nat.le_refl _) (by omega))
      have hul4 : us1.length ≤ 8589934592 := by have := Hi.out.1; omega
      have Hul4 := Lib.hid hul4; clear hul4
      go_wp2_with fail
      refine (shr_any _ us1 (s : Int) _ HS0.out Hul4.out).mono ?_
      rintro e w5 ⟨v5, rfl, ⟨v6, rfl, h6⟩, hb7⟩
      rw [HE.out.2, shrN_yes (by omega), Nat.mul_div_cancel_left _ (Nat.pow_pos (by decide))] at h6
      rw [shiftErr_yes (by omega)]
      have HO := Lib.hid ((hAo.below hb7 hAo.lt).sl (cap := m) Hi.out.2.2.2.1 m Hi.out.2.2.1 (Nat.le_refl _) (by omega))
      have HB := Lib.hid (Hb6.out.trans (((Hmo.out.below hb7 Hmo.out.size).toBelow Hwv.out Hbu.out)))
      clear hAu hAo hb7
      go_wp2_with fail
      refine (trim_any _ out _ HO.out).mono ?_
      rintro e w' ⟨v7, rfl, h7, rfl⟩
      rw [HE.out.1] at h7
      go_wp2
      go_ret3
      exact ⟨_, rfl, ⟨_, _, rfl, h7, h6⟩, HB.out⟩
    · obtain ⟨j, rfl⟩ : ∃ j, k = j + 1 := ⟨k - 1, by omega⟩
      rw [show ((j + 1 : Nat) : Int) - 1 = (j : Int) from by omega]
      have HR := Lib.hid (dmInv_round Hi.out (by omega) Hm.out HVn.out)
      have hul1 : us1.length = na + 1 := Hi.out.1
      have HS1 := Lib.hid (hAu.slPart (off := j) (n := n + 1) (cap := na + 1 - j) Hi.out.2.1 (by omega) (by omega) (by omega))
      have HSv := Lib.hid (HV.out.most Hmo.out hbuv (Nat.le_refl _))
      have hcj : ¬ na + 1 = j := by omega
      have HW : Hid (val ((us1.drop j).take (n + 1)) = val (us1.drop j)) := Lib.hid (by
        have e := val_take_drop (us1.drop j) (n + 1) (by simp; omega)
        rw [List.drop_drop, show j + (n + 1) = j + n + 1 by omega, HR.out.1] at e
        omega)
      have Hul1 := Lib.hid hul1; clear hul1
      have hvpos : 0 < val vs := by rw [HVval.out]; exact HVpos.out
      have hqlt : val (us1.drop j) / val vs < 4294967296 := by
        rw [Nat.div_lt_iff_lt_mul hvpos, HVval.out]
        exact HR.out.2
      have Hvpos := Lib.hid hvpos
      have Hqlt := Lib.hid hqlt
      clear hvpos hqlt
      go_wp2_with fail
      rw [show j + n + 1 - j = n + 1 by omega]
      refine (estimate_any _ _ _ vs n _ HS1.out HSv.out (by have := Hul1.out; simp; omega) HVlen.out hnn Hnorm.out (by rw [HW.out, HVval.out]; exact HR.out.2)).mono ?_
      rintro e we ⟨vq, rfl, ⟨q, rfl, hq1, hq2⟩, hbe⟩
      rw [HW.out] at hq1 hq2
      have hq4 : q ≤ 4294967296 := by have := Hqlt.out; omega
      have HRed : Hid (Red j n q us1 vs) := Lib.hid ⟨Hi.out.2.1, HV.out.lims, by have := Hul1.out; omega, HVlen.out, HR.out.1, hq1, hq2, Hvpos.out, Hqlt.out⟩
      have HCv := Lib.hid (HSv.out.below hbe).cellsAt
      have HAu1 := Lib.hid (hAu.below hbe hAu.lt)
      have HAo1 := Lib.hid (hAo.below hbe hAo.lt)
      have Hmo1 := Lib.hid (Hmo.out.below hbe Hmo.out.size)
      clear hAu hAo hbe hq1 hq2
      go_wp2_with fail
      refine (reduce_any bu j (na + 1 - j) n q _ bv 0 (n + 1) us1 vs we rfl HAu1.out hbuv HCv.out HRed.out hq4 (by omega) (by omega)).mono ?_
      rintro e w3 ⟨us2, rfl, hA2, hl2, hlen2, hv2, hch⟩
      have hne : wv.heap.size ≠ bu := by have := HbuN.out; omega
      have hAo3 := HAo1.out.chg hch hne
      have c3 := hAo3.cell j (by have := Hi.out.2.2.1; omega)
      have c4 := hAo3.frozen j
      have HST := dmInv_step Hi.out (by omega) (by omega) HVpos.out (by rw [← HVval.out]; exact Hqlt.out) hlen2 hl2 (by rw [← HVval.out]; exact hv2)
      rw [← HVval.out] at HST
      obtain ⟨Qn, hQn⟩ : ∃ Qn, Qn = val (us1.drop j) / val vs := ⟨_, rfl⟩
      rw [← hQn] at HST ⊢
      have HST' := Lib.hid HST
      have HA2 := Lib.hid (hA2.other (b' := wv.heap.size) (i := j) (u := .int .u32 (Qn : Int)) hne.symm)
      have HAo3 := Lib.hid (hAo3.set j Qn)
      have Hmo3 := Lib.hid ((Hmo1.out.chg hch).setCell (c := wv.heap.size) (i := j) (Nat.le_refl _) (.int .u32 (Qn : Int)))
      clear HST hQn hA2 hAo3 hl2 hlen2 hv2 hch
      go_wp2
      go_roundw
      case rel => exact ⟨j, us2, _, by omega, rfl, HA2.out, HAo3.out, by rw [HVval.out] at HST'; exact HST', Hmo3⟩
      case measure => simp [intOf] <;> omega

/-- What DivMod answers. -/
def dmR (a b : Nat) : Nat := if b = 0 then 0 else a % b
def dmE (b : Nat) : Int := if b = 0 then 3 else 0
theorem dmR_pos {a b : Nat} (h : 0 < b) : dmR a b = a % b := by simp [dmR, Nat.ne_of_gt h]
theorem dmE_pos {b : Nat} (h : 0 < b) : dmE b = 0 := by simp [dmE, Nat.ne_of_gt h]

theorem divmod_any (v v' : Value) (xs ys : List Nat) (w : World) (h : Sl w v xs) (h' : Sl w v' ys) (hx : xs.length ≤ 4294967296) :
    Calls Try.prog 87 #[v, v'] w (Ret w (Num2E (val xs / val ys) (dmR (val xs) (val ys)) (dmE (val ys)))) := by
  rcases Nat.eq_zero_or_pos (val ys) with h0 | h0
  · have := div_zero v v' xs ys w h h' h0
    rw [h0]
    simpa [dmR, dmE] using this
  · rw [dmR_pos h0, dmE_pos h0]
    rcases Nat.lt_or_ge (val xs) (val ys) with hlt | hle
    · rw [Nat.div_eq_of_lt hlt, Nat.mod_eq_of_lt hlt]
      exact div_less v v' xs ys w h h' hlt
    · have h1 := sz_pos h0
      by_cases h2 : sz (val ys) = 1
      · exact div_short v v' xs ys w h h' hx hle h2
      · exact div_long v v' xs ys w h h' hx hle (by omega)

end Go.Proofs.Ytfkjhaniglmejaa
