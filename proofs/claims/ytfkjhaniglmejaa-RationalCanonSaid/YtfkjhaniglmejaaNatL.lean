/- Walks over package natural, eleventh part: Uint, Bits, Gcd. -/
import Derived.Test.YtfkjhaniglmejaaNatK
namespace Go.Proofs.Ytfkjhaniglmejaa
open Go.RowKit Nt

/-- What Uint answers. -/
def uintN (n : Nat) : Nat := if n < 18446744073709551616 then n else 0
def uintB (n : Nat) : Bool := decide (n < 18446744073709551616)
def UintP (n : Nat) (_ : World) (v : Value) : Prop := v = .tuple #[.int .u64 ((uintN n : Nat) : Int), .bool (uintB n)]

theorem sz_le_two {n : Nat} : sz n ≤ 2 ↔ n < 18446744073709551616 := by
  have e : 4294967296 ^ 2 = 18446744073709551616 := by decide
  constructor
  · intro h
    have h1 := lt_pow_sz n
    have h2 : 4294967296 ^ sz n ≤ 4294967296 ^ 2 := Nat.pow_le_pow_right (by decide) h
    omega
  · intro h; exact sz_le (by rw [e]; exact h)

theorem or_step {t d k : Nat} (hk : k ≤ 1) (ht : t < 4294967296 ^ k) (hd : d < 4294967296) :
    bits .or .u64 (t : Int) (IntKind.u64.wrap ((d : Int) * 2 ^ (32 * k))) = ((t + 4294967296 ^ k * d : Nat) : Int) := by
  rcases Nat.eq_zero_or_pos k with h0 | h0
  · subst h0
    have : t = 0 := by simpa using ht
    subst this
    have e : (d : Int) * 2 ^ (32 * 0) = (d : Int) := by simp
    have e2 : IntKind.u64.wrap (d : Int) = (d : Int) := by rw [wrap_u64]; omega
    rw [e, e2, show ((0 : Nat) : Int) = 0 from rfl]
    have := u64_or_nat 0 d (by decide) (by omega)
    simpa using this
  · obtain rfl : k = 1 := by omega
    have e : (d : Int) * 2 ^ (32 * 1) = (d : Int) * 4294967296 := by rfl
    have e2 : IntKind.u64.wrap ((d : Int) * 4294967296) = (d : Int) * 4294967296 := by rw [wrap_u64]; omega
    rw [e, e2]
    have := or_high (x := t) (y := d) (by simpa using ht) hd
    rw [this, Nat.pow_one]

set_option maxHeartbeats 1000000 in
theorem uint_any (v : Value) (xs : List Nat) (w : World) (h : Sl w v xs) : Calls Try.prog 100 #[v] w (Ret w (UintP (val xs))) := by
  have H2 := Lib.hid (sz_le_two (n := val xs))
  have Hva := Lib.hid (val_limbs (val xs))
  go_enter Try.func100, Try.ntmps100
  go_wp2_with fail
  refine (trim_any _ xs _ h).mono ?_
  rintro e w' ⟨v1, rfl, h1, rfl⟩
  clear h
  generalize val xs = a at *
  have Hn : Hid ((limbs a).length = sz a) := Lib.hid rfl
  generalize limbs a = ls at *
  obtain ⟨ad, n, cap, rfl, hn, hnc, hm, hx, hs⟩ := h1
  have Hl := Lib.hid hn; clear hn
  have Hx := Lib.hid hx; clear hx
  by_cases h2 : 2 < n
  · have HF : Hid (uintN a = 0 ∧ uintB a = false) := Lib.hid (by
      have h3 : ¬ a < 18446744073709551616 := fun h => by
        have := H2.out.2 h; have h4 := Hn.out; have h5 := Hl.out; omega
      simp [uintN, uintB, h3])
    clear hs
    go_wp2
    go_ret2
    refine ⟨_, rfl, ?_, Below.refl _ _⟩
    unfold UintP
    rw [HF.out.1, HF.out.2]; rfl
  · have HF : Hid (uintN a = a ∧ uintB a = true) := Lib.hid (by
      have h3 : a < 18446744073709551616 := H2.out.1 (by have h4 := Hn.out; have h5 := Hl.out; omega)
      simp [uintN, uintB, h3])
    go_wp2
    go_loop [4, 14] (fun x i => ∃ k t : Nat, k ≤ n ∧ i = .int .i64 ((k : Nat) : Int) ∧ x = .int .u64 ((t : Nat) : Int) ∧ Hid (t = val (ls.take k))) (fun _ i => n - (intOf i).toNat)
    case atStart => exact ⟨0, 0, by omega, rfl, rfl, Lib.hid rfl⟩
    case round =>
      obtain ⟨k, t, hk, rfl, rfl, Ht⟩ := hrel
      by_cases hkn : k < n
      · obtain ⟨b, off, rfl, hbw, hc⟩ := hs (by omega)
        have c1 := hc k hkn
        have bd := lims_getD Hx.out k
        obtain ⟨d, hd⟩ : ∃ d, d = ls.getD k 0 := ⟨_, rfl⟩
        rw [← hd] at c1 bd
        have HO := Lib.hid (or_step (t := t) (d := d) (k := k) (by omega) (by rw [Ht.out]; exact take_lt Hx.out k) bd)
        have Hd := Lib.hid hd; clear hd hc hs
        go_wp2
        go_round
        case rel => exact ⟨k + 1, _, by omega, by go_num, congrArg (Value.int .u64) HO.out, Lib.hid (by rw [val_take_step, ← Ht.out, ← Hd.out])⟩
        case measure => simp [intOf] <;> omega
      · obtain rfl : k = n := by omega
        have HT : Hid (t = a) := Lib.hid (by rw [Ht.out, val_take_ge (by have := Hl.out; omega), Hva.out])
        clear hs
        go_wp2
        go_ret2
        refine ⟨_, rfl, ?_, Below.refl _ _⟩
        unfold UintP
        rw [HF.out.1, HF.out.2, ← HT.out]; rfl

/-- How many bits a number has. -/
def blen (n : Nat) : Nat := if n = 0 then 0 else Nat.log2 n + 1

theorem blen_zero : blen 0 = 0 := rfl
theorem blen_uniq {n k : Nat} (h0 : 0 < n) (h1 : n < 2 ^ k) (h2 : 2 ^ k ≤ 2 * n) : blen n = k := by
  unfold blen
  rw [if_neg (by omega)]
  have h3 := Nat.log2_self_le (Nat.ne_of_gt h0)
  have h4 := @Nat.lt_log2_self n
  have h5 : Nat.log2 n < k := (Nat.pow_lt_pow_iff_right (by decide : 1 < 2)).1 (by omega)
  have h6 : k < Nat.log2 n + 2 := (Nat.pow_lt_pow_iff_right (by decide : 1 < 2)).1 (by rw [show Nat.log2 n + 2 = (Nat.log2 n + 1) + 1 from rfl, Nat.pow_succ]; omega)
  omega

theorem blen_top {n : Nat} (h0 : 0 < n) : blen n = 32 * (sz n - 1) + Lib.bitLen ((limbs n).getD (sz n - 1) 0) := by
  have hp := sz_pos h0
  have hne := limbs_last h0
  have hlt := lims_getD (lims_limbs n) (sz n - 1)
  have e := val_take_step (limbs n) (sz n - 1)
  have ht := take_lt (lims_limbs n) (sz n - 1)
  rw [show sz n - 1 + 1 = sz n by omega, val_take_ge (k := sz n) (by unfold sz; omega), val_limbs] at e
  have hne' : (limbs n).getD (sz n - 1) 0 ≠ 0 := hne
  generalize (limbs n).getD (sz n - 1) 0 = t at *
  obtain ⟨h1, h2⟩ := bitLen_spec (x := t) (by omega)
  have h3 := h2 (by omega)
  have e32 : 2 ^ (32 * (sz n - 1)) = 4294967296 ^ (sz n - 1) := by rw [Nat.pow_mul]
  apply blen_uniq h0
  · rw [Nat.pow_add, e32]
    have h4 : 4294967296 ^ (sz n - 1) * (t + 1) ≤ 4294967296 ^ (sz n - 1) * 2 ^ Lib.bitLen t := Nat.mul_le_mul_left _ h1
    rw [Nat.mul_add] at h4
    omega
  · rw [Nat.pow_add, e32]
    have h4 : 4294967296 ^ (sz n - 1) * 2 ^ Lib.bitLen t ≤ 4294967296 ^ (sz n - 1) * (2 * t) := Nat.mul_le_mul_left _ h3
    have e4 : 4294967296 ^ (sz n - 1) * (2 * t) = 2 * (4294967296 ^ (sz n - 1) * t) := by grind
    omega

theorem bitLen_le {t : Nat} (h : t < 4294967296) : Lib.bitLen t ≤ 32 := by
  rcases Nat.eq_zero_or_pos t with h0 | h0
  · subst h0; decide
  · obtain ⟨s, hs, _⟩ := lead_spec h0 h
    omega

set_option maxHeartbeats 1000000 in
theorem bits_any (v : Value) (xs : List Nat) (w : World) (h : Sl w v xs) (hx : xs.length ≤ 8589934592) : Calls Try.prog 89 #[v] w (Ret w (Val (.int .i64 ((blen (val xs) : Nat) : Int)))) := by
  have hla := sz_val h.lims
  go_enter Try.func89, Try.ntmps89
  go_wp2_with fail
  refine (trim_any _ xs _ h).mono ?_
  rintro e w' ⟨v1, rfl, h1, rfl⟩
  clear h
  generalize val xs = a at *
  rcases Nat.eq_zero_or_pos a with h0 | h0
  · subst h0
    rw [limbs_zero] at h1
    obtain ⟨ad, n, cap, rfl, hn, -⟩ := h1
    have : n = 0 := by simpa using hn.symm
    subst this
    clear hn hla
    rw [blen_zero]
    go_wp2
    go_ret
    exact ⟨_, rfl, rfl, Below.refl _ _⟩
  · have HT := Lib.hid (blen_top h0)
    have hp := sz_pos h0
    have hlt := lims_getD (lims_limbs a) (sz a - 1)
    obtain ⟨ad, n, cap, rfl, hn, hnc, hm, hx, hs⟩ := h1
    obtain rfl : n = sz a := hn.symm
    obtain ⟨b, off, rfl, hbw, hc⟩ := hs hp
    have c1 := hc (sz a - 1) (by omega)
    obtain ⟨t, ht⟩ : ∃ t, t = (limbs a).getD (sz a - 1) 0 := ⟨_, rfl⟩
    rw [← ht] at c1 hlt HT
    have hb32 := bitLen_le hlt
    generalize blen a = bl at *
    generalize sz a = n at *
    have hne : ((n : Int) == 0) = false := by simp; omega
    clear hc hs ht hn hx h0
    go_wp2_with fail
    refine (Try.bits_Len32 _ _ (by omega) (by omega)).mono ?_
    rintro e w2 ⟨rfl, rfl⟩
    rw [Int.toNat_natCast]
    generalize Lib.bitLen t = l at *
    go_wp2
    go_ret
    refine ⟨_, rfl, ?_, Below.refl _ _⟩
    show Value.int _ _ = Value.int _ _
    rw [HT.out]
    congr 1
    omega

/-- A slice reads as one list alone. -/
theorem Sl.uniq {w : World} {v : Value} {xs ys : List Nat} (h : Sl w v xs) (h' : Sl w v ys) : xs = ys := by
  obtain ⟨ad, n, cap, hv, hl, _, _, _, hs⟩ := h
  obtain ⟨ad', n', cap', hv', hl', _, _, _, hs'⟩ := h'
  rw [hv] at hv'
  injection hv' with e1 e2 e3
  subst e1 e2 e3
  refine list_ext_getD (by omega) fun i hi => ?_
  obtain ⟨b, off, ha, _, hc⟩ := hs (by omega)
  obtain ⟨b', off', ha', _, hc'⟩ := hs' (by omega)
  rw [ha] at ha'
  injection ha' with ha'
  injection ha' with e4 e5 _
  subst e4 e5
  have h1 := hc i (by omega)
  have h2 := hc' i (by omega)
  rw [h1] at h2
  injection h2 with h2
  injection h2 with _ h2
  omega

/-- The number that a slice reads as. -/
noncomputable def numOf (w : World) (v : Value) : Nat := open Classical in if h : ∃ n, Sl w v (limbs n) then h.choose else 0
theorem numOf_eq {w : World} {v : Value} {n : Nat} (h : Sl w v (limbs n)) : numOf w v = n := by
  unfold numOf
  have hex : ∃ n, Sl w v (limbs n) := ⟨n, h⟩
  rw [dif_pos hex]
  exact limbs_inj (hex.choose_spec.uniq h)

theorem gcd_swap {x y : Nat} : Nat.gcd y (x % y) = Nat.gcd x y := by
  rw [Nat.gcd_comm x y, Nat.gcd_rec y x, Nat.gcd_comm]

set_option maxHeartbeats 1000000 in
theorem gcd_any (v v' : Value) (xs ys : List Nat) (w : World) (h : Sl w v xs) (h' : Sl w v' ys) (hx : xs.length ≤ 4294967296) (hy : ys.length ≤ 4294967296) :
    Calls Try.prog 86 #[v, v'] w (Ret w (Num (Nat.gcd (val xs) (val ys)))) := by
  have hla := sz_val h.lims
  have hlb := sz_val h'.lims
  go_enter Try.func86, Try.ntmps86
  go_wp2_with fail
  refine (trim_any _ xs _ h).mono ?_
  rintro e w' ⟨v1, rfl, h1, rfl⟩
  go_wp2_with fail
  refine (trim_any _ ys _ h').mono ?_
  rintro e w' ⟨v2, rfl, h2, rfl⟩
  clear h h'
  obtain ⟨G, hG⟩ : ∃ G, G = Nat.gcd (val xs) (val ys) := ⟨_, rfl⟩
  rw [← hG]
  have H0 : Hid (sz (val xs) ≤ 4294967296 ∧ sz (val ys) ≤ 4294967296) := Lib.hid (by omega)
  generalize val xs = a at *
  generalize val ys = b at *
  have HG := Lib.hid hG; clear hG hla hlb
  have H1 := Lib.hid h1; clear h1
  have H2 := Lib.hid h2; clear h2
  go_wp2_with fail
  go_loopw [0, 1] (fun va vb wr => ∃ x y : Nat, Hid (Sl wr va (limbs x)) ∧ Hid (Sl wr vb (limbs y)) ∧ Hid (sz x ≤ 4294967296 ∧ sz y ≤ 4294967296) ∧ Hid (G = Nat.gcd x y) ∧ Below w.heap.size w wr) (fun _ vb wr => numOf wr vb)
  case atStart => exact ⟨a, b, H1, H2, H0, HG, Below.refl _ _⟩
  case round =>
    obtain ⟨x, y, HX, HY, Hs, Hg, hbl⟩ := hrel
    have HYb := HY
    obtain ⟨ad, n, cap, rfl, hn, -⟩ := HY.out
    have Hn : Hid (sz y = n) := Lib.hid hn
    clear hn HY
    by_cases h2 : 2 < n
    · have hy0 : 0 < y := by
        rcases Nat.eq_zero_or_pos y with h0 | h0
        · have := Hn.out; rw [h0, sz_zero] at this; omega
        · exact h0
      have Hy0 := Lib.hid hy0; clear hy0
      go_wp2_with fail
      refine (divmod_any _ _ (limbs x) (limbs y) _ HX.out HYb.out Hs.out.1).mono ?_
      rintro e w2 ⟨v3, rfl, ⟨q, r, rfl, -, hr⟩, hb2⟩
      rw [val_limbs, val_limbs, dmR_pos Hy0.out] at hr
      have HY2 := Lib.hid (HYb.out.below hb2)
      have HR := Lib.hid hr
      have HB := Lib.hid (hbl.trans (hb2.mono hbl.size))
      have HN := Lib.hid (numOf_eq HYb.out)
      clear hr hb2 hbl
      go_wp2
      go_roundw
      case rel =>
        exact ⟨y, x % y, HY2, HR, Lib.hid ⟨Hs.out.2, Nat.le_trans (sz_mono (Nat.le_of_lt (Nat.mod_lt x Hy0.out))) Hs.out.2⟩, Lib.hid (by rw [gcd_swap]; exact Hg.out), HB.out⟩
      case measure =>
        show numOf _ _ < numOf _ _
        rw [numOf_eq HR.out]
        rw [show numOf wr _ = y from HN.out]
        exact Nat.mod_lt x Hy0.out
    · by_cases h0 : n = 0
      · subst h0
        have hy0 : y = 0 := sz_eq_zero.1 Hn.out
        subst hy0
        have HG2 : Hid (G = x) := Lib.hid (by rw [Hg.out, Nat.gcd_zero_right])
        go_wp2_with fail
        refine (make_any _ _ _ HX.out).mono ?_
        rintro e w2 ⟨v3, rfl, h3, hb2⟩
        unfold Num at h3
        rw [val_limbs, ← HG2.out] at h3
        have HB := hbl.trans (hb2.mono hbl.size)
        clear hb2 hbl
        go_wp2
        go_ret
        exact ⟨_, rfl, by rw [← HG.out]; exact h3, HB⟩
      · have hne : ((n : Int) == 0) = false := by simp; exact h0
        have hy0 : 0 < y := by
          rcases Nat.eq_zero_or_pos y with h0' | h0'
          · have := Hn.out; rw [h0', sz_zero] at this; omega
          · exact h0'
        have hy64 : y < 18446744073709551616 := sz_le_two.1 (by have := Hn.out; omega)
        have Hy0 := Lib.hid hy0; clear hy0
        have Hy64 := Lib.hid hy64; clear hy64
        go_wp2_with fail
        refine (divmod_any _ _ (limbs x) (limbs y) _ HX.out HYb.out Hs.out.1).mono ?_
        rintro e w2 ⟨v3, rfl, ⟨q, r, rfl, -, hr⟩, hb2⟩
        rw [val_limbs, val_limbs, dmR_pos Hy0.out] at hr
        have HY2 := Lib.hid (HYb.out.below hb2)
        have HR := Lib.hid hr
        have HB := Lib.hid (hbl.trans (hb2.mono hbl.size))
        clear hr hb2 hbl
        go_wp2_with fail
        refine (uint_any _ (limbs y) _ HY2.out).mono ?_
        rintro e w3 ⟨v4, rfl, h4, hb3⟩
        unfold UintP at h4
        subst h4
        have HR2 := Lib.hid (HR.out.below hb3)
        have HB2 := Lib.hid (HB.out.trans (hb3.mono HB.out.size))
        clear hb3
        go_wp2_with fail
        refine (uint_any _ (limbs (x % y)) _ HR2.out).mono ?_
        rintro e w4 ⟨v5, rfl, h5, hb4⟩
        unfold UintP at h5
        subst h5
        have HB3 := Lib.hid (HB2.out.trans (hb4.mono HB2.out.size))
        clear hb4
        have hr64 : x % y < 18446744073709551616 := by have := Nat.mod_lt x Hy0.out; have := Hy64.out; omega
        have e1 : uintN (val (limbs y)) = y := by rw [val_limbs]; exact if_pos Hy64.out
        have e2 : uintN (val (limbs (x % y))) = x % y := by rw [val_limbs]; exact if_pos hr64
        have Hr64 := Lib.hid hr64; clear hr64
        rw [e1, e2]
        clear e1 e2
        have HG3 : Hid (G = Nat.gcd y (x % y)) := Lib.hid (by rw [gcd_swap]; exact Hg.out)
        obtain ⟨z, hz⟩ : ∃ z, z = x % y := ⟨_, rfl⟩
        rw [← hz] at HG3 Hr64 ⊢
        clear hz
        generalize uintB (val (limbs y)) = b1
        generalize uintB (val (limbs (x % y))) = b2
        clear HX HYb HY2 HR HR2 HB HB2 Hs Hg Hy0 Hn
        go_wp2_with fail
        go_loopw [11, 13] (fun p q wr => ∃ x y : Nat, p = .int .u64 (x : Int) ∧ q = .int .u64 (y : Int) ∧ x < 18446744073709551616 ∧ y < 18446744073709551616 ∧ Hid (G = Nat.gcd x y) ∧ Hid (Below w.heap.size w wr)) (fun _ q _ => (intOf q).toNat)
        case atStart => exact ⟨y, z, rfl, rfl, Hy64.out, Hr64.out, HG3, HB3⟩
        case round =>
          obtain ⟨p, q, rfl, rfl, hp, hq, HG4, HB4⟩ := hrel
          by_cases hq0 : q = 0
          · subst hq0
            have HP : Hid (p = G) := Lib.hid (by rw [HG4.out, Nat.gcd_zero_right])
            go_wp2_with fail
            refine (of_any p _ hp).mono ?_
            rintro e w5 ⟨v6, rfl, h6, hb6⟩
            unfold Num at h6
            rw [HP.out] at h6
            have HB5 := HB4.out.trans (hb6.mono HB4.out.size)
            clear hb6
            go_wp2
            go_ret
            exact ⟨_, rfl, by rw [← HG.out]; exact h6, HB5⟩
          · have hq1 : 1 ≤ q := by omega
            have HMq : Hid (p % q < q ∧ G = Nat.gcd q (p % q)) := Lib.hid ⟨Nat.mod_lt p (by omega), by rw [gcd_swap]; exact HG4.out⟩
            go_wp2
            go_quiet (fail)
            go_wp2
            go_roundw
            case rel => exact ⟨q, p % q, rfl, congrArg (Value.int .u64) (Int.natCast_emod p q).symm, hq, by have := HMq.out.1; omega, Lib.hid HMq.out.2, Lib.hid (below_drewN HB4.out _)⟩
            case measure =>
              have e : ((p : Int) % (q : Int)) = ((p % q : Nat) : Int) := by simp
              simp only [intOf]
              rw [e]
              have := HMq.out.1
              omega

end Go.Proofs.Ytfkjhaniglmejaa
