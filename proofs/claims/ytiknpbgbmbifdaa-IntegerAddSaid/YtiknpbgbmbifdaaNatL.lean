/- Walks over package natural, eleventh part: Uint, Bits, Gcd. -/
import Derived.Test.YtiknpbgbmbifdaaNatK
namespace Go.Proofs.Ytiknpbgbmbifdaa
open Go.RowKit Nt

/-- What Uint answers. -/
def uintN (n : Nat) : Nat := if n < 18446744073709551616 then n else 0
def uintB (n : Nat) : Bool := decide (n < 18446744073709551616)
def UintP (n : Nat) (_ : World) (v : Value) : Prop := v = .tuple #[.int .u64 ((uintN n : Nat) : Int), .bool (uintB n)]

theorem sz_le_two {n : Nat} : sz n ≤ 2 ↔ n < 18446744073709551616 := by
  have e : 4294967296 ^ 2 = 18446744073709551616 := by decide
  constructor
  · intro h
    have h1 := lt_pow_sz n
    have h2 : 4294967296 ^ sz n ≤ 4294967296 ^ 2 := Nat.pow_le_pow_right (by decide) h
    omega
  · intro h; exact sz_le (by rw [e]; exact h)

theorem or_step {t d k : Nat} (hk : k ≤ 1) (ht : t < 4294967296 ^ k) (hd : d < 4294967296) :
    bits .or .u64 (t : Int) (IntKind.u64.wrap ((d : Int) * 2 ^ (32 * k))) = ((t + 4294967296 ^ k * d : Nat) : Int) := by
  rcases Nat.eq_zero_or_pos k with h0 | h0
  · subst h0
    have : t = 0 := by simpa using ht
    subst this
    have e : (d : Int) * 2 ^ (32 * 0) = (d : Int) := by simp
    have e2 : IntKind.u64.wrap (d : Int) = (d : Int) := by rw [wrap_u64]; omega
    rw [e, e2, show ((0 : Nat) : Int) = 0 from rfl]
    have := u64_or_nat 0 d (by decide) (by omega)
    simpa using this
  · obtain rfl : k = 1 := by omega
    have e : (d : Int) * 2 ^ (32 * 1) = (d : Int) * 4294967296 := by rfl
    have e2 : IntKind.u64.wrap ((d : Int) * 4294967296) = (d : Int) * 4294967296 := by rw [wrap_u64]; omega
    rw [e, e2]
    have := or_high (x := t) (y := d) (by simpa using ht) hd
    rw [this, Nat.pow_one]

set_option maxHeartbeats 1000000 in
theorem uint_any (v : Value) (xs : List Nat) (w : World) (h : Sl w v xs) : Calls Try.prog 35 #[v] w (Ret w (UintP (val xs))) := by
  have H2 := Lib.hid (sz_le_two (n := val xs))
  have Hva := Lib.hid (val_limbs (val xs))
  go_enter Try.func35, Try.ntmps35
  go_wp2_with fail
  refine (trim_any _ xs _ h).mono ?_
  rintro e w' ⟨v1, rfl, h1, rfl⟩
  clear h
  generalize val xs = a at *
  have Hn : Hid ((limbs a).length = sz a) := Lib.hid rfl
  generalize limbs a = ls at *
  obtain ⟨ad, n, cap, rfl, hn, hnc, hm, hx, hs⟩ := h1
  have Hl := Lib.hid hn; clear hn
  have Hx := Lib.hid hx; clear hx
  by_cases h2 : 2 < n
  · have HF : Hid (uintN a = 0 ∧ uintB a = false) := Lib.hid (by
      have h3 : ¬ a < 18446744073709551616 := fun h => by
        have := H2.out.2 h; have h4 := Hn.out; have h5 := Hl.out; omega
      simp [uintN, uintB, h3])
    clear hs
    go_wp2
    go_ret2
    refine ⟨_, rfl, ?_, Below.refl _ _⟩
    unfold UintP
    rw [HF.out.1, HF.out.2]; rfl
  · have HF : Hid (uintN a = a ∧ uintB a = true) := Lib.hid (by
      have h3 : a < 18446744073709551616 := H2.out.1 (by have h4 := Hn.out; have h5 := Hl.out; omega)
      simp [uintN, uintB, h3])
    go_wp2
    go_loop [4, 14] (fun x i => ∃ k t : Nat, k ≤ n ∧ i = .int .i64 ((k : Nat) : Int) ∧ x = .int .u64 ((t : Nat) : Int) ∧ Hid (t = val (ls.take k))) (fun _ i => n - (intOf i).toNat)
    case atStart => exact ⟨0, 0, by omega, rfl, rfl, Lib.hid rfl⟩
    case round =>
      obtain ⟨k, t, hk, rfl, rfl, Ht⟩ := hrel
      by_cases hkn : k < n
      · obtain ⟨b, off, rfl, hbw, hc⟩ := hs (by omega)
        have c1 := hc k hkn
        have bd := lims_getD Hx.out k
        obtain ⟨d, hd⟩ : ∃ d, d = ls.getD k 0 := ⟨_, rfl⟩
        rw [← hd] at c1 bd
        have HO := Lib.hid (or_step (t := t) (d := d) (k := k) (by omega) (by rw [Ht.out]; exact take_lt Hx.out k) bd)
        have Hd := Lib.hid hd; clear hd hc hs
        go_wp2
        go_round
        case rel => exact ⟨k + 1, _, by omega, by go_num, congrArg (Value.int .u64) HO.out, Lib.hid (by rw [val_take_step, ← Ht.out, ← Hd.out])⟩
        case measure => simp [intOf] <;> omega
      · obtain rfl : k = n := by omega
        have HT : Hid (t = a) := Lib.hid (by rw [Ht.out, val_take_ge (by have := Hl.out; omega), Hva.out])
        clear hs
        go_wp2
        go_ret2
        refine ⟨_, rfl, ?_, Below.refl _ _⟩
        unfold UintP
        rw [HF.out.1, HF.out.2, ← HT.out]; rfl

/-- How many bits a number has. -/
def blen (n : Nat) : Nat := if n = 0 then 0 else Nat.log2 n + 1

theorem blen_zero : blen 0 = 0 := rfl
theorem blen_uniq {n k : Nat} (h0 : 0 < n) (h1 : n < 2 ^ k) (h2 : 2 ^ k ≤ 2 * n) : blen n = k := by
  unfold blen
  rw [if_neg (by omega)]
  have h3 := Nat.log2_self_le (Nat.ne_of_gt h0)
  have h4 := @Nat.lt_log2_self n
  have h5 : Nat.log2 n < k := (Nat.pow_lt_pow_iff_right (by decide : 1 < 2)).1 (by omega)
  have h6 : k < Nat.log2 n + 2 := (Nat.pow_lt_pow_iff_right (by decide : 1 < 2)).1 (by rw [show Nat.log2 n + 2 = (Nat.log2 n + 1) + 1 from rfl, Nat.pow_succ]; omega)
  omega

theorem blen_top {n : Nat} (h0 : 0 < n) : blen n = 32 * (sz n - 1) + Lib.bitLen ((limbs n).getD (sz n - 1) 0) := by
  have hp := sz_pos h0
  have hne := limbs_last h0
  have hlt := lims_getD (lims_limbs n) (sz n - 1)
  have e := val_take_step (limbs n) (sz n - 1)
  have ht := take_lt (lims_limbs n) (sz n - 1)
  rw [show sz n - 1 + 1 = sz n by omega, val_take_ge (k := sz n) (by unfold sz; omega), val_limbs] at e
  have hne' : (limbs n).getD (sz n - 1) 0 ≠ 0 := hne
  generalize (limbs n).getD (sz n - 1) 0 = t at *
  obtain ⟨h1, h2⟩ := bitLen_spec (x := t) (by omega)
  have h3 := h2 (by omega)
  have e32 : 2 ^ (32 * (sz n - 1)) = 4294967296 ^ (sz n - 1) := by rw [Nat.pow_mul]
  apply blen_uniq h0
  · rw [Nat.pow_add, e32]
    have h4 : 4294967296 ^ (sz n - 1) * (t + 1) ≤ 4294967296 ^ (sz n - 1) * 2 ^ Lib.bitLen t := Nat.mul_le_mul_left _ h1
    rw [Nat.mul_add] at h4
    omega
  · rw [Nat.pow_add, e32]
    have h4 : 4294967296 ^ (sz n - 1) * 2 ^ Lib.bitLen t ≤ 4294967296 ^ (sz n - 1) * (2 * t) := Nat.mul_le_mul_left _ h3
    have e4 : 4294967296 ^ (sz n - 1) * (2 * t) = 2 * (4294967296 ^ (sz n - 1) * t) := by grind
    omega

theorem bitLen_le {t : Nat} (h : t < 4294967296) : Lib.bitLen t ≤ 32 := by
  rcases Nat.eq_zero_or_pos t with h0 | h0
  · subst h0; decide
  · obtain ⟨s, hs, _⟩ := lead_spec h0 h
    omega

set_option maxHeartbeats 1000000 in
theorem bits_any (v : Value) (xs : List Nat) (w : World) (h : Sl w v xs) (hx : xs.length ≤ 8589934592) : Calls Try.prog 41 #[v] w (Ret w (Val (.int .i64 ((blen (val xs) : Nat) : Int)))) := by
  have hla := sz_val h.lims
  go_enter Try.func41, Try.ntmps41
  go_wp2_with fail
  refine (trim_any _ xs _ h).mono ?_
  rintro e w' ⟨v1, rfl, h1, rfl⟩
  clear h
  generalize val xs = a at *
  rcases Nat.eq_zero_or_pos a with h0 | h0
  · subst h0
    rw [limbs_zero] at h1
    obtain ⟨ad, n, cap, rfl, hn, -⟩ := h1
    have : n = 0 := by simpa using hn.symm
    subst this
    clear hn hla
    rw [blen_zero]
    go_wp2
    go_ret
    exact ⟨_, rfl, rfl, Below.refl _ _⟩
  · have HT := Lib.hid (blen_top h0)
    have hp := sz_pos h0
    have hlt := lims_getD (lims_limbs a) (sz a - 1)
    obtain ⟨ad, n, cap, rfl, hn, hnc, hm, hx, hs⟩ := h1
    obtain rfl : n = sz a := hn.symm
    obtain ⟨b, off, rfl, hbw, hc⟩ := hs hp
    have c1 := hc (sz a - 1) (by omega)
    obtain ⟨t, ht⟩ : ∃ t, t = (limbs a).getD (sz a - 1) 0 := ⟨_, rfl⟩
    rw [← ht] at c1 hlt HT
    have hb32 := bitLen_le hlt
    generalize blen a = bl at *
    generalize sz a = n at *
    have hne : ((n : Int) == 0) = false := by simp; omega
    clear hc hs ht hn hx h0
    go_wp2_with fail
    refine (Try.bits_Len32 _ _ (by omega) (by omega)).mono ?_
    rintro e w2 ⟨rfl, rfl⟩
    rw [Int.toNat_natCast]
    generalize Lib.bitLen t = l at *
    go_wp2
    go_ret
    refine ⟨_, rfl, ?_, Below.refl _ _⟩
    show Value.int _ _ = Value.int _ _
    rw [HT.out]
    congr 1
    omega

/-- A slice reads as one list alone. -/
theorem Sl.uniq {w : World} {v : Value} {xs ys : List Nat} (h : Sl w v xs) (h' : Sl w v ys) : xs = ys := by
  obtain ⟨ad, n, cap, hv, hl, _, _, _, hs⟩ := h
  obtain ⟨ad', n', cap', hv', hl', _, _, _, hs'⟩ := h'
  rw [hv] at hv'
  injection hv' with e1 e2 e3
  subst e1 e2 e3
  refine list_ext_getD (by omega) fun i hi => ?_
  obtain ⟨b, off, ha, _, hc⟩ := hs (by omega)
  obtain ⟨b', off', ha', _, hc'⟩ := hs' (by omega)
  rw [ha] at ha'
  injection ha' with ha'
  injection ha' with e4 e5 _
  subst e4 e5
  have h1 := hc i (by omega)
  have h2 := hc' i (by omega)
  rw [h1] at h2
  injection h2 with h2
  injection h2 with _ h2
  omega

/-- The number that a slice reads as. -/
noncomputable def numOf (w : World) (v : Value) : Nat := open Classical in if h : ∃ n, Sl w v (limbs n) then h.choose else 0
theorem numOf_eq {w : World} {v : Value} {n : Nat} (h : Sl w v (limbs n)) : numOf w v = n := by
  unfold numOf
  have hex : ∃ n, Sl w v (limbs n) := ⟨n, h⟩
  rw [dif_pos hex]
  exact limbs_inj (hex.choose_spec.uniq h)

theorem gcd_swap {x y : Nat} : Nat.gcd y (x % y) = Nat.gcd x y := by
  rw [Nat.gcd_comm x y, Nat.gcd_rec y x, Nat.gcd_comm]

end Go.Proofs.Ytiknpbgbmbifdaa
