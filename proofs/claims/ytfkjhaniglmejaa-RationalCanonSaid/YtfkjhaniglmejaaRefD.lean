/- Walks over the reference of package natural, fifth part: Uint, Bits, DivMod, Gcd. -/
import Derived.Test.YtfkjhaniglmejaaRefC
namespace Go.Proofs.Ytfkjhaniglmejaa
open Go.RowKit Nt

theorem val_of_one {ls : List Nat} (h : ls.length = 1) : val ls = ls.getD 0 0 := by
  have e := val_take_step ls 0
  rw [val_take_ge (by omega)] at e
  simpa [val] using e
theorem val_of_two {ls : List Nat} (h : ls.length = 2) : val ls = ls.getD 0 0 + 4294967296 * ls.getD 1 0 := by
  have e := val_take_step ls 1
  have e0 := val_take_step ls 0
  rw [val_take_ge (by omega), e0] at e
  simpa [val] using e

set_option maxHeartbeats 1000000 in
theorem ruint_any (v : Value) (xs : List Nat) (w : World) (h : Sl w v xs) : Calls Try.prog 108 #[v] w (Ret w (UintP (val xs))) := by
  have H2 := Lib.hid (sz_le_two (n := val xs))
  have Hva := Lib.hid (val_limbs (val xs))
  go_enter Try.func108, Try.ntmps108
  go_wp2_with fail
  refine (rmake_any _ xs _ h).mono ?_
  rintro e w1 ⟨v1, rfl, h1, hb1⟩
  unfold Num at h1
  clear h
  generalize val xs = a at *
  have Hn : Hid ((limbs a).length = sz a) := Lib.hid rfl
  generalize limbs a = ls at *
  obtain ⟨ad, n, cap, rfl, hn, hnc, hm, hx, hs⟩ := h1
  have Hl := Lib.hid hn; clear hn
  have Hx := Lib.hid hx; clear hx
  have Hb1 := Lib.hid hb1; clear hb1
  by_cases h2 : 2 < n
  · have HF : Hid (uintN a = 0 ∧ uintB a = false) := Lib.hid (by
      have h3 : ¬ a < 18446744073709551616 := fun h => by
        have := H2.out.2 h; have h4 := Hn.out; have h5 := Hl.out; omega
      simp [uintN, uintB, h3])
    have t0 : ((n : Int) == 0) = false := by simp; omega
    have t1 : ((n : Int) == 1) = false := by simp; omega
    have t2 : ((n : Int) == 2) = false := by simp; omega
    clear hs
    go_wp2
    go_ret2
    refine ⟨_, rfl, ?_, Hb1.out⟩
    unfold UintP
    rw [HF.out.1, HF.out.2]; rfl
  · have HF : Hid (uintN a = a ∧ uintB a = true) := Lib.hid (by
      have h3 : a < 18446744073709551616 := H2.out.1 (by have h4 := Hn.out; have h5 := Hl.out; omega)
      simp [uintN, uintB, h3])
    by_cases h0 : n = 0
    · subst h0
      have HA : Hid (a = 0) := Lib.hid (sz_eq_zero.1 (by rw [← Hn.out]; exact Hl.out))
      clear hs
      go_wp2
      go_ret2
      refine ⟨_, rfl, ?_, Hb1.out⟩
      unfold UintP
      rw [HF.out.1, HF.out.2, HA.out]; rfl
    · by_cases h1 : n = 1
      · subst h1
        have HA : Hid (a = ls.getD 0 0) := Lib.hid (by rw [← Hva.out]; exact val_of_one Hl.out)
        have bx := lims_getD Hx.out 0
        obtain ⟨b, off, rfl, hbw, hc⟩ := hs (by omega)
        have c1 := hc 0 (by omega)
        rw [Nat.add_zero, ← HA.out] at c1
        rw [← HA.out] at bx
        clear hs hc
        go_wp2
        go_ret2
        refine ⟨_, rfl, ?_, Hb1.out⟩
        unfold UintP
        rw [HF.out.1, HF.out.2]; rfl
      · obtain rfl : n = 2 := by omega
        have HA : Hid (a = ls.getD 0 0 + 4294967296 * ls.getD 1 0) := Lib.hid (by rw [← Hva.out]; exact val_of_two Hl.out)
        have bx := lims_getD Hx.out 0
        have by' := lims_getD Hx.out 1
        obtain ⟨b, off, rfl, hbw, hc⟩ := hs (by omega)
        have c1 := hc 0 (by omega)
        have c2 := hc 1 (by omega)
        rw [Nat.add_zero] at c1
        obtain ⟨x, hx⟩ : ∃ x, x = ls.getD 0 0 := ⟨_, rfl⟩
        obtain ⟨y, hy⟩ : ∃ y, y = ls.getD 1 0 := ⟨_, rfl⟩
        rw [← hx] at c1 bx HA
        rw [← hy] at c2 by' HA
        have ho := or_high bx by'
        rw [← HA.out] at ho
        clear hs hc hx hy
        go_wp2
        go_quiet (fail)
        go_wp2
        go_ret2
        refine ⟨_, rfl, ?_, below_drewN Hb1.out _⟩
        unfold UintP
        rw [HF.out.1, HF.out.2]; rfl

theorem blen_spec (n : Nat) : n < 2 ^ blen n ∧ (0 < n → 2 ^ blen n ≤ 2 * n) := by
  unfold blen
  split
  · rename_i h; subst h; exact ⟨by decide, fun h => absurd h (by decide)⟩
  · rename_i h
    have h3 := Nat.log2_self_le h
    have h4 := @Nat.lt_log2_self n
    exact ⟨h4, fun _ => by rw [Nat.pow_succ]; omega⟩

theorem blen_half {n : Nat} (h : 0 < n) : blen n = blen (n / 2) + 1 := by
  obtain ⟨h1, h2⟩ := blen_spec (n / 2)
  apply blen_uniq h
  · rw [Nat.pow_succ]; omega
  · rw [Nat.pow_succ]
    rcases Nat.eq_zero_or_pos (n / 2) with h0 | h0
    · rw [h0, blen_zero]; omega
    · have := h2 h0; omega

theorem blen_limbs {n : Nat} (h0 : 0 < n) : blen n = 32 * (sz n - 1) + blen ((limbs n).getD (sz n - 1) 0) := by
  rw [blen_top h0]
  have hne : (limbs n).getD (sz n - 1) 0 ≠ 0 := limbs_last h0
  have hlt := lims_getD (lims_limbs n) (sz n - 1)
  generalize (limbs n).getD (sz n - 1) 0 = t at *
  obtain ⟨h1, h2⟩ := bitLen_spec (x := t) (by omega)
  rw [blen_uniq (by omega) h1 (h2 (by omega))]

set_option maxHeartbeats 1000000 in
theorem rbits_any (v : Value) (xs : List Nat) (w : World) (h : Sl w v xs) (hx : xs.length ≤ 8589934592) : Calls Try.prog 109 #[v] w (Ret w (Val (.int .i64 ((blen (val xs) : Nat) : Int)))) := by
  have hla := sz_val h.lims
  go_enter Try.func109, Try.ntmps109
  go_wp2_with fail
  refine (rmake_any _ xs _ h).mono ?_
  rintro e w1 ⟨v1, rfl, h1, hb1⟩
  unfold Num at h1
  have Hb1 := Lib.hid hb1; clear hb1
  clear h
  generalize val xs = a at *
  rcases Nat.eq_zero_or_pos a with h0 | h0
  · subst h0
    rw [limbs_zero] at h1
    obtain ⟨ad, n, cap, rfl, hn, -⟩ := h1
    have : n = 0 := by simpa using hn.symm
    subst this
    clear hn hla
    rw [blen_zero]
    go_wp2
    go_ret
    exact ⟨_, rfl, rfl, Hb1.out⟩
  · have HT := Lib.hid (blen_limbs h0)
    have hp := sz_pos h0
    have hlt := lims_getD (lims_limbs a) (sz a - 1)
    obtain ⟨ad, n, cap, rfl, hn, hnc, hm, hx, hs⟩ := h1
    obtain rfl : n = sz a := hn.symm
    obtain ⟨b, off, rfl, hbw, hc⟩ := hs hp
    have c1 := hc (sz a - 1) (by omega)
    obtain ⟨t, ht⟩ : ∃ t, t = (limbs a).getD (sz a - 1) 0 := ⟨_, rfl⟩
    rw [← ht] at c1 hlt HT
    have hbl : blen t ≤ 32 := by
      obtain ⟨s1, s2⟩ := blen_spec t
      rcases Nat.lt_or_ge 32 (blen t) with h | h
      · exfalso
        have h5 : 2 ^ 33 ≤ 2 ^ blen t := Nat.pow_le_pow_right (by decide) h
        have e : 2 ^ 33 = 8589934592 := by decide
        rcases Nat.eq_zero_or_pos t with hz | hz
        · rw [hz, blen_zero] at h; omega
        · have := s2 hz; omega
      · exact h
    have Hbl := Lib.hid hbl
    generalize blen a = bl at *
    generalize sz a = n at *
    have hne : ((n : Int) == 0) = false := by simp; omega
    clear hc hs ht hn hx h0 hbl
    go_wp2_with fail
    go_loop [3, 4] (fun k x => ∃ j y : Nat, k = .int .i64 (32 * ((n : Int) - 1) + (j : Int)) ∧ x = .int .u32 (y : Int) ∧ j ≤ 32 ∧ y < 4294967296 ∧ Hid (blen t = j + blen y)) (fun _ x => (intOf x).toNat)
    case atStart => exact ⟨0, t, congrArg (Value.int .i64) (by omega), rfl, by omega, hlt, Lib.hid (by omega)⟩
    case round =>
      obtain ⟨j, y, rfl, rfl, hj, hy, Hs⟩ := hrel
      rcases Nat.eq_zero_or_pos y with hy0 | hy0
      · subst hy0
        have HF : Hid (bl = 32 * (n - 1) + j) := Lib.hid (by rw [HT.out, Hs.out, blen_zero, Nat.add_zero])
        clear c1
        go_wp2
        go_ret
        refine ⟨_, rfl, ?_, Hb1.out⟩
        show Value.int _ _ = Value.int _ _
        rw [HF.out]
        congr 1
        omega
      · have HH := Lib.hid (blen_half hy0)
        have hj2 : j + 1 ≤ 32 := by have := HH.out; have := Hs.out; have := Hbl.out; omega
        clear c1
        go_wp2
        go_round
        case rel => exact ⟨j + 1, y / 2, congrArg (Value.int .i64) (by omega), congrArg (Value.int .u32) (by omega), hj2, by omega, Lib.hid (by have := HH.out; have := Hs.out; omega)⟩
        case measure => simp [intOf] <;> omega

end Go.Proofs.Ytfkjhaniglmejaa
