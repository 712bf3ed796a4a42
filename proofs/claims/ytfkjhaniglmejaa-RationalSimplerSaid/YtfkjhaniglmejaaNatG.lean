/- Walks over package natural, sixth part: Shl, Shr. -/
import Derived.Test.YtfkjhaniglmejaaNatF
import Derived.Test.YtfkjhaniglmejaaReg
namespace Go.Proofs.Ytfkjhaniglmejaa
open Go.RowKit Nt

theorem trim_ret (v : Value) (xs : List Nat) (w : World) (h : Sl w v xs) : Calls Try.prog 88 #[v] w (Ret w (Num (val xs))) := by
  refine (trim_any v xs w h).mono ?_
  rintro e w' ⟨v1, rfl, h1, rfl⟩
  exact ⟨_, rfl, h1, Below.refl _ _⟩

/-- What the shifts answer. -/
def shiftErr (k : Int) : Int := if k < 0 ∨ 1048576 < k then 2 else 0
def shlN (a : Nat) (k : Int) : Nat := if k < 0 ∨ 1048576 < k then 0 else a * 2 ^ k.toNat
def shrN (a : Nat) (k : Int) : Nat := if k < 0 ∨ 1048576 < k then 0 else a / 2 ^ k.toNat
theorem shiftErr_no {k : Int} (h : k < 0 ∨ 1048576 < k) : shiftErr k = 2 := by simp [shiftErr, h]
theorem shlN_no {a : Nat} {k : Int} (h : k < 0 ∨ 1048576 < k) : shlN a k = 0 := by simp [shlN, h]
theorem shrN_no {a : Nat} {k : Int} (h : k < 0 ∨ 1048576 < k) : shrN a k = 0 := by simp [shrN, h]
theorem shiftErr_yes {m : Nat} (h : m ≤ 1048576) : shiftErr (m : Int) = 0 := by
  have : ¬ ((m : Int) < 0 ∨ 1048576 < (m : Int)) := by omega
  simp only [shiftErr, if_neg this]
theorem shlN_yes {a m : Nat} (h : m ≤ 1048576) : shlN a (m : Int) = a * 2 ^ m := by
  have : ¬ ((m : Int) < 0 ∨ 1048576 < (m : Int)) := by omega
  simp only [shlN, if_neg this, Int.toNat_natCast]
theorem shrN_yes {a m : Nat} (h : m ≤ 1048576) : shrN a (m : Int) = a / 2 ^ m := by
  have : ¬ ((m : Int) < 0 ∨ 1048576 < (m : Int)) := by omega
  simp only [shrN, if_neg this, Int.toNat_natCast]

/-! Shr -/
theorem val_drop {xs : List Nat} (h : lims xs) (i : Nat) (hi : i ≤ xs.length) : val (xs.drop i) = val xs / 4294967296 ^ i := by
  have e := val_take_drop xs i hi
  have hl := take_lt h i
  have hp : 0 < 4294967296 ^ i := Nat.pow_pos (by decide)
  rw [e, Nat.add_mul_div_left _ _ hp, Nat.div_eq_of_lt hl, Nat.zero_add]

theorem drop_step (xs : List Nat) (i : Nat) (hi : i < xs.length) : val (xs.drop i) = xs.getD i 0 + 4294967296 * val (xs.drop (i + 1)) := by
  rw [List.drop_eq_getElem_cons hi, val_cons]
  simp [List.getD, hi]

theorem shr_digit {zs : List Nat} (h : lims zs) {i r : Nat} (hi : i < zs.length) (hr : r ≤ 31) :
    ((zs.getD i 0 + 4294967296 * zs.getD (i + 1) 0) / 2 ^ r) % 4294967296 = (val zs / 2 ^ r) / 4294967296 ^ i % 4294967296 := by
  rw [Nat.div_div_eq_div_mul, Nat.mul_comm (2 ^ r), ← Nat.div_div_eq_div_mul, ← val_drop h i (by omega), drop_step zs i hi]
  have e : ∃ m, val (zs.drop (i + 1)) = zs.getD (i + 1) 0 + 4294967296 * m := by
    by_cases hj : i + 1 < zs.length
    · exact ⟨_, drop_step zs (i + 1) hj⟩
    · refine ⟨0, ?_⟩
      rw [List.drop_of_length_le (by omega)]
      simp [val, List.getD, show zs.length ≤ i + 1 by omega]
  obtain ⟨m, hm⟩ := e
  rw [hm]
  have e2 : zs.getD i 0 + 4294967296 * (zs.getD (i + 1) 0 + 4294967296 * m) = (zs.getD i 0 + 4294967296 * zs.getD (i + 1) 0) + 2 ^ r * (4294967296 * (2 ^ (32 - r) * m)) := by
    have e3 : 2 ^ r * 2 ^ (32 - r) = 4294967296 := by rw [← pow_split (by omega)]
    have e4 : 2 ^ r * (4294967296 * (2 ^ (32 - r) * m)) = (2 ^ r * 2 ^ (32 - r)) * (4294967296 * m) := by grind
    rw [e4, e3]; omega
  rw [e2, Nat.add_mul_div_left _ _ (Nat.pow_pos (by decide)), Nat.add_mul_mod_self_left]

/-- What has been written of a right shift behind i rounds: M is the result. -/
def shrInv (n i M : Nat) (os : List Nat) : Prop := os.length = n ∧ lims os ∧ val (os.take i) = M % 4294967296 ^ i

theorem shrInv_zero (n M : Nat) : shrInv n 0 M (List.replicate n 0) := ⟨by simp, lims_replicate _, by simp [val, Nat.mod_one]⟩

theorem shrInv_step {n i M d : Nat} {os : List Nat} (h : shrInv n i M os) (hi : i < n) (hd : d = M / 4294967296 ^ i % 4294967296) : shrInv n (i + 1) M (os.set i d) := by
  obtain ⟨h1, h2, h3⟩ := h
  refine ⟨by simpa using h1, lims_set h2 _ _ (by omega), ?_⟩
  rw [val_set_take (by omega), h3, hd, Nat.mod_pow_succ]

theorem shrInv_end {n M : Nat} {os : List Nat} (h : shrInv n n M os) (hM : M < 4294967296 ^ n) : lims os ∧ os.length = n ∧ val os = M := by
  obtain ⟨h1, h2, h3⟩ := h
  rw [val_take_ge (by omega), Nat.mod_eq_of_lt hM] at h3
  exact ⟨h2, h1, h3⟩

theorem or_high {x y : Nat} (hx : x < 4294967296) (hy : y < 4294967296) : bits .or .u64 (x : Int) ((y : Int) * 4294967296) = ((x + 4294967296 * y : Nat) : Int) := by
  have e1 : 2 ^ 32 = 4294967296 := by decide
  have e2 : ((y : Int) * 4294967296) = ((y * 4294967296 : Nat) : Int) := by omega
  rw [e2, u64_or_nat _ _ (by omega) (by omega), ← e1, or_low (by omega), e1]
  omega

theorem cast_shr {t r D : Nat} {z : Int} (hz : z = (t : Int)) (hD : t / 2 ^ r % 4294967296 = D) : z / 2 ^ r % 4294967296 = (D : Int) := by
  subst hz hD
  simp

set_option maxHeartbeats 400000 in
theorem shr_no (v : Value) (k : Int) (w : World) (hk : k < 0 ∨ 1048576 < k) :
    Calls Try.prog 106 #[v, .int .i64 k] w (Ret w (NumE 0 2)) := by
  by_cases h0 : k < 0
  · clear hk
    go_enter Try.func106, Try.ntmps106
    go_wp2
    go_ret2
    exact ⟨_, rfl, ⟨_, rfl, by rw [limbs_zero]; exact Sl.nil _⟩, Below.refl _ _⟩
  · have h1 : 1048576 < k := by omega
    have h2 : decide (k < 0) = false := by simp; omega
    clear hk h0
    go_enter Try.func106, Try.ntmps106
    go_wp2
    go_ret2
    exact ⟨_, rfl, ⟨_, rfl, by rw [limbs_zero]; exact Sl.nil _⟩, Below.refl _ _⟩

theorem Sl.dropped {w : World} {xs : List Nat} {ad : Option Addr} {n cap : Nat} (h : Sl w (.slice ad n cap) xs) (q : Nat) (hq : q < n) :
    ∃ b off, ad = some ⟨b, off, none⟩ ∧ b < w.heap.size ∧ (xs.drop q).length = n - q ∧ ∀ i, i < n - q → w.cell? ⟨b, off + q + i, none⟩ = some (.int .u32 (((xs.drop q).getD i 0 : Nat) : Int)) := by
  obtain ⟨_, _, _, e, hl, _, _, _, hs⟩ := h
  injection e with e1 e2 e3
  subst e1 e2 e3
  obtain ⟨b, off, hb, hbw, hc⟩ := hs (by omega)
  refine ⟨b, off, hb, hbw, by simp; omega, fun i hi => ?_⟩
  rw [Nat.add_assoc, hc (q + i) (by omega)]
  simp [List.getD]

set_option maxHeartbeats 1000000 in
theorem shr_yes (v : Value) (xs : List Nat) (k : Nat) (w : World) (h : Sl w v xs) (hx : xs.length ≤ 8589934592) (hk : k ≤ 1048576) :
    Calls Try.prog 106 #[v, .int .i64 (k : Int)] w (Ret w (NumE (val xs / 2 ^ k) 0)) := by
  have h2 : decide ((k : Int) < 0) = false := by simp
  have hla := sz_val h.lims
  unfold sz at hla
  have Hva := Lib.hid (val_limbs (val xs))
  have Hll := Lib.hid (lims_limbs (val xs))
  obtain ⟨q, hq⟩ : ∃ q, q = k / 32 := ⟨_, rfl⟩
  obtain ⟨r, hr⟩ : ∃ r, r = k % 32 := ⟨_, rfl⟩
  have e1 : ((k : Int) / 32) = (q : Int) := by omega
  have e2 : ((k : Int) % 32) = (r : Int) := by omega
  have hqk : q ≤ 32768 := by omega
  have hr31 : r ≤ 31 := by omega
  have hk2 : k = 32 * q + r := by omega
  have HP : Hid (∀ a : Nat, a / 2 ^ k = a / 4294967296 ^ q / 2 ^ r) := Lib.hid fun a => by
    have e32 : (2 : Nat) ^ 32 = 4294967296 := by decide
    rw [hk2, Nat.pow_add, Nat.pow_mul, e32, Nat.div_div_eq_div_mul]
  clear hq hr hk2
  go_enter Try.func106, Try.ntmps106
  go_wp2_with fail
  refine (trim_any _ xs _ h).mono ?_
  rintro e w' ⟨v1, rfl, h1, rfl⟩
  generalize val xs = a at *
  generalize limbs a = ls at *
  have H1 := Lib.hid h1
  obtain ⟨ad, n, cap, rfl, hn, hnc, -⟩ := h1
  have hn4 : n ≤ 8589934592 := by omega
  clear hla h
  have Hn := Lib.hid hn; clear hn
  by_cases hqn : n ≤ q
  · have HZ : Hid (a / 2 ^ k = 0) := Lib.hid (by
      rw [HP.out]
      have h3 := val_lt Hll.out
      rw [Hn.out, Hva.out] at h3
      have h4 : 4294967296 ^ n ≤ 4294967296 ^ q := Nat.pow_le_pow_right (by decide) hqn
      rw [Nat.div_eq_of_lt (show a < 4294967296 ^ q by omega)]
      exact Nat.zero_div _)
    go_wp2
    go_ret2
    exact ⟨_, rfl, ⟨_, rfl, by rw [HZ.out, limbs_zero]; exact Sl.nil _⟩, Below.refl _ _⟩
  · obtain ⟨b, off, rfl, hbw, hdl, hdc⟩ := H1.out.dropped q (by omega)
    have Hdl := Lib.hid hdl; clear hdl
    have Hdc := Lib.hid hdc; clear hdc
    have HM : Hid (a / 2 ^ k = val (ls.drop q) / 2 ^ r) := Lib.hid (by rw [HP.out, val_drop Hll.out q (by rw [Hn.out]; omega), Hva.out])
    have Hlz := Lib.hid (lims_drop Hll.out q)
    generalize ls.drop q = zs at *
    have hcq : ¬ cap = q := by omega
    go_wp2_with (at_make; refine wpList_make_u32 _ rfl _ _ _ rfl 64 Try.underlying23 Try.infoU32 _ (n - q) rfl rfl (by omega) (by omega) ?_; intro w0 hA0 hb0 _)
    go_wp2
    go_loopw [32] (fun i wr => ∃ j os, j ≤ n - q ∧ i = .int .i64 ((j : Nat) : Int) ∧ Arr wr w.heap.size os ∧ Hid (shrInv (n - q) j (a / 2 ^ k) os) ∧ Below w.heap.size w wr) (fun i _ => (n - q) - (intOf i).toNat)
    case atStart => exact ⟨0, _, Nat.zero_le _, rfl, hA0, Lib.hid (shrInv_zero _ _), hb0⟩
    case round =>
      obtain ⟨i, os, hi, rfl, hA, Hs, hbl⟩ := hrel
      have ⟨hol, _, _⟩ := Hs.out
      by_cases hin : i < n - q
      · have c1 := (hbl.cell (p := ⟨b, off + q + i, none⟩) hbw).trans (Hdc.out i hin)
        have bx := lims_getD Hlz.out i
        have by' := lims_getD Hlz.out (i + 1)
        have HD : (zs.getD i 0 + 4294967296 * zs.getD (i + 1) 0) / 2 ^ r % 4294967296 = a / 2 ^ k / 4294967296 ^ i % 4294967296 := by rw [HM.out]; exact shr_digit Hlz.out (by rw [Hdl.out]; exact hin) hr31
        have HO : Hid (bits .or .u64 ((zs[i]?.getD 0 : Nat) : Int) (((zs[i + 1]?.getD 0 : Nat) : Int) * 4294967296) / 2 ^ r % 4294967296 = ((a / 2 ^ k / 4294967296 ^ i % 4294967296 : Nat) : Int)) := Lib.hid (cast_shr (or_high bx by') HD)
        have HZ : Hid (¬ i + 1 < n - q → ((zs[i]?.getD 0 : Nat) : Int) / 2 ^ r % 4294967296 = ((a / 2 ^ k / 4294967296 ^ i % 4294967296 : Nat) : Int)) := Lib.hid fun h => by
          have hz : zs.getD (i + 1) 0 = 0 := by simp [List.getD, show zs.length ≤ i + 1 by have := Hdl.out; omega]
          rw [hz] at HD
          exact cast_shr rfl HD
        clear HD
        have ex : zs.getD i 0 = zs[i]?.getD 0 := rfl
        rw [ex] at bx c1
        have Ex := Lib.hid ex; clear ex
        have ey : zs.getD (i + 1) 0 = zs[i + 1]?.getD 0 := rfl
        rw [ey] at by'
        have Ey := Lib.hid ey; clear ey
        have c3 := hA.cell i (by omega)
        have c4 := hA.frozen i
        have Ol := Lib.hid hol; clear hol
        by_cases hi1 : i + 1 < n - q
        · have c2 := (hbl.cell (p := ⟨b, off + q + (i + 1), none⟩) hbw).trans (Hdc.out (i + 1) hi1)
          rw [Ey.out] at c2
          go_wp2
          go_roundw
          case rel => exact ⟨i + 1, _, by omega, by go_num, by rw [HO.out]; exact hA.set i _, Lib.hid (shrInv_step Hs.out hin rfl), hbl.setCell (Nat.le_refl _) _⟩
          case measure => simp [intOf] <;> omega
        · have HZ' := Lib.hid (HZ.out hi1)
          go_wp2
          go_roundw
          case rel => exact ⟨i + 1, _, by omega, by go_num, by rw [HZ'.out]; exact hA.set i _, Lib.hid (shrInv_step Hs.out hin rfl), hbl.setCell (Nat.le_refl _) _⟩
          case measure => simp [intOf] <;> omega
      · obtain rfl : i = n - q := by omega
        have HE := Lib.hid (shrInv_end Hs.out (by
          rw [HM.out]
          have h3 := val_lt Hlz.out
          rw [Hdl.out] at h3
          exact Nat.lt_of_le_of_lt (Nat.div_le_self _ _) h3))
        go_wp2_with fail
        refine (trim_any _ _ _ (hA.sl (n := n - q) HE.out.1 HE.out.2.1 (Nat.le_refl _) (by omega))).mono ?_
        rintro e w' ⟨v1, rfl, h1, rfl⟩
        rw [HE.out.2.2] at h1
        go_wp2
        go_ret2
        exact ⟨_, rfl, ⟨_, rfl, h1⟩, hbl⟩

theorem shr_any (v : Value) (xs : List Nat) (k : Int) (w : World) (h : Sl w v xs) (hx : xs.length ≤ 8589934592) :
    Calls Try.prog 106 #[v, .int .i64 k] w (Ret w (NumE (shrN (val xs) k) (shiftErr k))) := by
  by_cases hk : k < 0 ∨ 1048576 < k
  · rw [shrN_no hk, shiftErr_no hk]
    exact shr_no v k w hk
  · obtain ⟨m, rfl⟩ : ∃ m : Nat, k = m := ⟨k.toNat, by omega⟩
    rw [shrN_yes (by omega), shiftErr_yes (by omega)]
    exact shr_yes v xs m w h hx (by omega)

end Go.Proofs.Ytfkjhaniglmejaa
