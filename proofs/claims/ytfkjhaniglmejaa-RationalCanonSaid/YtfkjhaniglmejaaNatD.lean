/- Walks over package natural, third part: Sub. -/
import Derived.Test.YtfkjhaniglmejaaNatC
namespace Go.Proofs.Ytfkjhaniglmejaa
open Go.RowKit Nt

/-- What has been written of a difference behind k rounds. -/
def subInv (n k c : Nat) (os xs ys : List Nat) : Prop :=
  os.length = n ∧ lims os ∧ c ≤ 1 ∧ val (os.take k) + val (ys.take k) = val (xs.take k) + 4294967296 ^ k * c

theorem subInv_zero (n : Nat) (xs ys : List Nat) : subInv n 0 0 (List.replicate n 0) xs ys :=
  ⟨by simp, lims_replicate _, by decide, by simp [val]⟩

theorem subInv_step {n k c x y : Nat} {os xs ys : List Nat} (h : subInv n k c os xs ys) (hk : k < n) (hx : x = xs.getD k 0) (hy : y = ys.getD k 0) (hlx : lims xs) (hly : lims ys) (d o : Int)
    (hd : d + y + c = x + 4294967296 * o) (hd0 : 0 ≤ d) (hd1 : d < 4294967296) (ho : 0 ≤ o) : subInv n (k + 1) o.toNat (os.set k d.toNat) xs ys := by
  obtain ⟨h1, h2, h3, h4⟩ := h
  have b1 := lims_getD hlx k
  have b2 := lims_getD hly k
  refine ⟨by simpa using h1, lims_set h2 _ _ (by omega), by omega, ?_⟩
  rw [val_set_take (by omega), val_take_step xs, val_take_step ys, Nat.pow_succ, ← hx, ← hy]
  have e : 4294967296 ^ k * (d.toNat + y + c) = 4294967296 ^ k * (x + 4294967296 * o.toNat) := by congr 1; omega
  rw [Nat.mul_add, Nat.mul_add, Nat.mul_add, ← Nat.mul_assoc] at e
  omega

theorem subInv_end {n c : Nat} {os xs ys : List Nat} (h : subInv n n c os xs ys) (hn : xs.length ≤ n) (hm : ys.length ≤ n) (hle : val ys ≤ val xs) : lims os ∧ os.length = n ∧ val os = val xs - val ys := by
  obtain ⟨h1, h2, h3, h4⟩ := h
  refine ⟨h2, h1, ?_⟩
  rw [val_take_ge hn, val_take_ge hm, val_take_ge (xs := os) (by omega)] at h4
  have := val_lt h2
  rw [h1] at this
  have hc : c = 0 := by
    rcases Nat.eq_zero_or_pos c with h | h
    · exact h
    · have : c = 1 := by omega
      subst this; omega
  subst hc; omega

/-- The error of Sub. -/
def subErr (a b : Nat) : Int := if a < b then 2 else 0
theorem subErr_lt {a b : Nat} (h : a < b) : subErr a b = 2 := by simp [subErr, h]
theorem subErr_le {a b : Nat} (h : b ≤ a) : subErr a b = 0 := by simp [subErr, show ¬ a < b by omega]

set_option maxHeartbeats 400000 in
theorem sub_no (v v' : Value) (xs ys : List Nat) (w : World) (h : Sl w v xs) (h' : Sl w v' ys) (hlt : val xs < val ys) :
    Calls Try.prog 84 #[v, v'] w (Ret w (NumE 0 2)) := by
  go_enter Try.func84, Try.ntmps84
  go_wp2_with fail
  refine (trim_any _ xs _ h).mono ?_
  rintro e w' ⟨v1, rfl, h1, rfl⟩
  go_wp2_with fail
  refine (trim_any _ ys _ h').mono ?_
  rintro e w' ⟨v2, rfl, h2, rfl⟩
  clear h h'
  go_wp2_with fail
  refine (cmp_any _ _ _ _ _ h1 h2).mono ?_
  rintro e wc ⟨v3, rfl, h3, hbc⟩
  unfold Val at h3
  subst h3
  have h1 := h1.below hbc
  have h2 := h2.below hbc
  rw [val_limbs, val_limbs]
  rw [cmpN_lt hlt]
  clear hlt
  go_wp2
  go_ret2
  exact ⟨_, rfl, ⟨_, rfl, by rw [limbs_zero]; exact Sl.nil _⟩, hbc⟩

theorem wrap_u64 (z : Int) : IntKind.u64.wrap z = z % 18446744073709551616 := rfl
theorem wrap_u32 (z : Int) : IntKind.u32.wrap z = z % 4294967296 := rfl

set_option maxHeartbeats 1000000 in
theorem sub_yes (v v' : Value) (xs ys : List Nat) (w : World) (h : Sl w v xs) (h' : Sl w v' ys) (hx : xs.length ≤ 4294967296) (hle : val ys ≤ val xs) :
    Calls Try.prog 84 #[v, v'] w (Ret w (NumE (val xs - val ys) 0)) := by
  have hla := sz_val h.lims
  go_enter Try.func84, Try.ntmps84
  go_wp2_with fail
  refine (trim_any _ xs _ h).mono ?_
  rintro e w' ⟨v1, rfl, h1, rfl⟩
  go_wp2_with fail
  refine (trim_any _ ys _ h').mono ?_
  rintro e w' ⟨v2, rfl, h2, rfl⟩
  clear h h'
  go_wp2_with fail
  refine (cmp_any _ _ _ _ _ h1 h2).mono ?_
  rintro e wc ⟨v3, rfl, h3, hbc⟩
  unfold Val at h3
  subst h3
  have h1 := h1.below hbc
  have h2 := h2.below hbc
  rw [val_limbs, val_limbs]
  have hlen := sz_mono hle
  unfold sz at hla hlen
  have hc0 : 0 ≤ cmpN (val xs) (val ys) := by rcases Nat.lt_or_ge (val ys) (val xs) with h | h; · rw [cmpN_gt h]; decide
                                              · rw [cmpN_eq (by omega)]; decide
  have Hva := Lib.hid (val_limbs (val xs))
  have Hvb := Lib.hid (val_limbs (val ys))
  generalize val xs = a at *
  generalize val ys = b at *
  have hcd : decide (cmpN a b < 0) = false := by simp; exact hc0
  generalize cmpN a b = cm at *
  have Hle := Lib.hid hle
  generalize limbs a = ls at *
  generalize limbs b = ms at *
  obtain ⟨ad, n, cap, rfl, hn, hnc, hm, ha, hs⟩ := h1
  obtain ⟨ad', n', cap', rfl, hn', hnc', hm', hb, hs'⟩ := h2
  have hn4 : n ≤ 4294967296 := by omega
  have Hlen : Hid (ms.length ≤ n) := Lib.hid (by omega)
  clear hla hlen hle
  have Hn := Lib.hid hn; clear hn
  have Hn' := Lib.hid hn'; clear hn'
  have Ha := Lib.hid ha; clear ha
  have Hb := Lib.hid hb; clear hb
  go_wp2_with (at_make; refine wpList_make_u32 _ rfl _ _ _ rfl 64 Try.underlying23 Try.infoU32 _ n rfl rfl (by omega) (by omega) ?_; intro w0 hA0 hb0 _)
  go_wp2
  go_loopw [7, 24] (fun cy i wr => ∃ k c os, k ≤ n ∧ i = .int .i64 ((k : Nat) : Int) ∧ cy = .int .u64 ((c : Nat) : Int) ∧ Arr wr wc.heap.size os ∧ Hid (subInv n k c os ls ms) ∧ Below wc.heap.size wc wr) (fun _ i _ => n - (intOf i).toNat)
  case atStart => exact ⟨0, 0, _, Nat.zero_le _, rfl, rfl, hA0, Lib.hid (subInv_zero _ _ _), hb0⟩
  case round =>
    obtain ⟨k, c, os, hk, rfl, rfl, hA, Hs, hbl⟩ := hrel
    have ⟨hol, _, hc1, _⟩ := Hs.out
    by_cases hkn : k < n
    · obtain ⟨b1, off, rfl, hbw, hc⟩ := hs (by omega)
      have c1 := (hbl.cell (p := ⟨b1, off + k, none⟩) hbw).trans (hc k hkn)
      have bx := lims_getD Ha.out k
      have by' := lims_getD Hb.out k
      have c3 := hA.cell k (by omega)
      have c4 := hA.frozen k
      have ex : ls.getD k 0 = ls[k]?.getD 0 := rfl
      have ey : ms.getD k 0 = ms[k]?.getD 0 := rfl
      rw [ex] at bx c1
      rw [ey] at by'
      have Ex := Lib.hid ex; clear ex
      have Ey := Lib.hid ey; clear ey
      have Ol := Lib.hid hol; clear hol
      by_cases hkm : k < n'
      · obtain ⟨b2, off2, rfl, hbw2, hc2⟩ := hs' (by omega)
        have c2 := (hbl.cell (p := ⟨b2, off2 + k, none⟩) hbw2).trans (hc2 k hkm)
        rw [Ey.out] at c2
        clear hc hc2 hs hs'
        go_wp2
        go_roundw
        case rel =>
          exact ⟨k + 1, _, _, by omega, by go_num, congrArg (Value.int .u64) (Int.toNat_of_nonneg (by simp only [wrap_u64]; omega)).symm, hA.setI k _ (by omega), Lib.hid (subInv_step Hs.out hkn Ex.out.symm Ey.out.symm Ha.out Hb.out _ _ (by simp only [wrap_u64]; omega) (by omega) (by omega) (by simp only [wrap_u64]; omega)), hbl.setCell (Nat.le_refl _) _⟩
        case measure => simp [intOf] <;> omega
      · have hz : ms.getD k 0 = 0 := by simp [List.getD, show ms.length ≤ k by have := Hn'.out; omega]
        have Hz := Lib.hid hz
        clear hz hc hs hs'
        go_wp2
        go_roundw
        case rel =>
          exact ⟨k + 1, _, _, by omega, by go_num, congrArg (Value.int .u64) (Int.toNat_of_nonneg (by simp only [wrap_u64]; omega)).symm, hA.setI k _ (by omega), Lib.hid (subInv_step (y := 0) Hs.out hkn Ex.out.symm Hz.out.symm Ha.out Hb.out _ _ (by simp only [wrap_u64]; omega) (by omega) (by omega) (by simp only [wrap_u64]; omega)), hbl.setCell (Nat.le_refl _) _⟩
        case measure => simp [intOf] <;> omega
    · obtain rfl : k = n := by omega
      have HE := Lib.hid (subInv_end Hs.out (by have := Hn.out; omega) Hlen.out (by rw [Hva.out, Hvb.out]; exact Hle.out))
      have Ol := Lib.hid hol; clear hol hs hs'
      go_wp2_with fail
      refine (trim_any _ _ _ (hA.sl (n := k) HE.out.1 HE.out.2.1 (Nat.le_refl _) (by omega))).mono ?_
      rintro e w' ⟨v1, rfl, h1, rfl⟩
      rw [HE.out.2.2, Hva.out, Hvb.out] at h1
      go_wp2
      go_ret2
      exact ⟨_, rfl, ⟨_, rfl, h1⟩, hbc.trans (hbl.mono hbc.size)⟩

theorem sub_any (v v' : Value) (xs ys : List Nat) (w : World) (h : Sl w v xs) (h' : Sl w v' ys) (hx : xs.length ≤ 4294967296) :
    Calls Try.prog 84 #[v, v'] w (Ret w (NumE (val xs - val ys) (subErr (val xs) (val ys)))) := by
  rcases Nat.lt_or_ge (val xs) (val ys) with hlt | hle
  · rw [subErr_lt hlt, show val xs - val ys = 0 by omega]
    exact sub_no v v' xs ys w h h' hlt
  · rw [subErr_le hle]
    exact sub_yes v v' xs ys w h h' hx hle

end Go.Proofs.Ytfkjhaniglmejaa
