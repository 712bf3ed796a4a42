/- Walks over package natural, fourth part: Mul. -/
import Derived.Test.YtfkjhaniglmejaaNatD
namespace Go.Proofs.Ytfkjhaniglmejaa
open Go.RowKit Nt

theorem mul_bound {x y : Nat} (hx : x < 4294967296) (hy : y < 4294967296) : (x : Int) * (y : Int) ≤ 18446744065119617025 ∧ 0 ≤ (x : Int) * (y : Int) := by
  have h : x * y ≤ 4294967295 * 4294967295 := Nat.mul_le_mul (by omega) (by omega)
  have h2 : ((x * y : Nat) : Int) = (x : Int) * (y : Int) := Int.natCast_mul x y
  omega

theorem mul_bound' {x y : Nat} (hx : x ≤ 4294967296) (hy : y < 4294967296) : (x : Int) * (y : Int) ≤ 18446744069414584320 ∧ 0 ≤ (x : Int) * (y : Int) := by
  have h : x * y ≤ 4294967296 * 4294967295 := Nat.mul_le_mul hx (by omega)
  have h2 : ((x * y : Nat) : Int) = (x : Int) * (y : Int) := Int.natCast_mul x y
  omega

theorem mulIn_stepI {n m i k c x y o : Nat} {os xs ys : List Nat} (h : mulIn n m i k c os xs ys) (hk : k < m) (hi : i < n) (hx : x = xs.getD i 0) (hy : y = ys.getD k 0) (ho : o = os.getD (i + k) 0)
    (hlx : lims xs) (hly : lims ys) (z : Int) (hz : z = (c : Int) + ((x : Int) * (y : Int) + (o : Int))) : mulIn n m i (k + 1) (z / 4294967296).toNat (os.set (i + k) (z % 4294967296).toNat) xs ys := by
  have e : z = ((c + (x * y + o) : Nat) : Int) := by rw [hz]; simp
  have e1 : (z / 4294967296).toNat = (c + (x * y + o)) / 4294967296 := by omega
  have e2 : (z % 4294967296).toNat = (c + (x * y + o)) % 4294967296 := by omega
  rw [e1, e2]
  exact mulIn_step h hk hi hx hy ho hlx hly _ rfl

set_option maxHeartbeats 400000 in
theorem mul_zero_any (v v' : Value) (xs ys : List Nat) (w : World) (h : Sl w v xs) (h' : Sl w v' ys) (h0 : val xs = 0 ∨ val ys = 0) :
    Calls Try.prog 58 #[v, v'] w (Ret w (Num 0)) := by
  go_enter Try.func58, Try.ntmps58
  go_wp2_with fail
  refine (trim_any _ xs _ h).mono ?_
  rintro e w' ⟨v1, rfl, h1, rfl⟩
  go_wp2_with fail
  refine (trim_any _ ys _ h').mono ?_
  rintro e w' ⟨v2, rfl, h2, rfl⟩
  clear h h'
  obtain ⟨ad, n, cap, rfl, hn, hnc, hm, ha, hs⟩ := h1
  obtain ⟨ad', n', cap', rfl, hn', hnc', hm', hb, hs'⟩ := h2
  by_cases hx : n = 0
  · subst hx
    clear hn hn' hs hs' h0
    go_wp2
    go_ret
    exact ⟨_, rfl, by unfold Num; rw [limbs_zero]; exact Sl.nil _, Below.refl _ _⟩
  · have hne : ((n : Int) == 0) = false := by simp; exact hx
    have hy : n' = 0 := by
      rcases h0 with h0 | h0
      · rw [h0, limbs_zero] at hn; simp at hn; omega
      · rw [h0, limbs_zero] at hn'; simp at hn'; omega
    subst hy
    clear hn hn' hs hs' h0 hx
    go_wp2
    go_ret
    exact ⟨_, rfl, by unfold Num; rw [limbs_zero]; exact Sl.nil _, Below.refl _ _⟩

set_option maxHeartbeats 1000000 in
theorem mul_pos_any (v v' : Value) (xs ys : List Nat) (w : World) (h : Sl w v xs) (h' : Sl w v' ys) (hx : xs.length ≤ 4294967296) (hy : ys.length ≤ 4294967296) (hx0 : 0 < val xs) (hy0 : 0 < val ys) :
    Calls Try.prog 58 #[v, v'] w (Ret w (Num (val xs * val ys))) := by
  have hla := sz_val h.lims
  have hlb := sz_val h'.lims
  have hpa := sz_pos hx0
  have hpb := sz_pos hy0
  clear hx0 hy0
  go_enter Try.func58, Try.ntmps58
  go_wp2_with fail
  refine (trim_any _ xs _ h).mono ?_
  rintro e w' ⟨v1, rfl, h1, rfl⟩
  go_wp2_with fail
  refine (trim_any _ ys _ h').mono ?_
  rintro e w' ⟨v2, rfl, h2, rfl⟩
  clear h h'
  unfold sz at hla hlb hpa hpb
  have Hva := Lib.hid (val_limbs (val xs))
  have Hvb := Lib.hid (val_limbs (val ys))
  generalize val xs = a at *
  generalize val ys = b at *
  generalize limbs a = ls at *
  generalize limbs b = ms at *
  obtain ⟨ad, n, cap, rfl, hn, hnc, hm, ha, hs⟩ := h1
  obtain ⟨ad', n', cap', rfl, hn', hnc', hm', hb, hs'⟩ := h2
  have hn4 : n ≤ 4294967296 := by omega
  have hn4' : n' ≤ 4294967296 := by omega
  have hp : 0 < n := by omega
  have hp' : 0 < n' := by omega
  have hne : ((n : Int) == 0) = false := by simp; omega
  have hne' : ((n' : Int) == 0) = false := by simp; omega
  clear hla hlb hpa hpb
  have Hn := Lib.hid hn; clear hn
  have Hn' := Lib.hid hn'; clear hn'
  have Ha := Lib.hid ha; clear ha
  have Hb := Lib.hid hb; clear hb
  obtain ⟨b1, off, rfl, hbw, hc⟩ := hs hp
  obtain ⟨b2, off2, rfl, hbw2, hc2⟩ := hs' hp'
  have Hc := Lib.hid hc; clear hc hs
  have Hc2 := Lib.hid hc2; clear hc2 hs'
  go_wp2_with (at_make; refine wpList_make_u32 _ rfl _ _ _ rfl 64 Try.underlying23 Try.infoU32 _ (n + n') rfl rfl (by omega) (by omega) ?_; intro w0 hA0 hb0 _)
  go_wp2
  go_loopw [31] (fun i wr => ∃ k os, k ≤ n ∧ i = .int .i64 ((k : Nat) : Int) ∧ Arr wr w.heap.size os ∧ Hid (mulOut n n' k os ls ms) ∧ Below w.heap.size w wr) (fun i _ => n - (intOf i).toNat)
  case atStart => exact ⟨0, _, Nat.zero_le _, rfl, hA0, Lib.hid (mulOut_zero _ _ _ _), hb0⟩
  case round =>
    obtain ⟨i, os, hi, rfl, hA, Hs, hbl⟩ := hrel
    by_cases hin : i < n
    · have c1 := (hbl.cell (p := ⟨b1, off + i, none⟩) hbw).trans (Hc.out i hin)
      have bx := lims_getD Ha.out i
      have ex : ls.getD i 0 = ls[i]?.getD 0 := rfl
      rw [ex] at bx c1
      have Ex := Lib.hid ex; clear ex
      obtain ⟨wo, rfl⟩ : ∃ wo : World, wo = wr := ⟨_, rfl⟩
      go_wp2
      go_loopw [8, 38] (fun cy j wr => ∃ k c os, k ≤ n' ∧ j = .int .i64 ((k : Nat) : Int) ∧ cy = .int .u64 ((c : Nat) : Int) ∧ Arr wr w.heap.size os ∧ Hid (mulIn n n' i k c os ls ms) ∧ Below w.heap.size w wr) (fun _ j _ => n' - (intOf j).toNat)
      case atStart => exact ⟨0, 0, os, Nat.zero_le _, rfl, rfl, hA, Lib.hid (mulIn_zero Hs.out), hbl⟩
      case round =>
        clear hA Hs hbl c1
        obtain ⟨k, c, os, hk, rfl, rfl, hA, Hs, hbl⟩ := hrel
        have ⟨hol, hos, _, hcb, _⟩ := Hs.out
        have Ol := Lib.hid hol; clear hol
        by_cases hkn : k < n'
        · have c2 := (hbl.cell (p := ⟨b2, off2 + k, none⟩) hbw2).trans (Hc2.out k hkn)
          have by' := lims_getD Hb.out k
          have ey : ms.getD k 0 = ms[k]?.getD 0 := rfl
          rw [ey] at by' c2
          have Ey := Lib.hid ey; clear ey
          have c3 := hA.cell (i + k) (by rw [Ol.out]; omega)
          have c4 := hA.frozen (i + k)
          have bo := lims_getD hos (i + k)
          have eo : os.getD (i + k) 0 = os[i + k]?.getD 0 := rfl
          rw [eo] at bo c3
          have Eo := Lib.hid eo; clear eo
          have hxy := mul_bound bx by'
          clear hos
          go_wp2
          go_roundw
          case rel =>
            exact ⟨k + 1, _, _, by omega, by go_num, congrArg (Value.int .u64) (Int.toNat_of_nonneg (by omega)).symm, hA.setI (i + k) _ (by omega), Lib.hid (mulIn_stepI Hs.out hkn hin Ex.out.symm Ey.out.symm Eo.out.symm Ha.out Hb.out _ rfl), hbl.setCell (Nat.le_refl _) _⟩
          case measure => simp [intOf] <;> omega
        · obtain rfl : k = n' := by omega
          have c3 := hA.cell (i + k) (by rw [Ol.out]; omega)
          have c4 := hA.frozen (i + k)
          have HM := Lib.hid (mulOut_step Hs.out hin (by have := Hn'.out; omega))
          clear hos
          go_wp2
          go_roundw
          case rel => exact ⟨i + 1, _, by omega, by go_num, hA.setI (i + k) (c : Int) (by omega), by rw [Int.toNat_natCast]; exact HM, hbl.setCell (Nat.le_refl _) _⟩
          case measure => simp [intOf] <;> omega
    · obtain rfl : i = n := by omega
      have HE := Lib.hid (mulOut_end Hs.out (by have := Hn.out; omega))
      go_wp2_with fail
      refine (trim_any _ _ _ (hA.sl (n := i + n') HE.out.1 HE.out.2.1 (Nat.le_refl _) (by omega))).mono ?_
      rintro e w' ⟨v1, rfl, h1, rfl⟩
      rw [HE.out.2.2, Hva.out, Hvb.out] at h1
      go_wp2
      go_ret
      exact ⟨_, rfl, h1, hbl⟩

theorem mul_any (v v' : Value) (xs ys : List Nat) (w : World) (h : Sl w v xs) (h' : Sl w v' ys) (hx : xs.length ≤ 4294967296) (hy : ys.length ≤ 4294967296) :
    Calls Try.prog 58 #[v, v'] w (Ret w (Num (val xs * val ys))) := by
  rcases Nat.eq_zero_or_pos (val xs) with h0 | h0
  · have := mul_zero_any v v' xs ys w h h' (Or.inl h0)
    rwa [h0, Nat.zero_mul]
  · rcases Nat.eq_zero_or_pos (val ys) with h1 | h1
    · have := mul_zero_any v v' xs ys w h h' (Or.inr h1)
      rwa [h1, Nat.mul_zero]
    · exact mul_pos_any v v' xs ys w h h' hx hy h0 h1

end Go.Proofs.Ytfkjhaniglmejaa
