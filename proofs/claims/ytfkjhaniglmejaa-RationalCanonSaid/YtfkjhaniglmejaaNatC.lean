/- Walks over package natural, second part: Cmp, Add. -/
import Derived.Test.YtfkjhaniglmejaaNatB
namespace Go.Proofs.Ytfkjhaniglmejaa
open Go.RowKit Nt

set_option maxHeartbeats 400000 in
theorem cmp_any (v v' : Value) (xs ys : List Nat) (w : World) (h : Sl w v xs) (h' : Sl w v' ys) :
    Calls Try.prog 76 #[v, v'] w (Ret w (Val (.int .i64 (cmpN (val xs) (val ys))))) := by
  go_enter Try.func76, Try.ntmps76
  go_wp2_with fail
  refine (trim_any _ xs _ h).mono ?_
  rintro e w' ⟨v1, rfl, h1, rfl⟩
  go_wp2_with fail
  refine (trim_any _ ys _ h').mono ?_
  rintro e w' ⟨v2, rfl, h2, rfl⟩
  clear h h'
  generalize val xs = a at *
  generalize val ys = b at *
  have hla := lims_limbs a
  have hlb := lims_limbs b
  have hva := val_limbs a
  have hvb := val_limbs b
  have hlen : (limbs a).length < (limbs b).length → a < b := limbs_len_lt
  have hlen' : (limbs b).length < (limbs a).length → b < a := limbs_len_lt
  obtain ⟨ls, ha⟩ : ∃ ls, ls = limbs a := ⟨_, rfl⟩
  obtain ⟨ms, hb⟩ : ∃ ms, ms = limbs b := ⟨_, rfl⟩
  rw [← ha] at h1 hla hva hlen hlen'
  rw [← hb] at h2 hlb hvb hlen hlen'
  clear ha hb
  obtain ⟨ad, n, cap, rfl, hn, hnc, hm, -, hs⟩ := h1
  obtain ⟨ad', n', cap', rfl, hn', hnc', hm', -, hs'⟩ := h2
  rcases Nat.lt_trichotomy n n' with hlt | heq | hlt
  · have HF := Lib.hid (cmpN_lt (hlen (by omega)))
    have hne : ((n : Int) != n') = true := by rw [bne_iff_ne]; omega
    clear hs hs' hlen hlen' hva hvb hla hlb hn hn'
    go_wp2
    go_ret
    refine ⟨_, rfl, ?_, Below.refl _ _⟩
    show Value.int _ _ = Value.int _ _
    rw [HF.out]
  · have hne : ((n : Int) != n') = false := by rw [bne_eq_false_iff_eq]; omega
    subst heq
    have Hn := Lib.hid hn; clear hn
    have Hn' := Lib.hid hn'; clear hn'
    have Ha := Lib.hid hla; clear hla
    have Hb := Lib.hid hlb; clear hlb
    have Hva := Lib.hid hva; clear hva
    have Hvb := Lib.hid hvb; clear hvb hlen hlen'
    go_wp2
    go_loopw [5] (fun i wr => ∃ k : Nat, k ≤ n ∧ i = .int .i64 ((k : Int) - 1) ∧ Hid (agree ls ms k) ∧ Below w.heap.size w wr) (fun i _ => (intOf i + 1).toNat)
    case atStart => exact ⟨n, Nat.le_refl _, rfl, Lib.hid (agree_top (by rw [Hn.out]; exact Nat.le_refl _) (by rw [Hn'.out]; exact Nat.le_refl _)), Below.refl _ _⟩
    case round =>
      obtain ⟨k, hk, rfl, Hs, hbl⟩ := hrel
      rcases Nat.eq_zero_or_pos k with hk0 | hk0
      · subst hk0
        have HF : Hid (cmpN a b = 0) := Lib.hid (cmpN_eq (by rw [← Hva.out, ← Hvb.out]; exact agree_zero Hs.out))
        clear hs hs'
        go_wp2
        go_ret
        refine ⟨_, rfl, ?_, hbl⟩
        show Value.int _ _ = Value.int _ _
        rw [HF.out]
      · obtain ⟨j, rfl⟩ : ∃ j, k = j + 1 := ⟨k - 1, by omega⟩
        rw [show ((j + 1 : Nat) : Int) - 1 = (j : Int) from by omega]
        obtain ⟨b1, off, rfl, hbw, hc⟩ := hs (by omega)
        obtain ⟨b1', off', rfl, hbw', hc'⟩ := hs' (by omega)
        have c1 := (hbl.cell (p := ⟨b1, off + j, none⟩) hbw).trans (hc j hk)
        have c2 := (hbl.cell (p := ⟨b1', off' + j, none⟩) hbw').trans (hc' j hk)
        clear hc hc' hs hs'
        rcases Nat.lt_trichotomy (ls.getD j 0) (ms.getD j 0) with hx | hx | hx
        · have HF : Hid (cmpN a b = -1) := Lib.hid (cmpN_lt (by rw [← Hva.out, ← Hvb.out]; exact agree_lt Hs.out Ha.out hx))
          have t1 : ((((ls[j]?.getD 0 : Nat) : Int) != ((ms[j]?.getD 0 : Nat) : Int)) = true) := by rw [bne_iff_ne]; simp [List.getD] at hx; omega
          have t2 : (ls[j]?.getD 0 < ms[j]?.getD 0) := by simpa [List.getD] using hx
          clear hx
          go_wp2
          go_quiet (fail)
          go_wp2
          go_quiet (fail)
          go_wp2
          go_ret
          refine ⟨_, rfl, ?_, below_drewN (below_drewN hbl _) _⟩
          show Value.int _ _ = Value.int _ _
          rw [HF.out]
        · have t1 : ((((ls[j]?.getD 0 : Nat) : Int) != ((ms[j]?.getD 0 : Nat) : Int)) = false) := by rw [bne_eq_false_iff_eq]; simp [List.getD] at hx; omega
          have Hx := Lib.hid hx; clear hx
          go_wp2
          go_quiet (fail)
          go_wp2
          go_roundw
          case rel => exact ⟨j, by omega, by go_num, Lib.hid (agree_step Hs.out Hx.out), below_drewN hbl _⟩
          case measure => simp [intOf] <;> omega
        · have HF : Hid (cmpN a b = 1) := Lib.hid (cmpN_gt (by rw [← Hva.out, ← Hvb.out]; exact agree_gt Hs.out Hb.out hx))
          have t1 : ((((ls[j]?.getD 0 : Nat) : Int) != ((ms[j]?.getD 0 : Nat) : Int)) = true) := by rw [bne_iff_ne]; simp [List.getD] at hx; omega
          have t2 : ¬ (ls[j]?.getD 0 < ms[j]?.getD 0) := by simp [List.getD] at hx; omega
          clear hx
          go_wp2
          go_quiet (fail)
          go_wp2
          go_quiet (fail)
          go_wp2
          go_ret
          refine ⟨_, rfl, ?_, below_drewN (below_drewN hbl _) _⟩
          show Value.int _ _ = Value.int _ _
          rw [HF.out]
  · have HF := Lib.hid (cmpN_gt (hlen' (by omega)))
    have hne : ((n : Int) != n') = true := by rw [bne_iff_ne]; omega
    clear hs hs' hlen hlen' hva hvb hla hlb hn hn'
    go_wp2
    go_ret
    refine ⟨_, rfl, ?_, Below.refl _ _⟩
    show Value.int _ _ = Value.int _ _
    rw [HF.out]

/-- What has been written of a sum behind k rounds. -/
def addInv (n k c : Nat) (os xs ys : List Nat) : Prop :=
  os.length = n + 1 ∧ lims os ∧ c ≤ 1 ∧ val (os.take k) + 4294967296 ^ k * c = val (xs.take k) + val (ys.take k)

theorem addInv_zero (n : Nat) (xs ys : List Nat) : addInv n 0 0 (List.replicate (n + 1) 0) xs ys :=
  ⟨by simp, lims_replicate _, by decide, by simp [val]⟩

theorem addInv_step {n k c x y : Nat} {os xs ys : List Nat} (h : addInv n k c os xs ys) (hk : k < n) (hx : x = xs.getD k 0) (hy : y = ys.getD k 0) (hlx : lims xs) (hly : lims ys) (z : Int)
    (hz : z = (c : Int) + x + y) : addInv n (k + 1) (z / 4294967296).toNat (os.set k (z % 4294967296).toNat) xs ys := by
  obtain ⟨h1, h2, h3, h4⟩ := h
  have b1 := lims_getD hlx k
  have b2 := lims_getD hly k
  refine ⟨by simpa using h1, lims_set h2 _ _ (by omega), by omega, ?_⟩
  rw [val_set_take (by omega), val_take_step xs, val_take_step ys, Nat.pow_succ]
  have := add_step (o := val (os.take k)) (x := val (xs.take k) + val (ys.take k)) (y := xs.getD k 0 + ys.getD k 0) (p := 4294967296 ^ k) (c := c) (d := (z % 4294967296).toNat) (o' := (z / 4294967296).toNat) h4 (by omega)
  rw [this, Nat.mul_add]; omega

theorem addInv_end {n c : Nat} {os xs ys : List Nat} (h : addInv n n c os xs ys) (hn : xs.length ≤ n) (hm : ys.length ≤ n) : lims (os.set n c) ∧ (os.set n c).length = n + 1 ∧ val (os.set n c) = val xs + val ys := by
  obtain ⟨h1, h2, h3, h4⟩ := h
  refine ⟨lims_set h2 _ _ (by omega), by simpa using h1, ?_⟩
  have e := val_set_take (xs := os) (k := n) (x := c) (by omega)
  rw [List.take_of_length_le (by simp; omega)] at e
  rw [e, h4, val_take_ge hn, val_take_ge hm]

set_option maxHeartbeats 1000000 in
theorem add_any (v v' : Value) (xs ys : List Nat) (w : World) (h : Sl w v xs) (h' : Sl w v' ys) (hx : xs.length ≤ 4294967296) (hy : ys.length ≤ 4294967296) :
    Calls Try.prog 83 #[v, v'] w (Ret w (Num (val xs + val ys))) := by
  have hla := sz_val h.lims
  have hlb := sz_val h'.lims
  go_enter Try.func83, Try.ntmps83
  go_wp2_with fail
  refine (trim_any _ xs _ h).mono ?_
  rintro e w' ⟨v1, rfl, h1, rfl⟩
  go_wp2_with fail
  refine (trim_any _ ys _ h').mono ?_
  rintro e w' ⟨v2, rfl, h2, rfl⟩
  clear h h'
  unfold sz at hla hlb
  have Hva := Lib.hid (val_limbs (val xs))
  have Hvb := Lib.hid (val_limbs (val ys))
  generalize val xs = a at *
  generalize val ys = b at *
  generalize limbs a = ls at *
  generalize limbs b = ms at *
  obtain ⟨ad, n, cap, rfl, hn, hnc, hm, ha, hs⟩ := h1
  obtain ⟨ad', n', cap', rfl, hn', hnc', hm', hb, hs'⟩ := h2
  have hn4 : n ≤ 4294967296 := by omega
  have hn4' : n' ≤ 4294967296 := by omega
  clear hla hlb
  have Hn := Lib.hid hn; clear hn
  have Hn' := Lib.hid hn'; clear hn'
  have Ha := Lib.hid ha; clear ha
  have Hb := Lib.hid hb; clear hb
  by_cases hsw : n < n'
  · go_wp2_with (at_make; refine wpList_make_u32 _ rfl _ _ _ rfl 64 Try.underlying23 Try.infoU32 _ (n' + 1) rfl rfl (by omega) (by omega) ?_; intro w0 hA0 hb0 _)
    go_wp2
    go_loopw [6, 26] (fun cy i wr => ∃ k c os, k ≤ n' ∧ i = .int .i64 ((k : Nat) : Int) ∧ cy = .int .u64 ((c : Nat) : Int) ∧ Arr wr w.heap.size os ∧ Hid (addInv n' k c os ms ls) ∧ Below w.heap.size w wr) (fun _ i _ => n' - (intOf i).toNat)
    case atStart => exact ⟨0, 0, _, Nat.zero_le _, rfl, rfl, hA0, Lib.hid (addInv_zero _ _ _), hb0⟩
    case round =>
      obtain ⟨k, c, os, hk, rfl, rfl, hA, Hs, hbl⟩ := hrel
      have ⟨hol, _, hc1, _⟩ := Hs.out
      by_cases hkn : k < n'
      · obtain ⟨b1, off, rfl, hbw, hc⟩ := hs' (by omega)
        have c1 := (hbl.cell (p := ⟨b1, off + k, none⟩) hbw).trans (hc k hkn)
        have bx := lims_getD Hb.out k
        have by' := lims_getD Ha.out k
        have c3 := hA.cell k (by omega)
        have c4 := hA.frozen k
        have ex : ms.getD k 0 = ms[k]?.getD 0 := rfl
        have ey : ls.getD k 0 = ls[k]?.getD 0 := rfl
        rw [ex] at bx c1
        rw [ey] at by'
        have Ex := Lib.hid ex; clear ex
        have Ey := Lib.hid ey; clear ey
        have Ol := Lib.hid hol; clear hol
        by_cases hkm : k < n
        · obtain ⟨b2, off2, rfl, hbw2, hc2⟩ := hs (by omega)
          have c2 := (hbl.cell (p := ⟨b2, off2 + k, none⟩) hbw2).trans (hc2 k hkm)
          rw [Ey.out] at c2
          clear hc hc2 hs' hs
          go_wp2
          go_roundw
          case rel =>
            exact ⟨k + 1, _, _, by omega, by go_num, congrArg (Value.int .u64) (Int.toNat_of_nonneg (by omega)).symm, hA.setI k _ (by omega), Lib.hid (addInv_step Hs.out hkn Ex.out.symm Ey.out.symm Hb.out Ha.out _ (by omega)), hbl.setCell (Nat.le_refl _) _⟩
          case measure => simp [intOf] <;> omega
        · have hz : ls.getD k 0 = 0 := by simp [List.getD, show ls.length ≤ k by have := Hn.out; omega]
          have Hz := Lib.hid hz
          clear hz hc hs' hs
          go_wp2
          go_roundw
          case rel =>
            exact ⟨k + 1, _, _, by omega, by go_num, congrArg (Value.int .u64) (Int.toNat_of_nonneg (by omega)).symm, hA.setI k _ (by omega), Lib.hid (addInv_step (y := 0) Hs.out hkn Ex.out.symm Hz.out.symm Hb.out Ha.out _ (by omega)), hbl.setCell (Nat.le_refl _) _⟩
          case measure => simp [intOf] <;> omega
      · obtain rfl : k = n' := by omega
        have c3 := hA.cell k (by omega)
        have c4 := hA.frozen k
        have HE := Lib.hid (addInv_end Hs.out (by have := Hn'.out; omega) (by have := Hn.out; omega))
        have Ol := Lib.hid hol; clear hol hs hs'
        go_wp2_with fail
        refine (trim_any _ _ _ ((hA.setI k (c : Int) (by omega)).sl (n := k + 1) (by simpa using HE.out.1) (by simpa using HE.out.2.1) (Nat.le_refl _) (by omega))).mono ?_
        rintro e w' ⟨v1, rfl, h1, rfl⟩
        rw [Int.toNat_natCast, HE.out.2.2, Hvb.out, Hva.out, Nat.add_comm] at h1
        go_wp2
        go_ret
        exact ⟨_, rfl, h1, hbl.setCell (Nat.le_refl _) _⟩
  · go_wp2_with (at_make; refine wpList_make_u32 _ rfl _ _ _ rfl 64 Try.underlying23 Try.infoU32 _ (n + 1) rfl rfl (by omega) (by omega) ?_; intro w0 hA0 hb0 _)
    go_wp2
    go_loopw [6, 26] (fun cy i wr => ∃ k c os, k ≤ n ∧ i = .int .i64 ((k : Nat) : Int) ∧ cy = .int .u64 ((c : Nat) : Int) ∧ Arr wr w.heap.size os ∧ Hid (addInv n k c os ls ms) ∧ Below w.heap.size w wr) (fun _ i _ => n - (intOf i).toNat)
    case atStart => exact ⟨0, 0, _, Nat.zero_le _, rfl, rfl, hA0, Lib.hid (addInv_zero _ _ _), hb0⟩
    case round =>
      obtain ⟨k, c, os, hk, rfl, rfl, hA, Hs, hbl⟩ := hrel
      have ⟨hol, _, hc1, _⟩ := Hs.out
      by_cases hkn : k < n
      · obtain ⟨b1, off, rfl, hbw, hc⟩ := hs (by omega)
        have c1 := (hbl.cell (p := ⟨b1, off + k, none⟩) hbw).trans (hc k hkn)
        have bx := lims_getD Ha.out k
        have by' := lims_getD Hb.out k
        have c3 := hA.cell k (by omega)
        have c4 := hA.frozen k
        have ex : ls.getD k 0 = ls[k]?.getD 0 := rfl
        have ey : ms.getD k 0 = ms[k]?.getD 0 := rfl
        rw [ex] at bx c1
        rw [ey] at by'
        have Ex := Lib.hid ex; clear ex
        have Ey := Lib.hid ey; clear ey
        have Ol := Lib.hid hol; clear hol
        by_cases hkm : k < n'
        · obtain ⟨b2, off2, rfl, hbw2, hc2⟩ := hs' (by omega)
          have c2 := (hbl.cell (p := ⟨b2, off2 + k, none⟩) hbw2).trans (hc2 k hkm)
          rw [Ey.out] at c2
          clear hc hc2 hs hs'
          go_wp2
          go_roundw
          case rel =>
            exact ⟨k + 1, _, _, by omega, by go_num, congrArg (Value.int .u64) (Int.toNat_of_nonneg (by omega)).symm, hA.setI k _ (by omega), Lib.hid (addInv_step Hs.out hkn Ex.out.symm Ey.out.symm Ha.out Hb.out _ (by omega)), hbl.setCell (Nat.le_refl _) _⟩
          case measure => simp [intOf] <;> omega
        · have hz : ms.getD k 0 = 0 := by simp [List.getD, show ms.length ≤ k by have := Hn'.out; omega]
          have Hz := Lib.hid hz
          clear hz hc hs hs'
          go_wp2
          go_roundw
          case rel =>
            exact ⟨k + 1, _, _, by omega, by go_num, congrArg (Value.int .u64) (Int.toNat_of_nonneg (by omega)).symm, hA.setI k _ (by omega), Lib.hid (addInv_step (y := 0) Hs.out hkn Ex.out.symm Hz.out.symm Ha.out Hb.out _ (by omega)), hbl.setCell (Nat.le_refl _) _⟩
          case measure => simp [intOf] <;> omega
      · obtain rfl : k = n := by omega
        have c3 := hA.cell k (by omega)
        have c4 := hA.frozen k
        have HE := Lib.hid (addInv_end Hs.out (by have := Hn.out; omega) (by have := Hn'.out; omega))
        have Ol := Lib.hid hol; clear hol hs hs'
        go_wp2_with fail
        refine (trim_any _ _ _ ((hA.setI k (c : Int) (by omega)).sl (n := k + 1) (by simpa using HE.out.1) (by simpa using HE.out.2.1) (Nat.le_refl _) (by omega))).mono ?_
        rintro e w' ⟨v1, rfl, h1, rfl⟩
        rw [Int.toNat_natCast, HE.out.2.2, Hva.out, Hvb.out] at h1
        go_wp2
        go_ret
        exact ⟨_, rfl, h1, hbl.setCell (Nat.le_refl _) _⟩

end Go.Proofs.Ytfkjhaniglmejaa
