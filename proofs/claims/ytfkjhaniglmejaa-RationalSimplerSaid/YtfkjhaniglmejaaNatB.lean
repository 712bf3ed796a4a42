/- Walks over the reference of package natural, first part: Same, Make, Valid, Of. -/
import Derived.Test.YtfkjhaniglmejaaNatA
import Derived.WalkSmall
namespace Go.Proofs.Ytfkjhaniglmejaa
open Go.RowKit Nt

theorem list_ext_getD {xs ys : List Nat} (hl : xs.length = ys.length) (h : ∀ i, i < xs.length → xs.getD i 0 = ys.getD i 0) : xs = ys := by
  apply List.ext_getElem hl
  intro i h1 h2
  have := h i h1
  simpa [List.getD, h1, h2] using this

def same (xs ys : List Nat) : Bool := decide (xs = ys)
theorem same_no_len {xs ys : List Nat} (h : xs.length ≠ ys.length) : same xs ys = false := by
  simp [same]; rintro rfl; exact h rfl
theorem same_no {xs ys : List Nat} {i : Nat} (h : xs.getD i 0 ≠ ys.getD i 0) : same xs ys = false := by
  simp [same]; rintro rfl; exact h rfl
theorem same_yes {xs ys : List Nat} (hl : xs.length = ys.length) (h : ∀ i, i < xs.length → xs.getD i 0 = ys.getD i 0) : same xs ys = true := by
  simp [same]; exact list_ext_getD hl h
theorem same_limbs (a b : Nat) : same (limbs a) (limbs b) = decide (a = b) := by
  unfold same
  by_cases h : a = b
  · simp [h]
  · simp [h]; exact fun e => h (limbs_inj e)

set_option maxHeartbeats 400000 in
theorem same_any (v v' : Value) (xs ys : List Nat) (w : World) (h : Sl w v xs) (h' : Sl w v' ys) : Calls Try.prog 47 #[v, v'] w (Ret w (Val (.bool (same xs ys)))) := by
  obtain ⟨ad, n, cap, rfl, hn, hnc, hm, -, hs⟩ := h
  obtain ⟨ad', n', cap', rfl, hn', hnc', hm', -, hs'⟩ := h'
  by_cases hlen : n = n'
  · subst hlen
    have Hn := Lib.hid hn; clear hn
    have Hn' := Lib.hid hn'; clear hn'
    go_enter Try.func47, Try.ntmps47
    go_wp2
    go_loopw [5] (fun i wr => ∃ k : Nat, k ≤ n ∧ i = .int .i64 k ∧ Hid (∀ j, j < k → xs.getD j 0 = ys.getD j 0) ∧ Below w.heap.size w wr) (fun i _ => n - (intOf i).toNat)
    case atStart => exact ⟨0, Nat.zero_le _, rfl, Lib.hid (fun j hj => absurd hj (by omega)), Below.refl _ _⟩
    case round =>
      obtain ⟨k, hk, rfl, Hs, hb⟩ := hrel
      by_cases hkn : k < n
      · obtain ⟨b, off, rfl, hbw, hc⟩ := hs (by omega)
        obtain ⟨b', off', rfl, hbw', hc'⟩ := hs' (by omega)
        have c1 := (hb.cell (p := ⟨b, off + k, none⟩) hbw).trans (hc k hkn)
        have c2 := (hb.cell (p := ⟨b', off' + k, none⟩) hbw').trans (hc' k hkn)
        clear hc hc' hs hs'
        go_wp2
        go_quiet (fail)
        go_wp2
        · go_ret
          have hne : xs.getD k 0 ≠ ys.getD k 0 := by
            have := (by assumption : ((((xs[k]?.getD 0 : Nat) : Int) != ((ys[k]?.getD 0 : Nat) : Int)) = true))
            simp [List.getD] at this ⊢; omega
          refine ⟨_, rfl, ?_, below_drewN hb _⟩
          show Value.bool _ = Value.bool _
          rw [same_no hne]
        · go_roundw
          case rel =>
            have he : xs.getD k 0 = ys.getD k 0 := by
              have := (by assumption : ((((xs[k]?.getD 0 : Nat) : Int) != ((ys[k]?.getD 0 : Nat) : Int)) = false))
              simp [List.getD] at this ⊢; omega
            refine ⟨k + 1, by omega, by go_num, Lib.hid (fun j hj => ?_), below_drewN hb _⟩
            rcases Nat.lt_succ_iff_lt_or_eq.1 hj with h | h
            · exact Hs.out j h
            · rw [h]; exact he
          case measure => simp [intOf]; omega
      · have HF := Lib.hid (same_yes (xs := xs) (ys := ys) (by rw [Hn.out, Hn'.out]) (fun i hi => Hs.out i (by rw [Hn.out] at hi; omega)))
        clear hs hs'
        go_wp2
        go_ret
        refine ⟨_, rfl, ?_, hb⟩
        show Value.bool _ = Value.bool _
        rw [HF.out]
  · have HF := Lib.hid (same_no_len (xs := xs) (ys := ys) (by omega))
    have hne : ((n : Int) != n') = true := by rw [bne_iff_ne]; omega
    clear hs hs' hn hn'
    go_enter Try.func47, Try.ntmps47
    go_wp2
    go_ret
    refine ⟨_, rfl, ?_, Below.refl _ _⟩
    show Value.bool _ = Value.bool _
    rw [HF.out]

set_option maxHeartbeats 400000 in
theorem rvalid_any (v : Value) (xs : List Nat) (w : World) (h : Sl w v xs) : Calls Try.prog 66 #[v] w (Ret w (Val (.bool (canon xs)))) := by
  obtain ⟨ad, n, cap, rfl, hn, hnc, hm, -, hs⟩ := h
  rcases Nat.eq_zero_or_pos n with h0 | h0
  · obtain rfl : xs = [] := List.eq_nil_of_length_eq_zero (by omega)
    subst h0
    go_enter Try.func66, Try.ntmps66
    go_wp2
    go_ret
    exact ⟨_, rfl, rfl, Below.refl _ _⟩
  · obtain ⟨b, off, rfl, hb, hc⟩ := hs h0
    have hck := hc (n - 1) (by omega)
    have hfin := canon_pos (xs := xs) (by omega)
    rw [hn] at hfin
    have Hfin := Lib.hid hfin
    have hne : ((n : Int) == 0) = false := by simp; omega
    clear hc hs hn hfin
    go_enter Try.func66, Try.ntmps66
    go_wp2
    go_ret
    refine ⟨_, rfl, ?_, Below.refl _ _⟩
    show Value.bool _ = Value.bool _
    rw [Hfin.out]
    refine congrArg Value.bool ?_
    rw [Bool.eq_iff_iff]; simp [List.getD]

/-- A number in memory of the call's own. -/
def NumF (B n : Nat) (w : World) (v : Value) : Prop := Sl w v (limbs n) ∧ FreshS B v

set_option maxHeartbeats 400000 in
theorem rmake_anyF (v : Value) (xs : List Nat) (w : World) (h : Sl w v xs) : Calls Try.prog 91 #[v] w (Ret w (NumF w.heap.size (val xs))) := by
  obtain ⟨ad, n, cap, rfl, hn, hnc, hm, hx, hs⟩ := h
  have Hn := Lib.hid hn; clear hn
  have Hx := Lib.hid hx; clear hx
  go_enter Try.func91, Try.ntmps91
  go_wp2
  go_loop [3] (fun t => ∃ k : Nat, k ≤ n ∧ t = .int .i64 k ∧ Hid (val (xs.take k) = val xs)) (fun t => (intOf t).toNat)
  case atStart => exact ⟨n, Nat.le_refl _, rfl, Lib.hid (val_take_ge (by rw [Hn.out]; exact Nat.le_refl _))⟩
  case round =>
    obtain ⟨k, hk, rfl, Hv⟩ := hrel
    by_cases hk0 : 0 < k
    · obtain ⟨b, off, rfl, hbw, hc⟩ := hs (by omega)
      have hck := hc (k-1) (by omega)
      have Hc := Lib.hid hc; clear hc hs
      by_cases h0 : xs.getD (k - 1) 0 = 0
      · have hz : ((((xs[k - 1]?.getD 0 : Nat) : Int) == 0) = true) := by simpa [List.getD] using h0
        have H0 := Lib.hid h0; clear h0
        go_wp2
        go_round
        case rel =>
          refine ⟨k - 1, by omega, by go_num, ?_⟩
          have := val_take_step xs (k - 1)
          rw [show k - 1 + 1 = k by omega, H0.out, Hv.out] at this
          exact Lib.hid (by omega)
        case measure => simp [intOf]; omega
      · have hz : ((((xs[k - 1]?.getD 0 : Nat) : Int) == 0) = false) := by simpa [List.getD] using h0
        have F := trim_fin (cap := cap) Hx.out Hn.out hk hk0 hnc hm hbw Hc.out Hv.out h0
        clear h0
        go_wp2_with (at_builtin; refine wpList_copy_u32F _ rfl _ _ _ _ rfl 64 Try.underlying23 Try.underlying22 Try.infoU32 _ rfl _ _ rfl (F.below ((Below.refl _ _).alloc (Nat.le_refl _) _)) ?_; intro v1 w1 h1 hf1 hb1)
        go_wp2
        go_ret
        exact ⟨_, rfl, ⟨h1, hf1.mono (by simp)⟩, ((Below.refl _ _).alloc (Nat.le_refl _) _).trans (hb1.mono (by simp))⟩
    · obtain rfl : k = 0 := by omega
      have hv0 : val xs = 0 := by rw [← Hv.out]; rfl
      have HV := Lib.hid hv0; clear hv0
      have hnil : ∀ c, Sl (w.alloc (.cells #[] 64)) (.slice (if cap = 0 then ad else ad) 0 c) [] := fun c => ⟨_, 0, c, rfl, rfl, Nat.zero_le _, by decide, lims_nil, fun h => absurd h (by decide)⟩
      go_wp2_with (at_builtin; refine wpList_copy_u32F _ rfl _ _ _ _ rfl 64 Try.underlying23 Try.underlying22 Try.infoU32 _ rfl _ [] rfl ⟨_, 0, _, rfl, rfl, Nat.zero_le _, by decide, lims_nil, fun h => absurd h (by decide)⟩ ?_; intro v1 w1 h1 hf1 hb1)
      go_wp2
      go_ret
      exact ⟨_, rfl, ⟨by rw [HV.out, limbs_zero]; exact h1, hf1.mono (by simp)⟩, ((Below.refl _ _).alloc (Nat.le_refl _) _).trans (hb1.mono (by simp))⟩

theorem rmake_any (v : Value) (xs : List Nat) (w : World) (h : Sl w v xs) : Calls Try.prog 91 #[v] w (Ret w (Num (val xs))) :=
  (rmake_anyF v xs w h).mono fun _ _ ⟨v', h1, h2, h3⟩ => ⟨v', h1, h2.1, h3⟩

set_option maxHeartbeats 400000 in
theorem rof_any (x : Nat) (w : World) (h : x < 18446744073709551616) : Calls Try.prog 80 #[.int .u64 (x : Int)] w (Ret w (Num x)) := by
  go_enter Try.func80, Try.ntmps80
  go_wp2_with fail
  refine (rmake_any _ _ _ (sl_two w _ _ _ (by omega) (by omega))).mono ?_
  rintro e w' ⟨v1, rfl, h1, hb1⟩
  rw [val_two x h] at h1
  go_wp2
  go_ret
  exact ⟨_, rfl, h1, ((Below.refl _ _).alloc (Nat.le_refl _) _).trans (hb1.mono (by simp))⟩

end Go.Proofs.Ytfkjhaniglmejaa
