/- Walks over package natural, first part: trim, Make, Valid, Of, Uint, Bits. -/
import Derived.Test.YtfkjhaniglmejaaRows
import Derived.Test.YtfkjhaniglmejaaApp
import Derived.Test.YtfkjhaniglmejaaBits
namespace Go.Proofs.Ytfkjhaniglmejaa
open Go.RowKit Nt

theorem Try.infoU32 : (Try.prog.info? 64).map (fun i => (i.zero, i.size, i.bytes)) = some (some (.int .u32 0), 1, 4) := by kernel_rfl

/-- natural.trim: the canonical part of a slice; the world is as it was. -/
def Trimmed (n : Nat) (w : World) (e : Ending) (w' : World) : Prop := ∃ v', e = .returned v' ∧ Sl w v' (limbs n) ∧ w = w'

theorem trim_fin {w : World} {b off n cap k : Nat} {xs : List Nat} (hx : lims xs) (hn : xs.length = n) (hk : k ≤ n) (hk0 : 0 < k) (hnc : n ≤ cap) (hm : n ≤ 1099511627776)
    (hb : b < w.heap.size) (hc : ∀ i, i < n → w.cell? ⟨b, off + i, none⟩ = some (.int .u32 ((xs.getD i 0 : Nat) : Int)))
    (hv : val (xs.take k) = val xs) (hne : xs.getD (k - 1) 0 ≠ 0) : Sl w (.slice (some ⟨b, off, none⟩) k cap) (limbs (val xs)) := by
  rw [← hv, limbs_val (lims_take hx k) (Or.inr (by simpa [List.getD, List.getElem?_take, show min k xs.length - 1 = k - 1 by omega, show k - 1 < k by omega] using hne))]
  exact ⟨_, k, cap, rfl, by simp; omega, by omega, by omega, lims_take hx k, fun _ => ⟨b, off, rfl, hb, fun i hi => by
    rw [hc i (by omega)]; simp [List.getD, hi]⟩⟩

set_option maxHeartbeats 400000 in
theorem trim_any (v : Value) (xs : List Nat) (w : World) (h : Sl w v xs) : Calls Try.prog 88 #[v] w (Trimmed (val xs) w) := by
  obtain ⟨ad, n, cap, rfl, hn, hnc, hm, hx, hs⟩ := h
  have Hn := Lib.hid hn; clear hn
  have Hx := Lib.hid hx; clear hx
  go_enter Try.func88, Try.ntmps88
  go_wp2
  go_loop [3] (fun t => ∃ k : Nat, k ≤ n ∧ t = .int .i64 k ∧ Hid (val (xs.take k) = val xs)) (fun t => (intOf t).toNat)
  case atStart => exact ⟨n, Nat.le_refl _, rfl, Lib.hid (val_take_ge (by rw [Hn.out]; exact Nat.le_refl _))⟩
  case round =>
    obtain ⟨k, hk, rfl, Hv⟩ := hrel
    by_cases hk0 : 0 < k
    · obtain ⟨b, off, rfl, hbw, hc⟩ := hs (by omega)
      have hck := hc (k-1) (by omega)
      have Hc := Lib.hid hc; clear hc hs
      go_wp2
      · go_round
        case rel =>
          refine ⟨k - 1, by omega, by go_num, ?_⟩
          have h0 : xs.getD (k - 1) 0 = 0 := by have := (by assumption : ((((xs[k - 1]?.getD 0 : Nat) : Int) == 0) = true)); simpa [List.getD] using this
          have := val_take_step xs (k - 1)
          rw [show k - 1 + 1 = k by omega, h0, Hv.out] at this
          exact Lib.hid (by omega)
        case measure => simp [intOf]; omega
      · go_ret
        have h0 : xs.getD (k - 1) 0 ≠ 0 := by have := (by assumption : ((((xs[k - 1]?.getD 0 : Nat) : Int) == 0) = false)); simpa [List.getD] using this
        exact ⟨_, rfl, trim_fin Hx.out Hn.out hk hk0 hnc hm hbw Hc.out Hv.out h0, rfl⟩
    · obtain rfl : k = 0 := by omega
      have hv0 : val xs = 0 := by rw [← Hv.out]; rfl
      have HV := Lib.hid hv0; clear hv0
      go_wp2
      go_ret
      exact ⟨_, rfl, by rw [HV.out, limbs_zero]; exact Sl.nil w, rfl⟩


/-- slices.Clone at limbs. -/
def Copied (xs : List Nat) (w : World) (v : Value) : Prop := Sl w v xs

set_option maxHeartbeats 400000 in
theorem clone_any (v : Value) (xs : List Nat) (w : World) (h : Sl w v xs) : Calls Try.prog 99 #[v] w (Ret w (Copied xs)) := by
  have H := Lib.hid h
  obtain ⟨ad, n, cap, rfl, hn, -⟩ := h
  have Hn := Lib.hid hn; clear hn
  cases ad with
  | none =>
    have h0 : n = 0 ∧ xs = [] := by
      obtain ⟨ad', n', cap', hv, hl, _, _, _, hs⟩ := H.out
      injection hv with e1 e2 e3
      have : n = 0 := by
        rcases Nat.eq_zero_or_pos n with h | h
        · exact h
        · obtain ⟨b, off, he, _⟩ := hs (by omega)
          rw [← e1] at he; cases he
      exact ⟨this, List.eq_nil_of_length_eq_zero (by rw [Hn.out]; exact this)⟩
    obtain ⟨rfl, rfl⟩ := h0
    have heq := fun (w : World) a l c => Lib.run_eql_slice_nil (P := Try.prog) w 23 64 a l c 0 0 Try.underlying23
    go_enter Try.func99, Try.ntmps99
    go_wp2
    go_ret
    exact ⟨_, rfl, Sl.nil w, Below.refl _ _⟩
  | some a =>
    have heq := fun (w : World) a l c => Lib.run_eql_slice_nil (P := Try.prog) w 23 64 a l c 0 0 Try.underlying23
    go_enter Try.func99, Try.ntmps99
    go_wp2_with (at_builtin; refine wpList_copy_u32 _ rfl _ _ _ _ rfl 64 Try.underlying23 Try.underlying23 Try.infoU32 _ rfl _ xs rfl (H.out.below ((Below.refl _ _).alloc (Nat.le_refl _) _)) ?_; intro v1 w1 h1 hb1)
    go_wp2
    go_ret
    exact ⟨_, rfl, h1, ((Below.refl _ _).alloc (Nat.le_refl _) _).trans (hb1.mono (by simp))⟩

set_option maxHeartbeats 400000 in
theorem make_any (v : Value) (xs : List Nat) (w : World) (h : Sl w v xs) : Calls Try.prog 77 #[v] w (Ret w (Num (val xs))) := by
  go_enter Try.func77, Try.ntmps77
  go_wp2_with fail
  refine (trim_any _ xs _ h).mono ?_
  rintro e w' ⟨v1, rfl, h1, rfl⟩
  go_wp2_with fail
  refine (clone_any _ _ _ h1).mono ?_
  rintro e w' ⟨v2, rfl, h2, hb2⟩
  go_wp2
  go_ret
  exact ⟨_, rfl, h2, hb2⟩

/-- Is a slice canonical? -/
def canon (xs : List Nat) : Bool := xs.length == 0 || xs.getD (xs.length - 1) 0 != 0
theorem canon_nil : canon [] = true := rfl
theorem canon_pos {xs : List Nat} (h : 0 < xs.length) : canon xs = (xs.getD (xs.length - 1) 0 != 0) := by
  have : (xs.length == 0) = false := by simp; intro h0; rw [h0] at h; exact absurd h (by decide)
  simp [canon, this]
theorem canon_limbs (n : Nat) : canon (limbs n) = true := by
  rcases Nat.eq_zero_or_pos n with h | h
  · subst h; rw [limbs_zero]; rfl
  · rw [canon_pos (sz_pos h)]
    simpa [bne_iff_ne] using limbs_last h

theorem val_two (x : Nat) (h : x < 18446744073709551616) : val [((x : Int) % 4294967296).toNat, ((x : Int) / 4294967296).toNat] = x := by
  simp only [val]; omega

set_option maxHeartbeats 400000 in
theorem of_any (x : Nat) (w : World) (h : x < 18446744073709551616) : Calls Try.prog 96 #[.int .u64 (x : Int)] w (Ret w (Num x)) := by
  go_enter Try.func96, Try.ntmps96
  go_wp2_with fail
  refine (trim_any _ _ _ (sl_two w _ _ _ (by omega) (by omega))).mono ?_
  rintro e w' ⟨v1, rfl, h1, rfl⟩
  rw [val_two x h] at h1
  go_wp2
  go_ret
  exact ⟨_, rfl, h1, (Below.refl _ _).alloc (Nat.le_refl _) _⟩

set_option maxHeartbeats 400000 in
theorem valid_any (v : Value) (xs : List Nat) (w : World) (h : Sl w v xs) : Calls Try.prog 75 #[v] w (Ret w (Val (.bool (canon xs)))) := by
  obtain ⟨ad, n, cap, rfl, hn, hnc, hm, -, hs⟩ := h
  rcases Nat.eq_zero_or_pos n with h0 | h0
  · obtain rfl : xs = [] := List.eq_nil_of_length_eq_zero (by omega)
    subst h0
    go_enter Try.func75, Try.ntmps75
    go_wp2
    go_ret
    exact ⟨_, rfl, rfl, Below.refl _ _⟩
  · obtain ⟨b, off, rfl, hb, hc⟩ := hs h0
    have hck := hc (n - 1) (by omega)
    have hfin := canon_pos (xs := xs) (by omega)
    rw [hn] at hfin
    have Hfin := Lib.hid hfin
    have hne : ((n : Int) == 0) = false := by simp; omega
    clear hc hs hn hfin
    go_enter Try.func75, Try.ntmps75
    go_wp2
    go_ret
    refine ⟨_, rfl, ?_, Below.refl _ _⟩
    show Value.bool _ = Value.bool _
    rw [Hfin.out]
    refine congrArg Value.bool ?_
    rw [Bool.eq_iff_iff]; simp [List.getD]

set_option maxHeartbeats 400000 in
theorem limb_any (v : Value) (xs : List Nat) (i : Nat) (w : World) (h : Sl w v xs) (hi : i ≤ 1099511627780) :
    Calls Try.prog 70 #[v, .int .i64 (i : Int)] w fun e w' => e = .returned (.int .u32 ((xs.getD i 0 : Nat) : Int)) ∧ w = w' := by
  obtain ⟨ad, n, cap, rfl, hn, hnc, hm, -, hs⟩ := h
  by_cases h0 : i < n
  · obtain ⟨b, off, rfl, hb, hc⟩ := hs (by omega)
    have hck := hc i h0
    clear hc hs hn
    go_enter Try.func70, Try.ntmps70
    go_wp2
    go_ret
    exact ⟨rfl, rfl⟩
  · have hz : xs.getD i 0 = 0 := by simp [List.getD, show xs.length ≤ i by omega]
    rw [hz]
    clear hz hn hs
    go_enter Try.func70, Try.ntmps70
    go_wp2
    go_ret
    exact ⟨rfl, rfl⟩

end Go.Proofs.Ytfkjhaniglmejaa
