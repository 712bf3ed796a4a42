/- Walks over the reference of package natural, last part: DivMod as a whole, Gcd. -/
import Derived.Test.YtfkjhaniglmejaaRefF
namespace Go.Proofs.Ytfkjhaniglmejaa
open Go.RowKit Nt

theorem uintB_eq (n : Nat) : uintB n = true ↔ n < 18446744073709551616 := by simp [uintB]

theorem rdivmod_any (v v' : Value) (xs ys : List Nat) (w : World) (h : Sl w v xs) (h' : Sl w v' ys) (hxl : xs.length ≤ 2147483648) (hyl : ys.length ≤ 2147483648) :
    Calls Try.prog 95 #[v, v'] w (Ret w (Num2E (val xs / val ys) (dmR (val xs) (val ys)) (dmE (val ys)))) := by
  rcases Nat.eq_zero_or_pos (val ys) with h0 | h0
  · have := rdiv_zero v v' xs ys w h h' h0
    rw [h0]
    simpa [dmR, dmE] using this
  · rw [dmR_pos h0, dmE_pos h0]
    by_cases hy : val ys < 18446744073709551616
    · by_cases hx : val xs < 18446744073709551616
      · exact rdiv_small v v' xs ys w h h' h0 hx hy
      · exact rdiv_big v v' xs ys w h h' hxl hyl h0 (Or.inr ⟨(uintB_eq _).2 hy, by simpa [uintB] using hx⟩)
    · exact rdiv_big v v' xs ys w h h' hxl hyl h0 (Or.inl (by simpa [uintB] using hy))

set_option maxHeartbeats 1000000 in
theorem rgcd_any (v v' : Value) (xs ys : List Nat) (w : World) (h : Sl w v xs) (h' : Sl w v' ys) (hx : xs.length ≤ 2147483648) (hy : ys.length ≤ 2147483648) :
    Calls Try.prog 94 #[v, v'] w (Ret w (Num (Nat.gcd (val xs) (val ys)))) := by
  have hla := sz_val h.lims
  have hlb := sz_val h'.lims
  go_enter Try.func94, Try.ntmps94
  go_wp2_with fail
  refine (rmake_any _ xs _ h).mono ?_
  rintro e w1 ⟨v1, rfl, h1, hb1⟩
  have h' := h'.below hb1
  go_wp2_with fail
  refine (rmake_any _ ys _ h').mono ?_
  rintro e w2 ⟨v2, rfl, h2, hb2⟩
  unfold Num at h1 h2
  have H1 := Lib.hid (h1.below hb2)
  have H2 := Lib.hid h2
  have HB0 := Lib.hid (hb1.trans (hb2.mono hb1.size))
  clear h h' h1 h2 hb1 hb2
  obtain ⟨G, hG⟩ : ∃ G, G = Nat.gcd (val xs) (val ys) := ⟨_, rfl⟩
  have H0 : Hid (sz (val xs) ≤ 2147483648 ∧ sz (val ys) ≤ 2147483648) := Lib.hid (by omega)
  generalize val xs = a at *
  generalize val ys = b at *
  have HG := Lib.hid hG; clear hG hla hlb
  go_wp2_with fail
  go_loopw [0, 1] (fun va vb wr => ∃ x y : Nat, Hid (Sl wr va (limbs x)) ∧ Hid (Sl wr vb (limbs y)) ∧ Hid (sz x ≤ 2147483648 ∧ sz y ≤ 2147483648) ∧ Hid (G = Nat.gcd x y) ∧ Hid (Below w.heap.size w wr)) (fun _ vb wr => numOf wr vb)
  case atStart => exact ⟨a, b, H1, H2, H0, HG, HB0⟩
  case round =>
    obtain ⟨x, y, HX, HY, Hs, Hg, Hbl⟩ := hrel
    have HYb := HY
    obtain ⟨ad, n, cap, rfl, hn, -⟩ := HY.out
    have Hn : Hid (sz y = n) := Lib.hid hn
    clear hn HY
    by_cases h2 : 0 < n
    · have Hy0 : Hid (0 < y) := Lib.hid (by
        rcases Nat.eq_zero_or_pos y with h0 | h0
        · have := Hn.out; rw [h0, sz_zero] at this; omega
        · exact h0)
      go_wp2_with fail
      refine (rdivmod_any _ _ (limbs x) (limbs y) _ HX.out HYb.out Hs.out.1 Hs.out.2).mono ?_
      rintro e w2 ⟨v3, rfl, ⟨q, r, rfl, -, hr⟩, hb2⟩
      rw [val_limbs, val_limbs, dmR_pos Hy0.out] at hr
      have HY2 := Lib.hid (HYb.out.below hb2)
      have HR := Lib.hid hr
      have HB := Lib.hid (Hbl.out.trans (hb2.mono Hbl.out.size))
      have HN := Lib.hid (numOf_eq HYb.out)
      clear hr hb2
      go_wp2
      go_roundw
      case rel =>
        exact ⟨y, x % y, HY2, HR, Lib.hid ⟨Hs.out.2, Nat.le_trans (sz_mono (Nat.le_of_lt (Nat.mod_lt x Hy0.out))) Hs.out.2⟩, Lib.hid (by rw [gcd_swap]; exact Hg.out), HB⟩
      case measure =>
        show numOf _ _ < numOf _ _
        rw [numOf_eq HR.out]
        rw [show numOf wr _ = y from HN.out]
        exact Nat.mod_lt x Hy0.out
    · have hy0 : y = 0 := sz_eq_zero.1 (by have := Hn.out; omega)
      subst hy0
      have HG2 : Hid (a.gcd b = x) := Lib.hid (by rw [← HG.out, Hg.out, Nat.gcd_zero_right])
      go_wp2
      go_ret
      exact ⟨_, rfl, by rw [HG2.out]; exact HX.out, Hbl.out⟩

end Go.Proofs.Ytfkjhaniglmejaa
