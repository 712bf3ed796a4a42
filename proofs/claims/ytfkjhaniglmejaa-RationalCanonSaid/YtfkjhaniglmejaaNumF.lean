/- Plain arithmetic of long division as a whole: no program in sight. -/
import Derived.Test.YtfkjhaniglmejaaNumE
namespace Go.Proofs.Ytfkjhaniglmejaa
namespace Nt

/-- Behind the rounds down to limb k: what is left of the number, and the quotient's limbs from k on. -/
def dmInv (na m U0 V k : Nat) (us out : List Nat) : Prop :=
  us.length = na + 1 ∧ lims us ∧ out.length = m ∧ lims out ∧ val us + 4294967296 ^ k * (V * val (out.drop k)) = U0 ∧ val (us.drop k) < V

theorem drop_set_cons (xs : List Nat) (k x : Nat) (h : k < xs.length) : (xs.set k x).drop k = x :: xs.drop (k + 1) := by
  rw [List.drop_eq_getElem_cons (by simpa using h)]
  simp [List.drop_set_of_lt]

theorem val_drop' {xs : List Nat} (h : lims xs) (i : Nat) (hi : i ≤ xs.length) : val (xs.drop i) = val xs / 4294967296 ^ i := by
  have e := val_take_drop xs i hi
  have hl := take_lt h i
  have hp : 0 < 4294967296 ^ i := Nat.pow_pos (by decide)
  rw [e, Nat.add_mul_div_left _ _ hp, Nat.div_eq_of_lt hl, Nat.zero_add]

theorem drop_cons_val (xs : List Nat) (i : Nat) (hi : i < xs.length) : val (xs.drop i) = xs.getD i 0 + 4294967296 * val (xs.drop (i + 1)) := by
  rw [List.drop_eq_getElem_cons hi, val_cons]
  simp [List.getD, hi]

theorem dmInv_top {na m n U0 V : Nat} {us : List Nat} (hl : us.length = na + 1) (hu : lims us) (hv : val us = U0) (hm : m + n = na + 1) (hV : 4294967296 ^ n ≤ 2 * V) (hU : 2 * U0 < 4294967296 * 4294967296 ^ na) :
    dmInv na m U0 V m us (List.replicate m 0) := by
  refine ⟨hl, hu, by simp, lims_replicate m, by simp [List.drop_replicate, val, hv], ?_⟩
  rw [val_drop' hu m (by omega), hv, Nat.div_lt_iff_lt_mul (Nat.pow_pos (by decide))]
  have e : 4294967296 * 4294967296 ^ na = 4294967296 ^ m * 4294967296 ^ n := by rw [← Nat.pow_add, hm, Nat.pow_succ, Nat.mul_comm]
  have h2 : 4294967296 ^ m * 4294967296 ^ n ≤ 4294967296 ^ m * (2 * V) := Nat.mul_le_mul_left _ hV
  have e3 : 4294967296 ^ m * (2 * V) = 2 * (V * 4294967296 ^ m) := by grind
  omega

/-- What a round meets. -/
theorem dmInv_round {na m n U0 V j : Nat} {us out : List Nat} (h : dmInv na m U0 V (j + 1) us out) (hj : j < m) (hm : m + n = na + 1) (hVn : V < 4294967296 ^ n) :
    val (us.drop (j + n + 1)) = 0 ∧ val (us.drop j) < 4294967296 * V := by
  obtain ⟨h1, h2, h3, h4, h5, h6⟩ := h
  constructor
  · have e : us.drop (j + n + 1) = (us.drop (j + 1)).drop n := by rw [List.drop_drop]; congr 1; omega
    rw [e, val_drop' (lims_drop h2 _) n (by simp; omega)]
    exact Nat.div_eq_of_lt (by omega)
  · rw [drop_cons_val us j (by omega)]
    have := lims_getD h2 j
    omega

theorem dmInv_step {na m U0 V j : Nat} {us us' out : List Nat} (h : dmInv na m U0 V (j + 1) us out) (hj : j < m) (hjn : j ≤ na) (hV : 0 < V) (hq : val (us.drop j) / V < 4294967296)
    (hl : us'.length = us.length) (hu : lims us') (hv : val us' + 4294967296 ^ j * (val (us.drop j) / V * V) = val us) :
    dmInv na m U0 V j us' (out.set j (val (us.drop j) / V)) := by
  obtain ⟨h1, h2, h3, h4, h5, h6⟩ := h
  refine ⟨by omega, hu, by simpa using h3, lims_set h4 _ _ hq, ?_, ?_⟩
  · rw [drop_set_cons _ _ _ (by omega), val_cons]
    have e1 : 4294967296 ^ j * (V * (val (us.drop j) / V + 4294967296 * val (out.drop (j + 1)))) = 4294967296 ^ j * (val (us.drop j) / V * V) + 4294967296 ^ (j + 1) * (V * val (out.drop (j + 1))) := by
      rw [Nat.pow_succ]; grind
    rw [e1]; omega
  · rw [val_drop' hu j (by omega), Nat.div_lt_iff_lt_mul (Nat.pow_pos (by decide))]
    have hs := val_take_drop us j (by omega)
    have hlt := take_lt h2 j
    have hm := Nat.div_add_mod (val (us.drop j)) V
    have hr := Nat.mod_lt (val (us.drop j)) hV
    have e2 : 4294967296 ^ j * (val (us.drop j) / V * V) + 4294967296 ^ j * (val (us.drop j) % V) = 4294967296 ^ j * val (us.drop j) := by
      rw [← Nat.mul_add]; congr 1; rw [Nat.mul_comm]; exact hm
    have h7 : 4294967296 ^ j * (val (us.drop j) % V + 1) ≤ 4294967296 ^ j * V := Nat.mul_le_mul_left _ hr
    rw [Nat.mul_add] at h7
    rw [Nat.mul_comm V]
    omega

theorem dmInv_end {na m U0 V : Nat} {us out : List Nat} (h : dmInv na m U0 V 0 us out) : val out = U0 / V ∧ val us = U0 % V := by
  obtain ⟨h1, h2, h3, h4, h5, h6⟩ := h
  simp only [List.drop_zero, Nat.pow_zero, Nat.one_mul] at h5 h6
  have hV : 0 < V := by omega
  constructor
  · rw [← h5, Nat.add_mul_div_left _ _ hV, Nat.div_eq_of_lt h6, Nat.zero_add]
  · rw [← h5, Nat.add_mul_mod_self_left, Nat.mod_eq_of_lt h6]

/-- The shift that normalizes: the divisor's top limb reaches 2^31. -/
theorem norm_shift {b n s : Nat} (hn : sz b = n) (h2 : 0 < n) (hlo : 2147483648 ≤ (limbs b).getD (n - 1) 0 * 2 ^ s) (hhi : ((limbs b).getD (n - 1) 0 + 1) * 2 ^ s ≤ 4294967296) :
    2 ^ s * b < 4294967296 ^ n ∧ 4294967296 ^ n ≤ 2 * (2 ^ s * b) ∧ sz (2 ^ s * b) = n ∧ 2147483648 ≤ (limbs (2 ^ s * b)).getD (n - 1) 0 := by
  have hb : 0 < b := by
    rcases Nat.eq_zero_or_pos b with h | h
    · rw [h, sz_zero] at hn; omega
    · exact h
  have e := val_take_step (limbs b) (n - 1)
  have hlt := take_lt (lims_limbs b) (n - 1)
  have hlen : (limbs b).length = n := hn
  rw [show n - 1 + 1 = n by omega, val_take_ge (k := n) (by omega), val_limbs] at e
  have hpn : 4294967296 ^ n = 4294967296 ^ (n - 1) * 4294967296 := by rw [← Nat.pow_succ]; congr 1; omega
  generalize (limbs b).getD (n - 1) 0 = t at *
  generalize val ((limbs b).take (n - 1)) = lo at *
  have h1 : b < 4294967296 ^ (n - 1) * (t + 1) := by rw [Nat.mul_add]; omega
  have hup : 2 ^ s * b < 4294967296 ^ n := by
    have h3 : 2 ^ s * b < 2 ^ s * (4294967296 ^ (n - 1) * (t + 1)) := Nat.mul_lt_mul_of_pos_left h1 (Nat.pow_pos (by decide))
    have e3 : 2 ^ s * (4294967296 ^ (n - 1) * (t + 1)) = 4294967296 ^ (n - 1) * ((t + 1) * 2 ^ s) := by grind
    have h4 : 4294967296 ^ (n - 1) * ((t + 1) * 2 ^ s) ≤ 4294967296 ^ (n - 1) * 4294967296 := Nat.mul_le_mul_left _ hhi
    omega
  have hdn : 4294967296 ^ (n - 1) * 2147483648 ≤ 2 ^ s * b := by
    have h3 : 2 ^ s * (4294967296 ^ (n - 1) * t) ≤ 2 ^ s * b := Nat.mul_le_mul_left _ (by omega)
    have e3 : 2 ^ s * (4294967296 ^ (n - 1) * t) = 4294967296 ^ (n - 1) * (t * 2 ^ s) := by grind
    have h4 : 4294967296 ^ (n - 1) * 2147483648 ≤ 4294967296 ^ (n - 1) * (t * 2 ^ s) := Nat.mul_le_mul_left _ hlo
    omega
  have hsz : sz (2 ^ s * b) = n := by
    have h5 := sz_le hup
    rcases Nat.lt_or_ge (sz (2 ^ s * b)) n with h6 | h6
    · exfalso
      have h7 := lt_pow_sz (2 ^ s * b)
      have h8 : 4294967296 ^ sz (2 ^ s * b) ≤ 4294967296 ^ (n - 1) := Nat.pow_le_pow_right (by decide) (by omega)
      have hp : 0 < 4294967296 ^ (n - 1) := Nat.pow_pos (by decide)
      omega
    · omega
  refine ⟨hup, by omega, hsz, ?_⟩
  generalize 2 ^ s * b = V at *
  have e5 := val_take_step (limbs V) (n - 1)
  have hlt5 := take_lt (lims_limbs V) (n - 1)
  have hlen5 : (limbs V).length = n := hsz
  rw [show n - 1 + 1 = n by omega, val_take_ge (k := n) (by omega), val_limbs] at e5
  generalize (limbs V).getD (n - 1) 0 = t5 at *
  have h9 : 4294967296 ^ (n - 1) * 2147483648 < 4294967296 ^ (n - 1) * (t5 + 1) := by rw [Nat.mul_add _ t5]; omega
  have := Nat.lt_of_mul_lt_mul_left h9
  omega

end Nt
end Go.Proofs.Ytfkjhaniglmejaa
