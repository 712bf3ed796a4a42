/- Plain arithmetic of division bit by bit: no program in sight. -/
import Derived.Test.YtfkjhaniglmejaaNumF
namespace Go.Proofs.Ytfkjhaniglmejaa
namespace Nt

theorem pow32 (p s : Nat) : 2 ^ (32 * p + s) = 4294967296 ^ p * 2 ^ s := by
  have e32 : (2 : Nat) ^ 32 = 4294967296 := by decide
  rw [Nat.pow_add, Nat.pow_mul, e32]

/-- The limb at place p. -/
theorem limb_of {xs : List Nat} (h : lims xs) {p : Nat} (hp : p < xs.length) : xs.getD p 0 = val xs / 4294967296 ^ p % 4294967296 := by
  rw [← val_drop' h p (by omega), drop_cons_val xs p hp]
  have := lims_getD h p
  omega

theorem half_even {B m s : Nat} (h : B % 2 ^ (s + 1) = 0) (x : Nat) : (x + B * m) / 2 ^ s % 2 = x / 2 ^ s % 2 := by
  obtain ⟨c, hc⟩ : ∃ c, B = 2 ^ (s + 1) * c := ⟨B / 2 ^ (s + 1), by have := Nat.div_add_mod B (2 ^ (s + 1)); omega⟩
  have e : x + B * m = x + 2 ^ s * (2 * (c * m)) := by rw [hc, Nat.pow_succ]; grind
  rw [e, Nat.add_mul_div_left _ _ (Nat.pow_pos (by decide))]
  omega

theorem bit_of {xs : List Nat} (h : lims xs) {p s : Nat} (hp : p < xs.length) (hs : s ≤ 31) : xs.getD p 0 / 2 ^ s % 2 = val xs / 2 ^ (32 * p + s) % 2 := by
  rw [pow32, ← Nat.div_div_eq_div_mul, ← val_drop' h p (by omega), drop_cons_val xs p hp]
  have hB : 4294967296 % 2 ^ (s + 1) = 0 := by
    have e : 4294967296 = 2 ^ (s + 1) * 2 ^ (31 - s) := by rw [← Nat.pow_add, show s + 1 + (31 - s) = 32 by omega]
    rw [e]; exact Nat.mul_mod_right _ _
  rw [half_even hB]

/-- One more bit. -/
theorem bit_step (A j : Nat) : A / 2 ^ j = 2 * (A / 2 ^ (j + 1)) + A / 2 ^ j % 2 := by
  have e : A / 2 ^ (j + 1) = A / 2 ^ j / 2 := by rw [Nat.pow_succ, Nat.div_div_eq_div_mul]
  rw [e]; omega

theorem div_step {m V b : Nat} (hV : 0 < V) (hb : b < 2) :
    (2 * (m % V) + b < V → (2 * m + b) / V = 2 * (m / V) ∧ (2 * m + b) % V = 2 * (m % V) + b) ∧
    (V ≤ 2 * (m % V) + b → (2 * m + b) / V = 2 * (m / V) + 1 ∧ (2 * m + b) % V = 2 * (m % V) + b - V) := by
  have e := Nat.div_add_mod m V
  have hr := Nat.mod_lt m hV
  generalize m / V = Q at *
  generalize m % V = R at *
  constructor
  · intro h
    have e2 : 2 * m + b = (2 * R + b) + V * (2 * Q) := by rw [← e]; grind
    rw [e2]
    exact ⟨by rw [Nat.add_mul_div_left _ _ hV, Nat.div_eq_of_lt h, Nat.zero_add], by rw [Nat.add_mul_mod_self_left, Nat.mod_eq_of_lt h]⟩
  · intro h
    have e3 : V * (2 * Q) = 2 * (V * Q) := by grind
    have e2 : 2 * m + b = (2 * R + b - V) + V * (2 * Q + 1) := by rw [Nat.mul_add, Nat.mul_one, ← e]; omega
    have hlt : 2 * R + b - V < V := by omega
    rw [e2]
    exact ⟨by rw [Nat.add_mul_div_left _ _ hV, Nat.div_eq_of_lt hlt, Nat.zero_add], by rw [Nat.add_mul_mod_self_left, Nat.mod_eq_of_lt hlt]⟩

/-- The quotient's bits from k on stand in the list. -/
def bitsInv (n k Q : Nat) (qs : List Nat) : Prop := qs.length = n ∧ lims qs ∧ val qs = 2 ^ k * Q

theorem bitsInv_zero (n k : Nat) : bitsInv n k 0 (List.replicate n 0) := ⟨by simp, lims_replicate n, by rw [val_replicate, Nat.mul_zero]⟩
theorem bitsInv_even {n j Q : Nat} {qs : List Nat} (h : bitsInv n (j + 1) Q qs) : bitsInv n j (2 * Q) qs := by
  obtain ⟨h1, h2, h3⟩ := h
  exact ⟨h1, h2, by rw [h3, Nat.pow_succ]; grind⟩

/-- The limb at the bit's place has no bit there, and none below. -/
theorem bitsInv_limb {n p s Q : Nat} {qs : List Nat} (h : bitsInv n (32 * p + s + 1) Q qs) (hp : p < n) (hs : s ≤ 31) : ∃ m, qs.getD p 0 = 2 ^ (s + 1) * m ∧ 2 ^ (s + 1) * m + 2 ^ s < 4294967296 := by
  obtain ⟨h1, h2, h3⟩ := h
  have e := limb_of h2 (p := p) (by omega)
  have hb := lims_getD h2 p
  rw [h3, show 32 * p + s + 1 = 32 * p + (s + 1) by omega, pow32, Nat.mul_assoc, Nat.mul_div_cancel_left _ (Nat.pow_pos (by decide))] at e
  have e32 : 4294967296 = 2 ^ (s + 1) * 2 ^ (31 - s) := by rw [← Nat.pow_add, show s + 1 + (31 - s) = 32 by omega]
  rw [e32, Nat.mul_mod_mul_left] at e
  refine ⟨_, e, ?_⟩
  have hm : Q % 2 ^ (31 - s) < 2 ^ (31 - s) := Nat.mod_lt _ (Nat.pow_pos (by decide))
  have h4 : 2 ^ (s + 1) * (Q % 2 ^ (31 - s) + 1) ≤ 2 ^ (s + 1) * 2 ^ (31 - s) := Nat.mul_le_mul_left _ hm
  rw [← e32, Nat.mul_add] at h4
  have : 0 < 2 ^ s := Nat.pow_pos (by decide)
  have e5 : 2 ^ (s + 1) = 2 ^ s * 2 := Nat.pow_succ _ _
  omega

theorem bitsInv_odd {n p s Q : Nat} {qs : List Nat} (h : bitsInv n (32 * p + s + 1) Q qs) (hp : p < n) (hs : s ≤ 31) : bitsInv n (32 * p + s) (2 * Q + 1) (qs.set p (qs.getD p 0 + 2 ^ s)) := by
  obtain ⟨m, hm, hlt⟩ := bitsInv_limb h hp hs
  obtain ⟨h1, h2, h3⟩ := h
  refine ⟨by simpa using h1, lims_set h2 _ _ (by rw [hm]; exact hlt), ?_⟩
  have e := val_set (xs := qs) (k := p) (x := qs.getD p 0 + 2 ^ s) (by omega)
  rw [Nat.mul_add] at e
  have e2 : 2 ^ (32 * p + s) * (2 * Q + 1) = 2 ^ (32 * p + s + 1) * Q + 4294967296 ^ p * 2 ^ s := by
    rw [Nat.mul_add, Nat.mul_one, ← pow32, Nat.pow_succ]; grind
  omega

end Nt
end Go.Proofs.Ytfkjhaniglmejaa
