/- Plain arithmetic of long division: no program in sight. -/
import Derived.Test.YtfkjhaniglmejaaNum
namespace Go.Proofs.Ytfkjhaniglmejaa
namespace Nt

/-- The numbers of one step of the division: U by V, seen through their leading limbs. -/
structure Est (L lu lv u1 u2 u3 v1 v2 U V : Nat) : Prop where
  lu_lt : lu < L
  lv_lt : lv < L
  hU : U = lu + L * (u3 + 4294967296 * (u2 + 4294967296 * u1))
  hV : V = lv + L * (v2 + 4294967296 * v1)
  b1 : u1 < 4294967296
  b2 : u2 < 4294967296
  b3 : u3 < 4294967296
  c1 : v1 < 4294967296
  c2 : v2 < 4294967296
  norm : 2147483648 ≤ v1
  lt : U < 4294967296 * V

/-- q is not too small; r is the remainder of the two leading limbs. -/
def EstInv (u1 u2 v1 U V q r : Nat) : Prop := q * v1 + r = u2 + 4294967296 * u1 ∧ U / V ≤ q ∧ q ≤ 4294967297

variable {L lu lv u1 u2 u3 v1 v2 U V q r : Nat}

theorem Est.pos (h : Est L lu lv u1 u2 u3 v1 v2 U V) : 0 < V := by
  have := h.lt
  rcases Nat.eq_zero_or_pos V with h0 | h0
  · rw [h0] at this; omega
  · exact h0

theorem Est.u1_le (h : Est L lu lv u1 u2 u3 v1 v2 U V) : u1 ≤ v1 := by
  rcases Nat.lt_or_ge v1 u1 with hlt | hge
  · exfalso
    have hL : 0 < L := by have := h.lu_lt; omega
    have h1 : V < L * (v2 + 4294967296 * v1 + 1) := by
      have := h.lv_lt; rw [h.hV, Nat.mul_add L _ 1]; omega
    have h2 : L * (v2 + 4294967296 * v1 + 1) ≤ L * (4294967296 * (v1 + 1)) := Nat.mul_le_mul_left _ (by have := h.c2; omega)
    have h3 : L * (4294967296 * (v1 + 1)) ≤ L * (4294967296 * u1) := Nat.mul_le_mul_left _ (Nat.mul_le_mul_left _ hlt)
    have h4 : L * (4294967296 * (4294967296 * u1)) ≤ U := by
      rw [h.hU]
      have : L * (4294967296 * (4294967296 * u1)) ≤ L * (u3 + 4294967296 * (u2 + 4294967296 * u1)) := Nat.mul_le_mul_left _ (by omega)
      omega
    have h5 : L * (4294967296 * (4294967296 * u1)) = 4294967296 * (L * (4294967296 * u1)) := by grind
    have := h.lt
    omega
  · exact hge

theorem Est.init (h : Est L lu lv u1 u2 u3 v1 v2 U V) : EstInv u1 u2 v1 U V ((u2 + 4294967296 * u1) / v1) ((u2 + 4294967296 * u1) % v1) := by
  have hv1 : 0 < v1 := by have := h.norm; omega
  refine ⟨by rw [Nat.mul_comm]; exact Nat.div_add_mod _ _, ?_, ?_⟩
  · rw [Nat.le_div_iff_mul_le hv1]
    have hL : 0 < L := by have := h.lu_lt; omega
    have h1 : U / V * V ≤ U := Nat.div_mul_le_self U V
    have h2 : U / V * (L * (4294967296 * v1)) ≤ U / V * V := Nat.mul_le_mul_left _ (by
      rw [h.hV]
      have : L * (4294967296 * v1) ≤ L * (v2 + 4294967296 * v1) := Nat.mul_le_mul_left _ (by omega)
      omega)
    have h3 : U < L * (4294967296 * (u2 + 4294967296 * u1 + 1)) := by
      have e : L * (u3 + 4294967296 * (u2 + 4294967296 * u1) + 1) ≤ L * (4294967296 * (u2 + 4294967296 * u1 + 1)) := Nat.mul_le_mul_left _ (by have := h.b3; omega)
      rw [Nat.mul_add L _ 1] at e
      have := h.lu_lt
      rw [h.hU]; omega
    have e1 : U / V * (L * (4294967296 * v1)) = L * (4294967296 * (U / V * v1)) := by grind
    rw [e1] at h2
    have h4 : L * (4294967296 * (U / V * v1)) < L * (4294967296 * (u2 + 4294967296 * u1 + 1)) := by omega
    have h5 := Nat.lt_of_mul_lt_mul_left h4
    omega
  · have h1 := h.u1_le
    have h2 := h.norm
    have h3 := h.b2
    have h4 : (u2 + 4294967296 * u1) / v1 < 4294967298 := by
      apply Nat.div_lt_of_lt_mul
      omega
    omega

theorem Est.dec (h : Est L lu lv u1 u2 u3 v1 v2 U V) (hi : EstInv u1 u2 v1 U V q r) (hc : 4294967296 ≤ q ∨ r * 4294967296 + u3 < q * v2) : U / V < q := by
  rcases hc with hc | hc
  · have : U / V < 4294967296 := Nat.div_lt_of_lt_mul (by rw [Nat.mul_comm]; exact h.lt)
    omega
  · obtain ⟨h1, _, _⟩ := hi
    rw [Nat.div_lt_iff_lt_mul h.pos]
    have e1 : q * (v2 + 4294967296 * v1) = q * v2 + 4294967296 * (q * v1) := by grind
    have e2 : u3 + 4294967296 * (u2 + 4294967296 * u1) + 1 ≤ q * (v2 + 4294967296 * v1) := by rw [e1]; omega
    have e3 : L * (u3 + 4294967296 * (u2 + 4294967296 * u1) + 1) ≤ L * (q * (v2 + 4294967296 * v1)) := Nat.mul_le_mul_left _ e2
    rw [Nat.mul_add L _ 1] at e3
    have e4 : q * (L * (v2 + 4294967296 * v1)) ≤ q * V := Nat.mul_le_mul_left _ (by rw [h.hV]; omega)
    have e5 : L * (q * (v2 + 4294967296 * v1)) = q * (L * (v2 + 4294967296 * v1)) := by grind
    have := h.lu_lt
    rw [h.hU]
    omega

theorem Est.step (h : Est L lu lv u1 u2 u3 v1 v2 U V) (hi : EstInv u1 u2 v1 U V q r) (hc : 4294967296 ≤ q ∨ r * 4294967296 + u3 < q * v2) : 1 ≤ q ∧ EstInv u1 u2 v1 U V (q - 1) (r + v1) := by
  have hd := h.dec hi hc
  obtain ⟨h1, h2, h3⟩ := hi
  unfold EstInv
  generalize U / V = Q at *
  refine ⟨by omega, ?_, by omega, by omega⟩
  obtain ⟨p, rfl⟩ : ∃ p, q = p + 1 := ⟨q - 1, by omega⟩
  rw [Nat.add_mul] at h1
  rw [Nat.add_sub_cancel]
  omega

theorem Est.done (h : Est L lu lv u1 u2 u3 v1 v2 U V) (hi : EstInv u1 u2 v1 U V q r) (hc : q * v2 ≤ r * 4294967296 + u3) : q ≤ U / V + 1 := by
  obtain ⟨h1, h2, h3⟩ := hi
  rcases Nat.eq_zero_or_pos q with h0 | h0
  · rw [h0]; exact Nat.zero_le _
  · obtain ⟨p, rfl⟩ : ∃ p, q = p + 1 := ⟨q - 1, by omega⟩
    have : p ≤ U / V := by
      rw [Nat.le_div_iff_mul_le h.pos]
      have e1 : (p + 1) * (v2 + 4294967296 * v1) = (p + 1) * v2 + 4294967296 * ((p + 1) * v1) := by grind
      have e2 : (p + 1) * (v2 + 4294967296 * v1) ≤ u3 + 4294967296 * (u2 + 4294967296 * u1) := by rw [e1]; omega
      rw [Nat.add_mul] at e2
      have hn := h.norm
      have e3 : p * (v2 + 4294967296 * v1 + 1) ≤ u3 + 4294967296 * (u2 + 4294967296 * u1) := by rw [Nat.mul_add]; omega
      have e4 : V ≤ L * (v2 + 4294967296 * v1 + 1) := by rw [h.hV, Nat.mul_add L _ 1]; have := h.lv_lt; omega
      have e5 : p * V ≤ p * (L * (v2 + 4294967296 * v1 + 1)) := Nat.mul_le_mul_left _ e4
      have e6 : p * (L * (v2 + 4294967296 * v1 + 1)) = L * (p * (v2 + 4294967296 * v1 + 1)) := by grind
      have e7 : L * (p * (v2 + 4294967296 * v1 + 1)) ≤ L * (u3 + 4294967296 * (u2 + 4294967296 * u1)) := Nat.mul_le_mul_left _ e3
      rw [h.hU]
      omega
    omega

/-- The step's numbers of two lists of limbs. -/
theorem est_of {us vs : List Nat} {m : Nat} (hu : lims us) (hv : lims vs) (hul : us.length = m + 3) (hvl : vs.length = m + 2) (hn : 2147483648 ≤ vs.getD (m + 1) 0) (hlt : val us < 4294967296 * val vs) :
    Est (4294967296 ^ m) (val (us.take m)) (val (vs.take m)) (us.getD (m + 2) 0) (us.getD (m + 1) 0) (us.getD m 0) (vs.getD (m + 1) 0) (vs.getD m 0) (val us) (val vs) where
  lu_lt := take_lt hu m
  lv_lt := take_lt hv m
  hU := by
    have e1 := val_take_step us m
    have e2 := val_take_step us (m + 1)
    have e3 := val_take_step us (m + 2)
    rw [val_take_ge (k := m + 2 + 1) (by omega), e2, e1] at e3
    rw [e3, Nat.pow_succ, Nat.pow_succ]
    grind
  hV := by
    have e1 := val_take_step vs m
    have e2 := val_take_step vs (m + 1)
    rw [val_take_ge (k := m + 1 + 1) (by omega), e1] at e2
    rw [e2, Nat.pow_succ]
    grind
  b1 := lims_getD hu _
  b2 := lims_getD hu _
  b3 := lims_getD hu _
  c1 := lims_getD hv _
  c2 := lims_getD hv _
  norm := hn
  lt := hlt

end Nt
end Go.Proofs.Ytfkjhaniglmejaa
