/- Plain arithmetic of the step of long division that subtracts: no program in sight. -/
import Derived.Test.YtfkjhaniglmejaaNumD
namespace Go.Proofs.Ytfkjhaniglmejaa
namespace Nt

/-- Limbs from j on are as they were. -/
def keeps (j : Nat) (os os' : List Nat) : Prop := ∀ t, j ≤ t → os'.getD t 0 = os.getD t 0

/-- q times the divisor is being subtracted from limb i on; c: what is carried, w: what is borrowed. -/
def redA (i k q c bw : Nat) (os os' vs : List Nat) : Prop :=
  os'.length = os.length ∧ lims os' ∧ c < 4294967296 ∧ bw ≤ 1 ∧ keeps (i + k) os os' ∧
    val os' + 4294967296 ^ i * (q * val (vs.take k)) = val os + 4294967296 ^ (i + k) * (c + bw)

theorem redA_zero {i q : Nat} {os vs : List Nat} (h : lims os) : redA i 0 q 0 0 os os vs :=
  ⟨rfl, h, by decide, by decide, fun _ _ => rfl, by simp [val]⟩

theorem redA_step {i k q c bw d u z x b' : Nat} {os os' vs : List Nat} (h : redA i k q c bw os os' vs) (hik : i + k < os.length) (hq : q ≤ 4294967296) (hv : lims vs)
    (hd : d = vs.getD k 0) (hu : u = os'.getD (i + k) 0) (hz : z = c + q * d) (hx : x + z % 4294967296 + bw = u + 4294967296 * b') (hx1 : x < 4294967296) (hb : b' ≤ 1) :
    redA i (k + 1) q (z / 4294967296) b' os (os'.set (i + k) x) vs := by
  obtain ⟨h1, h2, h3, h4, h5, h6⟩ := h
  have hd1 := lims_getD hv k
  rw [← hd] at hd1
  have hqd : q * d ≤ 4294967296 * 4294967295 := Nat.mul_le_mul hq (by omega)
  refine ⟨by simpa using h1, lims_set h2 _ _ hx1, by omega, hb, fun t ht => ?_, ?_⟩
  · rw [getD_set_ne (by omega)]; exact h5 t (by omega)
  · have e := val_set (xs := os') (k := i + k) (x := x) (by omega)
    rw [← hu] at e
    rw [val_take_step vs, ← hd]
    have e1 : 4294967296 ^ i * (q * (val (vs.take k) + 4294967296 ^ k * d)) = 4294967296 ^ i * (q * val (vs.take k)) + 4294967296 ^ (i + k) * (q * d) := by
      rw [Nat.pow_add]; grind
    have e2 : 4294967296 ^ (i + (k + 1)) * (z / 4294967296 + b') = 4294967296 ^ (i + k) * (4294967296 * (z / 4294967296) + 4294967296 * b') := by
      rw [← Nat.add_assoc, Nat.pow_succ]; grind
    have e3 : 4294967296 ^ (i + k) * (x + z % 4294967296 + bw) = 4294967296 ^ (i + k) * (u + 4294967296 * b') := by rw [hx]
    have e4 : 4294967296 ^ (i + k) * z = 4294967296 ^ (i + k) * (4294967296 * (z / 4294967296)) + 4294967296 ^ (i + k) * (z % 4294967296) := by
      rw [← Nat.mul_add]; congr 1; omega
    have e5 : 4294967296 ^ (i + k) * z = 4294967296 ^ (i + k) * c + 4294967296 ^ (i + k) * (q * d) := by rw [hz, Nat.mul_add]
    rw [e1, e2]
    rw [Nat.mul_add] at h6 e3
    rw [Nat.mul_add] at e3
    rw [Nat.mul_add (4294967296 ^ (i + k)) u] at e3
    rw [Nat.mul_add (4294967296 ^ (i + k)) (4294967296 * (z / 4294967296))]
    omega

/-- What is beyond limb j is 0: the number is its first part and limb j. -/
theorem val_upto {os : List Nat} {j : Nat} (hj : j < os.length) (hz : val (os.drop (j + 1)) = 0) : val os = val (os.take j) + 4294967296 ^ j * os.getD j 0 := by
  have e := val_take_drop os (j + 1) hj
  rw [hz, Nat.mul_zero, Nat.add_zero, val_take_succ hj] at e
  exact e

theorem drop_keeps {j : Nat} {os os' : List Nat} (h : keeps j os os') (hl : os'.length = os.length) : os'.drop j = os.drop j := by
  apply List.ext_getElem
  · simp [hl]
  · intro t h1 h2
    simp only [List.getElem_drop]
    have := h (j + t) (by omega)
    simp only [List.length_drop] at h1 h2
    simpa [List.getD, show j + t < os'.length by omega, show j + t < os.length by omega] using this

/-- What is known when the divisor is subtracted from limb i on. -/
structure Red (i n q : Nat) (os vs : List Nat) : Prop where
  los : lims os
  lvs : lims vs
  len : i + n < os.length
  vlen : vs.length = n
  top : val (os.drop (i + n + 1)) = 0
  lo : val (os.drop i) / val vs ≤ q
  hi : q ≤ val (os.drop i) / val vs + 1
  vpos : 0 < val vs
  qlt : val (os.drop i) / val vs < 4294967296

variable {i n q c bw : Nat} {os os' vs : List Nat}

theorem Red.split (h : Red i n q os vs) : val os = val (os.take i) + 4294967296 ^ i * val (os.drop i) := val_take_drop os i (by have := h.len; omega)

theorem redA_facts (h : Red i n q os vs) (ha : redA i n q c bw os os' vs) :
    val os' = val (os'.take (i + n)) + 4294967296 ^ (i + n) * os.getD (i + n) 0 ∧ val (os'.take (i + n)) < 4294967296 ^ (i + n) ∧ val (os.take i) < 4294967296 ^ i ∧
    val os' + 4294967296 ^ i * (q * val vs) = val os + 4294967296 ^ (i + n) * (c + bw) := by
  obtain ⟨h1, h2, h3, h4, h5, h6⟩ := ha
  have hlen := h.len
  have hd : os'.drop (i + n + 1) = os.drop (i + n + 1) := drop_keeps (fun t ht => h5 t (by omega)) h1
  have e := val_upto (os := os') (j := i + n) (by omega) (by rw [hd]; exact h.top)
  rw [h5 (i + n) (Nat.le_refl _)] at e
  rw [val_take_ge (xs := vs) (by have := h.vlen; omega)] at h6
  exact ⟨e, take_lt h2 _, take_lt h.los _, h6⟩

/-- The subtraction stays at or above 0: q was the quotient's limb. -/
theorem redA_yes (h : Red i n q os vs) (ha : redA i n q c bw os os' vs) {x : Nat} (hx : x + c + bw = os.getD (i + n) 0) :
    q = val (os.drop i) / val vs ∧ lims (os'.set (i + n) x) ∧ (os'.set (i + n) x).length = os.length ∧ val (os'.set (i + n) x) + 4294967296 ^ i * (q * val vs) = val os := by
  obtain ⟨f1, f2, f3, f4⟩ := redA_facts h ha
  obtain ⟨h1, h2, _, _, h5, _⟩ := ha
  have hlen := h.len
  have hu := lims_getD h.los (i + n)
  have e := val_set (xs := os') (k := i + n) (x := x) (by omega)
  rw [h5 (i + n) (Nat.le_refl _)] at e
  have e2 : 4294967296 ^ (i + n) * os.getD (i + n) 0 = 4294967296 ^ (i + n) * x + 4294967296 ^ (i + n) * (c + bw) := by rw [← hx, ← Nat.mul_add]; congr 1; omega
  have hval : val (os'.set (i + n) x) + 4294967296 ^ i * (q * val vs) = val os := by omega
  refine ⟨?_, lims_set h2 _ _ (by omega), by simpa using h1, hval⟩
  have hq : q ≤ val (os.drop i) / val vs := by
    rw [Nat.le_div_iff_mul_le h.vpos]
    have hs := h.split
    have h3 : 4294967296 ^ i * (q * val vs) < 4294967296 ^ i * (val (os.drop i) + 1) := by rw [Nat.mul_add]; omega
    have := Nat.lt_of_mul_lt_mul_left h3
    omega
  exact Nat.le_antisymm hq h.lo

/-- The subtraction goes below 0: q was one too large, and the limb at the top is just -1. -/
theorem redA_no (h : Red i n q os vs) (ha : redA i n q c bw os os' vs) (hx : os.getD (i + n) 0 < c + bw) :
    q = val (os.drop i) / val vs + 1 ∧ c + bw = os.getD (i + n) 0 + 1 := by
  obtain ⟨f1, f2, f3, f4⟩ := redA_facts h ha
  have hs := h.split
  obtain ⟨m, hm⟩ : ∃ m, c + bw = os.getD (i + n) 0 + 1 + m := ⟨c + bw - (os.getD (i + n) 0 + 1), by omega⟩
  have hvn : val vs < 4294967296 ^ n := by have := val_lt h.lvs; rwa [h.vlen] at this
  have e1 : 4294967296 ^ (i + n) * (c + bw) = 4294967296 ^ (i + n) * os.getD (i + n) 0 + 4294967296 ^ (i + n) + 4294967296 ^ (i + n) * m := by rw [hm, Nat.mul_add, Nat.mul_add, Nat.mul_one]
  have e2 : 4294967296 ^ (i + n) = 4294967296 ^ i * 4294967296 ^ n := Nat.pow_add _ _ _
  have hgt : val (os.drop i) / val vs < q := by
    rw [Nat.div_lt_iff_lt_mul h.vpos]
    have h3 : 4294967296 ^ i * val (os.drop i) < 4294967296 ^ i * (q * val vs) := by omega
    exact Nat.lt_of_mul_lt_mul_left h3
  have hq : q = val (os.drop i) / val vs + 1 := Nat.le_antisymm h.hi hgt
  refine ⟨hq, ?_⟩
  have h4 : q * val vs ≤ val (os.drop i) + val vs := by
    rw [hq, Nat.add_mul, Nat.one_mul]
    have := Nat.div_mul_le_self (val (os.drop i)) (val vs)
    omega
  have h5 : 4294967296 ^ i * (q * val vs) ≤ 4294967296 ^ i * (val (os.drop i) + val vs) := Nat.mul_le_mul_left _ h4
  rw [Nat.mul_add] at h5
  have h6 : 4294967296 ^ i * (val vs + 1) ≤ 4294967296 ^ i * 4294967296 ^ n := Nat.mul_le_mul_left _ hvn
  rw [Nat.mul_add, ← e2] at h6
  have hp : 0 < 4294967296 ^ i := Nat.pow_pos (by decide)
  rcases Nat.eq_zero_or_pos m with h0 | h0
  · omega
  · exfalso
    have h7 : 4294967296 ^ (i + n) * 1 ≤ 4294967296 ^ (i + n) * m := Nat.mul_le_mul_left _ h0
    omega

/-- The divisor is added again from limb i on. -/
def redB (i k c : Nat) (os os' vs : List Nat) : Prop :=
  os'.length = os.length ∧ lims os' ∧ c ≤ 1 ∧ keeps (i + k) os os' ∧ val os' + 4294967296 ^ (i + k) * c = val os + 4294967296 ^ i * val (vs.take k)

theorem redB_zero {i : Nat} {os vs : List Nat} (h : lims os) : redB i 0 0 os os vs :=
  ⟨rfl, h, by decide, fun _ _ => rfl, by simp [val]⟩

theorem redB_step {i k c d u z : Nat} {os os' vs : List Nat} (h : redB i k c os os' vs) (hik : i + k < os.length) (hv : lims vs)
    (hd : d = vs.getD k 0) (hu : u = os'.getD (i + k) 0) (hz : z = c + (u + d)) :
    redB i (k + 1) (z / 4294967296) os (os'.set (i + k) (z % 4294967296)) vs := by
  obtain ⟨h1, h2, h3, h5, h6⟩ := h
  have hd1 := lims_getD hv k
  have hu1 := lims_getD h2 (i + k)
  rw [← hd] at hd1
  rw [← hu] at hu1
  refine ⟨by simpa using h1, lims_set h2 _ _ (by omega), by omega, fun t ht => ?_, ?_⟩
  · rw [getD_set_ne (by omega)]; exact h5 t (by omega)
  · have e := val_set (xs := os') (k := i + k) (x := z % 4294967296) (by omega)
    rw [← hu] at e
    rw [val_take_step vs, ← hd]
    have e1 : 4294967296 ^ i * (val (vs.take k) + 4294967296 ^ k * d) = 4294967296 ^ i * val (vs.take k) + 4294967296 ^ (i + k) * d := by
      rw [Nat.pow_add]; grind
    have e2 : 4294967296 ^ (i + (k + 1)) * (z / 4294967296) = 4294967296 ^ (i + k) * (4294967296 * (z / 4294967296)) := by
      rw [← Nat.add_assoc, Nat.pow_succ, Nat.mul_assoc]
    have e4 : 4294967296 ^ (i + k) * z = 4294967296 ^ (i + k) * (4294967296 * (z / 4294967296)) + 4294967296 ^ (i + k) * (z % 4294967296) := by
      rw [← Nat.mul_add]; congr 1; omega
    have e5 : 4294967296 ^ (i + k) * z = 4294967296 ^ (i + k) * c + (4294967296 ^ (i + k) * u + 4294967296 ^ (i + k) * d) := by rw [hz, Nat.mul_add, Nat.mul_add]
    rw [e1, e2]
    omega

/-- Behind the second loop: the carry is 1, and the limb at the top is 0. -/
theorem redB_end (h : Red i n q os vs) (ha : redA i n q c bw os os' vs) (hx : os.getD (i + n) 0 < c + bw) {os2 : List Nat} {c2 : Nat}
    (hb : redB i n c2 (os'.set (i + n) 4294967295) os2 vs) :
    c2 = 1 ∧ os2.getD (i + n) 0 = 4294967295 ∧ lims (os2.set (i + n) 0) ∧ (os2.set (i + n) 0).length = os.length ∧
      val (os2.set (i + n) 0) + 4294967296 ^ i * (val (os.drop i) / val vs * val vs) = val os := by
  obtain ⟨hq, hcb⟩ := redA_no h ha hx
  obtain ⟨f1, f2, f3, f4⟩ := redA_facts h ha
  obtain ⟨h1, h2, _, _, h5, _⟩ := ha
  obtain ⟨g1, g2, g3, g4, g5⟩ := hb
  have hlen := h.len
  have hs := h.split
  rw [List.length_set] at g1
  rw [val_take_ge (xs := vs) (by have := h.vlen; omega)] at g5
  have hd2 : os2.drop (i + n + 1) = os.drop (i + n + 1) := by
    have e1 := drop_keeps (j := i + n + 1) (os := os'.set (i + n) 4294967295) (os' := os2) (fun t ht => g4 t (by omega)) (by simpa using g1)
    rw [e1, List.drop_set_of_lt (by omega)]
    exact drop_keeps (fun t ht => h5 t (by omega)) h1
  have ht2 : os2.getD (i + n) 0 = 4294967295 := by rw [g4 (i + n) (Nat.le_refl _), getD_set_eq (by omega)]
  have e2 := val_upto (os := os2) (j := i + n) (by omega) (by rw [hd2]; exact h.top)
  have hT := take_lt g2 (i + n)
  rw [ht2] at e2
  have e3 := val_set (xs := os') (k := i + n) (x := 4294967295) (by omega)
  rw [h5 (i + n) (Nat.le_refl _)] at e3
  have e4 := val_set (xs := os2) (k := i + n) (x := 0) (by omega)
  rw [ht2] at e4
  rw [hcb, Nat.mul_add] at f4
  rw [hq, Nat.add_mul, Nat.one_mul, Nat.mul_add] at f4
  have hmod : val (os.drop i) / val vs * val vs + val (os.drop i) % val vs = val (os.drop i) := by
    rw [Nat.mul_comm]; exact Nat.div_add_mod _ _
  have hlt : val (os.drop i) % val vs < val vs := Nat.mod_lt _ h.vpos
  have hvn : val vs < 4294967296 ^ n := by have := val_lt h.lvs; rwa [h.vlen] at this
  have e5 : 4294967296 ^ (i + n) = 4294967296 ^ i * 4294967296 ^ n := Nat.pow_add _ _ _
  have h6 : 4294967296 ^ i * (val (os.drop i) % val vs + 1) ≤ 4294967296 ^ i * 4294967296 ^ n := Nat.mul_le_mul_left _ (by omega)
  rw [Nat.mul_add, ← e5] at h6
  have h7 : 4294967296 ^ i * (val (os.drop i) / val vs * val vs) + 4294967296 ^ i * (val (os.drop i) % val vs) = 4294967296 ^ i * val (os.drop i) := by rw [← Nat.mul_add, hmod]
  have hp : 0 < 4294967296 ^ (i + n) := Nat.pow_pos (by decide)
  have hc2 : c2 = 1 := by
    rcases Nat.eq_zero_or_pos c2 with h0 | h0
    · exfalso
      subst h0
      omega
    · omega
  subst hc2
  exact ⟨rfl, ht2, lims_set g2 _ _ (by decide), by rw [List.length_set]; omega, by omega⟩

end Nt
end Go.Proofs.Ytfkjhaniglmejaa
