/- Plain arithmetic of limbs of 32 bits: no program in sight. -/
namespace Go.Proofs.Ytfkjhaniglmejaa
namespace Nt

/-- The number of a list of limbs. -/
def val : List Nat → Nat
  | [] => 0
  | x :: xs => x + 4294967296 * val xs

/-- Every limb is less than 2^32. -/
def lims (xs : List Nat) : Prop := ∀ x ∈ xs, x < 4294967296

/-- The canonical limbs of a number. -/
def limbs (n : Nat) : List Nat := if h : n = 0 then [] else n % 4294967296 :: limbs (n / 4294967296)
termination_by n
decreasing_by exact Nat.div_lt_self (Nat.pos_of_ne_zero h) (by decide)

theorem limbs_zero : limbs 0 = [] := by rw [limbs]; simp
theorem limbs_pos {n : Nat} (h : 0 < n) : limbs n = n % 4294967296 :: limbs (n / 4294967296) := by
  rw [limbs]; simp [Nat.ne_of_gt h]

theorem val_nil : val [] = 0 := rfl
theorem val_cons (x : Nat) (xs : List Nat) : val (x :: xs) = x + 4294967296 * val xs := rfl

theorem val_append (xs ys : List Nat) : val (xs ++ ys) = val xs + 4294967296 ^ xs.length * val ys := by
  induction xs with
  | nil => simp [val]
  | cons x xs ih => simp only [List.cons_append, val_cons, ih, List.length_cons, Nat.pow_succ]; grind

theorem lims_nil : lims [] := fun x h => by cases h
theorem lims_cons {x : Nat} {xs : List Nat} (h : x < 4294967296) (hs : lims xs) : lims (x :: xs) := by
  intro y hy; cases hy with
  | head => exact h
  | tail _ hy => exact hs y hy
theorem lims_tail {x : Nat} {xs : List Nat} (h : lims (x :: xs)) : lims xs := fun y hy => h y (List.mem_cons_of_mem _ hy)
theorem lims_head {x : Nat} {xs : List Nat} (h : lims (x :: xs)) : x < 4294967296 := h x (List.mem_cons_self ..)
theorem lims_take {xs : List Nat} (h : lims xs) (k : Nat) : lims (xs.take k) := fun y hy => h y (List.mem_of_mem_take hy)
theorem lims_drop {xs : List Nat} (h : lims xs) (k : Nat) : lims (xs.drop k) := fun y hy => h y (List.mem_of_mem_drop hy)
theorem lims_append {xs ys : List Nat} (h : lims xs) (h' : lims ys) : lims (xs ++ ys) := fun y hy => by
  rcases List.mem_append.1 hy with hy | hy
  · exact h y hy
  · exact h' y hy
theorem lims_set {xs : List Nat} (h : lims xs) (k x : Nat) (hx : x < 4294967296) : lims (xs.set k x) := fun y hy => by
  rcases List.mem_or_eq_of_mem_set hy with hy | hy
  · exact h y hy
  · rw [hy]; exact hx
theorem lims_getD {xs : List Nat} (h : lims xs) (k : Nat) : xs.getD k 0 < 4294967296 := by
  rw [List.getD]
  cases hk : xs[k]? with
  | none => simp
  | some x => simpa using h x (List.mem_of_getElem? hk)
theorem lims_replicate (n : Nat) : lims (List.replicate n 0) := fun y hy => by
  rw [(List.mem_replicate.1 hy).2]; decide

theorem val_lt {xs : List Nat} (h : lims xs) : val xs < 4294967296 ^ xs.length := by
  induction xs with
  | nil => simp [val]
  | cons x xs ih =>
    have := ih (lims_tail h)
    have := lims_head h
    rw [val_cons, List.length_cons, Nat.pow_succ]
    omega

theorem take_succ_getD (xs : List Nat) (k : Nat) (h : k < xs.length) : xs.take (k + 1) = xs.take k ++ [xs.getD k 0] := by
  rw [List.take_succ_eq_append_getElem h]; simp [List.getD, h]

theorem val_take_succ {xs : List Nat} {k : Nat} (h : k < xs.length) : val (xs.take (k + 1)) = val (xs.take k) + 4294967296 ^ k * xs.getD k 0 := by
  rw [take_succ_getD xs k h, val_append, List.length_take, Nat.min_eq_left (by omega)]
  simp [val]

/-- Beyond the list nothing is added. -/
theorem val_take_ge {xs : List Nat} {k : Nat} (h : xs.length ≤ k) : val (xs.take k) = val xs := by rw [List.take_of_length_le h]

/-- The step of 'val' whether or not there is a limb. -/
theorem val_take_step (xs : List Nat) (k : Nat) : val (xs.take (k + 1)) = val (xs.take k) + 4294967296 ^ k * xs.getD k 0 := by
  by_cases h : k < xs.length
  · exact val_take_succ h
  · rw [val_take_ge (by omega), val_take_ge (by omega)]
    simp [List.getD, show xs.length ≤ k by omega]

theorem val_take_drop (xs : List Nat) (k : Nat) (hk : k ≤ xs.length) : val xs = val (xs.take k) + 4294967296 ^ k * val (xs.drop k) := by
  conv => lhs; rw [← List.take_append_drop k xs]
  rw [val_append, List.length_take, Nat.min_eq_left hk]

theorem val_replicate (n : Nat) : val (List.replicate n 0) = 0 := by
  induction n with
  | zero => rfl
  | succ n ih => rw [List.replicate_succ, val_cons, ih]

theorem val_limbs (n : Nat) : val (limbs n) = n := by
  induction n using Nat.strongRecOn with
  | ind n ih =>
    by_cases h : n = 0
    · subst h; rw [limbs_zero]; rfl
    · rw [limbs_pos (Nat.pos_of_ne_zero h), val_cons, ih _ (Nat.div_lt_self (Nat.pos_of_ne_zero h) (by decide))]
      omega

theorem lims_limbs (n : Nat) : lims (limbs n) := by
  induction n using Nat.strongRecOn with
  | ind n ih =>
    by_cases h : n = 0
    · subst h; rw [limbs_zero]; exact lims_nil
    · rw [limbs_pos (Nat.pos_of_ne_zero h)]
      exact lims_cons (Nat.mod_lt _ (by decide)) (ih _ (Nat.div_lt_self (Nat.pos_of_ne_zero h) (by decide)))

/-- A list whose last limb is not 0 is the list of its number. -/
theorem limbs_val {xs : List Nat} (h : lims xs) (hc : xs = [] ∨ xs.getD (xs.length - 1) 0 ≠ 0) : limbs (val xs) = xs := by
  induction xs with
  | nil => exact limbs_zero
  | cons x xs ih =>
    have hx := lims_head h
    have ht := lims_tail h
    have hc : (x :: xs).getD xs.length 0 ≠ 0 := by
      rcases hc with hc | hc
      · cases hc
      · simpa using hc
    have hpos : 0 < val (x :: xs) := by
      rw [val_cons]
      cases xs with
      | nil => simp at hc; omega
      | cons y ys =>
        have e := ih ht (Or.inr (by simpa using hc))
        have : val (y :: ys) ≠ 0 := by
          intro h0; rw [h0, limbs_zero] at e; cases e
        omega
    rw [limbs_pos hpos, val_cons]
    have e1 : (x + 4294967296 * val xs) % 4294967296 = x := by omega
    have e2 : (x + 4294967296 * val xs) / 4294967296 = val xs := by omega
    rw [e1, e2]
    congr 1
    cases xs with
    | nil => exact limbs_zero
    | cons y ys => exact ih ht (Or.inr (by simpa using hc))

theorem limbs_inj {a b : Nat} (h : limbs a = limbs b) : a = b := by
  have := congrArg val h; rwa [val_limbs, val_limbs] at this

theorem limbs_ne_nil {n : Nat} (h : 0 < n) : limbs n ≠ [] := by rw [limbs_pos h]; simp

theorem limbs_last {n : Nat} (h : 0 < n) : (limbs n).getD ((limbs n).length - 1) 0 ≠ 0 := by
  induction n using Nat.strongRecOn with
  | ind n ih =>
    rw [limbs_pos h]
    by_cases hd : n / 4294967296 = 0
    · rw [hd, limbs_zero]; simp; omega
    · have := ih _ (Nat.div_lt_self h (by decide)) (Nat.pos_of_ne_zero hd)
      have hne := limbs_ne_nil (Nat.pos_of_ne_zero hd)
      have hl : 0 < (limbs (n / 4294967296)).length := List.length_pos_iff.2 hne
      have e : (n % 4294967296 :: limbs (n / 4294967296)).length - 1 = ((limbs (n / 4294967296)).length - 1) + 1 := by simp; omega
      rw [e]
      simpa [List.getD] using this

/-- How many limbs a number has. -/
def sz (n : Nat) : Nat := (limbs n).length

theorem sz_zero : sz 0 = 0 := by simp [sz, limbs_zero]
theorem sz_pos {n : Nat} (h : 0 < n) : 0 < sz n := by unfold sz; rw [limbs_pos h]; simp
theorem sz_eq_zero {n : Nat} : sz n = 0 ↔ n = 0 := by
  constructor
  · intro h
    cases Nat.eq_zero_or_pos n with
    | inl h0 => exact h0
    | inr hp => exact absurd (sz_pos hp) (by omega)
  · rintro rfl; exact sz_zero

theorem lt_pow_sz (n : Nat) : n < 4294967296 ^ sz n := by
  have := val_lt (lims_limbs n); rwa [val_limbs] at this

theorem pow_le_of_sz {n k : Nat} (h : k < sz n) : 4294967296 ^ k ≤ n := by
  have hn : 0 < n := by
    cases Nat.eq_zero_or_pos n with
    | inl h0 => rw [h0, sz_zero] at h; omega
    | inr hp => exact hp
  have hl := limbs_last hn
  have e := val_take_step (limbs n) ((limbs n).length - 1)
  have hpos := sz_pos hn
  unfold sz at h hpos
  rw [show (limbs n).length - 1 + 1 = (limbs n).length by omega, List.take_length, val_limbs] at e
  have h1 : 4294967296 ^ k ≤ 4294967296 ^ ((limbs n).length - 1) := Nat.pow_le_pow_right (by decide) (by omega)
  have h2 : 4294967296 ^ ((limbs n).length - 1) * 1 ≤ 4294967296 ^ ((limbs n).length - 1) * (limbs n).getD ((limbs n).length - 1) 0 := Nat.mul_le_mul_left _ (Nat.pos_of_ne_zero hl)
  omega

theorem sz_le {n k : Nat} (h : n < 4294967296 ^ k) : sz n ≤ k := by
  rcases Nat.lt_or_ge k (sz n) with h' | h'
  · exact absurd (pow_le_of_sz h') (by omega)
  · exact h'

theorem sz_mono {a b : Nat} (h : a ≤ b) : sz a ≤ sz b := sz_le (Nat.lt_of_le_of_lt h (lt_pow_sz b))

theorem sz_add (a b : Nat) : sz (a + b) ≤ max (sz a) (sz b) + 1 := by
  apply sz_le
  have ha := lt_pow_sz a
  have hb := lt_pow_sz b
  have h1 : 4294967296 ^ sz a ≤ 4294967296 ^ max (sz a) (sz b) := Nat.pow_le_pow_right (by decide) (by omega)
  have h2 : 4294967296 ^ sz b ≤ 4294967296 ^ max (sz a) (sz b) := Nat.pow_le_pow_right (by decide) (by omega)
  rw [Nat.pow_succ]
  omega

theorem sz_mul (a b : Nat) : sz (a * b) ≤ sz a + sz b := by
  apply sz_le
  rw [Nat.pow_add]
  exact Nat.mul_lt_mul'' (lt_pow_sz a) (lt_pow_sz b)

theorem sz_val {xs : List Nat} (h : lims xs) : sz (val xs) ≤ xs.length := sz_le (val_lt h)

theorem sz_sub (a b : Nat) : sz (a - b) ≤ sz a := sz_mono (Nat.sub_le a b)
theorem sz_div (a b : Nat) : sz (a / b) ≤ sz a := sz_mono (Nat.div_le_self a b)
theorem sz_mod (a b : Nat) : sz (a % b) ≤ sz a := sz_mono (Nat.mod_le a b)

/-! Comparing and writing from the ends. -/
theorem take_lt {xs : List Nat} (h : lims xs) (k : Nat) : val (xs.take k) < 4294967296 ^ k := by
  have h1 := val_lt (lims_take h k)
  have h2 : 4294967296 ^ (xs.take k).length ≤ 4294967296 ^ k := Nat.pow_le_pow_right (by decide) (by simp; omega)
  omega

theorem top_lt {xs ys : List Nat} {k : Nat} (h : lims xs) (hlt : xs.getD k 0 < ys.getD k 0) : val (xs.take (k + 1)) < val (ys.take (k + 1)) := by
  have h1 := take_lt h k
  have e1 := val_take_step xs k
  have e2 := val_take_step ys k
  have h3 : 4294967296 ^ k * (xs.getD k 0 + 1) ≤ 4294967296 ^ k * ys.getD k 0 := Nat.mul_le_mul_left _ hlt
  rw [Nat.mul_add] at h3
  omega

/-- The order of two numbers. -/
def cmpN (a b : Nat) : Int := if a < b then -1 else if a = b then 0 else 1
theorem cmpN_lt {a b : Nat} (h : a < b) : cmpN a b = -1 := by simp [cmpN, h]
theorem cmpN_gt {a b : Nat} (h : b < a) : cmpN a b = 1 := by simp [cmpN, show ¬ a < b by omega, show ¬ a = b by omega]
theorem cmpN_eq {a b : Nat} (h : a = b) : cmpN a b = 0 := by simp [cmpN, h]

/-- The two numbers agree from limb k on. -/
def agree (xs ys : List Nat) (k : Nat) : Prop := val xs + val (ys.take k) = val ys + val (xs.take k)
theorem agree_top {xs ys : List Nat} {k : Nat} (h : xs.length ≤ k) (h' : ys.length ≤ k) : agree xs ys k := by
  unfold agree; rw [val_take_ge h, val_take_ge h', Nat.add_comm]
theorem agree_zero {xs ys : List Nat} (h : agree xs ys 0) : val xs = val ys := by
  unfold agree at h; simpa [val] using h
theorem agree_step {xs ys : List Nat} {k : Nat} (h : agree xs ys (k + 1)) (he : xs.getD k 0 = ys.getD k 0) : agree xs ys k := by
  unfold agree at *; rw [val_take_step, val_take_step, he] at h; omega
theorem agree_lt {xs ys : List Nat} {k : Nat} (h : agree xs ys (k + 1)) (hx : lims xs) (hlt : xs.getD k 0 < ys.getD k 0) : val xs < val ys := by
  have := top_lt hx hlt; unfold agree at h; omega
theorem agree_gt {xs ys : List Nat} {k : Nat} (h : agree xs ys (k + 1)) (hy : lims ys) (hlt : ys.getD k 0 < xs.getD k 0) : val ys < val xs := by
  have := top_lt hy hlt; unfold agree at h; omega

theorem limbs_len_lt {a b : Nat} (h : (limbs a).length < (limbs b).length) : a < b := by
  rcases Nat.lt_or_ge a b with h' | h'
  · exact h'
  · have := sz_mono h'; unfold sz at this; omega

theorem take_set_succ (xs : List Nat) (k x : Nat) (h : k < xs.length) : (xs.set k x).take (k + 1) = xs.take k ++ [x] := by
  rw [take_succ_getD _ _ (by simpa using h), List.take_set_of_le (Nat.le_refl _)]
  simp [List.getD, h]
theorem val_set_take {xs : List Nat} {k x : Nat} (h : k < xs.length) : val ((xs.set k x).take (k + 1)) = val (xs.take k) + 4294967296 ^ k * x := by
  rw [take_set_succ _ _ _ h, val_append, List.length_take, Nat.min_eq_left (by omega)]; simp [val]
theorem take_set_ge (xs : List Nat) (k j x : Nat) (h : j ≤ k) : (xs.set k x).take j = xs.take j := List.take_set_of_le h
theorem val_snoc (xs : List Nat) (x : Nat) : val (xs ++ [x]) = val xs + 4294967296 ^ xs.length * x := by rw [val_append]; simp [val]

/-- One step of a sum with carries. -/
theorem add_step {o x y p c d o' : Nat} (h : o + p * c = x) (h' : d + o' * 4294967296 = c + y) : (o + p * d) + p * 4294967296 * o' = x + p * y := by
  have e : p * (d + o' * 4294967296) = p * (c + y) := by rw [h']
  rw [Nat.mul_add, Nat.mul_add] at e
  have e2 : p * (o' * 4294967296) = p * 4294967296 * o' := by grind
  omega

theorem val_set {xs : List Nat} {k x : Nat} (h : k < xs.length) : val (xs.set k x) + 4294967296 ^ k * xs.getD k 0 = val xs + 4294967296 ^ k * x := by
  have e1 := val_take_drop (xs.set k x) (k + 1) (by simp; omega)
  have e2 := val_take_drop xs (k + 1) h
  rw [val_set_take h, List.drop_set_of_lt (by omega)] at e1
  rw [val_take_succ h] at e2
  omega

theorem getD_set_eq {xs : List Nat} {k x : Nat} (h : k < xs.length) : (xs.set k x).getD k 0 = x := by simp [List.getD, h]
theorem getD_set_ne {xs : List Nat} {k j x : Nat} (h : k ≠ j) : (xs.set k x).getD j 0 = xs.getD j 0 := by simp [List.getD, h]
theorem getD_replicate (n j : Nat) : (List.replicate n 0).getD j 0 = 0 := by
  simp only [List.getD, List.getElem?_replicate]; split <;> rfl

/-! Multiplication: i rows of the product are written; in the row, k limbs. -/
def mulOut (n m i : Nat) (os xs ys : List Nat) : Prop :=
  os.length = n + m ∧ lims os ∧ (∀ j, i + m ≤ j → os.getD j 0 = 0) ∧ val os = val (xs.take i) * val ys
def mulIn (n m i k c : Nat) (os xs ys : List Nat) : Prop :=
  os.length = n + m ∧ lims os ∧ (∀ j, i + m ≤ j → os.getD j 0 = 0) ∧ c < 4294967296 ∧
    val os + 4294967296 ^ (i + k) * c = val (xs.take i) * val ys + 4294967296 ^ i * (xs.getD i 0 * val (ys.take k))

theorem mulOut_zero (n m : Nat) (xs ys : List Nat) : mulOut n m 0 (List.replicate (n + m) 0) xs ys :=
  ⟨by simp, lims_replicate _, fun j _ => getD_replicate _ _, by simp [val_replicate, val]⟩

theorem mulIn_zero {n m i : Nat} {os xs ys : List Nat} (h : mulOut n m i os xs ys) : mulIn n m i 0 0 os xs ys := by
  obtain ⟨h1, h2, h3, h4⟩ := h
  exact ⟨h1, h2, h3, by decide, by simp [h4, val]⟩

theorem mulIn_step {n m i k c x y o : Nat} {os xs ys : List Nat} (h : mulIn n m i k c os xs ys) (hk : k < m) (hi : i < n) (hx : x = xs.getD i 0) (hy : y = ys.getD k 0) (ho : o = os.getD (i + k) 0)
    (hlx : lims xs) (hly : lims ys) (z : Nat) (hz : z = c + (x * y + o)) : mulIn n m i (k + 1) (z / 4294967296) (os.set (i + k) (z % 4294967296)) xs ys := by
  obtain ⟨h1, h2, h3, h4, h5⟩ := h
  have b1 := lims_getD hlx i
  have b2 := lims_getD hly k
  have b3 := lims_getD h2 (i + k)
  rw [← hx] at b1
  rw [← hy] at b2
  rw [← ho] at b3
  have hxy : x * y ≤ 4294967295 * 4294967295 := Nat.mul_le_mul (by omega) (by omega)
  refine ⟨by simpa using h1, lims_set h2 _ _ (by omega), fun j hj => ?_, by omega, ?_⟩
  · rw [getD_set_ne (by omega)]; exact h3 j hj
  · have e := val_set (xs := os) (k := i + k) (x := z % 4294967296) (by omega)
    rw [← ho] at e
    rw [val_take_step ys, ← hy, ← hx, Nat.mul_add, Nat.mul_add] at *
    rw [← hx] at h5
    have e2 : 4294967296 ^ (i + (k + 1)) = 4294967296 ^ (i + k) * 4294967296 := by rw [← Nat.add_assoc, Nat.pow_succ]
    have e3 : 4294967296 ^ i * (x * (4294967296 ^ k * y)) = 4294967296 ^ (i + k) * (x * y) := by rw [Nat.pow_add]; grind
    have e4 : 4294967296 ^ (i + k) * z = 4294967296 ^ (i + k) * (z % 4294967296) + 4294967296 ^ (i + k) * 4294967296 * (z / 4294967296) := by
      rw [Nat.mul_assoc, ← Nat.mul_add]; congr 1; omega
    have e5 : 4294967296 ^ (i + k) * z = 4294967296 ^ (i + k) * c + (4294967296 ^ (i + k) * (x * y) + 4294967296 ^ (i + k) * o) := by rw [hz, Nat.mul_add, Nat.mul_add]
    rw [e2, e3]
    omega

theorem mulOut_step {n m i c : Nat} {os xs ys : List Nat} (h : mulIn n m i m c os xs ys) (hi : i < n) (hm : ys.length ≤ m) : mulOut n m (i + 1) (os.set (i + m) c) xs ys := by
  obtain ⟨h1, h2, h3, h4, h5⟩ := h
  refine ⟨by simpa using h1, lims_set h2 _ _ h4, fun j hj => ?_, ?_⟩
  · rw [getD_set_ne (by omega)]; exact h3 j (by omega)
  · have e := val_set (xs := os) (k := i + m) (x := c) (by omega)
    rw [h3 (i + m) (by omega)] at e
    rw [val_take_step xs, Nat.add_mul]
    rw [val_take_ge hm] at h5
    have e3 : 4294967296 ^ i * xs.getD i 0 * val ys = 4294967296 ^ i * (xs.getD i 0 * val ys) := Nat.mul_assoc _ _ _
    omega

/-- A row that goes on behind the divisor's limbs: nothing is carried out of it. -/
theorem mulIn_done {n m i c : Nat} {os xs ys : List Nat} (h : mulIn n m i m c os xs ys) (hxs : lims xs) (hys : lims ys) (hm : ys.length < m) : c = 0 ∧ mulOut n m (i + 1) os xs ys := by
  obtain ⟨h1, h2, h3, h4, h5⟩ := h
  rw [val_take_ge (xs := ys) (by omega)] at h5
  have e1 : val (xs.take i) * val ys + 4294967296 ^ i * (xs.getD i 0 * val ys) = val (xs.take (i + 1)) * val ys := by
    rw [val_take_step xs, Nat.add_mul, Nat.mul_assoc]
  rw [e1] at h5
  have hc : c = 0 := by
    rcases Nat.eq_zero_or_pos c with h | h
    · exact h
    · exfalso
      have b1 := take_lt hxs (i + 1)
      have b2 := val_lt hys
      have b3 : 4294967296 ^ ys.length ≤ 4294967296 ^ (m - 1) := Nat.pow_le_pow_right (by decide) (by omega)
      have b4 : val (xs.take (i + 1)) * val ys < 4294967296 ^ (i + 1) * 4294967296 ^ (m - 1) := Nat.mul_lt_mul'' b1 (by omega)
      rw [← Nat.pow_add, show i + 1 + (m - 1) = i + m by omega] at b4
      have b5 : 4294967296 ^ (i + m) * 1 ≤ 4294967296 ^ (i + m) * c := Nat.mul_le_mul_left _ h
      omega
  subst hc
  exact ⟨rfl, h1, h2, fun j hj => h3 j (by omega), by simpa using h5⟩

theorem mulOut_end {n m : Nat} {os xs ys : List Nat} (h : mulOut n m n os xs ys) (hn : xs.length ≤ n) : lims os ∧ os.length = n + m ∧ val os = val xs * val ys := by
  obtain ⟨h1, h2, h3, h4⟩ := h
  exact ⟨h2, h1, by rw [h4, val_take_ge hn]⟩

end Nt
end Go.Proofs.Ytfkjhaniglmejaa
