/- Texts Num Mem App Bits, in this order. -/
import Derived.WalkKit
import Derived.WalkSpells
import Derived.WalkLawsBesides
import Derived.Lib.Hide
import Derived.BigQuiet
import Derived.Deep.QuietTactic
import Derived.Shelf.Small.Bits
import Derived.Test.YtikglhmabidjoaaGreatDoorProg
namespace Go.Proofs.YtikglhmabidjoaaGreatDoor
namespace Nt
def val : List Nat → Nat
  | [] => 0
  | x :: xs => x + 4294967296 * val xs
def lims (xs : List Nat) : Prop := ∀ x ∈ xs, x < 4294967296
def limbs (n : Nat) : List Nat := if h : n = 0 then [] else n % 4294967296 :: limbs (n / 4294967296)
termination_by n
decreasing_by exact Nat.div_lt_self (Nat.pos_of_ne_zero h) (by decide)
theorem limbs_zero : limbs 0 = [] := by rw [limbs]; simp
theorem limbs_pos {n : Nat} (h : 0 < n) : limbs n = n % 4294967296 :: limbs (n / 4294967296) := by
  rw [limbs]; simp [Nat.ne_of_gt h]
theorem val_cons (x : Nat) (xs : List Nat) : val (x :: xs) = x + 4294967296 * val xs := rfl
theorem val_append (xs ys : List Nat) : val (xs ++ ys) = val xs + 4294967296 ^ xs.length * val ys := by
  induction xs with
  | nil => simp [val]
  | cons x xs ih => simp only [List.cons_append, val_cons, ih, List.length_cons, Nat.pow_succ]; grind
theorem lims_nil : lims [] := fun x h => by cases h
theorem lims_cons {x : Nat} {xs : List Nat} (h : x < 4294967296) (hs : lims xs) : lims (x :: xs) := by
  intro y hy; cases hy with
  | head => exact h
  | tail _ hy => exact hs y hy
theorem lims_tail {x : Nat} {xs : List Nat} (h : lims (x :: xs)) : lims xs := fun y hy => h y (List.mem_cons_of_mem _ hy)
theorem lims_head {x : Nat} {xs : List Nat} (h : lims (x :: xs)) : x < 4294967296 := h x (List.mem_cons_self ..)
theorem lims_take {xs : List Nat} (h : lims xs) (k : Nat) : lims (xs.take k) := fun y hy => h y (List.mem_of_mem_take hy)
theorem lims_drop {xs : List Nat} (h : lims xs) (k : Nat) : lims (xs.drop k) := fun y hy => h y (List.mem_of_mem_drop hy)
theorem lims_append {xs ys : List Nat} (h : lims xs) (h' : lims ys) : lims (xs ++ ys) := fun y hy => by
  rcases List.mem_append.1 hy with hy | hy
  · exact h y hy
  · exact h' y hy
theorem lims_set {xs : List Nat} (h : lims xs) (k x : Nat) (hx : x < 4294967296) : lims (xs.set k x) := fun y hy => by
  rcases List.mem_or_eq_of_mem_set hy with hy | hy
  · exact h y hy
  · rw [hy]; exact hx
theorem lims_getD {xs : List Nat} (h : lims xs) (k : Nat) : xs.getD k 0 < 4294967296 := by
  rw [List.getD]
  cases hk : xs[k]? with
  | none => simp
  | some x => simpa using h x (List.mem_of_getElem? hk)
theorem lims_replicate (n : Nat) : lims (List.replicate n 0) := fun y hy => by
  rw [(List.mem_replicate.1 hy).2]; decide
theorem val_lt {xs : List Nat} (h : lims xs) : val xs < 4294967296 ^ xs.length := by
  induction xs with
  | nil => simp [val]
  | cons x xs ih =>
    have := ih (lims_tail h)
    have := lims_head h
    rw [val_cons, List.length_cons, Nat.pow_succ]
    omega
theorem take_succ_getD (xs : List Nat) (k : Nat) (h : k < xs.length) : xs.take (k + 1) = xs.take k ++ [xs.getD k 0] := by
  rw [List.take_succ_eq_append_getElem h]; simp [List.getD, h]
theorem val_take_succ {xs : List Nat} {k : Nat} (h : k < xs.length) : val (xs.take (k + 1)) = val (xs.take k) + 4294967296 ^ k * xs.getD k 0 := by
  rw [take_succ_getD xs k h, val_append, List.length_take, Nat.min_eq_left (by omega)]
  simp [val]
theorem val_take_ge {xs : List Nat} {k : Nat} (h : xs.length ≤ k) : val (xs.take k) = val xs := by rw [List.take_of_length_le h]
theorem val_take_step (xs : List Nat) (k : Nat) : val (xs.take (k + 1)) = val (xs.take k) + 4294967296 ^ k * xs.getD k 0 := by
  by_cases h : k < xs.length
  · exact val_take_succ h
  · rw [val_take_ge (by omega), val_take_ge (by omega)]
    simp [List.getD, show xs.length ≤ k by omega]
theorem val_take_drop (xs : List Nat) (k : Nat) (hk : k ≤ xs.length) : val xs = val (xs.take k) + 4294967296 ^ k * val (xs.drop k) := by
  conv => lhs; rw [← List.take_append_drop k xs]
  rw [val_append, List.length_take, Nat.min_eq_left hk]
theorem val_replicate (n : Nat) : val (List.replicate n 0) = 0 := by
  induction n with
  | zero => rfl
  | succ n ih => rw [List.replicate_succ, val_cons, ih]
theorem val_limbs (n : Nat) : val (limbs n) = n := by
  induction n using Nat.strongRecOn with
  | ind n ih =>
    by_cases h : n = 0
    · subst h; rw [limbs_zero]; rfl
    · rw [limbs_pos (Nat.pos_of_ne_zero h), val_cons, ih _ (Nat.div_lt_self (Nat.pos_of_ne_zero h) (by decide))]
      omega
theorem lims_limbs (n : Nat) : lims (limbs n) := by
  induction n using Nat.strongRecOn with
  | ind n ih =>
    by_cases h : n = 0
    · subst h; rw [limbs_zero]; exact lims_nil
    · rw [limbs_pos (Nat.pos_of_ne_zero h)]
      exact lims_cons (Nat.mod_lt _ (by decide)) (ih _ (Nat.div_lt_self (Nat.pos_of_ne_zero h) (by decide)))
theorem limbs_val {xs : List Nat} (h : lims xs) (hc : xs = [] ∨ xs.getD (xs.length - 1) 0 ≠ 0) : limbs (val xs) = xs := by
  induction xs with
  | nil => exact limbs_zero
  | cons x xs ih =>
    have hx := lims_head h
    have ht := lims_tail h
    have hc : (x :: xs).getD xs.length 0 ≠ 0 := by
      rcases hc with hc | hc
      · cases hc
      · simpa using hc
    have hpos : 0 < val (x :: xs) := by
      rw [val_cons]
      cases xs with
      | nil => simp at hc; omega
      | cons y ys =>
        have e := ih ht (Or.inr (by simpa using hc))
        have : val (y :: ys) ≠ 0 := by
          intro h0; rw [h0, limbs_zero] at e; cases e
        omega
    rw [limbs_pos hpos, val_cons]
    have e1 : (x + 4294967296 * val xs) % 4294967296 = x := by omega
    have e2 : (x + 4294967296 * val xs) / 4294967296 = val xs := by omega
    rw [e1, e2]
    congr 1
    cases xs with
    | nil => exact limbs_zero
    | cons y ys => exact ih ht (Or.inr (by simpa using hc))
theorem limbs_inj {a b : Nat} (h : limbs a = limbs b) : a = b := by
  have := congrArg val h; rwa [val_limbs, val_limbs] at this
theorem limbs_ne_nil {n : Nat} (h : 0 < n) : limbs n ≠ [] := by rw [limbs_pos h]; simp
theorem limbs_last {n : Nat} (h : 0 < n) : (limbs n).getD ((limbs n).length - 1) 0 ≠ 0 := by
  induction n using Nat.strongRecOn with
  | ind n ih =>
    rw [limbs_pos h]
    by_cases hd : n / 4294967296 = 0
    · rw [hd, limbs_zero]; simp; omega
    · have := ih _ (Nat.div_lt_self h (by decide)) (Nat.pos_of_ne_zero hd)
      have hne := limbs_ne_nil (Nat.pos_of_ne_zero hd)
      have hl : 0 < (limbs (n / 4294967296)).length := List.length_pos_iff.2 hne
      have e : (n % 4294967296 :: limbs (n / 4294967296)).length - 1 = ((limbs (n / 4294967296)).length - 1) + 1 := by simp; omega
      rw [e]
      simpa [List.getD] using this
def sz (n : Nat) : Nat := (limbs n).length
theorem sz_zero : sz 0 = 0 := by simp [sz, limbs_zero]
theorem sz_pos {n : Nat} (h : 0 < n) : 0 < sz n := by unfold sz; rw [limbs_pos h]; simp
theorem sz_eq_zero {n : Nat} : sz n = 0 ↔ n = 0 := by
  constructor
  · intro h
    cases Nat.eq_zero_or_pos n with
    | inl h0 => exact h0
    | inr hp => exact absurd (sz_pos hp) (by omega)
  · rintro rfl; exact sz_zero
theorem lt_pow_sz (n : Nat) : n < 4294967296 ^ sz n := by
  have := val_lt (lims_limbs n); rwa [val_limbs] at this
theorem pow_le_of_sz {n k : Nat} (h : k < sz n) : 4294967296 ^ k ≤ n := by
  have hn : 0 < n := by
    cases Nat.eq_zero_or_pos n with
    | inl h0 => rw [h0, sz_zero] at h; omega
    | inr hp => exact hp
  have hl := limbs_last hn
  have e := val_take_step (limbs n) ((limbs n).length - 1)
  have hpos := sz_pos hn
  unfold sz at h hpos
  rw [show (limbs n).length - 1 + 1 = (limbs n).length by omega, List.take_length, val_limbs] at e
  have h1 : 4294967296 ^ k ≤ 4294967296 ^ ((limbs n).length - 1) := Nat.pow_le_pow_right (by decide) (by omega)
  have h2 : 4294967296 ^ ((limbs n).length - 1) * 1 ≤ 4294967296 ^ ((limbs n).length - 1) * (limbs n).getD ((limbs n).length - 1) 0 := Nat.mul_le_mul_left _ (Nat.pos_of_ne_zero hl)
  omega
theorem sz_le {n k : Nat} (h : n < 4294967296 ^ k) : sz n ≤ k := by
  rcases Nat.lt_or_ge k (sz n) with h' | h'
  · exact absurd (pow_le_of_sz h') (by omega)
  · exact h'
theorem sz_mono {a b : Nat} (h : a ≤ b) : sz a ≤ sz b := sz_le (Nat.lt_of_le_of_lt h (lt_pow_sz b))
theorem sz_add (a b : Nat) : sz (a + b) ≤ max (sz a) (sz b) + 1 := by
  apply sz_le
  have ha := lt_pow_sz a
  have hb := lt_pow_sz b
  have h1 : 4294967296 ^ sz a ≤ 4294967296 ^ max (sz a) (sz b) := Nat.pow_le_pow_right (by decide) (by omega)
  have h2 : 4294967296 ^ sz b ≤ 4294967296 ^ max (sz a) (sz b) := Nat.pow_le_pow_right (by decide) (by omega)
  rw [Nat.pow_succ]
  omega
theorem sz_mul (a b : Nat) : sz (a * b) ≤ sz a + sz b := by
  apply sz_le
  rw [Nat.pow_add]
  exact Nat.mul_lt_mul'' (lt_pow_sz a) (lt_pow_sz b)
theorem sz_val {xs : List Nat} (h : lims xs) : sz (val xs) ≤ xs.length := sz_le (val_lt h)
theorem sz_sub (a b : Nat) : sz (a - b) ≤ sz a := sz_mono (Nat.sub_le a b)
theorem sz_div (a b : Nat) : sz (a / b) ≤ sz a := sz_mono (Nat.div_le_self a b)
theorem take_lt {xs : List Nat} (h : lims xs) (k : Nat) : val (xs.take k) < 4294967296 ^ k := by
  have h1 := val_lt (lims_take h k)
  have h2 : 4294967296 ^ (xs.take k).length ≤ 4294967296 ^ k := Nat.pow_le_pow_right (by decide) (by simp; omega)
  omega
theorem top_lt {xs ys : List Nat} {k : Nat} (h : lims xs) (hlt : xs.getD k 0 < ys.getD k 0) : val (xs.take (k + 1)) < val (ys.take (k + 1)) := by
  have h1 := take_lt h k
  have e1 := val_take_step xs k
  have e2 := val_take_step ys k
  have h3 : 4294967296 ^ k * (xs.getD k 0 + 1) ≤ 4294967296 ^ k * ys.getD k 0 := Nat.mul_le_mul_left _ hlt
  rw [Nat.mul_add] at h3
  omega
def cmpN (a b : Nat) : Int := if a < b then -1 else if a = b then 0 else 1
theorem cmpN_lt {a b : Nat} (h : a < b) : cmpN a b = -1 := by simp [cmpN, h]
theorem cmpN_gt {a b : Nat} (h : b < a) : cmpN a b = 1 := by simp [cmpN, show ¬ a < b by omega, show ¬ a = b by omega]
theorem cmpN_eq {a b : Nat} (h : a = b) : cmpN a b = 0 := by simp [cmpN, h]
def agree (xs ys : List Nat) (k : Nat) : Prop := val xs + val (ys.take k) = val ys + val (xs.take k)
theorem agree_top {xs ys : List Nat} {k : Nat} (h : xs.length ≤ k) (h' : ys.length ≤ k) : agree xs ys k := by
  unfold agree; rw [val_take_ge h, val_take_ge h', Nat.add_comm]
theorem agree_zero {xs ys : List Nat} (h : agree xs ys 0) : val xs = val ys := by
  unfold agree at h; simpa [val] using h
theorem agree_step {xs ys : List Nat} {k : Nat} (h : agree xs ys (k + 1)) (he : xs.getD k 0 = ys.getD k 0) : agree xs ys k := by
  unfold agree at *; rw [val_take_step, val_take_step, he] at h; omega
theorem agree_lt {xs ys : List Nat} {k : Nat} (h : agree xs ys (k + 1)) (hx : lims xs) (hlt : xs.getD k 0 < ys.getD k 0) : val xs < val ys := by
  have := top_lt hx hlt; unfold agree at h; omega
theorem agree_gt {xs ys : List Nat} {k : Nat} (h : agree xs ys (k + 1)) (hy : lims ys) (hlt : ys.getD k 0 < xs.getD k 0) : val ys < val xs := by
  have := top_lt hy hlt; unfold agree at h; omega
theorem limbs_len_lt {a b : Nat} (h : (limbs a).length < (limbs b).length) : a < b := by
  rcases Nat.lt_or_ge a b with h' | h'
  · exact h'
  · have := sz_mono h'; unfold sz at this; omega
theorem take_set_succ (xs : List Nat) (k x : Nat) (h : k < xs.length) : (xs.set k x).take (k + 1) = xs.take k ++ [x] := by
  rw [take_succ_getD _ _ (by simpa using h), List.take_set_of_le (Nat.le_refl _)]
  simp [List.getD, h]
theorem val_set_take {xs : List Nat} {k x : Nat} (h : k < xs.length) : val ((xs.set k x).take (k + 1)) = val (xs.take k) + 4294967296 ^ k * x := by
  rw [take_set_succ _ _ _ h, val_append, List.length_take, Nat.min_eq_left (by omega)]; simp [val]
theorem val_snoc (xs : List Nat) (x : Nat) : val (xs ++ [x]) = val xs + 4294967296 ^ xs.length * x := by rw [val_append]; simp [val]
theorem add_step {o x y p c d o' : Nat} (h : o + p * c = x) (h' : d + o' * 4294967296 = c + y) : (o + p * d) + p * 4294967296 * o' = x + p * y := by
  have e : p * (d + o' * 4294967296) = p * (c + y) := by rw [h']
  rw [Nat.mul_add, Nat.mul_add] at e
  have e2 : p * (o' * 4294967296) = p * 4294967296 * o' := by grind
  omega
theorem val_set {xs : List Nat} {k x : Nat} (h : k < xs.length) : val (xs.set k x) + 4294967296 ^ k * xs.getD k 0 = val xs + 4294967296 ^ k * x := by
  have e1 := val_take_drop (xs.set k x) (k + 1) (by simp; omega)
  have e2 := val_take_drop xs (k + 1) h
  rw [val_set_take h, List.drop_set_of_lt (by omega)] at e1
  rw [val_take_succ h] at e2
  omega
theorem getD_set_eq {xs : List Nat} {k x : Nat} (h : k < xs.length) : (xs.set k x).getD k 0 = x := by simp [List.getD, h]
theorem getD_set_ne {xs : List Nat} {k j x : Nat} (h : k ≠ j) : (xs.set k x).getD j 0 = xs.getD j 0 := by simp [List.getD, h]
theorem getD_replicate (n j : Nat) : (List.replicate n 0).getD j 0 = 0 := by
  simp only [List.getD, List.getElem?_replicate]; split <;> rfl
def mulOut (n m i : Nat) (os xs ys : List Nat) : Prop :=
  os.length = n + m ∧ lims os ∧ (∀ j, i + m ≤ j → os.getD j 0 = 0) ∧ val os = val (xs.take i) * val ys
def mulIn (n m i k c : Nat) (os xs ys : List Nat) : Prop :=
  os.length = n + m ∧ lims os ∧ (∀ j, i + m ≤ j → os.getD j 0 = 0) ∧ c < 4294967296 ∧
    val os + 4294967296 ^ (i + k) * c = val (xs.take i) * val ys + 4294967296 ^ i * (xs.getD i 0 * val (ys.take k))
theorem mulOut_zero (n m : Nat) (xs ys : List Nat) : mulOut n m 0 (List.replicate (n + m) 0) xs ys :=
  ⟨by simp, lims_replicate _, fun j _ => getD_replicate _ _, by simp [val_replicate, val]⟩
theorem mulIn_zero {n m i : Nat} {os xs ys : List Nat} (h : mulOut n m i os xs ys) : mulIn n m i 0 0 os xs ys := by
  obtain ⟨h1, h2, h3, h4⟩ := h
  exact ⟨h1, h2, h3, by decide, by simp [h4, val]⟩
theorem mulIn_step {n m i k c x y o : Nat} {os xs ys : List Nat} (h : mulIn n m i k c os xs ys) (hk : k < m) (hi : i < n) (hx : x = xs.getD i 0) (hy : y = ys.getD k 0) (ho : o = os.getD (i + k) 0)
    (hlx : lims xs) (hly : lims ys) (z : Nat) (hz : z = c + (x * y + o)) : mulIn n m i (k + 1) (z / 4294967296) (os.set (i + k) (z % 4294967296)) xs ys := by
  obtain ⟨h1, h2, h3, h4, h5⟩ := h
  have b1 := lims_getD hlx i
  have b2 := lims_getD hly k
  have b3 := lims_getD h2 (i + k)
  rw [← hx] at b1
  rw [← hy] at b2
  rw [← ho] at b3
  have hxy : x * y ≤ 4294967295 * 4294967295 := Nat.mul_le_mul (by omega) (by omega)
  refine ⟨by simpa using h1, lims_set h2 _ _ (by omega), fun j hj => ?_, by omega, ?_⟩
  · rw [getD_set_ne (by omega)]; exact h3 j hj
  · have e := val_set (xs := os) (k := i + k) (x := z % 4294967296) (by omega)
    rw [← ho] at e
    rw [val_take_step ys, ← hy, ← hx, Nat.mul_add, Nat.mul_add] at *
    rw [← hx] at h5
    have e2 : 4294967296 ^ (i + (k + 1)) = 4294967296 ^ (i + k) * 4294967296 := by rw [← Nat.add_assoc, Nat.pow_succ]
    have e3 : 4294967296 ^ i * (x * (4294967296 ^ k * y)) = 4294967296 ^ (i + k) * (x * y) := by rw [Nat.pow_add]; grind
    have e4 : 4294967296 ^ (i + k) * z = 4294967296 ^ (i + k) * (z % 4294967296) + 4294967296 ^ (i + k) * 4294967296 * (z / 4294967296) := by
      rw [Nat.mul_assoc, ← Nat.mul_add]; congr 1; omega
    have e5 : 4294967296 ^ (i + k) * z = 4294967296 ^ (i + k) * c + (4294967296 ^ (i + k) * (x * y) + 4294967296 ^ (i + k) * o) := by rw [hz, Nat.mul_add, Nat.mul_add]
    rw [e2, e3]
    omega
theorem mulOut_step {n m i c : Nat} {os xs ys : List Nat} (h : mulIn n m i m c os xs ys) (hi : i < n) (hm : ys.length ≤ m) : mulOut n m (i + 1) (os.set (i + m) c) xs ys := by
  obtain ⟨h1, h2, h3, h4, h5⟩ := h
  refine ⟨by simpa using h1, lims_set h2 _ _ h4, fun j hj => ?_, ?_⟩
  · rw [getD_set_ne (by omega)]; exact h3 j (by omega)
  · have e := val_set (xs := os) (k := i + m) (x := c) (by omega)
    rw [h3 (i + m) (by omega)] at e
    rw [val_take_step xs, Nat.add_mul]
    rw [val_take_ge hm] at h5
    have e3 : 4294967296 ^ i * xs.getD i 0 * val ys = 4294967296 ^ i * (xs.getD i 0 * val ys) := Nat.mul_assoc _ _ _
    omega
theorem mulIn_done {n m i c : Nat} {os xs ys : List Nat} (h : mulIn n m i m c os xs ys) (hxs : lims xs) (hys : lims ys) (hm : ys.length < m) : c = 0 ∧ mulOut n m (i + 1) os xs ys := by
  obtain ⟨h1, h2, h3, h4, h5⟩ := h
  rw [val_take_ge (xs := ys) (by omega)] at h5
  have e1 : val (xs.take i) * val ys + 4294967296 ^ i * (xs.getD i 0 * val ys) = val (xs.take (i + 1)) * val ys := by
    rw [val_take_step xs, Nat.add_mul, Nat.mul_assoc]
  rw [e1] at h5
  have hc : c = 0 := by
    rcases Nat.eq_zero_or_pos c with h | h
    · exact h
    · exfalso
      have b1 := take_lt hxs (i + 1)
      have b2 := val_lt hys
      have b3 : 4294967296 ^ ys.length ≤ 4294967296 ^ (m - 1) := Nat.pow_le_pow_right (by decide) (by omega)
      have b4 : val (xs.take (i + 1)) * val ys < 4294967296 ^ (i + 1) * 4294967296 ^ (m - 1) := Nat.mul_lt_mul'' b1 (by omega)
      rw [← Nat.pow_add, show i + 1 + (m - 1) = i + m by omega] at b4
      have b5 : 4294967296 ^ (i + m) * 1 ≤ 4294967296 ^ (i + m) * c := Nat.mul_le_mul_left _ h
      omega
  subst hc
  exact ⟨rfl, h1, h2, fun j hj => h3 j (by omega), by simpa using h5⟩
theorem mulOut_end {n m : Nat} {os xs ys : List Nat} (h : mulOut n m n os xs ys) (hn : xs.length ≤ n) : lims os ∧ os.length = n + m ∧ val os = val xs * val ys := by
  obtain ⟨h1, h2, h3, h4⟩ := h
  exact ⟨h2, h1, by rw [h4, val_take_ge hn]⟩
end Nt
end Go.Proofs.YtikglhmabidjoaaGreatDoor
namespace Go.Proofs.YtikglhmabidjoaaGreatDoor
open Go.RowKit Nt
def u32 (x : Nat) : Value := .int .u32 (x : Int)
def Sl (w : World) (v : Value) (xs : List Nat) : Prop :=
  ∃ ad n cap, v = .slice ad n cap ∧ xs.length = n ∧ n ≤ cap ∧ n ≤ 1099511627776 ∧ lims xs ∧
    (0 < n → ∃ b off, ad = some ⟨b, off, none⟩ ∧ b < w.heap.size ∧ ∀ i, i < n → w.cell? ⟨b, off + i, none⟩ = some (.int .u32 ((xs.getD i 0 : Nat) : Int)))
theorem Sl.lims {w : World} {v : Value} {xs : List Nat} (h : Sl w v xs) : lims xs := by
  obtain ⟨_, _, _, _, _, _, _, h, _⟩ := h; exact h
theorem Sl.len {w : World} {v : Value} {xs : List Nat} (h : Sl w v xs) : xs.length ≤ 1099511627776 := by
  obtain ⟨_, _, _, _, h, _, h', _, _⟩ := h; omega
theorem Sl.nil (w : World) : Sl w (.slice none 0 0) [] :=
  ⟨none, 0, 0, rfl, rfl, Nat.le_refl _, by decide, lims_nil, fun h => absurd h (by decide)⟩
theorem Sl.below {w w' : World} {v : Value} {xs : List Nat} (h : Sl w v xs) (hb : Below w.heap.size w w') : Sl w' v xs := by
  obtain ⟨ad, n, cap, hv, hl, hc, hm, hx, hs⟩ := h
  refine ⟨ad, n, cap, hv, hl, hc, hm, hx, fun h0 => ?_⟩
  obtain ⟨b, off, ha, hbs, hcell⟩ := hs h0
  exact ⟨b, off, ha, Nat.lt_of_lt_of_le hbs hb.size, fun i hi => (hb.cell (p := ⟨b, off + i, none⟩) hbs).trans (hcell i hi)⟩
theorem Sl.drew {w : World} {v : Value} {xs : List Nat} (h : Sl w v xs) : Sl w.drew v xs := h.below (Below.refl _ _).drew
def Arr (w : World) (b : Nat) (xs : List Nat) : Prop :=
  ∃ cur e, w.heap[b]? = some (.cells cur e (0, 0)) ∧ ∀ i, i < xs.length → cur[i]? = some (.int .u32 ((xs.getD i 0 : Nat) : Int))
theorem Arr.lt {w : World} {b : Nat} {xs : List Nat} (h : Arr w b xs) : b < w.heap.size := by
  obtain ⟨cur, e, hh, _⟩ := h
  exact lt_of_block hh
theorem Arr.cell {w : World} {b : Nat} {xs : List Nat} (h : Arr w b xs) (i : Nat) (hi : i < xs.length) : w.cell? ⟨b, i, none⟩ = some (.int .u32 ((xs.getD i 0 : Nat) : Int)) := by
  obtain ⟨cur, e, hh, hc⟩ := h
  simp [World.cell?, hh, hc i hi]
theorem Arr.frozen {w : World} {b : Nat} {xs : List Nat} (h : Arr w b xs) (i : Nat) : w.frozen? ⟨b, i, none⟩ = false := by
  obtain ⟨cur, e, hh, hc⟩ := h
  simp [World.frozen?, hh]
theorem Arr.set {w : World} {b : Nat} {xs : List Nat} (h : Arr w b xs) (i : Nat) (x : Nat) : Arr (w.setCell ⟨b, i, none⟩ (.int .u32 (x : Int))) b (xs.set i x) := by
  obtain ⟨cur, e, hh, hc⟩ := h
  refine ⟨cur.setIfInBounds i (.int .u32 (x : Int)), e, heap_setCell_same w b i cur e _ hh, fun j hj => ?_⟩
  rw [List.length_set] at hj
  have hcj := hc j hj
  rw [Array.getElem?_setIfInBounds]
  by_cases hij : i = j
  · subst hij
    have hlt : i < cur.size := by
      rcases Nat.lt_or_ge i cur.size with h | h
      · exact h
      · rw [Array.getElem?_eq_none h] at hcj; cases hcj
    simp [hlt, List.getD, hj]
  · rw [if_neg hij, hcj]
    simp [List.getD, hij]
theorem Arr.setI {w : World} {b : Nat} {xs : List Nat} (h : Arr w b xs) (i : Nat) (z : Int) (hz : 0 ≤ z) : Arr (w.setCell ⟨b, i, none⟩ (.int .u32 z)) b (xs.set i z.toNat) := by
  have := h.set i z.toNat
  rwa [Int.toNat_of_nonneg hz] at this
theorem Arr.below {w w' : World} {b B : Nat} {xs : List Nat} (h : Arr w b xs) (hb : Below B w w') (hlt : b < B) : Arr w' b xs := by
  obtain ⟨cur, e, hh, hc⟩ := h
  exact ⟨cur, e, (hb.block b hlt).trans hh, hc⟩
theorem Arr.drew {w : World} {b : Nat} {xs : List Nat} (h : Arr w b xs) : Arr w.drew b xs := h
theorem Arr.drewN {w : World} {b n : Nat} {xs : List Nat} (h : Arr w b xs) : Arr (w.drewN n) b xs := h
theorem Arr.other {w : World} {b b' i : Nat} {u : Value} {xs : List Nat} (h : Arr w b xs) (hne : b ≠ b') : Arr (w.setCell ⟨b', i, none⟩ u) b xs := by
  obtain ⟨cur, e, hh, hc⟩ := h
  exact ⟨cur, e, (Below.heap_setCell w ⟨b', i, none⟩ u b hne).trans hh, hc⟩
theorem Arr.sl {w : World} {b cap : Nat} {xs : List Nat} (h : Arr w b xs) (hx : Nt.lims xs) (n : Nat) (hn : xs.length = n) (hc : n ≤ cap) (hm : n ≤ 1099511627776) : Sl w (.slice (some ⟨b, 0, none⟩) n cap) xs :=
  ⟨_, n, cap, rfl, hn, hc, hm, hx, fun _ => ⟨b, 0, rfl, h.lt, fun i hi => by rw [Nat.zero_add]; exact h.cell i (by omega)⟩⟩
theorem Arr.slPart {w : World} {b cap off n : Nat} {xs : List Nat} (h : Arr w b xs) (hx : Nt.lims xs) (hn : off + n ≤ xs.length) (hc : n ≤ cap) (hm : n ≤ 1099511627776) : Sl w (.slice (some ⟨b, off, none⟩) n cap) ((xs.drop off).take n) :=
  ⟨_, n, cap, rfl, by simp; omega, hc, hm, lims_take (lims_drop hx off) n, fun _ => ⟨b, off, rfl, h.lt, fun i hi => by
    rw [h.cell (off + i) (by omega)]
    simp [List.getD, hi]⟩⟩
theorem sl_one (w : World) (e : TypeId) (a : Int) (ha : 0 ≤ a ∧ a < 4294967296) : Sl (w.alloc (.cells #[.int .u32 a] e)) (.slice (some ⟨w.heap.size, 0, none⟩) 1 1) [a.toNat] :=
  ⟨_, 1, 1, rfl, rfl, Nat.le_refl _, by decide, lims_cons (by omega) lims_nil, fun _ => ⟨w.heap.size, 0, rfl, by simp, fun i hi => by
    match i, hi with
    | 0, _ => simp; omega⟩⟩
theorem sl_two (w : World) (e : TypeId) (a b : Int) (ha : 0 ≤ a ∧ a < 4294967296) (hb : 0 ≤ b ∧ b < 4294967296) :
    Sl (w.alloc (.cells #[.int .u32 a, .int .u32 b] e)) (.slice (some ⟨w.heap.size, 0, none⟩) 2 2) [a.toNat, b.toNat] :=
  ⟨_, 2, 2, rfl, rfl, Nat.le_refl _, by decide, lims_cons (by omega) (lims_cons (by omega) lims_nil), fun _ => ⟨w.heap.size, 0, rfl, by simp, fun i hi => by
    match i, hi with
    | 0, _ => simp; omega
    | 1, _ => simp; omega⟩⟩
def Ret (w : World) (P : World → Value → Prop) (e : Ending) (w' : World) : Prop :=
  ∃ v, e = .returned v ∧ P w' v ∧ Below w.heap.size w w'
def Num (n : Nat) (w : World) (v : Value) : Prop := Sl w v (limbs n)
def Num2 (n m : Nat) (w : World) (v : Value) : Prop := ∃ a b, v = .tuple #[a, b] ∧ Sl w a (limbs n) ∧ Sl w b (limbs m)
def NumE (n : Nat) (err : Int) (w : World) (v : Value) : Prop := ∃ a, v = .tuple #[a, .int .i64 err] ∧ Sl w a (limbs n)
def Num2E (n m : Nat) (err : Int) (w : World) (v : Value) : Prop := ∃ a b, v = .tuple #[a, b, .int .i64 err] ∧ Sl w a (limbs n) ∧ Sl w b (limbs m)
def Val (u : Value) (_ : World) (v : Value) : Prop := v = u
theorem wpList_make_u32 {P : Program} (w : World) {ops : Array Oper} {rest : List Oper} {o : Oper} {a : Act} {Q : Exit → Act → World → Prop}
    (hg : o.guard = none) (l c : Operand) (t : TypeId) (hop : o.op = Op.makeSlice t l c) (e : TypeId)
    (h1 : P.underlying t = some (.slice e)) (h2 : (P.info? e).map (fun i => (i.zero, i.size, i.bytes)) = some (some (.int .u32 0), 1, 4))
    (L : Int) (n : Nat) (hl : a.eval l = .int .i64 L) (hc : a.eval c = .int .i64 L) (hL : L = (n : Int)) (hn : n ≤ 1099511627776)
    (hK : ∀ w', Arr w' w.heap.size (List.replicate n 0) → Below w.heap.size w w' → w'.heap.size = w.heap.size + 1 → wpList P ops Q rest (a.put o.dst (.slice (some ⟨w.heap.size, 0, none⟩) n n)) w') :
    wpList P ops Q (o :: rest) a w := by
  obtain ⟨i0, hi, hz0, hz1, hz2⟩ := info_parts h2
  refine wpList_plain hg fun K hK' => ?_
  subst hL
  have hrun := run_make (P := P) w t e i0 (.int .u32 0) h1 hi hz0 .i64 .i64 (n : Int) (n : Int) (by omega) (Int.le_refl _) (by rw [hz2]; omega) (by omega)
  simp only [Int.toNat_natCast] at hrun
  unfold Oper.wp
  simp [execOp, hop, hl, hc, hrun, Result.andThen]
  refine hK' _ _ (hK _ ?_ ?_ ?_)
  · refine ⟨_, e, heap_alloc_new w _, fun i hi => ?_⟩
    simp only [List.length_replicate] at hi
    simp [hz1, Value.cells, madeCells, hi, List.getD, Nat.mod_one]
  · exact (Below.refl _ _).alloc (Nat.le_refl _) _
  · simp
end Go.Proofs.YtikglhmabidjoaaGreatDoor
namespace Go.Proofs.YtikglhmabidjoaaGreatDoor
open Go.RowKit Nt
theorem append_types {P : Program} (w : World) (t t' e e' ty : TypeId) (args : Array Value) (h1 : P.underlying t = some (.slice e)) (h1' : P.underlying t' = some (.slice e')) :
    (Builtin.append_ #[t, t'] ty args).run P w = (Builtin.append_ #[t, t] ty args).run P w := by
  simp only [Builtin.append_]
  rcases args with ⟨_ | ⟨a, _ | ⟨b, r⟩⟩⟩ <;> simp [run_underlying h1]
  cases a <;> simp [sizeOf, typeInfo]
  rename_i ad n c
  cases hi : P.info? e <;> simp [run_underlying h1, run_underlying h1']
def OwnU (w : World) (base : Nat) (e : TypeId) (v : Value) (xs : List Nat) : Prop :=
  w.ownsRow base e 1 v xs.length (xs.map fun (x : Nat) => Value.int .u32 (x : Int))
theorem OwnU.nil (w : World) (base : Nat) (e : TypeId) : OwnU w base e (.slice none 0 0) [] := by unfold OwnU; exact World.ownsRow_nil w base e 1
theorem OwnU.sl {w : World} {base : Nat} {e : TypeId} {v : Value} {xs : List Nat} (h : OwnU w base e v xs) (hx : lims xs) (hm : xs.length ≤ 1099511627776) : Sl w v xs := by
  obtain ⟨_, ⟨hv, hn⟩ | ⟨g, cap, cur, hv, hb, hh, hnc, hcm, hcs, ht⟩⟩ := h
  · obtain rfl : xs = [] := List.eq_nil_of_length_eq_zero hn
    rw [hv]; exact Sl.nil w
  · refine ⟨_, _, cap, hv, rfl, hnc, hm, hx, fun h0 => ⟨g, 0, rfl, lt_of_block hh, fun i hi => ?_⟩⟩
    have : cur[i]? = some (.int .u32 ((xs.getD i 0 : Nat) : Int)) := by
      have e1 : (cur.toList.take (xs.length * 1))[i]? = cur[i]? := by
        rw [List.getElem?_take, if_pos (by omega)]; simp
      rw [← e1, ht]
      simp [List.getD, hi]
    simp [World.cell?, hh, this]
theorem OwnU.below {w w' : World} {B base : Nat} {e : TypeId} {v : Value} {xs : List Nat} (h : OwnU w base e v xs) (hb : Below B w w') (hlt : w.heap.size ≤ B) : OwnU w' base e v xs := by
  obtain ⟨h1, ⟨hv, hn⟩ | ⟨g, cap, cur, hv, hbg, hh, r⟩⟩ := h
  · exact ⟨h1, .inl ⟨hv, hn⟩⟩
  · exact ⟨h1, .inr ⟨g, cap, cur, hv, hbg, (hb.block g (Nat.lt_of_lt_of_le (lt_of_block hh) hlt)).trans hh, r⟩⟩
theorem OwnU.drew {w : World} {base : Nat} {e : TypeId} {v : Value} {xs : List Nat} (h : OwnU w base e v xs) : OwnU w.drew base e v xs := h
theorem OwnU.drewN {w : World} {base n : Nat} {e : TypeId} {v : Value} {xs : List Nat} (h : OwnU w base e v xs) : OwnU (w.drewN n) base e v xs := h
theorem wpList_push_u32 {P : Program} (w : World) {ops : Array Oper} {rest : List Oper} {o : Oper} {a : Act} {Q : Exit → Act → World → Prop}
    (hg : o.guard = none) (s x : Operand) (t t' : TypeId) (ho : o.op = .call { callee := .builtin .append, args := #[s, x], argTypes := #[t, t'] })
    (e : TypeId) (h1 : P.underlying t = some (.slice e)) (h1' : P.underlying t' = some (.slice e)) (h2 : (P.info? e).map (fun i => (i.zero, i.size, i.bytes)) = some (some (.int .u32 0), 1, 4))
    (base : Nat) (v : Value) (xs : List Nat) (hs : a.eval s = v) (hown : OwnU w base e v xs) (g c : Nat) (y : Int) (hx : a.eval x = .slice (some ⟨g, 0, none⟩) 1 c)
    (hcell : w.cell? ⟨g, 0, none⟩ = some (.int .u32 y)) (hy0 : 0 ≤ y) (hm : xs.length ≤ 1099511627776) (hbase : base ≤ w.heap.size)
    (h : ∀ v' w', OwnU w' base e v' (xs ++ [y.toNat]) → Below base w w' → wpList P ops Q rest (a.put o.dst v') w') : wpList P ops Q (o :: rest) a w := by
  obtain ⟨i0, hi, hz0, hz1, hz2⟩ := info_parts h2
  refine wpList_plain hg fun K hK' => ?_
  obtain ⟨v', w', hr, r1, r2, _⟩ := run_append_own (P := P) w base t o.type e i0 (.int .u32 0) 1 4 h1 hi hz0 hz1 hz2 rfl (by decide) v xs.length _ hown
    ⟨g, 0, none⟩ 1 c [.int .u32 y] rfl (by
      intro j u hj
      match j, hj with
      | 0, hj => simp at hj; subst hj; simpa [Addr.add] using hcell) (by intro u hu; simp at hu; subst hu; rfl) (by unfold maxLen; omega) (by omega) hbase
  have hlt : ∀ k, v.ownBlock = some k → base ≤ k := fun k hk => (hown.lt k hk).1
  rw [← append_types w t t' e e o.type _ h1 h1'] at hr
  unfold Oper.wp execOp
  simp only [ho, resolve, invoke, builtin, Sem.run_bind, Sem.run_pure, Result.andThen_ok, List.map_toArray, List.map_cons, List.map_nil, hs, hx, hr]
  refine hK' _ _ (h v' w' ?_ ((Below.refl _ _).grown r2 hbase hlt))
  unfold OwnU
  rw [List.length_append, List.map_append]
  simpa [Int.toNat_of_nonneg hy0] using r1
def FreshS (B : Nat) (v : Value) : Prop := ∀ b off n c, v = .slice (some ⟨b, off, none⟩) n c → 0 < n → B ≤ b
theorem FreshS.mono {B B' : Nat} {v : Value} (h : FreshS B v) (hB : B' ≤ B) : FreshS B' v := fun b off n c hv hn => Nat.le_trans hB (h b off n c hv hn)
theorem FreshS.nil (B : Nat) : FreshS B (.slice none 0 0) := fun b off n c hv _ => by injection hv with h; cases h
theorem Sl.older {w : World} {v : Value} {xs : List Nat} {B b i : Nat} {u : Value} (h : Sl w v xs) (hf : FreshS B v) (hb : b < B) : Sl (w.setCell ⟨b, i, none⟩ u) v xs := by
  obtain ⟨ad, n, cap, hv, hl, hc, hm, hx, hs⟩ := h
  refine ⟨ad, n, cap, hv, hl, hc, hm, hx, fun h0 => ?_⟩
  obtain ⟨b', off, ha, hbs, hcell⟩ := hs h0
  have hge := hf b' off n cap (by rw [hv, ha]) h0
  refine ⟨b', off, ha, by simpa using hbs, fun j hj => ?_⟩
  rw [World.cell?_setCell_other w (a := ⟨b, i, none⟩) (b := ⟨b', off + j, none⟩) (v := u) (by intro e; injection e with e1; omega)]
  exact hcell j hj
theorem wpList_copy_u32F {P : Program} (w : World) {ops : Array Oper} {rest : List Oper} {o : Oper} {a : Act} {Q : Exit → Act → World → Prop}
    (hg : o.guard = none) (s x : Operand) (t t' : TypeId) (ho : o.op = .call { callee := .builtin .append, args := #[s, x], argTypes := #[t, t'] })
    (e : TypeId) (h1 : P.underlying t = some (.slice e)) (h1' : P.underlying t' = some (.slice e)) (h2 : (P.info? e).map (fun i => (i.zero, i.size, i.bytes)) = some (some (.int .u32 0), 1, 4))
    (g : Nat) (hs : a.eval s = .slice (some ⟨g, 0, none⟩) 0 0) (v : Value) (xs : List Nat) (hx : a.eval x = v) (hv : Sl w v xs)
    (h : ∀ v' w', Sl w' v' xs → FreshS w.heap.size v' → Below w.heap.size w w' → wpList P ops Q rest (a.put o.dst v') w') : wpList P ops Q (o :: rest) a w := by
  obtain ⟨i0, hi, hz0, hz1, hz2⟩ := info_parts h2
  obtain ⟨ad, n, cap, rfl, hn, hnc, hm, hl, hc⟩ := hv
  refine wpList_plain hg fun K hK' => ?_
  have key : ∃ v' w', (Builtin.append_ #[t, t] o.type #[.slice (some ⟨g, 0, none⟩) 0 0, .slice ad n cap]).run P w = .ok v' w' ∧ Sl w' v' xs ∧ FreshS w.heap.size v' ∧ Below w.heap.size w w' := by
    by_cases h0 : n = 0
    · subst h0
      obtain rfl : xs = [] := List.eq_nil_of_length_eq_zero hn
      refine ⟨.slice (some ⟨g, 0, none⟩) 0 0, w, ?_, ⟨_, 0, 0, rfl, rfl, Nat.le_refl _, by decide, lims_nil, fun h => absurd h (by decide)⟩, fun b off n c hv hn => by injection hv with _ h2 _; omega, Below.refl _ _⟩
      cases ad <;> simp [Builtin.append_, run_underlying h1, sizeOf, typeInfo, hi, Builtin.lenOf, Builtin.firstCells, loadCells, loadCellsFrom, storeCells]
    · obtain ⟨b, off, rfl, hb, hcell⟩ := hc (by omega)
      have hr := run_append_grow (P := P) w t o.type e i0 (.int .u32 0) h1 hi hz0 ⟨g, 0, none⟩ 0 0 [] (by simp) (by intro j u hj; simp at hj) ⟨b, off, none⟩ n cap (xs.map fun (x : Nat) => Value.int .u32 (x : Int)) (by rw [hz1]; simp [hn]) (by
        intro j u hj
        have hjn : j < n := by
          have := (List.getElem?_eq_some_iff.1 hj).1
          simp at this; omega
        rw [Addr.add_lit, hcell j hjn, ← hj]
        simp [List.getD, show j < xs.length by omega]) (by omega) (by omega) (growslice_fits (by omega) (by rw [hz2]; omega))
      refine ⟨_, _, hr, ?_, fun b off n c hv _ => by injection hv with h1 _ _; injection h1 with h1; injection h1 with h1 _ _; omega, ?_⟩
      · have hge := grownCap_ge w (0 + n) 0 e
        refine ⟨_, 0 + n, _, rfl, by omega, hge, by omega, hl, fun _ => ⟨w.heap.size, 0, rfl, ?_, fun i hi => ?_⟩⟩
        · simp
        · rw [show 0 + i = i from Nat.zero_add i]
          refine (World.cell?_alloc_new w.drew _ e i).trans ?_
          have hi' : i < xs.length := by omega
          simp [Array.getElem?_append, hi', List.getD]
      · exact ((Below.refl _ _).drew).alloc (Nat.le_refl _) _
  obtain ⟨v', w', hr, r1, r3, r2⟩ := key
  rw [← append_types w t t' e e o.type _ h1 h1'] at hr
  unfold Oper.wp execOp
  simp only [ho, resolve, invoke, builtin, Sem.run_bind, Sem.run_pure, Result.andThen_ok, List.map_toArray, List.map_cons, List.map_nil, hs, hx, hr]
  exact hK' _ _ (h v' w' r1 r3 r2)
theorem wpList_copy_u32 {P : Program} (w : World) {ops : Array Oper} {rest : List Oper} {o : Oper} {a : Act} {Q : Exit → Act → World → Prop}
    (hg : o.guard = none) (s x : Operand) (t t' : TypeId) (ho : o.op = .call { callee := .builtin .append, args := #[s, x], argTypes := #[t, t'] })
    (e : TypeId) (h1 : P.underlying t = some (.slice e)) (h1' : P.underlying t' = some (.slice e)) (h2 : (P.info? e).map (fun i => (i.zero, i.size, i.bytes)) = some (some (.int .u32 0), 1, 4))
    (g : Nat) (hs : a.eval s = .slice (some ⟨g, 0, none⟩) 0 0) (v : Value) (xs : List Nat) (hx : a.eval x = v) (hv : Sl w v xs)
    (h : ∀ v' w', Sl w' v' xs → Below w.heap.size w w' → wpList P ops Q rest (a.put o.dst v') w') : wpList P ops Q (o :: rest) a w :=
  wpList_copy_u32F w hg s x t t' ho e h1 h1' h2 g hs v xs hx hv fun v' w' a _ b => h v' w' a b
theorem wpList_makeown_u32 {P : Program} (w : World) {ops : Array Oper} {rest : List Oper} {o : Oper} {a : Act} {Q : Exit → Act → World → Prop}
    (hg : o.guard = none) (l c : Operand) (t : TypeId) (hop : o.op = Op.makeSlice t l c) (e : TypeId)
    (h1 : P.underlying t = some (.slice e)) (h2 : (P.info? e).map (fun i => (i.zero, i.size, i.bytes)) = some (some (.int .u32 0), 1, 4))
    (L : Int) (n : Nat) (hl : a.eval l = .int .i64 L) (hc : a.eval c = .int .i64 L) (hL : L = (n : Int)) (hn : n ≤ 1099511627776)
    (hK : ∀ w' v, OwnU w' w.heap.size e v (List.replicate n 0) → Below w.heap.size w w' → wpList P ops Q rest (a.put o.dst v) w') :
    wpList P ops Q (o :: rest) a w := by
  obtain ⟨i0, hi, hz0, hz1, hz2⟩ := info_parts h2
  refine wpList_plain hg fun K hK' => ?_
  subst hL
  obtain ⟨w', hrun, r1, r2⟩ := run_make_full (P := P) w w.heap.size t e i0 (.int .u32 0) 1 h1 hi hz0 hz1 .i64 .i64 n (by rw [hz2]; omega) (by unfold maxLen; omega) (Nat.le_refl _)
  unfold Oper.wp
  simp [execOp, hop, hl, hc, hrun, Result.andThen]
  refine hK' _ _ (hK _ _ ?_ ((Below.refl _ _).grown r2 (Nat.le_refl _) (fun k h => by cases h)))
  unfold OwnU
  have e1 : (madeCells (Value.int .u32 0).cells (n * 1)).toList = (List.replicate n 0).map fun (x : Nat) => Value.int .u32 (x : Int) := by
    rw [Nat.mul_one]
    show (madeCells #[Value.int .u32 0] n).toList = _
    rw [toList_madeCells_one]; simp
  rw [List.length_replicate, ← e1]
  exact r1
end Go.Proofs.YtikglhmabidjoaaGreatDoor
namespace Go.Proofs
open Go.Shelf
def Tryz.lays128_ren : Go.Shelf.Ren := ⟨fun | 128 => 200 | n => n, fun | 51 => 156 | 3 => 3 | 4 => 4 | 46 => 181 | 5 => 5 | 9 => 9 | n => n, fun | n => n⟩
theorem Tryz.lays128 : Go.Proofs.Lays.n128 Tryz.prog Tryz.lays128_ren := {
  mixed := by kernel_rfl
  f128 := Tryz.func200.trans (congrArg some (by kernel_rfl))
  t3 := Tryz.underlying3
  a3 := Tryz.isAgg3
  z3 := Tryz.sizeOf3
  v3 := Tryz.zeroValue3
  t4 := Tryz.underlying4
  a4 := Tryz.isAgg4
  z4 := Tryz.sizeOf4
  v4 := Tryz.zeroValue4
  t5 := Tryz.underlying5
  a5 := Tryz.isAgg5
  z5 := Tryz.sizeOf5
  v5 := Tryz.zeroValue5
  t9 := Tryz.underlying9
  a9 := Tryz.isAgg9
  z9 := Tryz.sizeOf9
  v9 := Tryz.zeroValue9
  t46 := Tryz.underlying181
  a46 := Tryz.isAgg181
  z46 := Tryz.sizeOf181
  v46 := Tryz.zeroValue181
  t51 := Tryz.underlying156
  a51 := Tryz.isAgg156
  z51 := Tryz.sizeOf156
  v51 := Tryz.zeroValue156 }
theorem Tryz.bits_Len32 (x : Int) (w : World) (h0 : 0 ≤ x) (h1 : x ≤ 4294967295) :
    Calls Tryz.prog 200 #[.int .u32 x] w fun e w' => e = .returned (.int .i64 (Lib.bitLen x.toNat)) ∧ w' = w := Any.bits_Len32 Tryz.lays128 x w h0 h1
def Tryz.lays133_ren : Go.Shelf.Ren := ⟨fun | 133 => 204 | 128 => 200 | n => n, fun | 51 => 156 | 3 => 3 | 4 => 4 | 46 => 181 | 5 => 5 | 9 => 9 | n => n, fun | n => n⟩
theorem Tryz.lays133 : Go.Proofs.Lays.n133 Tryz.prog Tryz.lays133_ren := {
  mixed := by kernel_rfl
  f128 := Tryz.func200.trans (congrArg some (by kernel_rfl))
  f133 := Tryz.func204.trans (congrArg some (by kernel_rfl))
  t3 := Tryz.underlying3
  a3 := Tryz.isAgg3
  z3 := Tryz.sizeOf3
  v3 := Tryz.zeroValue3
  t4 := Tryz.underlying4
  a4 := Tryz.isAgg4
  z4 := Tryz.sizeOf4
  v4 := Tryz.zeroValue4
  t5 := Tryz.underlying5
  a5 := Tryz.isAgg5
  z5 := Tryz.sizeOf5
  v5 := Tryz.zeroValue5
  t9 := Tryz.underlying9
  a9 := Tryz.isAgg9
  z9 := Tryz.sizeOf9
  v9 := Tryz.zeroValue9
  t46 := Tryz.underlying181
  a46 := Tryz.isAgg181
  z46 := Tryz.sizeOf181
  v46 := Tryz.zeroValue181
  t51 := Tryz.underlying156
  a51 := Tryz.isAgg156
  z51 := Tryz.sizeOf156
  v51 := Tryz.zeroValue156 }
theorem Tryz.bits_LeadingZeros32 (x : Int) (w : World) (h0 : 0 ≤ x) (h1 : x ≤ 4294967295) :
    Calls Tryz.prog 204 #[.int .u32 x] w fun e w' => e = .returned (.int .i64 (32 - (Lib.bitLen x.toNat : Int))) ∧ w' = w := Any.bits_LeadingZeros32 Tryz.lays133 x w h0 h1
end Go.Proofs
