/- Texts FixE, in this order. -/
import Derived.Test.YtfffehmkohcgcaaEd
namespace Go.Proofs.Ytfffehmkohcgcaa
open Go.RowKit Nt
set_option linter.unusedVariables false
def SC (a m s : Int) : Int × Int := if 0 ≤ s ∧ s ≤ 62 then RV (((a * m : Int) : Rat) / tw s.toNat) else (0, 1)
theorem SC_in {a m : Int} {n : Nat} (h : n ≤ 62) : SC a m (n : Int) = RV (((a * m : Int) : Rat) / tw n) := if_pos ⟨by omega, by omega⟩
theorem SC_out {a m s : Int} (h : ¬ (0 ≤ s ∧ s ≤ 62)) : SC a m s = (0, 1) := if_neg h
theorem frac_sum {P T : Rat} (h : T ≠ 0) : (2 * P + T) / (2 * T) = P / T + 1 / 2 := by grind
theorem inv_pos' {T : Rat} (h : 0 < T) : 0 < T⁻¹ := Rat.inv_pos.2 h
theorem tw_natCast (s : Nat) : ((2 ^ s : Nat) : Rat) = tw s := by unfold tw; rw [Rat.intCast_natCast]
theorem rN_div (p : Int) (s : Nat) : rN ((p : Rat) / tw s) = (((2 * p.natAbs + 2 ^ s) / 2 ^ (s + 1) : Nat) : Int) := by
  have hT := tw_pos s
  unfold rN
  rw [Rat.div_def (p : Rat), qabs_mul (inv_pos' hT), qabs_int, half_eq, ← floor_nat _ _ (Nat.two_pow_pos _)]
  congr 1
  rw [Rat.mkRat_eq_div, tw_natCast, ← tw_succ, ← Rat.div_def]
  have e : ((((2 * p.natAbs + 2 ^ s : Nat)) : Int) : Rat) = 2 * ((p.natAbs : Int) : Rat) + tw s := by
    unfold tw
    rw [Int.natCast_add, Rat.intCast_add, Int.natCast_mul, Rat.intCast_mul]
    rfl
  rw [e, show tw s + tw s = 2 * tw s by grind, frac_sum (tw_ne s)]
theorem rI_div (p : Int) (s : Nat) {sg : Bool} (h : p ≠ 0 → sg = decide (p < 0)) : rI ((p : Rat) / tw s) = if sg then -rN ((p : Rat) / tw s) else rN ((p : Rat) / tw s) := by
  by_cases h0 : p = 0
  · subst h0
    have e : ((0 : Int) : Rat) / tw s = 0 := by rw [Rat.div_def]; exact Rat.zero_mul _
    rw [e, rI_zero, rN_zero]; simp
  · have hs := h h0
    subst hs
    have hT := inv_pos' (tw_pos s)
    unfold rI
    rw [Rat.div_def]
    by_cases hp : p < 0
    · have h1 : (p : Rat) < 0 := by have := (Rat.intCast_lt_intCast (a := p) (b := 0)).2 hp; simpa using this
      have h2 : (p : Rat) * (tw s)⁻¹ < 0 := by have := Rat.mul_pos (show 0 < -(p : Rat) by grind) hT; grind
      rw [if_pos h2, decide_eq_true hp]; simp
    · have h1 : 0 ≤ (p : Rat) := by have := (Rat.intCast_le_intCast (a := 0) (b := p)).2 (by omega); simpa using this
      have h2 := mul_nn h1 (Rat.le_of_lt hT)
      rw [if_neg (by grind), decide_eq_false hp]; simp
theorem half_up (p s : Nat) (hs : 1 ≤ s) : (2 * p + 2 ^ s) / 2 ^ (s + 1) = (p + 2 ^ (s - 1)) / 2 ^ s := by
  obtain ⟨k, rfl⟩ : ∃ k, s = k + 1 := ⟨s - 1, by omega⟩
  rw [show k + 1 - 1 = k by omega, Nat.pow_succ 2 (k + 1), show 2 * p + 2 ^ (k + 1) = (p + 2 ^ k) * 2 by first | omega | (have := @Nat.pow_succ 2 k; omega), Nat.mul_div_mul_right _ _ (by decide)]
theorem word_shift (Q s : Nat) (hs : s ≤ 64) :
    ((Q / 18446744073709551616 * 2 ^ (64 - s)) % 18446744073709551616 ||| Q % 18446744073709551616 / 2 ^ s) = Q / 2 ^ s % 18446744073709551616 ∧ Q / 18446744073709551616 / 2 ^ s = Q / 2 ^ s / 18446744073709551616 := by
  have e64 : (18446744073709551616 : Nat) = 2 ^ (64 - s) * 2 ^ s := by rw [← Nat.pow_add, show 64 - s + s = 64 by omega]
  have hp := Nat.two_pow_pos s
  have hq := Nat.two_pow_pos (64 - s)
  generalize hH : Q / 18446744073709551616 = H
  generalize hL : Q % 18446744073709551616 = L
  have hQ : Q = 18446744073709551616 * H + L := by rw [← hH, ← hL]; exact (Nat.div_add_mod Q _).symm
  have hLl : L < 18446744073709551616 := by rw [← hL]; exact Nat.mod_lt _ (by decide)
  have hZ : L / 2 ^ s < 2 ^ (64 - s) := by rw [Nat.div_lt_iff_lt_mul hp, ← e64]; exact hLl
  have hD : Q / 2 ^ s = H * 2 ^ (64 - s) + L / 2 ^ s := by
    rw [hQ, e64, show 2 ^ (64 - s) * 2 ^ s * H + L = L + (H * 2 ^ (64 - s)) * 2 ^ s by rw [Nat.add_comm, Nat.mul_comm _ H, Nat.mul_assoc H], Nat.add_mul_div_right _ _ hp, Nat.add_comm]
  have hm : (H * 2 ^ (64 - s)) % 18446744073709551616 = 2 ^ (64 - s) * (H % 2 ^ s) := by
    rw [e64, Nat.mul_comm H, Nat.mul_mod_mul_left]
  have hle : 2 ^ (64 - s) * (H % 2 ^ s) + L / 2 ^ s < 18446744073709551616 := by
    have h1 : H % 2 ^ s + 1 ≤ 2 ^ s := Nat.mod_lt _ hp
    have h2 : 2 ^ (64 - s) * (H % 2 ^ s + 1) ≤ 2 ^ (64 - s) * 2 ^ s := Nat.mul_le_mul_left _ h1
    rw [← e64, Nat.mul_add] at h2
    omega
  constructor
  · rw [hm, ← Nat.two_pow_add_eq_or_of_lt hZ, hD, Nat.add_mod, hm, Nat.mod_eq_of_lt (show L / 2 ^ s < 18446744073709551616 by omega), Nat.mod_eq_of_lt hle]
  · rw [← hH, Nat.div_div_eq_div_mul, Nat.div_div_eq_div_mul, Nat.mul_comm]
theorem big_iff (n : Nat) : 4611686018427387904 < n ↔ 0 < n / 18446744073709551616 ∨ 4611686018427387904 < n % 18446744073709551616 := by omega
theorem sgn_mul {a m : Int} (h : a * m ≠ 0) : (decide (a < 0) != decide (m < 0)) = decide (a * m < 0) := by
  have ha : a ≠ 0 := fun e => h (by rw [e, Int.zero_mul])
  have hm : m ≠ 0 := fun e => h (by rw [e, Int.mul_zero])
  by_cases h1 : a < 0 <;> by_cases h2 : m < 0
  · rw [decide_eq_true h1, decide_eq_true h2, decide_eq_false (by have := Int.mul_pos_of_neg_of_neg h1 h2; omega)]; rfl
  · rw [decide_eq_true h1, decide_eq_false h2, decide_eq_true (by have := Int.mul_neg_of_neg_of_pos h1 (show 0 < m by omega); omega)]; rfl
  · rw [decide_eq_false h1, decide_eq_true h2, decide_eq_true (by have := Int.mul_neg_of_pos_of_neg (show 0 < a by omega) h2; omega)]; rfl
  · rw [decide_eq_false h1, decide_eq_false h2, decide_eq_false (by have := Int.mul_pos (show 0 < a by omega) (show 0 < m by omega); omega)]; rfl

set_option maxRecDepth 100000 in
set_option maxHeartbeats 4000000 in
theorem fsc_e {s x y : Int}  {w : World} (hv : decide (0 ≤ s ∧ s ≤ 62) = false)  :
    Calls Try.prog 16 #[.int .i64 x, .int .i64 y, .int .i64 s] w (Ret w (Val (.tuple #[.int .i64 0, .int .i64 1]))) := by
  have Hv := Lib.hid hv
  clear hv
  go_enter Try.func16, Try.ntmps16
  have HB := Lib.hid (Below.refl w.heap.size w)
  go_wp2_with fail
  refine Calls.mono (fvalid_any _ _ Hv.out) ?_
  rintro e w1 ⟨v1, rfl, rfl, hb⟩
  have HB := Lib.hid (below_call HB.out hb)
  clear hb
  go_wp2
  exact ret_tt rfl rfl rfl rfl rfl HB.out


set_option maxRecDepth 100000 in
set_option maxHeartbeats 4000000 in
theorem zsc_e {s x y : Int}  {w : World} (hv : decide (0 ≤ s ∧ s ≤ 62) = false)  :
    Calls Try.prog 17 #[.int .i64 x, .int .i64 y, .int .i64 s] w (Ret w (Val (.tuple #[.int .i64 0, .int .i64 1]))) := by
  have Hv := Lib.hid hv
  clear hv
  go_enter Try.func17, Try.ntmps17
  have HB := Lib.hid (Below.refl w.heap.size w)
  go_wp2_with fail
  refine Calls.mono (shifted_any _ _ Hv.out) ?_
  rintro e w1 ⟨v1, rfl, rfl, hb⟩
  have HB := Lib.hid (below_call HB.out hb)
  clear hb
  go_wp2
  exact ret_tt rfl rfl rfl rfl rfl HB.out


set_option maxRecDepth 100000 in
set_option maxHeartbeats 4000000 in
theorem zsc_y {s : Nat} {x y : Int}  {w : World} {a e : Int} (hf : RV ((x : Rat) * (y : Rat) / tw s) = (a, e)) (hv : decide (0 ≤ ((s : Nat) : Int) ∧ ((s : Nat) : Int) ≤ 62) = true) (hs : s ≤ 62) (ha1 : -9223372036854775808 ≤ x) (ha2 : x < 9223372036854775808) (hb1 : -9223372036854775808 ≤ y) (hb2 : y < 9223372036854775808)  :
    Calls Try.prog 17 #[.int .i64 x, .int .i64 y, .int .i64 ((s : Nat) : Int)] w (Ret w (Val (.tuple #[.int .i64 a, .int .i64 e]))) := by
  have Hf := Lib.hid hf
  have Hv := Lib.hid hv
  have Hs := Lib.hid hs
  have Ha1 := Lib.hid ha1
  have Ha2 := Lib.hid ha2
  have Hb1 := Lib.hid hb1
  have Hb2 := Lib.hid hb2
  clear hf hv hs ha1 ha2 hb1 hb2
  go_enter Try.func17, Try.ntmps17
  have HB := Lib.hid (Below.refl w.heap.size w)
  go_wp2_with fail
  refine Calls.mono (shifted_any _ _ Hv.out) ?_
  rintro e w1 ⟨v1, rfl, rfl, hb⟩
  have HB := Lib.hid (below_call HB.out hb)
  clear hb
  go_wp2_with fail
  refine Calls.mono (zwhole51 Ha1.out Ha2.out) ?_
  rintro e w2 ⟨v2, rfl, ho1, hb⟩
  obtain ⟨o1_b, o1_a, o1_n, o1_c, o1_d, o1_m, o1_e, rfl⟩ := ho1.litb
  have HB := Lib.hid (below_call HB.out hb)
  have Ho1 := Lib.hid ho1
  clear hb ho1
  go_wp2_with fail
  refine Calls.mono (zwhole51 Hb1.out Hb2.out) ?_
  rintro e w3 ⟨v3, rfl, ho2, hb⟩
  obtain ⟨o2_b, o2_a, o2_n, o2_c, o2_d, o2_m, o2_e, rfl⟩ := ho2.litb
  have Ho1 := Lib.hid (CR.keep Ho1.out (Keep.call hb))
  have HB := Lib.hid (below_call HB.out hb)
  have Ho2 := Lib.hid ho2
  clear hb ho2
  go_wp2_with fail
  (first | (have hcall := zmul_ar Ho1.out.ar Ho2.out.ar (by decide) (by decide); refine Calls.mono hcall ?_; clear hcall) | refine Calls.mono (zmul_ar Ho1.out.ar Ho2.out.ar (by decide) (by decide)) ?_)
  rintro e w4 ⟨v4, rfl, hm1, hb⟩
  obtain ⟨m1_b, m1_a, m1_n, m1_c, m1_d, m1_m, m1_e, rfl⟩ := hm1.litb
  have HB := Lib.hid (below_call HB.out hb)
  have Hm1 := Lib.hid hm1
  clear hb hm1
  go_wp2_with fail
  refine Calls.mono (power_any s (by have := Hs.out; omega) _) ?_
  rintro e w5 ⟨v5, rfl, hpw, hb⟩
  obtain ⟨pw_b, pw_a, pw_n, pw_c, pw_d, pw_m, pw_e, rfl⟩ := hpw.litb
  have Hm1 := Lib.hid (CR.keep Hm1.out (Keep.call hb))
  have HB := Lib.hid (below_call HB.out hb)
  have Hpw := Lib.hid hpw
  clear hb hpw
  go_wp2_with fail
  (first | (have hcall := zdiv_ar (tw_ne s) Hm1.out.ar Hpw.out.ar (by decide) (by decide); refine Calls.mono hcall ?_; clear hcall) | refine Calls.mono (zdiv_ar (tw_ne s) Hm1.out.ar Hpw.out.ar (by decide) (by decide)) ?_)
  rintro e w6 ⟨t6, rfl, ⟨v6, rfl, hq1⟩, hb⟩
  obtain ⟨q1_b, q1_a, q1_n, q1_c, q1_d, q1_m, q1_e, rfl⟩ := hq1.litb
  have HB := Lib.hid (below_call HB.out hb)
  have Hq1 := Lib.hid hq1
  clear hb hq1
  go_wp2_with fail
  obtain ⟨W7, hW⟩ : ∃ W7, W7 = (World.alloc w6 (.cells #[.bool q1_b, .slice q1_a q1_n q1_c, .slice q1_d q1_m q1_e] 25)) := ⟨_, rfl⟩
  rw [← hW]
  obtain ⟨xa0, hk, hb⟩ := boxes_1 _ _ _ hW
  clear hW
  have Hq1 := Lib.hid (CR.keep Hq1.out hk)
  have Ga0 := Lib.hid (show w.heap.size ≤ w6.heap.size from Nat.le_trans HB.out.size (by omega))
  have Xa0 := Lib.hid xa0
  have HB := Lib.hid (below_call HB.out hb)
  clear hk hb xa0
  (first | (have hcall := zresult_ar Hf.out Hq1.out.ar (by decide); refine Calls.mono hcall ?_; clear hcall) | refine Calls.mono (zresult_ar Hf.out Hq1.out.ar (by decide)) ?_)
  rintro e w8 ⟨v8, rfl, rfl, hb⟩
  have Xa0 := Lib.hid (Box.pcall hb Xa0.out)
  have HB := Lib.hid (below_call HB.out hb)
  clear hb
  obtain ⟨ca00, ca01, ca02, fa00, fa01, fa02⟩ := Xa0.out.c3
  have la0 := Xa0.out.lt
  go_wp2
  clear ca00 ca01 ca02 fa00 fa01 fa02 la0
  exact ret_tt rfl rfl rfl rfl rfl HB.out


theorem zscale_any {a m s x e : Int} {w : World} (ha1 : -9223372036854775808 ≤ a) (ha2 : a < 9223372036854775808) (hm1 : -9223372036854775808 ≤ m) (hm2 : m < 9223372036854775808) (hf : SC a m s = (x, e)) :
    Calls Try.prog 17 #[.int .i64 a, .int .i64 m, .int .i64 s] w (Ret w (Val (.tuple #[.int .i64 x, .int .i64 e]))) := by
  by_cases hs : 0 ≤ s ∧ s ≤ 62
  · obtain ⟨n, rfl⟩ := Int.eq_ofNat_of_zero_le hs.1
    have hn : n ≤ 62 := by omega
    rw [SC_in hn, Rat.intCast_mul] at hf
    exact zsc_y hf (decide_eq_true hs) hn ha1 ha2 hm1 hm2
  · rw [SC_out hs] at hf
    exact val_tu (zsc_e (decide_eq_false hs)) hf

theorem X_eq {s : Nat} (h1 : 1 ≤ s) (h2 : s ≤ 62) : IntKind.u64.wrap (2 ^ (s - 1)) = ((2 ^ (s - 1) : Nat) : Int) ∧ 2 ^ (s - 1) ≤ 4611686018427387904 := by
  have h := pow_le62 (show s - 1 ≤ 62 by omega)
  have e : (2 : Int) ^ (s - 1) = ((2 ^ (s - 1) : Nat) : Int) := by simp
  refine ⟨?_, h⟩
  rw [e, IntKind.wrap_u64]; generalize 2 ^ (s - 1) = p at *; omega
theorem small_k {R : Nat} (h : ¬ 4611686018427387904 < R) : IntKind.i64.wrap ((R % 18446744073709551616 : Nat) : Int) = ((R % 18446744073709551616 : Nat) : Int) ∧ wrap64 ((R % 18446744073709551616 : Nat) : Int) = ((R % 18446744073709551616 : Nat) : Int) ∧
    IntKind.i64.wrap (-((R % 18446744073709551616 : Nat) : Int)) = -((R % 18446744073709551616 : Nat) : Int) ∧ wrap64 (-((R % 18446744073709551616 : Nat) : Int)) = -((R % 18446744073709551616 : Nat) : Int) :=
  ⟨IntWalk.i64_in _ (by omega), wrap64_id (by omega) (by omega), IntWalk.i64_in _ (by omega), wrap64_id (by omega) (by omega)⟩
theorem small_c {R : Nat} (h : ¬ 4611686018427387904 < R) : decide ((0 : Int) < ((R / 18446744073709551616 : Nat) : Int)) = false ∧ decide ((4611686018427387904 : Int) < ((R % 18446744073709551616 : Nat) : Int)) = false ∧ R % 18446744073709551616 = R :=
  ⟨decide_eq_false (by omega), decide_eq_false (by omega), by omega⟩
theorem h1_word (P X Q : Nat) (eQ : Q = P + X) (bP : P ≤ 85070591730234615865843651857942052864) (bX : X ≤ 4611686018427387904) :
    IntKind.u64.wrap (((P / 18446744073709551616 : Nat) : Int) + (((P % 18446744073709551616 + X) / 18446744073709551616 : Nat) : Int)) = ((Q / 18446744073709551616 : Nat) : Int) := by
  rw [IntKind.wrap_u64]; omega
set_option maxHeartbeats 4000000 in
set_option maxRecDepth 100000 in
theorem fscale_any {a m s x e : Int} {w : World} (ha1 : -9223372036854775808 ≤ a) (ha2 : a < 9223372036854775808) (hm1 : -9223372036854775808 ≤ m) (hm2 : m < 9223372036854775808) (hf : SC a m s = (x, e)) :
    Calls Try.prog 16 #[.int .i64 a, .int .i64 m, .int .i64 s] w (Ret w (Val (.tuple #[.int .i64 x, .int .i64 e]))) := by
  by_cases hs : 0 ≤ s ∧ s ≤ 62
  · obtain ⟨n, rfl⟩ := Int.eq_ofNat_of_zero_le hs.1
    have hn : n ≤ 62 := by omega
    have hv : decide (0 ≤ ((n : Nat) : Int) ∧ ((n : Nat) : Int) ≤ 62) = true := decide_eq_true hs
    rw [SC_in hn] at hf
    have hrI := rI_div (a * m) n (sg := decide (a < 0) != decide (m < 0)) sgn_mul
    have hrN := rN_div (a * m) n
    have hAM : (a * m).natAbs = a.natAbs * m.natAbs := Int.natAbs_mul a m
    obtain ⟨A, hA⟩ : ∃ A : Nat, A = a.natAbs := ⟨_, rfl⟩
    obtain ⟨M, hM⟩ : ∃ M : Nat, M = m.natAbs := ⟨_, rfl⟩
    have bA : A ≤ 9223372036854775808 := by omega
    have bM : M ≤ 9223372036854775808 := by omega
    have bP : A * M ≤ 85070591730234615865843651857942052864 := Nat.le_trans (Nat.mul_le_mul bA bM) (by decide)
    rw [← hA, ← hM] at hAM
    rw [hAM] at hrN
    have xa : ((a.natAbs : Nat) : Int) = (A : Int) := by rw [hA]
    have xm : ((m.natAbs : Nat) : Int) = (M : Int) := by rw [hM]
    have aA : A < 18446744073709551616 := by omega
    have aM : M < 18446744073709551616 := by omega
    by_cases h0 : 1 ≤ n
    · rw [half_up _ _ h0] at hrN
      obtain ⟨hX, bX⟩ := X_eq h0 hn
      obtain ⟨X, eX⟩ : ∃ X : Nat, X = 2 ^ (n - 1) := ⟨_, rfl⟩
      obtain ⟨P, eP⟩ : ∃ P : Nat, P = A * M := ⟨_, rfl⟩
      rw [← eX] at hrN hX bX
      rw [← eP] at hrN bP
      have hws := word_shift (P + X) n (by omega)
      obtain ⟨Q, eQ⟩ : ∃ Q : Nat, Q = P + X := ⟨_, rfl⟩
      have d0 : decide ((0 : Int) < ((n : Nat) : Int)) = true := decide_eq_true (by omega)
      have hadd : ∀ w : World, (callFunc 44 #[.int .u64 ((P % 18446744073709551616 : Nat) : Int), .int .u64 (X : Int), .int .u64 0]).run Try.prog w = .ok (.value (.tuple #[.int .u64 ((Q % 18446744073709551616 : Nat) : Int), .int .u64 (((P % 18446744073709551616 + X) / 18446744073709551616 : Nat) : Int)])) w := by
        intro w
        have := add64_run (P % 18446744073709551616) X 0 (Nat.mod_lt _ (by decide)) (Nat.lt_of_le_of_lt bX (by decide)) (by decide) w
        rw [show (P % 18446744073709551616 + X + 0) % 18446744073709551616 = Q % 18446744073709551616 by rw [eQ, Nat.add_zero, Nat.mod_add_mod], Nat.add_zero] at this
        exact this
      have hH1 := h1_word P X Q eQ bP bX
      have hw64 : IntKind.i64.wrap (64 - ((n : Nat) : Int)) = 64 - ((n : Nat) : Int) := IntWalk.i64_in _ (by omega)
      have hY : IntKind.u64.wrap (((Q / 18446744073709551616 : Nat) : Int) * 2 ^ (64 - n)) = ((Q / 18446744073709551616 * 2 ^ (64 - n) % 18446744073709551616 : Nat) : Int) := by
        rw [IntKind.wrap_u64]; simp
      have hZ : ((Q % 18446744073709551616 : Nat) : Int) / 2 ^ n = ((Q % 18446744073709551616 / 2 ^ n : Nat) : Int) := by simp
      have hH2 : ((Q / 18446744073709551616 : Nat) : Int) / 2 ^ n = ((Q / 2 ^ n / 18446744073709551616 : Nat) : Int) := by rw [eQ, ← hws.2]; simp
      have hor : bits .or .u64 ((Q / 18446744073709551616 * 2 ^ (64 - n) % 18446744073709551616 : Nat) : Int) ((Q % 18446744073709551616 / 2 ^ n : Nat) : Int) = ((Q / 2 ^ n % 18446744073709551616 : Nat) : Int) := by
        rw [bits_or_u64_nat _ _ (Nat.mod_lt _ (by decide)) (Nat.lt_of_le_of_lt (Nat.div_le_self _ _) (Nat.mod_lt _ (by decide))), eQ, hws.1]
      rw [← eQ] at hrN
      obtain ⟨R, eR⟩ : ∃ R : Nat, R = Q / 2 ^ n := ⟨_, rfl⟩
      rw [← eR] at hH2 hor hrN
      have e1 : ((A * M / 18446744073709551616 : Nat) : Int) = ((P / 18446744073709551616 : Nat) : Int) := by rw [eP]
      have e2 : ((A * M % 18446744073709551616 : Nat) : Int) = ((P % 18446744073709551616 : Nat) : Int) := by rw [eP]
      have hbi := big_iff R
      by_cases hb : 4611686018427387904 < R
      · rw [RV_big (by rw [hrN]; exact Int.ofNat_lt.2 hb)] at hf
        by_cases hh : 0 < R / 18446744073709551616
        · exact val_tu (fsc_ph hv ha1 ha2 hm1 hm2 aA aM e1 e2 xa xm h0 hn d0 hX hadd hH1 hw64 hY hZ hor hH2 (decide_eq_true (Int.ofNat_lt.2 hh))) hf
        · exact val_tu (fsc_pl hv ha1 ha2 hm1 hm2 aA aM e1 e2 xa xm h0 hn d0 hX hadd hH1 hw64 hY hZ hor hH2 (decide_eq_false fun k => hh (Int.ofNat_lt.1 k)) (decide_eq_true (Int.ofNat_lt.2 ((hbi.1 hb).resolve_left hh)))) hf
      · rw [RV_ok (by rw [hrN]; exact fun k => hb (Int.ofNat_lt.1 k)), hrI, hrN] at hf
        obtain ⟨c1, c2, eR2⟩ := small_c hb
        obtain ⟨k1, k2, k3, k4⟩ := small_k hb
        rw [← eR2] at hf
        cases sa : decide (a < 0) <;> cases sm : decide (m < 0) <;> rw [sa, sm] at hf
        · exact val_tu (fsc_pff hv ha1 ha2 hm1 hm2 aA aM e1 e2 xa xm h0 hn d0 hX hadd hH1 hw64 hY hZ hor hH2 c1 c2 sa sm k1 k2 k3 k4) hf
        · exact val_tu (fsc_pft hv ha1 ha2 hm1 hm2 aA aM e1 e2 xa xm h0 hn d0 hX hadd hH1 hw64 hY hZ hor hH2 c1 c2 sa sm k1 k2 k3 k4) hf
        · exact val_tu (fsc_ptf hv ha1 ha2 hm1 hm2 aA aM e1 e2 xa xm h0 hn d0 hX hadd hH1 hw64 hY hZ hor hH2 c1 c2 sa sm k1 k2 k3 k4) hf
        · exact val_tu (fsc_ptt hv ha1 ha2 hm1 hm2 aA aM e1 e2 xa xm h0 hn d0 hX hadd hH1 hw64 hY hZ hor hH2 c1 c2 sa sm k1 k2 k3 k4) hf
    · obtain rfl : n = 0 := by omega
      obtain ⟨R, eR⟩ : ∃ R : Nat, R = A * M := ⟨_, rfl⟩
      have hR : (2 * (A * M) + 2 ^ 0) / 2 ^ (0 + 1) = R := by rw [eR]; omega
      rw [hR] at hrN
      have hv0 : decide (0 ≤ (0 : Int) ∧ (0 : Int) ≤ 62) = true := by decide
      have e1 : ((A * M / 18446744073709551616 : Nat) : Int) = ((R / 18446744073709551616 : Nat) : Int) := by rw [eR]
      have e2 : ((A * M % 18446744073709551616 : Nat) : Int) = ((R % 18446744073709551616 : Nat) : Int) := by rw [eR]
      have hbi := big_iff R
      by_cases hb : 4611686018427387904 < R
      · rw [RV_big (by rw [hrN]; exact Int.ofNat_lt.2 hb)] at hf
        by_cases hh : 0 < R / 18446744073709551616
        · exact val_tu (fsc_zh hv0 ha1 ha2 hm1 hm2 aA aM e1 e2 xa xm (decide_eq_true (Int.ofNat_lt.2 hh))) hf
        · exact val_tu (fsc_zl hv0 ha1 ha2 hm1 hm2 aA aM e1 e2 xa xm (decide_eq_false fun k => hh (Int.ofNat_lt.1 k)) (decide_eq_true (Int.ofNat_lt.2 ((hbi.1 hb).resolve_left hh)))) hf
      · rw [RV_ok (by rw [hrN]; exact fun k => hb (Int.ofNat_lt.1 k)), hrI, hrN] at hf
        obtain ⟨c1, c2, eR2⟩ := small_c hb
        obtain ⟨k1, k2, k3, k4⟩ := small_k hb
        rw [← eR2] at hf
        cases sa : decide (a < 0) <;> cases sm : decide (m < 0) <;> rw [sa, sm] at hf
        · exact val_tu (fsc_zff hv0 ha1 ha2 hm1 hm2 aA aM e1 e2 xa xm c1 c2 sa sm k1 k2 k3 k4) hf
        · exact val_tu (fsc_zft hv0 ha1 ha2 hm1 hm2 aA aM e1 e2 xa xm c1 c2 sa sm k1 k2 k3 k4) hf
        · exact val_tu (fsc_ztf hv0 ha1 ha2 hm1 hm2 aA aM e1 e2 xa xm c1 c2 sa sm k1 k2 k3 k4) hf
        · exact val_tu (fsc_ztt hv0 ha1 ha2 hm1 hm2 aA aM e1 e2 xa xm c1 c2 sa sm k1 k2 k3 k4) hf
  · rw [SC_out hs] at hf
    exact val_tu (fsc_e (decide_eq_false hs)) hf

end Go.Proofs.Ytfffehmkohcgcaa
