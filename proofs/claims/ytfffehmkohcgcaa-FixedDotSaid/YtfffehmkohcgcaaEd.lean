/- Texts FixD, in this order. -/
import Derived.Test.YtfffehmkohcgcaaEc
namespace Go.Proofs.Ytfffehmkohcgcaa
open Go.RowKit Nt
set_option linter.unusedVariables false
def satZ (a b : Int) : Int := if b < 1 ∨ 63 < b then a else max (-((2 ^ (b - 1).toNat : Nat) : Int)) (min (((2 ^ (b - 1).toNat : Nat) : Int) - 1) a)

theorem fsat_out {a b : Int} {w : World} (h : b < 1 ∨ 63 < b) : Calls Try.prog 18 #[.int .i64 a, .int .i64 b] w (Ret w (Val (.int .i64 (satZ a b)))) := by
  have e : satZ a b = a := if_pos h
  rw [e]
  by_cases h1 : b < 1
  · have d1 : decide (b < 1) = true := decide_eq_true h1
    go_enter Try.func18, Try.ntmps18
    go_wp2
    go_ret
    exact ⟨_, rfl, rfl, Below.refl _ _⟩
  · have d1 : decide (b < 1) = false := decide_eq_false h1
    have d2 : decide (63 < b) = true := decide_eq_true (by omega)
    go_enter Try.func18, Try.ntmps18
    go_wp2
    go_ret
    exact ⟨_, rfl, rfl, Below.refl _ _⟩

theorem zsat_out {a b : Int} {w : World} (h : b < 1 ∨ 63 < b) : Calls Try.prog 19 #[.int .i64 a, .int .i64 b] w (Ret w (Val (.int .i64 (satZ a b)))) := by
  have e : satZ a b = a := if_pos h
  rw [e]
  by_cases h1 : b < 1
  · have d1 : decide (b < 1) = true := decide_eq_true h1
    go_enter Try.func19, Try.ntmps19
    go_wp2
    go_ret
    exact ⟨_, rfl, rfl, Below.refl _ _⟩
  · have d1 : decide (b < 1) = false := decide_eq_false h1
    have d2 : decide (63 < b) = true := decide_eq_true (by omega)
    go_enter Try.func19, Try.ntmps19
    go_wp2
    go_ret
    exact ⟨_, rfl, rfl, Below.refl _ _⟩

theorem fsat_in {a b T : Int} {w : World} (h : ¬ (b < 1 ∨ 63 < b)) (hT : T = ((2 ^ (b - 1).toNat : Nat) : Int)) (h1 : 1 ≤ T) (h2 : T ≤ 4611686018427387904) : Calls Try.prog 18 #[.int .i64 a, .int .i64 b] w (Ret w (Val (.int .i64 (satZ a b)))) := by
  have e : satZ a b = max (-T) (min (T - 1) a) := by rw [hT]; exact if_neg h
  rw [e]
  have e2 : (2 : Int) ^ (b.toNat - 1) = T := by rw [hT, show (b - 1).toNat = b.toNat - 1 by omega]; simp
  have w0 : wrap64 (2 ^ (b.toNat - 1)) = T := by rw [e2]; exact wrap64_id (by omega) (by omega)
  have w1 : wrap64 (-T) = -T := wrap64_id (by omega) (by omega)
  have w2 : wrap64 (T - 1) = T - 1 := wrap64_id (by omega) (by omega)
  have w5 : IntKind.i64.wrap (b - 1) = b - 1 := IntWalk.i64_in _ (by omega)
  have w6 : wrap64 (b - 1) = b - 1 := wrap64_id (by omega) (by omega)
  have d1 : decide (b < 1) = false := decide_eq_false (by omega)
  have d2 : decide (63 < b) = false := decide_eq_false (by omega)
  clear hT e e2
  go_enter Try.func18, Try.ntmps18
  go_wp2
  go_ret
  refine ⟨_, rfl, ?_, Below.refl _ _⟩
  rfl
set_option maxHeartbeats 4000000 in
theorem zsat_in {a : Int} {n : Nat} {w : World} (hn : n ≤ 62) : Calls Try.prog 19 #[.int .i64 a, .int .i64 (((n + 1 : Nat)) : Int)] w (Ret w (Val (.int .i64 (satZ a ((n + 1 : Nat) : Int))))) := by
  have h : ¬ (((n + 1 : Nat) : Int) < 1 ∨ 63 < ((n + 1 : Nat) : Int)) := by omega
  obtain ⟨T, hT⟩ : ∃ T : Int, T = ((2 ^ n : Nat) : Int) := ⟨_, rfl⟩
  have h1 : 1 ≤ T := by have := Nat.two_pow_pos n; omega
  have h2 : T ≤ 4611686018427387904 := by have := pow_le62 hn; generalize 2 ^ n = p at *; omega
  have e : satZ a ((n + 1 : Nat) : Int) = max (-T) (min (T - 1) a) := by
    have e1 : (((n + 1 : Nat) : Int) - 1).toNat = n := by omega
    unfold satZ; rw [if_neg h, e1, hT]
  rw [e]
  have w1 : wrap64 (-T) = -T := wrap64_id (by omega) (by omega)
  have w2 : wrap64 (T - 1) = T - 1 := wrap64_id (by omega) (by omega)
  obtain ⟨b, hb⟩ : ∃ b : Int, b = ((n + 1 : Nat) : Int) := ⟨_, rfl⟩
  rw [← hb]
  have Hb := Lib.hid hb
  have d1 : decide (b < 1) = false := decide_eq_false (by omega)
  have d2 : decide (63 < b) = false := decide_eq_false (by omega)
  have HT := Lib.hid hT
  clear e hT hb
  go_enter Try.func19, Try.ntmps19
  go_wp2
  go_loopw [5, 6] (fun t i wr => ∃ j : Nat, j ≤ n ∧ i = .int .i64 ((j + 1 : Nat) : Int) ∧ t = .int .i64 ((2 ^ j : Nat) : Int) ∧ wr = w) (fun _ i _ => n + 1 - (intOf i).toNat)
  case atStart => exact ⟨0, Nat.zero_le _, rfl, rfl, rfl⟩
  case round =>
    obtain ⟨j, hj, rfl, rfl, rfl⟩ := hrel
    obtain ⟨i, hi⟩ : ∃ i : Int, i = ((j + 1 : Nat) : Int) := ⟨_, rfl⟩
    obtain ⟨p, hp⟩ : ∃ p : Int, p = ((2 ^ j : Nat) : Int) := ⟨_, rfl⟩
    rw [← hi, ← hp]
    have hbo := Hb.out
    by_cases hjn : j < n
    · have hpb : 2 * p ≤ 4611686018427387904 ∧ 1 ≤ p := by
        have h3 := pow_le62 (show j + 1 ≤ 62 by omega)
        have h4 := Nat.two_pow_pos j
        rw [Nat.pow_succ] at h3
        generalize 2 ^ j = q at *; omega
      have hd : decide (i < b) = true := decide_eq_true (by omega)
      have w3 : wrap64 (2 * p) = 2 * p := wrap64_id (by omega) (by omega)
      have w4 : wrap64 (i + 1) = i + 1 := wrap64_id (by omega) (by omega)
      have Hi := Lib.hid hi
      have Hp := Lib.hid hp
      clear hi hp hbo
      go_wp2
      go_roundw
      case rel =>
        refine ⟨j + 1, by omega, ?_, ?_, by trivial⟩
        · have := Hi.out; congr 1; try simp only [w4]
          omega
        · have := Hp.out; congr 1; try simp only [w3]
          rw [Nat.pow_succ]; generalize 2 ^ j = q at *; omega
      case measure =>
        have := Hi.out
        simp only [intOf]
        try simp only [w4]
        omega
    · obtain rfl : j = n := by omega
      have hd : decide (i < b) = false := decide_eq_false (by omega)
      have e3 : p = T := by rw [hp, HT.out]
      subst e3
      clear hi hp hbo
      go_wp2
      go_ret
      refine ⟨_, rfl, ?_, Below.refl _ _⟩
      rfl
theorem sat_lim {b : Int} (h : ¬ (b < 1 ∨ 63 < b)) : (1 : Int) ≤ ((2 ^ (b - 1).toNat : Nat) : Int) ∧ ((2 ^ (b - 1).toNat : Nat) : Int) ≤ 4611686018427387904 := by
  have h1 := Nat.two_pow_pos (b - 1).toNat
  have h2 := pow_le62 (show (b - 1).toNat ≤ 62 by omega)
  generalize 2 ^ (b - 1).toNat = p at *; omega
theorem fsat_any (a b : Int) (w : World) : Calls Try.prog 18 #[.int .i64 a, .int .i64 b] w (Ret w (Val (.int .i64 (satZ a b)))) := by
  by_cases h : b < 1 ∨ 63 < b
  · exact fsat_out h
  · exact fsat_in h rfl (sat_lim h).1 (sat_lim h).2
theorem zsat_any (a b : Int) (w : World) : Calls Try.prog 19 #[.int .i64 a, .int .i64 b] w (Ret w (Val (.int .i64 (satZ a b)))) := by
  by_cases h : b < 1 ∨ 63 < b
  · exact zsat_out h
  · obtain ⟨n, rfl⟩ : ∃ n : Nat, b = ((n + 1 : Nat) : Int) := ⟨b.toNat - 1, by omega⟩
    exact zsat_in (by omega)
theorem satZ_idem (a b : Int) : satZ (satZ a b) b = satZ a b := by
  by_cases h : b < 1 ∨ 63 < b
  · simp [satZ, h]
  · have h1 := sat_lim h
    unfold satZ
    rw [if_neg h, if_neg h]
    generalize ((2 ^ (b - 1).toNat : Nat) : Int) = T at *
    omega

set_option maxRecDepth 100000 in
set_option maxHeartbeats 4000000 in
theorem fsc_ph {x y H L0 : Int} {A M s : Nat} {X L1 C H1 Y Z L2 H2 : Int}  {w : World} (hv : decide (0 ≤ ((s : Nat) : Int) ∧ ((s : Nat) : Int) ≤ 62) = true) (ha1 : -9223372036854775808 ≤ x) (ha2 : x < 9223372036854775808) (hb1 : -9223372036854775808 ≤ y) (hb2 : y < 9223372036854775808) (hmu : A < 18446744073709551616) (hmv : M < 18446744073709551616) (he1 : ((A * M / 18446744073709551616 : Nat) : Int) = H) (he2 : ((A * M % 18446744073709551616 : Nat) : Int) = L0) (hxa : (x.natAbs : Int) = (A : Int)) (hya : (y.natAbs : Int) = (M : Int)) (hs1 : 1 ≤ s) (hs2 : s ≤ 62) (hd0 : decide ((0 : Int) < ((s : Nat) : Int)) = true) (hX : IntKind.u64.wrap (2 ^ (s - 1)) = X) (hadd : ∀ w : World, (callFunc 44 #[.int .u64 L0, .int .u64 X, .int .u64 0]).run Try.prog w = .ok (.value (.tuple #[.int .u64 L1, .int .u64 C])) w) (hH1 : IntKind.u64.wrap (H + C) = H1) (hw64 : IntKind.i64.wrap (64 - ((s : Nat) : Int)) = 64 - ((s : Nat) : Int)) (hs64 : IntKind.u64.wrap (H1 * 2 ^ (64 - s)) = Y) (hsr : L1 / 2 ^ s = Z) (hor : bits .or .u64 Y Z = L2) (hsr2 : H1 / 2 ^ s = H2) (hh : decide (0 < H2) = true)  :
    Calls Try.prog 16 #[.int .i64 x, .int .i64 y, .int .i64 ((s : Nat) : Int)] w (Ret w (Val (.tuple #[.int .i64 0, .int .i64 2]))) := by
  have Hv := Lib.hid hv
  have Ha1 := Lib.hid ha1
  have Ha2 := Lib.hid ha2
  have Hb1 := Lib.hid hb1
  have Hb2 := Lib.hid hb2
  have Hmu := Lib.hid hmu
  have Hmv := Lib.hid hmv
  have He1 := Lib.hid he1
  have He2 := Lib.hid he2
  have Hxa := Lib.hid hxa
  have Hya := Lib.hid hya
  clear hv ha1 ha2 hb1 hb2 hmu hmv he1 he2 hxa hya
  go_enter Try.func16, Try.ntmps16
  have HB := Lib.hid (Below.refl w.heap.size w)
  go_wp2_with fail
  refine Calls.mono (fvalid_any _ _ Hv.out) ?_
  rintro e w1 ⟨v1, rfl, rfl, hb⟩
  have HB := Lib.hid (below_call HB.out hb)
  clear hb
  go_wp2_with fail
  refine Calls.mono (val_of (mag_any x _ Ha1.out Ha2.out) (by rw [Hxa.out])) ?_
  rintro e w2 ⟨v2, rfl, rfl, hb⟩
  have HB := Lib.hid (below_call HB.out hb)
  clear hb
  go_wp2_with fail
  refine Calls.mono (val_of (mag_any y _ Hb1.out Hb2.out) (by rw [Hya.out])) ?_
  rintro e w3 ⟨v3, rfl, rfl, hb⟩
  have HB := Lib.hid (below_call HB.out hb)
  clear hb
  go_wp2_with fail
  refine Calls.mono (val_of (mul64_any A M Hmu.out Hmv.out _) (by rw [He1.out, He2.out])) ?_
  rintro e w4 ⟨v4, rfl, rfl, hb⟩
  have HB := Lib.hid (below_call HB.out hb)
  clear hb
  go_wp2_with fail
  have HB := Lib.hid (Below.drew HB.out)
  refine wp_region_float [] [] (by kernel_rfl) (by kernel_rfl) 62 (by kernel_rfl) Flok.nil ?_
  intro ok
  have Hok := Lib.hid ok
  clear ok
  have HG := Lib.hid (Below.refl (w4.drew).heap.size (w4.drew))
  refine good_pureX 0 (some 35) (Go.Op.move (Go.Operand.tmp 8)) (none) (.int .u64 H1) (by kernel_rfl) (by kernel_rfl) (by kernel_rfl) (fun _ _ _ h => h) (fun w' hw' => ?_) ?_
  · first | (go_simp; done) | (go_simp; simp_all; done) | (go_simp; rfl)
  simp only [Act.put, List.setIfInBounds_toArray, List.set_cons_zero, List.set_cons_succ]
  refine good_pureX 1 (some 36) (Go.Op.move (Go.Operand.tmp 2)) (none) (.int .i64 ((s : Nat) : Int)) (by kernel_rfl) (by kernel_rfl) (by kernel_rfl) (fun _ _ _ h => h) (fun w' hw' => ?_) ?_
  · first | (go_simp; done) | (go_simp; simp_all; done) | (go_simp; rfl)
  simp only [Act.put, List.setIfInBounds_toArray, List.set_cons_zero, List.set_cons_succ]
  refine good_pureX 2 (some 37) (Go.Op.binOp Go.BinOp.sub 3 (Go.Operand.const (Go.Value.int Go.IntKind.i64 64)) (Go.Operand.tmp 36) 3) (none) (.int .i64 (64 - ((s : Nat) : Int))) (by kernel_rfl) (by kernel_rfl) (by kernel_rfl) (fun _ _ _ h => h) (fun w' hw' => ?_) ?_
  · first | (go_simp; done) | (go_simp; simp_all; done) | (go_simp; rfl)
  simp only [Act.put, List.setIfInBounds_toArray, List.set_cons_zero, List.set_cons_succ]
  refine good_pureX 3 (some 38) (Go.Op.binOp Go.BinOp.shl 56 (Go.Operand.tmp 35) (Go.Operand.tmp 37) 3) (none) (.int .u64 Y) (by kernel_rfl) (by kernel_rfl) (by kernel_rfl) (fun _ _ _ h => h) (fun w' hw' => ?_) ?_
  · first | (go_simp; done) | (go_simp; simp_all; done) | (go_simp; rfl)
  simp only [Act.put, List.setIfInBounds_toArray, List.set_cons_zero, List.set_cons_succ]
  refine good_pureX 4 (some 39) (Go.Op.move (Go.Operand.tmp 9)) (none) (.int .u64 L1) (by kernel_rfl) (by kernel_rfl) (by kernel_rfl) (fun _ _ _ h => h) (fun w' hw' => ?_) ?_
  · first | (go_simp; done) | (go_simp; simp_all; done) | (go_simp; rfl)
  simp only [Act.put, List.setIfInBounds_toArray, List.set_cons_zero, List.set_cons_succ]
  refine good_pureX 5 (some 40) (Go.Op.move (Go.Operand.tmp 2)) (none) (.int .i64 ((s : Nat) : Int)) (by kernel_rfl) (by kernel_rfl) (by kernel_rfl) (fun _ _ _ h => h) (fun w' hw' => ?_) ?_
  · first | (go_simp; done) | (go_simp; simp_all; done) | (go_simp; rfl)
  simp only [Act.put, List.setIfInBounds_toArray, List.set_cons_zero, List.set_cons_succ]
  refine good_pureX 6 (some 41) (Go.Op.binOp Go.BinOp.shr 56 (Go.Operand.tmp 39) (Go.Operand.tmp 40) 3) (none) (.int .u64 Z) (by kernel_rfl) (by kernel_rfl) (by kernel_rfl) (fun _ _ _ h => h) (fun w' hw' => ?_) ?_
  · first | (go_simp; done) | (go_simp; simp_all; done) | (go_simp; rfl)
  simp only [Act.put, List.setIfInBounds_toArray, List.set_cons_zero, List.set_cons_succ]
  refine good_pureX 7 (some 42) (Go.Op.binOp Go.BinOp.or 56 (Go.Operand.tmp 38) (Go.Operand.tmp 41) 56) (none) (.int .u64 L2) (by kernel_rfl) (by kernel_rfl) (by kernel_rfl) (fun _ _ _ h => h) (fun w' hw' => ?_) ?_
  · first | (go_simp; done) | (go_simp; simp_all; done) | (go_simp; rfl)
  simp only [Act.put, List.setIfInBounds_toArray, List.set_cons_zero, List.set_cons_succ]
  refine good_pureX 8 (some 43) (Go.Op.move (Go.Operand.tmp 8)) (none) (.int .u64 H1) (by kernel_rfl) (by kernel_rfl) (by kernel_rfl) (fun _ _ _ h => h) (fun w' hw' => ?_) ?_
  · first | (go_simp; done) | (go_simp; simp_all; done) | (go_simp; rfl)
  simp only [Act.put, List.setIfInBounds_toArray, List.set_cons_zero, List.set_cons_succ]
  refine good_pureX 9 (some 44) (Go.Op.move (Go.Operand.tmp 2)) (none) (.int .i64 ((s : Nat) : Int)) (by kernel_rfl) (by kernel_rfl) (by kernel_rfl) (fun _ _ _ h => h) (fun w' hw' => ?_) ?_
  · first | (go_simp; done) | (go_simp; simp_all; done) | (go_simp; rfl)
  simp only [Act.put, List.setIfInBounds_toArray, List.set_cons_zero, List.set_cons_succ]
  refine good_pureX 10 (some 45) (Go.Op.binOp Go.BinOp.shr 56 (Go.Operand.tmp 43) (Go.Operand.tmp 44) 3) (none) (.int .u64 H2) (by kernel_rfl) (by kernel_rfl) (by kernel_rfl) (fun _ _ _ h => h) (fun w' hw' => ?_) ?_
  · first | (go_simp; done) | (go_simp; simp_all; done) | (go_simp; rfl)
  simp only [Act.put, List.setIfInBounds_toArray, List.set_cons_zero, List.set_cons_succ]
  refine good_pureX 11 (some 9) (Go.Op.assign (Go.Operand.tmp 42)) (none) (.int .u64 L2) (by kernel_rfl) (by kernel_rfl) (by kernel_rfl) (fun _ _ _ h => h) (fun w' hw' => ?_) ?_
  · first | (go_simp; done) | (go_simp; simp_all; done) | (go_simp; rfl)
  simp only [Act.put, List.setIfInBounds_toArray, List.set_cons_zero, List.set_cons_succ]
  refine good_pureX 12 (some 8) (Go.Op.assign (Go.Operand.tmp 45)) (none) (.int .u64 H2) (by kernel_rfl) (by kernel_rfl) (by kernel_rfl) (fun _ _ _ h => h) (fun w' hw' => ?_) ?_
  · first | (go_simp; done) | (go_simp; simp_all; done) | (go_simp; rfl)
  simp only [Act.put, List.setIfInBounds_toArray, List.set_cons_zero, List.set_cons_succ]
  refine good_end0 0 (by kernel_rfl) (fun _ w5 hb => ?_)
  have HG := Lib.hid (below_call HG.out hb)
  clear hb
  have HB := Lib.hid (below_call HB.out HG.out)
  have HS := Lib.hid (SE.of (E := []) HG.out)
  refine wpAnyH_done (by kernel_rfl) ?_ _
  clear HG HS Hok 
  go_wp2
  exact ret_tt rfl rfl rfl rfl rfl HB.out


set_option maxRecDepth 100000 in
set_option maxHeartbeats 4000000 in
theorem fsc_pl {x y H L0 : Int} {A M s : Nat} {X L1 C H1 Y Z L2 H2 : Int}  {w : World} (hv : decide (0 ≤ ((s : Nat) : Int) ∧ ((s : Nat) : Int) ≤ 62) = true) (ha1 : -9223372036854775808 ≤ x) (ha2 : x < 9223372036854775808) (hb1 : -9223372036854775808 ≤ y) (hb2 : y < 9223372036854775808) (hmu : A < 18446744073709551616) (hmv : M < 18446744073709551616) (he1 : ((A * M / 18446744073709551616 : Nat) : Int) = H) (he2 : ((A * M % 18446744073709551616 : Nat) : Int) = L0) (hxa : (x.natAbs : Int) = (A : Int)) (hya : (y.natAbs : Int) = (M : Int)) (hs1 : 1 ≤ s) (hs2 : s ≤ 62) (hd0 : decide ((0 : Int) < ((s : Nat) : Int)) = true) (hX : IntKind.u64.wrap (2 ^ (s - 1)) = X) (hadd : ∀ w : World, (callFunc 44 #[.int .u64 L0, .int .u64 X, .int .u64 0]).run Try.prog w = .ok (.value (.tuple #[.int .u64 L1, .int .u64 C])) w) (hH1 : IntKind.u64.wrap (H + C) = H1) (hw64 : IntKind.i64.wrap (64 - ((s : Nat) : Int)) = 64 - ((s : Nat) : Int)) (hs64 : IntKind.u64.wrap (H1 * 2 ^ (64 - s)) = Y) (hsr : L1 / 2 ^ s = Z) (hor : bits .or .u64 Y Z = L2) (hsr2 : H1 / 2 ^ s = H2) (hh : decide (0 < H2) = false) (hl : decide (4611686018427387904 < L2) = true)  :
    Calls Try.prog 16 #[.int .i64 x, .int .i64 y, .int .i64 ((s : Nat) : Int)] w (Ret w (Val (.tuple #[.int .i64 0, .int .i64 2]))) := by
  have Hv := Lib.hid hv
  have Ha1 := Lib.hid ha1
  have Ha2 := Lib.hid ha2
  have Hb1 := Lib.hid hb1
  have Hb2 := Lib.hid hb2
  have Hmu := Lib.hid hmu
  have Hmv := Lib.hid hmv
  have He1 := Lib.hid he1
  have He2 := Lib.hid he2
  have Hxa := Lib.hid hxa
  have Hya := Lib.hid hya
  clear hv ha1 ha2 hb1 hb2 hmu hmv he1 he2 hxa hya
  go_enter Try.func16, Try.ntmps16
  have HB := Lib.hid (Below.refl w.heap.size w)
  go_wp2_with fail
  refine Calls.mono (fvalid_any _ _ Hv.out) ?_
  rintro e w1 ⟨v1, rfl, rfl, hb⟩
  have HB := Lib.hid (below_call HB.out hb)
  clear hb
  go_wp2_with fail
  refine Calls.mono (val_of (mag_any x _ Ha1.out Ha2.out) (by rw [Hxa.out])) ?_
  rintro e w2 ⟨v2, rfl, rfl, hb⟩
  have HB := Lib.hid (below_call HB.out hb)
  clear hb
  go_wp2_with fail
  refine Calls.mono (val_of (mag_any y _ Hb1.out Hb2.out) (by rw [Hya.out])) ?_
  rintro e w3 ⟨v3, rfl, rfl, hb⟩
  have HB := Lib.hid (below_call HB.out hb)
  clear hb
  go_wp2_with fail
  refine Calls.mono (val_of (mul64_any A M Hmu.out Hmv.out _) (by rw [He1.out, He2.out])) ?_
  rintro e w4 ⟨v4, rfl, rfl, hb⟩
  have HB := Lib.hid (below_call HB.out hb)
  clear hb
  go_wp2_with fail
  have HB := Lib.hid (Below.drew HB.out)
  refine wp_region_float [] [] (by kernel_rfl) (by kernel_rfl) 62 (by kernel_rfl) Flok.nil ?_
  intro ok
  have Hok := Lib.hid ok
  clear ok
  have HG := Lib.hid (Below.refl (w4.drew).heap.size (w4.drew))
  refine good_pureX 0 (some 35) (Go.Op.move (Go.Operand.tmp 8)) (none) (.int .u64 H1) (by kernel_rfl) (by kernel_rfl) (by kernel_rfl) (fun _ _ _ h => h) (fun w' hw' => ?_) ?_
  · first | (go_simp; done) | (go_simp; simp_all; done) | (go_simp; rfl)
  simp only [Act.put, List.setIfInBounds_toArray, List.set_cons_zero, List.set_cons_succ]
  refine good_pureX 1 (some 36) (Go.Op.move (Go.Operand.tmp 2)) (none) (.int .i64 ((s : Nat) : Int)) (by kernel_rfl) (by kernel_rfl) (by kernel_rfl) (fun _ _ _ h => h) (fun w' hw' => ?_) ?_
  · first | (go_simp; done) | (go_simp; simp_all; done) | (go_simp; rfl)
  simp only [Act.put, List.setIfInBounds_toArray, List.set_cons_zero, List.set_cons_succ]
  refine good_pureX 2 (some 37) (Go.Op.binOp Go.BinOp.sub 3 (Go.Operand.const (Go.Value.int Go.IntKind.i64 64)) (Go.Operand.tmp 36) 3) (none) (.int .i64 (64 - ((s : Nat) : Int))) (by kernel_rfl) (by kernel_rfl) (by kernel_rfl) (fun _ _ _ h => h) (fun w' hw' => ?_) ?_
  · first | (go_simp; done) | (go_simp; simp_all; done) | (go_simp; rfl)
  simp only [Act.put, List.setIfInBounds_toArray, List.set_cons_zero, List.set_cons_succ]
  refine good_pureX 3 (some 38) (Go.Op.binOp Go.BinOp.shl 56 (Go.Operand.tmp 35) (Go.Operand.tmp 37) 3) (none) (.int .u64 Y) (by kernel_rfl) (by kernel_rfl) (by kernel_rfl) (fun _ _ _ h => h) (fun w' hw' => ?_) ?_
  · first | (go_simp; done) | (go_simp; simp_all; done) | (go_simp; rfl)
  simp only [Act.put, List.setIfInBounds_toArray, List.set_cons_zero, List.set_cons_succ]
  refine good_pureX 4 (some 39) (Go.Op.move (Go.Operand.tmp 9)) (none) (.int .u64 L1) (by kernel_rfl) (by kernel_rfl) (by kernel_rfl) (fun _ _ _ h => h) (fun w' hw' => ?_) ?_
  · first | (go_simp; done) | (go_simp; simp_all; done) | (go_simp; rfl)
  simp only [Act.put, List.setIfInBounds_toArray, List.set_cons_zero, List.set_cons_succ]
  refine good_pureX 5 (some 40) (Go.Op.move (Go.Operand.tmp 2)) (none) (.int .i64 ((s : Nat) : Int)) (by kernel_rfl) (by kernel_rfl) (by kernel_rfl) (fun _ _ _ h => h) (fun w' hw' => ?_) ?_
  · first | (go_simp; done) | (go_simp; simp_all; done) | (go_simp; rfl)
  simp only [Act.put, List.setIfInBounds_toArray, List.set_cons_zero, List.set_cons_succ]
  refine good_pureX 6 (some 41) (Go.Op.binOp Go.BinOp.shr 56 (Go.Operand.tmp 39) (Go.Operand.tmp 40) 3) (none) (.int .u64 Z) (by kernel_rfl) (by kernel_rfl) (by kernel_rfl) (fun _ _ _ h => h) (fun w' hw' => ?_) ?_
  · first | (go_simp; done) | (go_simp; simp_all; done) | (go_simp; rfl)
  simp only [Act.put, List.setIfInBounds_toArray, List.set_cons_zero, List.set_cons_succ]
  refine good_pureX 7 (some 42) (Go.Op.binOp Go.BinOp.or 56 (Go.Operand.tmp 38) (Go.Operand.tmp 41) 56) (none) (.int .u64 L2) (by kernel_rfl) (by kernel_rfl) (by kernel_rfl) (fun _ _ _ h => h) (fun w' hw' => ?_) ?_
  · first | (go_simp; done) | (go_simp; simp_all; done) | (go_simp; rfl)
  simp only [Act.put, List.setIfInBounds_toArray, List.set_cons_zero, List.set_cons_succ]
  refine good_pureX 8 (some 43) (Go.Op.move (Go.Operand.tmp 8)) (none) (.int .u64 H1) (by kernel_rfl) (by kernel_rfl) (by kernel_rfl) (fun _ _ _ h => h) (fun w' hw' => ?_) ?_
  · first | (go_simp; done) | (go_simp; simp_all; done) | (go_simp; rfl)
  simp only [Act.put, List.setIfInBounds_toArray, List.set_cons_zero, List.set_cons_succ]
  refine good_pureX 9 (some 44) (Go.Op.move (Go.Operand.tmp 2)) (none) (.int .i64 ((s : Nat) : Int)) (by kernel_rfl) (by kernel_rfl) (by kernel_rfl) (fun _ _ _ h => h) (fun w' hw' => ?_) ?_
  · first | (go_simp; done) | (go_simp; simp_all; done) | (go_simp; rfl)
  simp only [Act.put, List.setIfInBounds_toArray, List.set_cons_zero, List.set_cons_succ]
  refine good_pureX 10 (some 45) (Go.Op.binOp Go.BinOp.shr 56 (Go.Operand.tmp 43) (Go.Operand.tmp 44) 3) (none) (.int .u64 H2) (by kernel_rfl) (by kernel_rfl) (by kernel_rfl) (fun _ _ _ h => h) (fun w' hw' => ?_) ?_
  · first | (go_simp; done) | (go_simp; simp_all; done) | (go_simp; rfl)
  simp only [Act.put, List.setIfInBounds_toArray, List.set_cons_zero, List.set_cons_succ]
  refine good_pureX 11 (some 9) (Go.Op.assign (Go.Operand.tmp 42)) (none) (.int .u64 L2) (by kernel_rfl) (by kernel_rfl) (by kernel_rfl) (fun _ _ _ h => h) (fun w' hw' => ?_) ?_
  · first | (go_simp; done) | (go_simp; simp_all; done) | (go_simp; rfl)
  simp only [Act.put, List.setIfInBounds_toArray, List.set_cons_zero, List.set_cons_succ]
  refine good_pureX 12 (some 8) (Go.Op.assign (Go.Operand.tmp 45)) (none) (.int .u64 H2) (by kernel_rfl) (by kernel_rfl) (by kernel_rfl) (fun _ _ _ h => h) (fun w' hw' => ?_) ?_
  · first | (go_simp; done) | (go_simp; simp_all; done) | (go_simp; rfl)
  simp only [Act.put, List.setIfInBounds_toArray, List.set_cons_zero, List.set_cons_succ]
  refine good_end0 0 (by kernel_rfl) (fun _ w5 hb => ?_)
  have HG := Lib.hid (below_call HG.out hb)
  clear hb
  have HB := Lib.hid (below_call HB.out HG.out)
  have HS := Lib.hid (SE.of (E := []) HG.out)
  refine wpAnyH_done (by kernel_rfl) ?_ _
  clear HG HS Hok 
  go_wp2
  exact ret_tt rfl rfl rfl rfl rfl HB.out


set_option maxRecDepth 100000 in
set_option maxHeartbeats 4000000 in
theorem fsc_ptt {x y H L0 : Int} {A M s : Nat} {X L1 C H1 Y Z L2 H2 : Int}  {w : World} (hv : decide (0 ≤ ((s : Nat) : Int) ∧ ((s : Nat) : Int) ≤ 62) = true) (ha1 : -9223372036854775808 ≤ x) (ha2 : x < 9223372036854775808) (hb1 : -9223372036854775808 ≤ y) (hb2 : y < 9223372036854775808) (hmu : A < 18446744073709551616) (hmv : M < 18446744073709551616) (he1 : ((A * M / 18446744073709551616 : Nat) : Int) = H) (he2 : ((A * M % 18446744073709551616 : Nat) : Int) = L0) (hxa : (x.natAbs : Int) = (A : Int)) (hya : (y.natAbs : Int) = (M : Int)) (hs1 : 1 ≤ s) (hs2 : s ≤ 62) (hd0 : decide ((0 : Int) < ((s : Nat) : Int)) = true) (hX : IntKind.u64.wrap (2 ^ (s - 1)) = X) (hadd : ∀ w : World, (callFunc 44 #[.int .u64 L0, .int .u64 X, .int .u64 0]).run Try.prog w = .ok (.value (.tuple #[.int .u64 L1, .int .u64 C])) w) (hH1 : IntKind.u64.wrap (H + C) = H1) (hw64 : IntKind.i64.wrap (64 - ((s : Nat) : Int)) = 64 - ((s : Nat) : Int)) (hs64 : IntKind.u64.wrap (H1 * 2 ^ (64 - s)) = Y) (hsr : L1 / 2 ^ s = Z) (hor : bits .or .u64 Y Z = L2) (hsr2 : H1 / 2 ^ s = H2) (hh : decide (0 < H2) = false) (hl : decide (4611686018427387904 < L2) = false) (hsa : decide (x < 0) = true) (hsm : decide (y < 0) = true) (hc : IntKind.i64.wrap L2 = L2) (hc2 : wrap64 L2 = L2) (hc3 : IntKind.i64.wrap (-L2) = -L2) (hc4 : wrap64 (-L2) = -L2)  :
    Calls Try.prog 16 #[.int .i64 x, .int .i64 y, .int .i64 ((s : Nat) : Int)] w (Ret w (Val (.tuple #[.int .i64 L2, .int .i64 0]))) := by
  have Hv := Lib.hid hv
  have Ha1 := Lib.hid ha1
  have Ha2 := Lib.hid ha2
  have Hb1 := Lib.hid hb1
  have Hb2 := Lib.hid hb2
  have Hmu := Lib.hid hmu
  have Hmv := Lib.hid hmv
  have He1 := Lib.hid he1
  have He2 := Lib.hid he2
  have Hxa := Lib.hid hxa
  have Hya := Lib.hid hya
  clear hv ha1 ha2 hb1 hb2 hmu hmv he1 he2 hxa hya
  go_enter Try.func16, Try.ntmps16
  have HB := Lib.hid (Below.refl w.heap.size w)
  go_wp2_with fail
  refine Calls.mono (fvalid_any _ _ Hv.out) ?_
  rintro e w1 ⟨v1, rfl, rfl, hb⟩
  have HB := Lib.hid (below_call HB.out hb)
  clear hb
  go_wp2_with fail
  refine Calls.mono (val_of (mag_any x _ Ha1.out Ha2.out) (by rw [Hxa.out])) ?_
  rintro e w2 ⟨v2, rfl, rfl, hb⟩
  have HB := Lib.hid (below_call HB.out hb)
  clear hb
  go_wp2_with fail
  refine Calls.mono (val_of (mag_any y _ Hb1.out Hb2.out) (by rw [Hya.out])) ?_
  rintro e w3 ⟨v3, rfl, rfl, hb⟩
  have HB := Lib.hid (below_call HB.out hb)
  clear hb
  go_wp2_with fail
  refine Calls.mono (val_of (mul64_any A M Hmu.out Hmv.out _) (by rw [He1.out, He2.out])) ?_
  rintro e w4 ⟨v4, rfl, rfl, hb⟩
  have HB := Lib.hid (below_call HB.out hb)
  clear hb
  go_wp2_with fail
  have HB := Lib.hid (Below.drew HB.out)
  refine wp_region_float [] [] (by kernel_rfl) (by kernel_rfl) 62 (by kernel_rfl) Flok.nil ?_
  intro ok
  have Hok := Lib.hid ok
  clear ok
  have HG := Lib.hid (Below.refl (w4.drew).heap.size (w4.drew))
  refine good_pureX 0 (some 35) (Go.Op.move (Go.Operand.tmp 8)) (none) (.int .u64 H1) (by kernel_rfl) (by kernel_rfl) (by kernel_rfl) (fun _ _ _ h => h) (fun w' hw' => ?_) ?_
  · first | (go_simp; done) | (go_simp; simp_all; done) | (go_simp; rfl)
  simp only [Act.put, List.setIfInBounds_toArray, List.set_cons_zero, List.set_cons_succ]
  refine good_pureX 1 (some 36) (Go.Op.move (Go.Operand.tmp 2)) (none) (.int .i64 ((s : Nat) : Int)) (by kernel_rfl) (by kernel_rfl) (by kernel_rfl) (fun _ _ _ h => h) (fun w' hw' => ?_) ?_
  · first | (go_simp; done) | (go_simp; simp_all; done) | (go_simp; rfl)
  simp only [Act.put, List.setIfInBounds_toArray, List.set_cons_zero, List.set_cons_succ]
  refine good_pureX 2 (some 37) (Go.Op.binOp Go.BinOp.sub 3 (Go.Operand.const (Go.Value.int Go.IntKind.i64 64)) (Go.Operand.tmp 36) 3) (none) (.int .i64 (64 - ((s : Nat) : Int))) (by kernel_rfl) (by kernel_rfl) (by kernel_rfl) (fun _ _ _ h => h) (fun w' hw' => ?_) ?_
  · first | (go_simp; done) | (go_simp; simp_all; done) | (go_simp; rfl)
  simp only [Act.put, List.setIfInBounds_toArray, List.set_cons_zero, List.set_cons_succ]
  refine good_pureX 3 (some 38) (Go.Op.binOp Go.BinOp.shl 56 (Go.Operand.tmp 35) (Go.Operand.tmp 37) 3) (none) (.int .u64 Y) (by kernel_rfl) (by kernel_rfl) (by kernel_rfl) (fun _ _ _ h => h) (fun w' hw' => ?_) ?_
  · first | (go_simp; done) | (go_simp; simp_all; done) | (go_simp; rfl)
  simp only [Act.put, List.setIfInBounds_toArray, List.set_cons_zero, List.set_cons_succ]
  refine good_pureX 4 (some 39) (Go.Op.move (Go.Operand.tmp 9)) (none) (.int .u64 L1) (by kernel_rfl) (by kernel_rfl) (by kernel_rfl) (fun _ _ _ h => h) (fun w' hw' => ?_) ?_
  · first | (go_simp; done) | (go_simp; simp_all; done) | (go_simp; rfl)
  simp only [Act.put, List.setIfInBounds_toArray, List.set_cons_zero, List.set_cons_succ]
  refine good_pureX 5 (some 40) (Go.Op.move (Go.Operand.tmp 2)) (none) (.int .i64 ((s : Nat) : Int)) (by kernel_rfl) (by kernel_rfl) (by kernel_rfl) (fun _ _ _ h => h) (fun w' hw' => ?_) ?_
  · first | (go_simp; done) | (go_simp; simp_all; done) | (go_simp; rfl)
  simp only [Act.put, List.setIfInBounds_toArray, List.set_cons_zero, List.set_cons_succ]
  refine good_pureX 6 (some 41) (Go.Op.binOp Go.BinOp.shr 56 (Go.Operand.tmp 39) (Go.Operand.tmp 40) 3) (none) (.int .u64 Z) (by kernel_rfl) (by kernel_rfl) (by kernel_rfl) (fun _ _ _ h => h) (fun w' hw' => ?_) ?_
  · first | (go_simp; done) | (go_simp; simp_all; done) | (go_simp; rfl)
  simp only [Act.put, List.setIfInBounds_toArray, List.set_cons_zero, List.set_cons_succ]
  refine good_pureX 7 (some 42) (Go.Op.binOp Go.BinOp.or 56 (Go.Operand.tmp 38) (Go.Operand.tmp 41) 56) (none) (.int .u64 L2) (by kernel_rfl) (by kernel_rfl) (by kernel_rfl) (fun _ _ _ h => h) (fun w' hw' => ?_) ?_
  · first | (go_simp; done) | (go_simp; simp_all; done) | (go_simp; rfl)
  simp only [Act.put, List.setIfInBounds_toArray, List.set_cons_zero, List.set_cons_succ]
  refine good_pureX 8 (some 43) (Go.Op.move (Go.Operand.tmp 8)) (none) (.int .u64 H1) (by kernel_rfl) (by kernel_rfl) (by kernel_rfl) (fun _ _ _ h => h) (fun w' hw' => ?_) ?_
  · first | (go_simp; done) | (go_simp; simp_all; done) | (go_simp; rfl)
  simp only [Act.put, List.setIfInBounds_toArray, List.set_cons_zero, List.set_cons_succ]
  refine good_pureX 9 (some 44) (Go.Op.move (Go.Operand.tmp 2)) (none) (.int .i64 ((s : Nat) : Int)) (by kernel_rfl) (by kernel_rfl) (by kernel_rfl) (fun _ _ _ h => h) (fun w' hw' => ?_) ?_
  · first | (go_simp; done) | (go_simp; simp_all; done) | (go_simp; rfl)
  simp only [Act.put, List.setIfInBounds_toArray, List.set_cons_zero, List.set_cons_succ]
  refine good_pureX 10 (some 45) (Go.Op.binOp Go.BinOp.shr 56 (Go.Operand.tmp 43) (Go.Operand.tmp 44) 3) (none) (.int .u64 H2) (by kernel_rfl) (by kernel_rfl) (by kernel_rfl) (fun _ _ _ h => h) (fun w' hw' => ?_) ?_
  · first | (go_simp; done) | (go_simp; simp_all; done) | (go_simp; rfl)
  simp only [Act.put, List.setIfInBounds_toArray, List.set_cons_zero, List.set_cons_succ]
  refine good_pureX 11 (some 9) (Go.Op.assign (Go.Operand.tmp 42)) (none) (.int .u64 L2) (by kernel_rfl) (by kernel_rfl) (by kernel_rfl) (fun _ _ _ h => h) (fun w' hw' => ?_) ?_
  · first | (go_simp; done) | (go_simp; simp_all; done) | (go_simp; rfl)
  simp only [Act.put, List.setIfInBounds_toArray, List.set_cons_zero, List.set_cons_succ]
  refine good_pureX 12 (some 8) (Go.Op.assign (Go.Operand.tmp 45)) (none) (.int .u64 H2) (by kernel_rfl) (by kernel_rfl) (by kernel_rfl) (fun _ _ _ h => h) (fun w' hw' => ?_) ?_
  · first | (go_simp; done) | (go_simp; simp_all; done) | (go_simp; rfl)
  simp only [Act.put, List.setIfInBounds_toArray, List.set_cons_zero, List.set_cons_succ]
  refine good_end0 0 (by kernel_rfl) (fun _ w5 hb => ?_)
  have HG := Lib.hid (below_call HG.out hb)
  clear hb
  have HB := Lib.hid (below_call HB.out HG.out)
  have HS := Lib.hid (SE.of (E := []) HG.out)
  refine wpAnyH_done (by kernel_rfl) ?_ _
  clear HG HS Hok 
  go_wp2
  exact ret_tt rfl rfl rfl rfl rfl HB.out


set_option maxRecDepth 100000 in
set_option maxHeartbeats 4000000 in
theorem fsc_ptf {x y H L0 : Int} {A M s : Nat} {X L1 C H1 Y Z L2 H2 : Int}  {w : World} (hv : decide (0 ≤ ((s : Nat) : Int) ∧ ((s : Nat) : Int) ≤ 62) = true) (ha1 : -9223372036854775808 ≤ x) (ha2 : x < 9223372036854775808) (hb1 : -9223372036854775808 ≤ y) (hb2 : y < 9223372036854775808) (hmu : A < 18446744073709551616) (hmv : M < 18446744073709551616) (he1 : ((A * M / 18446744073709551616 : Nat) : Int) = H) (he2 : ((A * M % 18446744073709551616 : Nat) : Int) = L0) (hxa : (x.natAbs : Int) = (A : Int)) (hya : (y.natAbs : Int) = (M : Int)) (hs1 : 1 ≤ s) (hs2 : s ≤ 62) (hd0 : decide ((0 : Int) < ((s : Nat) : Int)) = true) (hX : IntKind.u64.wrap (2 ^ (s - 1)) = X) (hadd : ∀ w : World, (callFunc 44 #[.int .u64 L0, .int .u64 X, .int .u64 0]).run Try.prog w = .ok (.value (.tuple #[.int .u64 L1, .int .u64 C])) w) (hH1 : IntKind.u64.wrap (H + C) = H1) (hw64 : IntKind.i64.wrap (64 - ((s : Nat) : Int)) = 64 - ((s : Nat) : Int)) (hs64 : IntKind.u64.wrap (H1 * 2 ^ (64 - s)) = Y) (hsr : L1 / 2 ^ s = Z) (hor : bits .or .u64 Y Z = L2) (hsr2 : H1 / 2 ^ s = H2) (hh : decide (0 < H2) = false) (hl : decide (4611686018427387904 < L2) = false) (hsa : decide (x < 0) = true) (hsm : decide (y < 0) = false) (hc : IntKind.i64.wrap L2 = L2) (hc2 : wrap64 L2 = L2) (hc3 : IntKind.i64.wrap (-L2) = -L2) (hc4 : wrap64 (-L2) = -L2)  :
    Calls Try.prog 16 #[.int .i64 x, .int .i64 y, .int .i64 ((s : Nat) : Int)] w (Ret w (Val (.tuple #[.int .i64 (-L2), .int .i64 0]))) := by
  have Hv := Lib.hid hv
  have Ha1 := Lib.hid ha1
  have Ha2 := Lib.hid ha2
  have Hb1 := Lib.hid hb1
  have Hb2 := Lib.hid hb2
  have Hmu := Lib.hid hmu
  have Hmv := Lib.hid hmv
  have He1 := Lib.hid he1
  have He2 := Lib.hid he2
  have Hxa := Lib.hid hxa
  have Hya := Lib.hid hya
  clear hv ha1 ha2 hb1 hb2 hmu hmv he1 he2 hxa hya
  go_enter Try.func16, Try.ntmps16
  have HB := Lib.hid (Below.refl w.heap.size w)
  go_wp2_with fail
  refine Calls.mono (fvalid_any _ _ Hv.out) ?_
  rintro e w1 ⟨v1, rfl, rfl, hb⟩
  have HB := Lib.hid (below_call HB.out hb)
  clear hb
  go_wp2_with fail
  refine Calls.mono (val_of (mag_any x _ Ha1.out Ha2.out) (by rw [Hxa.out])) ?_
  rintro e w2 ⟨v2, rfl, rfl, hb⟩
  have HB := Lib.hid (below_call HB.out hb)
  clear hb
  go_wp2_with fail
  refine Calls.mono (val_of (mag_any y _ Hb1.out Hb2.out) (by rw [Hya.out])) ?_
  rintro e w3 ⟨v3, rfl, rfl, hb⟩
  have HB := Lib.hid (below_call HB.out hb)
  clear hb
  go_wp2_with fail
  refine Calls.mono (val_of (mul64_any A M Hmu.out Hmv.out _) (by rw [He1.out, He2.out])) ?_
  rintro e w4 ⟨v4, rfl, rfl, hb⟩
  have HB := Lib.hid (below_call HB.out hb)
  clear hb
  go_wp2_with fail
  have HB := Lib.hid (Below.drew HB.out)
  refine wp_region_float [] [] (by kernel_rfl) (by kernel_rfl) 62 (by kernel_rfl) Flok.nil ?_
  intro ok
  have Hok := Lib.hid ok
  clear ok
  have HG := Lib.hid (Below.refl (w4.drew).heap.size (w4.drew))
  refine good_pureX 0 (some 35) (Go.Op.move (Go.Operand.tmp 8)) (none) (.int .u64 H1) (by kernel_rfl) (by kernel_rfl) (by kernel_rfl) (fun _ _ _ h => h) (fun w' hw' => ?_) ?_
  · first | (go_simp; done) | (go_simp; simp_all; done) | (go_simp; rfl)
  simp only [Act.put, List.setIfInBounds_toArray, List.set_cons_zero, List.set_cons_succ]
  refine good_pureX 1 (some 36) (Go.Op.move (Go.Operand.tmp 2)) (none) (.int .i64 ((s : Nat) : Int)) (by kernel_rfl) (by kernel_rfl) (by kernel_rfl) (fun _ _ _ h => h) (fun w' hw' => ?_) ?_
  · first | (go_simp; done) | (go_simp; simp_all; done) | (go_simp; rfl)
  simp only [Act.put, List.setIfInBounds_toArray, List.set_cons_zero, List.set_cons_succ]
  refine good_pureX 2 (some 37) (Go.Op.binOp Go.BinOp.sub 3 (Go.Operand.const (Go.Value.int Go.IntKind.i64 64)) (Go.Operand.tmp 36) 3) (none) (.int .i64 (64 - ((s : Nat) : Int))) (by kernel_rfl) (by kernel_rfl) (by kernel_rfl) (fun _ _ _ h => h) (fun w' hw' => ?_) ?_
  · first | (go_simp; done) | (go_simp; simp_all; done) | (go_simp; rfl)
  simp only [Act.put, List.setIfInBounds_toArray, List.set_cons_zero, List.set_cons_succ]
  refine good_pureX 3 (some 38) (Go.Op.binOp Go.BinOp.shl 56 (Go.Operand.tmp 35) (Go.Operand.tmp 37) 3) (none) (.int .u64 Y) (by kernel_rfl) (by kernel_rfl) (by kernel_rfl) (fun _ _ _ h => h) (fun w' hw' => ?_) ?_
  · first | (go_simp; done) | (go_simp; simp_all; done) | (go_simp; rfl)
  simp only [Act.put, List.setIfInBounds_toArray, List.set_cons_zero, List.set_cons_succ]
  refine good_pureX 4 (some 39) (Go.Op.move (Go.Operand.tmp 9)) (none) (.int .u64 L1) (by kernel_rfl) (by kernel_rfl) (by kernel_rfl) (fun _ _ _ h => h) (fun w' hw' => ?_) ?_
  · first | (go_simp; done) | (go_simp; simp_all; done) | (go_simp; rfl)
  simp only [Act.put, List.setIfInBounds_toArray, List.set_cons_zero, List.set_cons_succ]
  refine good_pureX 5 (some 40) (Go.Op.move (Go.Operand.tmp 2)) (none) (.int .i64 ((s : Nat) : Int)) (by kernel_rfl) (by kernel_rfl) (by kernel_rfl) (fun _ _ _ h => h) (fun w' hw' => ?_) ?_
  · first | (go_simp; done) | (go_simp; simp_all; done) | (go_simp; rfl)
  simp only [Act.put, List.setIfInBounds_toArray, List.set_cons_zero, List.set_cons_succ]
  refine good_pureX 6 (some 41) (Go.Op.binOp Go.BinOp.shr 56 (Go.Operand.tmp 39) (Go.Operand.tmp 40) 3) (none) (.int .u64 Z) (by kernel_rfl) (by kernel_rfl) (by kernel_rfl) (fun _ _ _ h => h) (fun w' hw' => ?_) ?_
  · first | (go_simp; done) | (go_simp; simp_all; done) | (go_simp; rfl)
  simp only [Act.put, List.setIfInBounds_toArray, List.set_cons_zero, List.set_cons_succ]
  refine good_pureX 7 (some 42) (Go.Op.binOp Go.BinOp.or 56 (Go.Operand.tmp 38) (Go.Operand.tmp 41) 56) (none) (.int .u64 L2) (by kernel_rfl) (by kernel_rfl) (by kernel_rfl) (fun _ _ _ h => h) (fun w' hw' => ?_) ?_
  · first | (go_simp; done) | (go_simp; simp_all; done) | (go_simp; rfl)
  simp only [Act.put, List.setIfInBounds_toArray, List.set_cons_zero, List.set_cons_succ]
  refine good_pureX 8 (some 43) (Go.Op.move (Go.Operand.tmp 8)) (none) (.int .u64 H1) (by kernel_rfl) (by kernel_rfl) (by kernel_rfl) (fun _ _ _ h => h) (fun w' hw' => ?_) ?_
  · first | (go_simp; done) | (go_simp; simp_all; done) | (go_simp; rfl)
  simp only [Act.put, List.setIfInBounds_toArray, List.set_cons_zero, List.set_cons_succ]
  refine good_pureX 9 (some 44) (Go.Op.move (Go.Operand.tmp 2)) (none) (.int .i64 ((s : Nat) : Int)) (by kernel_rfl) (by kernel_rfl) (by kernel_rfl) (fun _ _ _ h => h) (fun w' hw' => ?_) ?_
  · first | (go_simp; done) | (go_simp; simp_all; done) | (go_simp; rfl)
  simp only [Act.put, List.setIfInBounds_toArray, List.set_cons_zero, List.set_cons_succ]
  refine good_pureX 10 (some 45) (Go.Op.binOp Go.BinOp.shr 56 (Go.Operand.tmp 43) (Go.Operand.tmp 44) 3) (none) (.int .u64 H2) (by kernel_rfl) (by kernel_rfl) (by kernel_rfl) (fun _ _ _ h => h) (fun w' hw' => ?_) ?_
  · first | (go_simp; done) | (go_simp; simp_all; done) | (go_simp; rfl)
  simp only [Act.put, List.setIfInBounds_toArray, List.set_cons_zero, List.set_cons_succ]
  refine good_pureX 11 (some 9) (Go.Op.assign (Go.Operand.tmp 42)) (none) (.int .u64 L2) (by kernel_rfl) (by kernel_rfl) (by kernel_rfl) (fun _ _ _ h => h) (fun w' hw' => ?_) ?_
  · first | (go_simp; done) | (go_simp; simp_all; done) | (go_simp; rfl)
  simp only [Act.put, List.setIfInBounds_toArray, List.set_cons_zero, List.set_cons_succ]
  refine good_pureX 12 (some 8) (Go.Op.assign (Go.Operand.tmp 45)) (none) (.int .u64 H2) (by kernel_rfl) (by kernel_rfl) (by kernel_rfl) (fun _ _ _ h => h) (fun w' hw' => ?_) ?_
  · first | (go_simp; done) | (go_simp; simp_all; done) | (go_simp; rfl)
  simp only [Act.put, List.setIfInBounds_toArray, List.set_cons_zero, List.set_cons_succ]
  refine good_end0 0 (by kernel_rfl) (fun _ w5 hb => ?_)
  have HG := Lib.hid (below_call HG.out hb)
  clear hb
  have HB := Lib.hid (below_call HB.out HG.out)
  have HS := Lib.hid (SE.of (E := []) HG.out)
  refine wpAnyH_done (by kernel_rfl) ?_ _
  clear HG HS Hok 
  go_wp2
  exact ret_tt rfl rfl rfl rfl rfl HB.out


set_option maxRecDepth 100000 in
set_option maxHeartbeats 4000000 in
theorem fsc_pft {x y H L0 : Int} {A M s : Nat} {X L1 C H1 Y Z L2 H2 : Int}  {w : World} (hv : decide (0 ≤ ((s : Nat) : Int) ∧ ((s : Nat) : Int) ≤ 62) = true) (ha1 : -9223372036854775808 ≤ x) (ha2 : x < 9223372036854775808) (hb1 : -9223372036854775808 ≤ y) (hb2 : y < 9223372036854775808) (hmu : A < 18446744073709551616) (hmv : M < 18446744073709551616) (he1 : ((A * M / 18446744073709551616 : Nat) : Int) = H) (he2 : ((A * M % 18446744073709551616 : Nat) : Int) = L0) (hxa : (x.natAbs : Int) = (A : Int)) (hya : (y.natAbs : Int) = (M : Int)) (hs1 : 1 ≤ s) (hs2 : s ≤ 62) (hd0 : decide ((0 : Int) < ((s : Nat) : Int)) = true) (hX : IntKind.u64.wrap (2 ^ (s - 1)) = X) (hadd : ∀ w : World, (callFunc 44 #[.int .u64 L0, .int .u64 X, .int .u64 0]).run Try.prog w = .ok (.value (.tuple #[.int .u64 L1, .int .u64 C])) w) (hH1 : IntKind.u64.wrap (H + C) = H1) (hw64 : IntKind.i64.wrap (64 - ((s : Nat) : Int)) = 64 - ((s : Nat) : Int)) (hs64 : IntKind.u64.wrap (H1 * 2 ^ (64 - s)) = Y) (hsr : L1 / 2 ^ s = Z) (hor : bits .or .u64 Y Z = L2) (hsr2 : H1 / 2 ^ s = H2) (hh : decide (0 < H2) = false) (hl : decide (4611686018427387904 < L2) = false) (hsa : decide (x < 0) = false) (hsm : decide (y < 0) = true) (hc : IntKind.i64.wrap L2 = L2) (hc2 : wrap64 L2 = L2) (hc3 : IntKind.i64.wrap (-L2) = -L2) (hc4 : wrap64 (-L2) = -L2)  :
    Calls Try.prog 16 #[.int .i64 x, .int .i64 y, .int .i64 ((s : Nat) : Int)] w (Ret w (Val (.tuple #[.int .i64 (-L2), .int .i64 0]))) := by
  have Hv := Lib.hid hv
  have Ha1 := Lib.hid ha1
  have Ha2 := Lib.hid ha2
  have Hb1 := Lib.hid hb1
  have Hb2 := Lib.hid hb2
  have Hmu := Lib.hid hmu
  have Hmv := Lib.hid hmv
  have He1 := Lib.hid he1
  have He2 := Lib.hid he2
  have Hxa := Lib.hid hxa
  have Hya := Lib.hid hya
  clear hv ha1 ha2 hb1 hb2 hmu hmv he1 he2 hxa hya
  go_enter Try.func16, Try.ntmps16
  have HB := Lib.hid (Below.refl w.heap.size w)
  go_wp2_with fail
  refine Calls.mono (fvalid_any _ _ Hv.out) ?_
  rintro e w1 ⟨v1, rfl, rfl, hb⟩
  have HB := Lib.hid (below_call HB.out hb)
  clear hb
  go_wp2_with fail
  refine Calls.mono (val_of (mag_any x _ Ha1.out Ha2.out) (by rw [Hxa.out])) ?_
  rintro e w2 ⟨v2, rfl, rfl, hb⟩
  have HB := Lib.hid (below_call HB.out hb)
  clear hb
  go_wp2_with fail
  refine Calls.mono (val_of (mag_any y _ Hb1.out Hb2.out) (by rw [Hya.out])) ?_
  rintro e w3 ⟨v3, rfl, rfl, hb⟩
  have HB := Lib.hid (below_call HB.out hb)
  clear hb
  go_wp2_with fail
  refine Calls.mono (val_of (mul64_any A M Hmu.out Hmv.out _) (by rw [He1.out, He2.out])) ?_
  rintro e w4 ⟨v4, rfl, rfl, hb⟩
  have HB := Lib.hid (below_call HB.out hb)
  clear hb
  go_wp2_with fail
  have HB := Lib.hid (Below.drew HB.out)
  refine wp_region_float [] [] (by kernel_rfl) (by kernel_rfl) 62 (by kernel_rfl) Flok.nil ?_
  intro ok
  have Hok := Lib.hid ok
  clear ok
  have HG := Lib.hid (Below.refl (w4.drew).heap.size (w4.drew))
  refine good_pureX 0 (some 35) (Go.Op.move (Go.Operand.tmp 8)) (none) (.int .u64 H1) (by kernel_rfl) (by kernel_rfl) (by kernel_rfl) (fun _ _ _ h => h) (fun w' hw' => ?_) ?_
  · first | (go_simp; done) | (go_simp; simp_all; done) | (go_simp; rfl)
  simp only [Act.put, List.setIfInBounds_toArray, List.set_cons_zero, List.set_cons_succ]
  refine good_pureX 1 (some 36) (Go.Op.move (Go.Operand.tmp 2)) (none) (.int .i64 ((s : Nat) : Int)) (by kernel_rfl) (by kernel_rfl) (by kernel_rfl) (fun _ _ _ h => h) (fun w' hw' => ?_) ?_
  · first | (go_simp; done) | (go_simp; simp_all; done) | (go_simp; rfl)
  simp only [Act.put, List.setIfInBounds_toArray, List.set_cons_zero, List.set_cons_succ]
  refine good_pureX 2 (some 37) (Go.Op.binOp Go.BinOp.sub 3 (Go.Operand.const (Go.Value.int Go.IntKind.i64 64)) (Go.Operand.tmp 36) 3) (none) (.int .i64 (64 - ((s : Nat) : Int))) (by kernel_rfl) (by kernel_rfl) (by kernel_rfl) (fun _ _ _ h => h) (fun w' hw' => ?_) ?_
  · first | (go_simp; done) | (go_simp; simp_all; done) | (go_simp; rfl)
  simp only [Act.put, List.setIfInBounds_toArray, List.set_cons_zero, List.set_cons_succ]
  refine good_pureX 3 (some 38) (Go.Op.binOp Go.BinOp.shl 56 (Go.Operand.tmp 35) (Go.Operand.tmp 37) 3) (none) (.int .u64 Y) (by kernel_rfl) (by kernel_rfl) (by kernel_rfl) (fun _ _ _ h => h) (fun w' hw' => ?_) ?_
  · first | (go_simp; done) | (go_simp; simp_all; done) | (go_simp; rfl)
  simp only [Act.put, List.setIfInBounds_toArray, List.set_cons_zero, List.set_cons_succ]
  refine good_pureX 4 (some 39) (Go.Op.move (Go.Operand.tmp 9)) (none) (.int .u64 L1) (by kernel_rfl) (by kernel_rfl) (by kernel_rfl) (fun _ _ _ h => h) (fun w' hw' => ?_) ?_
  · first | (go_simp; done) | (go_simp; simp_all; done) | (go_simp; rfl)
  simp only [Act.put, List.setIfInBounds_toArray, List.set_cons_zero, List.set_cons_succ]
  refine good_pureX 5 (some 40) (Go.Op.move (Go.Operand.tmp 2)) (none) (.int .i64 ((s : Nat) : Int)) (by kernel_rfl) (by kernel_rfl) (by kernel_rfl) (fun _ _ _ h => h) (fun w' hw' => ?_) ?_
  · first | (go_simp; done) | (go_simp; simp_all; done) | (go_simp; rfl)
  simp only [Act.put, List.setIfInBounds_toArray, List.set_cons_zero, List.set_cons_succ]
  refine good_pureX 6 (some 41) (Go.Op.binOp Go.BinOp.shr 56 (Go.Operand.tmp 39) (Go.Operand.tmp 40) 3) (none) (.int .u64 Z) (by kernel_rfl) (by kernel_rfl) (by kernel_rfl) (fun _ _ _ h => h) (fun w' hw' => ?_) ?_
  · first | (go_simp; done) | (go_simp; simp_all; done) | (go_simp; rfl)
  simp only [Act.put, List.setIfInBounds_toArray, List.set_cons_zero, List.set_cons_succ]
  refine good_pureX 7 (some 42) (Go.Op.binOp Go.BinOp.or 56 (Go.Operand.tmp 38) (Go.Operand.tmp 41) 56) (none) (.int .u64 L2) (by kernel_rfl) (by kernel_rfl) (by kernel_rfl) (fun _ _ _ h => h) (fun w' hw' => ?_) ?_
  · first | (go_simp; done) | (go_simp; simp_all; done) | (go_simp; rfl)
  simp only [Act.put, List.setIfInBounds_toArray, List.set_cons_zero, List.set_cons_succ]
  refine good_pureX 8 (some 43) (Go.Op.move (Go.Operand.tmp 8)) (none) (.int .u64 H1) (by kernel_rfl) (by kernel_rfl) (by kernel_rfl) (fun _ _ _ h => h) (fun w' hw' => ?_) ?_
  · first | (go_simp; done) | (go_simp; simp_all; done) | (go_simp; rfl)
  simp only [Act.put, List.setIfInBounds_toArray, List.set_cons_zero, List.set_cons_succ]
  refine good_pureX 9 (some 44) (Go.Op.move (Go.Operand.tmp 2)) (none) (.int .i64 ((s : Nat) : Int)) (by kernel_rfl) (by kernel_rfl) (by kernel_rfl) (fun _ _ _ h => h) (fun w' hw' => ?_) ?_
  · first | (go_simp; done) | (go_simp; simp_all; done) | (go_simp; rfl)
  simp only [Act.put, List.setIfInBounds_toArray, List.set_cons_zero, List.set_cons_succ]
  refine good_pureX 10 (some 45) (Go.Op.binOp Go.BinOp.shr 56 (Go.Operand.tmp 43) (Go.Operand.tmp 44) 3) (none) (.int .u64 H2) (by kernel_rfl) (by kernel_rfl) (by kernel_rfl) (fun _ _ _ h => h) (fun w' hw' => ?_) ?_
  · first | (go_simp; done) | (go_simp; simp_all; done) | (go_simp; rfl)
  simp only [Act.put, List.setIfInBounds_toArray, List.set_cons_zero, List.set_cons_succ]
  refine good_pureX 11 (some 9) (Go.Op.assign (Go.Operand.tmp 42)) (none) (.int .u64 L2) (by kernel_rfl) (by kernel_rfl) (by kernel_rfl) (fun _ _ _ h => h) (fun w' hw' => ?_) ?_
  · first | (go_simp; done) | (go_simp; simp_all; done) | (go_simp; rfl)
  simp only [Act.put, List.setIfInBounds_toArray, List.set_cons_zero, List.set_cons_succ]
  refine good_pureX 12 (some 8) (Go.Op.assign (Go.Operand.tmp 45)) (none) (.int .u64 H2) (by kernel_rfl) (by kernel_rfl) (by kernel_rfl) (fun _ _ _ h => h) (fun w' hw' => ?_) ?_
  · first | (go_simp; done) | (go_simp; simp_all; done) | (go_simp; rfl)
  simp only [Act.put, List.setIfInBounds_toArray, List.set_cons_zero, List.set_cons_succ]
  refine good_end0 0 (by kernel_rfl) (fun _ w5 hb => ?_)
  have HG := Lib.hid (below_call HG.out hb)
  clear hb
  have HB := Lib.hid (below_call HB.out HG.out)
  have HS := Lib.hid (SE.of (E := []) HG.out)
  refine wpAnyH_done (by kernel_rfl) ?_ _
  clear HG HS Hok 
  go_wp2
  exact ret_tt rfl rfl rfl rfl rfl HB.out


set_option maxRecDepth 100000 in
set_option maxHeartbeats 4000000 in
theorem fsc_pff {x y H L0 : Int} {A M s : Nat} {X L1 C H1 Y Z L2 H2 : Int}  {w : World} (hv : decide (0 ≤ ((s : Nat) : Int) ∧ ((s : Nat) : Int) ≤ 62) = true) (ha1 : -9223372036854775808 ≤ x) (ha2 : x < 9223372036854775808) (hb1 : -9223372036854775808 ≤ y) (hb2 : y < 9223372036854775808) (hmu : A < 18446744073709551616) (hmv : M < 18446744073709551616) (he1 : ((A * M / 18446744073709551616 : Nat) : Int) = H) (he2 : ((A * M % 18446744073709551616 : Nat) : Int) = L0) (hxa : (x.natAbs : Int) = (A : Int)) (hya : (y.natAbs : Int) = (M : Int)) (hs1 : 1 ≤ s) (hs2 : s ≤ 62) (hd0 : decide ((0 : Int) < ((s : Nat) : Int)) = true) (hX : IntKind.u64.wrap (2 ^ (s - 1)) = X) (hadd : ∀ w : World, (callFunc 44 #[.int .u64 L0, .int .u64 X, .int .u64 0]).run Try.prog w = .ok (.value (.tuple #[.int .u64 L1, .int .u64 C])) w) (hH1 : IntKind.u64.wrap (H + C) = H1) (hw64 : IntKind.i64.wrap (64 - ((s : Nat) : Int)) = 64 - ((s : Nat) : Int)) (hs64 : IntKind.u64.wrap (H1 * 2 ^ (64 - s)) = Y) (hsr : L1 / 2 ^ s = Z) (hor : bits .or .u64 Y Z = L2) (hsr2 : H1 / 2 ^ s = H2) (hh : decide (0 < H2) = false) (hl : decide (4611686018427387904 < L2) = false) (hsa : decide (x < 0) = false) (hsm : decide (y < 0) = false) (hc : IntKind.i64.wrap L2 = L2) (hc2 : wrap64 L2 = L2) (hc3 : IntKind.i64.wrap (-L2) = -L2) (hc4 : wrap64 (-L2) = -L2)  :
    Calls Try.prog 16 #[.int .i64 x, .int .i64 y, .int .i64 ((s : Nat) : Int)] w (Ret w (Val (.tuple #[.int .i64 L2, .int .i64 0]))) := by
  have Hv := Lib.hid hv
  have Ha1 := Lib.hid ha1
  have Ha2 := Lib.hid ha2
  have Hb1 := Lib.hid hb1
  have Hb2 := Lib.hid hb2
  have Hmu := Lib.hid hmu
  have Hmv := Lib.hid hmv
  have He1 := Lib.hid he1
  have He2 := Lib.hid he2
  have Hxa := Lib.hid hxa
  have Hya := Lib.hid hya
  clear hv ha1 ha2 hb1 hb2 hmu hmv he1 he2 hxa hya
  go_enter Try.func16, Try.ntmps16
  have HB := Lib.hid (Below.refl w.heap.size w)
  go_wp2_with fail
  refine Calls.mono (fvalid_any _ _ Hv.out) ?_
  rintro e w1 ⟨v1, rfl, rfl, hb⟩
  have HB := Lib.hid (below_call HB.out hb)
  clear hb
  go_wp2_with fail
  refine Calls.mono (val_of (mag_any x _ Ha1.out Ha2.out) (by rw [Hxa.out])) ?_
  rintro e w2 ⟨v2, rfl, rfl, hb⟩
  have HB := Lib.hid (below_call HB.out hb)
  clear hb
  go_wp2_with fail
  refine Calls.mono (val_of (mag_any y _ Hb1.out Hb2.out) (by rw [Hya.out])) ?_
  rintro e w3 ⟨v3, rfl, rfl, hb⟩
  have HB := Lib.hid (below_call HB.out hb)
  clear hb
  go_wp2_with fail
  refine Calls.mono (val_of (mul64_any A M Hmu.out Hmv.out _) (by rw [He1.out, He2.out])) ?_
  rintro e w4 ⟨v4, rfl, rfl, hb⟩
  have HB := Lib.hid (below_call HB.out hb)
  clear hb
  go_wp2_with fail
  have HB := Lib.hid (Below.drew HB.out)
  refine wp_region_float [] [] (by kernel_rfl) (by kernel_rfl) 62 (by kernel_rfl) Flok.nil ?_
  intro ok
  have Hok := Lib.hid ok
  clear ok
  have HG := Lib.hid (Below.refl (w4.drew).heap.size (w4.drew))
  refine good_pureX 0 (some 35) (Go.Op.move (Go.Operand.tmp 8)) (none) (.int .u64 H1) (by kernel_rfl) (by kernel_rfl) (by kernel_rfl) (fun _ _ _ h => h) (fun w' hw' => ?_) ?_
  · first | (go_simp; done) | (go_simp; simp_all; done) | (go_simp; rfl)
  simp only [Act.put, List.setIfInBounds_toArray, List.set_cons_zero, List.set_cons_succ]
  refine good_pureX 1 (some 36) (Go.Op.move (Go.Operand.tmp 2)) (none) (.int .i64 ((s : Nat) : Int)) (by kernel_rfl) (by kernel_rfl) (by kernel_rfl) (fun _ _ _ h => h) (fun w' hw' => ?_) ?_
  · first | (go_simp; done) | (go_simp; simp_all; done) | (go_simp; rfl)
  simp only [Act.put, List.setIfInBounds_toArray, List.set_cons_zero, List.set_cons_succ]
  refine good_pureX 2 (some 37) (Go.Op.binOp Go.BinOp.sub 3 (Go.Operand.const (Go.Value.int Go.IntKind.i64 64)) (Go.Operand.tmp 36) 3) (none) (.int .i64 (64 - ((s : Nat) : Int))) (by kernel_rfl) (by kernel_rfl) (by kernel_rfl) (fun _ _ _ h => h) (fun w' hw' => ?_) ?_
  · first | (go_simp; done) | (go_simp; simp_all; done) | (go_simp; rfl)
  simp only [Act.put, List.setIfInBounds_toArray, List.set_cons_zero, List.set_cons_succ]
  refine good_pureX 3 (some 38) (Go.Op.binOp Go.BinOp.shl 56 (Go.Operand.tmp 35) (Go.Operand.tmp 37) 3) (none) (.int .u64 Y) (by kernel_rfl) (by kernel_rfl) (by kernel_rfl) (fun _ _ _ h => h) (fun w' hw' => ?_) ?_
  · first | (go_simp; done) | (go_simp; simp_all; done) | (go_simp; rfl)
  simp only [Act.put, List.setIfInBounds_toArray, List.set_cons_zero, List.set_cons_succ]
  refine good_pureX 4 (some 39) (Go.Op.move (Go.Operand.tmp 9)) (none) (.int .u64 L1) (by kernel_rfl) (by kernel_rfl) (by kernel_rfl) (fun _ _ _ h => h) (fun w' hw' => ?_) ?_
  · first | (go_simp; done) | (go_simp; simp_all; done) | (go_simp; rfl)
  simp only [Act.put, List.setIfInBounds_toArray, List.set_cons_zero, List.set_cons_succ]
  refine good_pureX 5 (some 40) (Go.Op.move (Go.Operand.tmp 2)) (none) (.int .i64 ((s : Nat) : Int)) (by kernel_rfl) (by kernel_rfl) (by kernel_rfl) (fun _ _ _ h => h) (fun w' hw' => ?_) ?_
  · first | (go_simp; done) | (go_simp; simp_all; done) | (go_simp; rfl)
  simp only [Act.put, List.setIfInBounds_toArray, List.set_cons_zero, List.set_cons_succ]
  refine good_pureX 6 (some 41) (Go.Op.binOp Go.BinOp.shr 56 (Go.Operand.tmp 39) (Go.Operand.tmp 40) 3) (none) (.int .u64 Z) (by kernel_rfl) (by kernel_rfl) (by kernel_rfl) (fun _ _ _ h => h) (fun w' hw' => ?_) ?_
  · first | (go_simp; done) | (go_simp; simp_all; done) | (go_simp; rfl)
  simp only [Act.put, List.setIfInBounds_toArray, List.set_cons_zero, List.set_cons_succ]
  refine good_pureX 7 (some 42) (Go.Op.binOp Go.BinOp.or 56 (Go.Operand.tmp 38) (Go.Operand.tmp 41) 56) (none) (.int .u64 L2) (by kernel_rfl) (by kernel_rfl) (by kernel_rfl) (fun _ _ _ h => h) (fun w' hw' => ?_) ?_
  · first | (go_simp; done) | (go_simp; simp_all; done) | (go_simp; rfl)
  simp only [Act.put, List.setIfInBounds_toArray, List.set_cons_zero, List.set_cons_succ]
  refine good_pureX 8 (some 43) (Go.Op.move (Go.Operand.tmp 8)) (none) (.int .u64 H1) (by kernel_rfl) (by kernel_rfl) (by kernel_rfl) (fun _ _ _ h => h) (fun w' hw' => ?_) ?_
  · first | (go_simp; done) | (go_simp; simp_all; done) | (go_simp; rfl)
  simp only [Act.put, List.setIfInBounds_toArray, List.set_cons_zero, List.set_cons_succ]
  refine good_pureX 9 (some 44) (Go.Op.move (Go.Operand.tmp 2)) (none) (.int .i64 ((s : Nat) : Int)) (by kernel_rfl) (by kernel_rfl) (by kernel_rfl) (fun _ _ _ h => h) (fun w' hw' => ?_) ?_
  · first | (go_simp; done) | (go_simp; simp_all; done) | (go_simp; rfl)
  simp only [Act.put, List.setIfInBounds_toArray, List.set_cons_zero, List.set_cons_succ]
  refine good_pureX 10 (some 45) (Go.Op.binOp Go.BinOp.shr 56 (Go.Operand.tmp 43) (Go.Operand.tmp 44) 3) (none) (.int .u64 H2) (by kernel_rfl) (by kernel_rfl) (by kernel_rfl) (fun _ _ _ h => h) (fun w' hw' => ?_) ?_
  · first | (go_simp; done) | (go_simp; simp_all; done) | (go_simp; rfl)
  simp only [Act.put, List.setIfInBounds_toArray, List.set_cons_zero, List.set_cons_succ]
  refine good_pureX 11 (some 9) (Go.Op.assign (Go.Operand.tmp 42)) (none) (.int .u64 L2) (by kernel_rfl) (by kernel_rfl) (by kernel_rfl) (fun _ _ _ h => h) (fun w' hw' => ?_) ?_
  · first | (go_simp; done) | (go_simp; simp_all; done) | (go_simp; rfl)
  simp only [Act.put, List.setIfInBounds_toArray, List.set_cons_zero, List.set_cons_succ]
  refine good_pureX 12 (some 8) (Go.Op.assign (Go.Operand.tmp 45)) (none) (.int .u64 H2) (by kernel_rfl) (by kernel_rfl) (by kernel_rfl) (fun _ _ _ h => h) (fun w' hw' => ?_) ?_
  · first | (go_simp; done) | (go_simp; simp_all; done) | (go_simp; rfl)
  simp only [Act.put, List.setIfInBounds_toArray, List.set_cons_zero, List.set_cons_succ]
  refine good_end0 0 (by kernel_rfl) (fun _ w5 hb => ?_)
  have HG := Lib.hid (below_call HG.out hb)
  clear hb
  have HB := Lib.hid (below_call HB.out HG.out)
  have HS := Lib.hid (SE.of (E := []) HG.out)
  refine wpAnyH_done (by kernel_rfl) ?_ _
  clear HG HS Hok 
  go_wp2
  exact ret_tt rfl rfl rfl rfl rfl HB.out


set_option maxRecDepth 100000 in
set_option maxHeartbeats 4000000 in
theorem fsc_zh {x y H L0 : Int} {A M : Nat}  {w : World} (hv : decide (0 ≤ (0 : Int) ∧ (0 : Int) ≤ 62) = true) (ha1 : -9223372036854775808 ≤ x) (ha2 : x < 9223372036854775808) (hb1 : -9223372036854775808 ≤ y) (hb2 : y < 9223372036854775808) (hmu : A < 18446744073709551616) (hmv : M < 18446744073709551616) (he1 : ((A * M / 18446744073709551616 : Nat) : Int) = H) (he2 : ((A * M % 18446744073709551616 : Nat) : Int) = L0) (hxa : (x.natAbs : Int) = (A : Int)) (hya : (y.natAbs : Int) = (M : Int)) (hh : decide (0 < H) = true)  :
    Calls Try.prog 16 #[.int .i64 x, .int .i64 y, .int .i64 0] w (Ret w (Val (.tuple #[.int .i64 0, .int .i64 2]))) := by
  have Hv := Lib.hid hv
  have Ha1 := Lib.hid ha1
  have Ha2 := Lib.hid ha2
  have Hb1 := Lib.hid hb1
  have Hb2 := Lib.hid hb2
  have Hmu := Lib.hid hmu
  have Hmv := Lib.hid hmv
  have He1 := Lib.hid he1
  have He2 := Lib.hid he2
  have Hxa := Lib.hid hxa
  have Hya := Lib.hid hya
  clear hv ha1 ha2 hb1 hb2 hmu hmv he1 he2 hxa hya
  go_enter Try.func16, Try.ntmps16
  have HB := Lib.hid (Below.refl w.heap.size w)
  go_wp2_with fail
  refine Calls.mono (fvalid_any _ _ Hv.out) ?_
  rintro e w1 ⟨v1, rfl, rfl, hb⟩
  have HB := Lib.hid (below_call HB.out hb)
  clear hb
  go_wp2_with fail
  refine Calls.mono (val_of (mag_any x _ Ha1.out Ha2.out) (by rw [Hxa.out])) ?_
  rintro e w2 ⟨v2, rfl, rfl, hb⟩
  have HB := Lib.hid (below_call HB.out hb)
  clear hb
  go_wp2_with fail
  refine Calls.mono (val_of (mag_any y _ Hb1.out Hb2.out) (by rw [Hya.out])) ?_
  rintro e w3 ⟨v3, rfl, rfl, hb⟩
  have HB := Lib.hid (below_call HB.out hb)
  clear hb
  go_wp2_with fail
  refine Calls.mono (val_of (mul64_any A M Hmu.out Hmv.out _) (by rw [He1.out, He2.out])) ?_
  rintro e w4 ⟨v4, rfl, rfl, hb⟩
  have HB := Lib.hid (below_call HB.out hb)
  clear hb
  go_wp2
  exact ret_tt rfl rfl rfl rfl rfl HB.out


set_option maxRecDepth 100000 in
set_option maxHeartbeats 4000000 in
theorem fsc_zl {x y H L0 : Int} {A M : Nat}  {w : World} (hv : decide (0 ≤ (0 : Int) ∧ (0 : Int) ≤ 62) = true) (ha1 : -9223372036854775808 ≤ x) (ha2 : x < 9223372036854775808) (hb1 : -9223372036854775808 ≤ y) (hb2 : y < 9223372036854775808) (hmu : A < 18446744073709551616) (hmv : M < 18446744073709551616) (he1 : ((A * M / 18446744073709551616 : Nat) : Int) = H) (he2 : ((A * M % 18446744073709551616 : Nat) : Int) = L0) (hxa : (x.natAbs : Int) = (A : Int)) (hya : (y.natAbs : Int) = (M : Int)) (hh : decide (0 < H) = false) (hl : decide (4611686018427387904 < L0) = true)  :
    Calls Try.prog 16 #[.int .i64 x, .int .i64 y, .int .i64 0] w (Ret w (Val (.tuple #[.int .i64 0, .int .i64 2]))) := by
  have Hv := Lib.hid hv
  have Ha1 := Lib.hid ha1
  have Ha2 := Lib.hid ha2
  have Hb1 := Lib.hid hb1
  have Hb2 := Lib.hid hb2
  have Hmu := Lib.hid hmu
  have Hmv := Lib.hid hmv
  have He1 := Lib.hid he1
  have He2 := Lib.hid he2
  have Hxa := Lib.hid hxa
  have Hya := Lib.hid hya
  clear hv ha1 ha2 hb1 hb2 hmu hmv he1 he2 hxa hya
  go_enter Try.func16, Try.ntmps16
  have HB := Lib.hid (Below.refl w.heap.size w)
  go_wp2_with fail
  refine Calls.mono (fvalid_any _ _ Hv.out) ?_
  rintro e w1 ⟨v1, rfl, rfl, hb⟩
  have HB := Lib.hid (below_call HB.out hb)
  clear hb
  go_wp2_with fail
  refine Calls.mono (val_of (mag_any x _ Ha1.out Ha2.out) (by rw [Hxa.out])) ?_
  rintro e w2 ⟨v2, rfl, rfl, hb⟩
  have HB := Lib.hid (below_call HB.out hb)
  clear hb
  go_wp2_with fail
  refine Calls.mono (val_of (mag_any y _ Hb1.out Hb2.out) (by rw [Hya.out])) ?_
  rintro e w3 ⟨v3, rfl, rfl, hb⟩
  have HB := Lib.hid (below_call HB.out hb)
  clear hb
  go_wp2_with fail
  refine Calls.mono (val_of (mul64_any A M Hmu.out Hmv.out _) (by rw [He1.out, He2.out])) ?_
  rintro e w4 ⟨v4, rfl, rfl, hb⟩
  have HB := Lib.hid (below_call HB.out hb)
  clear hb
  go_wp2
  exact ret_tt rfl rfl rfl rfl rfl HB.out


set_option maxRecDepth 100000 in
set_option maxHeartbeats 4000000 in
theorem fsc_ztt {x y H L0 : Int} {A M : Nat}  {w : World} (hv : decide (0 ≤ (0 : Int) ∧ (0 : Int) ≤ 62) = true) (ha1 : -9223372036854775808 ≤ x) (ha2 : x < 9223372036854775808) (hb1 : -9223372036854775808 ≤ y) (hb2 : y < 9223372036854775808) (hmu : A < 18446744073709551616) (hmv : M < 18446744073709551616) (he1 : ((A * M / 18446744073709551616 : Nat) : Int) = H) (he2 : ((A * M % 18446744073709551616 : Nat) : Int) = L0) (hxa : (x.natAbs : Int) = (A : Int)) (hya : (y.natAbs : Int) = (M : Int)) (hh : decide (0 < H) = false) (hl : decide (4611686018427387904 < L0) = false) (hsa : decide (x < 0) = true) (hsm : decide (y < 0) = true) (hc : IntKind.i64.wrap L0 = L0) (hc2 : wrap64 L0 = L0) (hc3 : IntKind.i64.wrap (-L0) = -L0) (hc4 : wrap64 (-L0) = -L0)  :
    Calls Try.prog 16 #[.int .i64 x, .int .i64 y, .int .i64 0] w (Ret w (Val (.tuple #[.int .i64 L0, .int .i64 0]))) := by
  have Hv := Lib.hid hv
  have Ha1 := Lib.hid ha1
  have Ha2 := Lib.hid ha2
  have Hb1 := Lib.hid hb1
  have Hb2 := Lib.hid hb2
  have Hmu := Lib.hid hmu
  have Hmv := Lib.hid hmv
  have He1 := Lib.hid he1
  have He2 := Lib.hid he2
  have Hxa := Lib.hid hxa
  have Hya := Lib.hid hya
  clear hv ha1 ha2 hb1 hb2 hmu hmv he1 he2 hxa hya
  go_enter Try.func16, Try.ntmps16
  have HB := Lib.hid (Below.refl w.heap.size w)
  go_wp2_with fail
  refine Calls.mono (fvalid_any _ _ Hv.out) ?_
  rintro e w1 ⟨v1, rfl, rfl, hb⟩
  have HB := Lib.hid (below_call HB.out hb)
  clear hb
  go_wp2_with fail
  refine Calls.mono (val_of (mag_any x _ Ha1.out Ha2.out) (by rw [Hxa.out])) ?_
  rintro e w2 ⟨v2, rfl, rfl, hb⟩
  have HB := Lib.hid (below_call HB.out hb)
  clear hb
  go_wp2_with fail
  refine Calls.mono (val_of (mag_any y _ Hb1.out Hb2.out) (by rw [Hya.out])) ?_
  rintro e w3 ⟨v3, rfl, rfl, hb⟩
  have HB := Lib.hid (below_call HB.out hb)
  clear hb
  go_wp2_with fail
  refine Calls.mono (val_of (mul64_any A M Hmu.out Hmv.out _) (by rw [He1.out, He2.out])) ?_
  rintro e w4 ⟨v4, rfl, rfl, hb⟩
  have HB := Lib.hid (below_call HB.out hb)
  clear hb
  go_wp2
  exact ret_tt rfl rfl rfl rfl rfl HB.out


set_option maxRecDepth 100000 in
set_option maxHeartbeats 4000000 in
theorem fsc_ztf {x y H L0 : Int} {A M : Nat}  {w : World} (hv : decide (0 ≤ (0 : Int) ∧ (0 : Int) ≤ 62) = true) (ha1 : -9223372036854775808 ≤ x) (ha2 : x < 9223372036854775808) (hb1 : -9223372036854775808 ≤ y) (hb2 : y < 9223372036854775808) (hmu : A < 18446744073709551616) (hmv : M < 18446744073709551616) (he1 : ((A * M / 18446744073709551616 : Nat) : Int) = H) (he2 : ((A * M % 18446744073709551616 : Nat) : Int) = L0) (hxa : (x.natAbs : Int) = (A : Int)) (hya : (y.natAbs : Int) = (M : Int)) (hh : decide (0 < H) = false) (hl : decide (4611686018427387904 < L0) = false) (hsa : decide (x < 0) = true) (hsm : decide (y < 0) = false) (hc : IntKind.i64.wrap L0 = L0) (hc2 : wrap64 L0 = L0) (hc3 : IntKind.i64.wrap (-L0) = -L0) (hc4 : wrap64 (-L0) = -L0)  :
    Calls Try.prog 16 #[.int .i64 x, .int .i64 y, .int .i64 0] w (Ret w (Val (.tuple #[.int .i64 (-L0), .int .i64 0]))) := by
  have Hv := Lib.hid hv
  have Ha1 := Lib.hid ha1
  have Ha2 := Lib.hid ha2
  have Hb1 := Lib.hid hb1
  have Hb2 := Lib.hid hb2
  have Hmu := Lib.hid hmu
  have Hmv := Lib.hid hmv
  have He1 := Lib.hid he1
  have He2 := Lib.hid he2
  have Hxa := Lib.hid hxa
  have Hya := Lib.hid hya
  clear hv ha1 ha2 hb1 hb2 hmu hmv he1 he2 hxa hya
  go_enter Try.func16, Try.ntmps16
  have HB := Lib.hid (Below.refl w.heap.size w)
  go_wp2_with fail
  refine Calls.mono (fvalid_any _ _ Hv.out) ?_
  rintro e w1 ⟨v1, rfl, rfl, hb⟩
  have HB := Lib.hid (below_call HB.out hb)
  clear hb
  go_wp2_with fail
  refine Calls.mono (val_of (mag_any x _ Ha1.out Ha2.out) (by rw [Hxa.out])) ?_
  rintro e w2 ⟨v2, rfl, rfl, hb⟩
  have HB := Lib.hid (below_call HB.out hb)
  clear hb
  go_wp2_with fail
  refine Calls.mono (val_of (mag_any y _ Hb1.out Hb2.out) (by rw [Hya.out])) ?_
  rintro e w3 ⟨v3, rfl, rfl, hb⟩
  have HB := Lib.hid (below_call HB.out hb)
  clear hb
  go_wp2_with fail
  refine Calls.mono (val_of (mul64_any A M Hmu.out Hmv.out _) (by rw [He1.out, He2.out])) ?_
  rintro e w4 ⟨v4, rfl, rfl, hb⟩
  have HB := Lib.hid (below_call HB.out hb)
  clear hb
  go_wp2
  exact ret_tt rfl rfl rfl rfl rfl HB.out


set_option maxRecDepth 100000 in
set_option maxHeartbeats 4000000 in
theorem fsc_zft {x y H L0 : Int} {A M : Nat}  {w : World} (hv : decide (0 ≤ (0 : Int) ∧ (0 : Int) ≤ 62) = true) (ha1 : -9223372036854775808 ≤ x) (ha2 : x < 9223372036854775808) (hb1 : -9223372036854775808 ≤ y) (hb2 : y < 9223372036854775808) (hmu : A < 18446744073709551616) (hmv : M < 18446744073709551616) (he1 : ((A * M / 18446744073709551616 : Nat) : Int) = H) (he2 : ((A * M % 18446744073709551616 : Nat) : Int) = L0) (hxa : (x.natAbs : Int) = (A : Int)) (hya : (y.natAbs : Int) = (M : Int)) (hh : decide (0 < H) = false) (hl : decide (4611686018427387904 < L0) = false) (hsa : decide (x < 0) = false) (hsm : decide (y < 0) = true) (hc : IntKind.i64.wrap L0 = L0) (hc2 : wrap64 L0 = L0) (hc3 : IntKind.i64.wrap (-L0) = -L0) (hc4 : wrap64 (-L0) = -L0)  :
    Calls Try.prog 16 #[.int .i64 x, .int .i64 y, .int .i64 0] w (Ret w (Val (.tuple #[.int .i64 (-L0), .int .i64 0]))) := by
  have Hv := Lib.hid hv
  have Ha1 := Lib.hid ha1
  have Ha2 := Lib.hid ha2
  have Hb1 := Lib.hid hb1
  have Hb2 := Lib.hid hb2
  have Hmu := Lib.hid hmu
  have Hmv := Lib.hid hmv
  have He1 := Lib.hid he1
  have He2 := Lib.hid he2
  have Hxa := Lib.hid hxa
  have Hya := Lib.hid hya
  clear hv ha1 ha2 hb1 hb2 hmu hmv he1 he2 hxa hya
  go_enter Try.func16, Try.ntmps16
  have HB := Lib.hid (Below.refl w.heap.size w)
  go_wp2_with fail
  refine Calls.mono (fvalid_any _ _ Hv.out) ?_
  rintro e w1 ⟨v1, rfl, rfl, hb⟩
  have HB := Lib.hid (below_call HB.out hb)
  clear hb
  go_wp2_with fail
  refine Calls.mono (val_of (mag_any x _ Ha1.out Ha2.out) (by rw [Hxa.out])) ?_
  rintro e w2 ⟨v2, rfl, rfl, hb⟩
  have HB := Lib.hid (below_call HB.out hb)
  clear hb
  go_wp2_with fail
  refine Calls.mono (val_of (mag_any y _ Hb1.out Hb2.out) (by rw [Hya.out])) ?_
  rintro e w3 ⟨v3, rfl, rfl, hb⟩
  have HB := Lib.hid (below_call HB.out hb)
  clear hb
  go_wp2_with fail
  refine Calls.mono (val_of (mul64_any A M Hmu.out Hmv.out _) (by rw [He1.out, He2.out])) ?_
  rintro e w4 ⟨v4, rfl, rfl, hb⟩
  have HB := Lib.hid (below_call HB.out hb)
  clear hb
  go_wp2
  exact ret_tt rfl rfl rfl rfl rfl HB.out


set_option maxRecDepth 100000 in
set_option maxHeartbeats 4000000 in
theorem fsc_zff {x y H L0 : Int} {A M : Nat}  {w : World} (hv : decide (0 ≤ (0 : Int) ∧ (0 : Int) ≤ 62) = true) (ha1 : -9223372036854775808 ≤ x) (ha2 : x < 9223372036854775808) (hb1 : -9223372036854775808 ≤ y) (hb2 : y < 9223372036854775808) (hmu : A < 18446744073709551616) (hmv : M < 18446744073709551616) (he1 : ((A * M / 18446744073709551616 : Nat) : Int) = H) (he2 : ((A * M % 18446744073709551616 : Nat) : Int) = L0) (hxa : (x.natAbs : Int) = (A : Int)) (hya : (y.natAbs : Int) = (M : Int)) (hh : decide (0 < H) = false) (hl : decide (4611686018427387904 < L0) = false) (hsa : decide (x < 0) = false) (hsm : decide (y < 0) = false) (hc : IntKind.i64.wrap L0 = L0) (hc2 : wrap64 L0 = L0) (hc3 : IntKind.i64.wrap (-L0) = -L0) (hc4 : wrap64 (-L0) = -L0)  :
    Calls Try.prog 16 #[.int .i64 x, .int .i64 y, .int .i64 0] w (Ret w (Val (.tuple #[.int .i64 L0, .int .i64 0]))) := by
  have Hv := Lib.hid hv
  have Ha1 := Lib.hid ha1
  have Ha2 := Lib.hid ha2
  have Hb1 := Lib.hid hb1
  have Hb2 := Lib.hid hb2
  have Hmu := Lib.hid hmu
  have Hmv := Lib.hid hmv
  have He1 := Lib.hid he1
  have He2 := Lib.hid he2
  have Hxa := Lib.hid hxa
  have Hya := Lib.hid hya
  clear hv ha1 ha2 hb1 hb2 hmu hmv he1 he2 hxa hya
  go_enter Try.func16, Try.ntmps16
  have HB := Lib.hid (Below.refl w.heap.size w)
  go_wp2_with fail
  refine Calls.mono (fvalid_any _ _ Hv.out) ?_
  rintro e w1 ⟨v1, rfl, rfl, hb⟩
  have HB := Lib.hid (below_call HB.out hb)
  clear hb
  go_wp2_with fail
  refine Calls.mono (val_of (mag_any x _ Ha1.out Ha2.out) (by rw [Hxa.out])) ?_
  rintro e w2 ⟨v2, rfl, rfl, hb⟩
  have HB := Lib.hid (below_call HB.out hb)
  clear hb
  go_wp2_with fail
  refine Calls.mono (val_of (mag_any y _ Hb1.out Hb2.out) (by rw [Hya.out])) ?_
  rintro e w3 ⟨v3, rfl, rfl, hb⟩
  have HB := Lib.hid (below_call HB.out hb)
  clear hb
  go_wp2_with fail
  refine Calls.mono (val_of (mul64_any A M Hmu.out Hmv.out _) (by rw [He1.out, He2.out])) ?_
  rintro e w4 ⟨v4, rfl, rfl, hb⟩
  have HB := Lib.hid (below_call HB.out hb)
  clear hb
  go_wp2
  exact ret_tt rfl rfl rfl rfl rfl HB.out


end Go.Proofs.Ytfffehmkohcgcaa
