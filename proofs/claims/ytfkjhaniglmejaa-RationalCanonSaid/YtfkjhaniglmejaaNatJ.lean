/- Walks over package natural, ninth part: reduce. -/
import Derived.Test.YtfkjhaniglmejaaNatI
import Derived.Test.YtfkjhaniglmejaaNumE
namespace Go.Proofs.Ytfkjhaniglmejaa
open Go.RowKit Nt

/-- Nothing but block b has turned; no block is new. -/
structure Chg (b : Nat) (w w' : World) : Prop where
  os : w'.os = w.os
  tape : w'.tape = w.tape
  output : w'.output = w.output
  size : w'.heap.size = w.heap.size
  block : ∀ k, k ≠ b → w'.heap[k]? = w.heap[k]?

theorem Chg.refl (b : Nat) (w : World) : Chg b w w := ⟨rfl, rfl, rfl, rfl, fun _ _ => rfl⟩
theorem Chg.setCell {b i : Nat} {w w' : World} (h : Chg b w w') (u : Value) : Chg b w (w'.setCell ⟨b, i, none⟩ u) :=
  ⟨h.os, h.tape, h.output, by simpa using h.size, fun k hk => (Below.heap_setCell w' ⟨b, i, none⟩ u k hk).trans (h.block k hk)⟩
theorem Chg.trans {b : Nat} {w w' w2 : World} (h : Chg b w w') (h' : Chg b w' w2) : Chg b w w2 :=
  ⟨h'.os.trans h.os, h'.tape.trans h.tape, h'.output.trans h.output, h'.size.trans h.size, fun k hk => (h'.block k hk).trans (h.block k hk)⟩
theorem Chg.cell {b : Nat} {w w' : World} (h : Chg b w w') {p : Addr} (hp : p.block ≠ b) : w'.cell? p = w.cell? p := World.cell?_of_block (w := w) (h.block p.block hp)
theorem Chg.below {b B : Nat} {w w' : World} (h : Chg b w w') (hB : B ≤ b) : Below B w w' :=
  ⟨h.os, h.tape, h.output, Nat.le_of_eq h.size.symm, fun k hk => h.block k (by omega)⟩

/-- What reduce leaves: the quotient's limb, and the rest in place of the number. -/
def Reduced (b i : Nat) (os vs : List Nat) (w : World) (e : Ending) (w' : World) : Prop :=
  ∃ os', e = .returned (.int .u32 ((val (os.drop i) / val vs : Nat) : Int)) ∧ Arr w' b os' ∧ lims os' ∧ os'.length = os.length ∧ val os' + 4294967296 ^ i * (val (os.drop i) / val vs * val vs) = val os ∧ Chg b w w'

theorem redA_stepI {i k q c bw d u : Nat} {os os' vs : List Nat} (h : redA i k q c bw os os' vs) (hik : i + k < os.length) (hq : q ≤ 4294967296) (hv : lims vs)
    (hd : d = vs.getD k 0) (hu : u = os'.getD (i + k) 0) (Z S : Int) (hZ : Z = (c : Int) + (q : Int) * (d : Int)) (hS : S = IntKind.u64.wrap (IntKind.u64.wrap ((u : Int) - Z % 4294967296) - (bw : Int))) :
    redA i (k + 1) q (Z / 4294967296).toNat (S / 9223372036854775808).toNat os (os'.set (i + k) (S % 4294967296).toNat) vs := by
  have hu1 := lims_getD h.2.1 (i + k)
  have hb1 := h.2.2.2.1
  rw [← hu] at hu1
  obtain ⟨z, hz⟩ : ∃ z, z = c + q * d := ⟨_, rfl⟩
  have hZz : Z = (z : Int) := by rw [hZ, hz]; simp
  have e1 : (Z / 4294967296).toNat = z / 4294967296 := by omega
  simp only [wrap_u64] at hS
  rw [e1]
  exact redA_step h hik hq hv hd hu hz (by omega) (by omega) (by omega)

theorem redB_stepI {i k c d u : Nat} {os os' vs : List Nat} (h : redB i k c os os' vs) (hik : i + k < os.length) (hv : lims vs)
    (hd : d = vs.getD k 0) (hu : u = os'.getD (i + k) 0) (Z : Int) (hZ : Z = (c : Int) + ((u : Int) + (d : Int))) :
    redB i (k + 1) (Z / 4294967296).toNat os (os'.set (i + k) (Z % 4294967296).toNat) vs := by
  have e1 : (Z / 4294967296).toNat = (c + (u + d)) / 4294967296 := by omega
  have e2 : (Z % 4294967296).toNat = (c + (u + d)) % 4294967296 := by omega
  rw [e1, e2]
  exact redB_step h hik hv hd hu rfl

set_option maxRecDepth 100000 in
set_option maxHeartbeats 1000000 in
theorem reduce_any (b i capu n q : Nat) (v : Value) (bv ov capv : Nat) (os vs : List Nat) (w : World) (hv : v = .slice (some ⟨bv, ov, none⟩) n capv) (hA : Arr w b os) (hne : bv ≠ b)
    (hvc : ∀ j, j < n → w.cell? ⟨bv, ov + j, none⟩ = some (.int .u32 ((vs.getD j 0 : Nat) : Int))) (R : Red i n q os vs) (hq : q ≤ 4294967296) (hn : n ≤ 8589934592) (hn0 : 0 < n) :
    Calls Try.prog 104 #[.slice (some ⟨b, i, none⟩) (n + 1) capu, v, .int .u64 (q : Int)] w (Reduced b i os vs w) := by
  subst hv
  have HR := Lib.hid R
  have hlen := R.len
  have Hvc := Lib.hid hvc
  have HA := Lib.hid hA
  clear R hvc hA
  go_enter Try.func104, Try.ntmps104
  go_wp2
  go_loopw [7, 8, 17] (fun cy bo j wr => ∃ k c bw os', k ≤ n ∧ j = .int .i64 ((k : Nat) : Int) ∧ cy = .int .u64 ((c : Nat) : Int) ∧ bo = .int .u64 ((bw : Nat) : Int) ∧ Arr wr b os' ∧ Hid (redA i k q c bw os os' vs) ∧ Chg b w wr) (fun _ _ j _ => n - (intOf j).toNat)
  case atStart => exact ⟨0, 0, 0, os, Nat.zero_le _, rfl, rfl, rfl, HA.out, Lib.hid (redA_zero HR.out.los), Chg.refl _ _⟩
  case round =>
    obtain ⟨k, c, bw, os', hk, rfl, rfl, rfl, hA, Hs, hch⟩ := hrel
    have ⟨hol, hos, hcb, hbw, _⟩ := Hs.out
    have Ol := Lib.hid hol; clear hol
    by_cases hkn : k < n
    · have c1 := (hch.cell (p := ⟨bv, ov + k, none⟩) hne).trans (Hvc.out k hkn)
      have bd := lims_getD HR.out.lvs k
      have bu := lims_getD hos (i + k)
      have c3 := hA.cell (i + k) (by rw [Ol.out]; omega)
      have c4 := hA.frozen (i + k)
      obtain ⟨d, hd⟩ : ∃ d, d = vs.getD k 0 := ⟨_, rfl⟩
      obtain ⟨u, hu⟩ : ∃ u, u = os'.getD (i + k) 0 := ⟨_, rfl⟩
      rw [← hd] at c1 bd
      rw [← hu] at c3 bu
      have hqd := mul_bound' hq bd
      have Hd := Lib.hid hd; clear hd
      have Hu := Lib.hid hu; clear hu hos
      go_wp2
      go_roundw
      case rel =>
        exact ⟨k + 1, _, _, _, by omega, by go_num, congrArg (Value.int .u64) (Int.toNat_of_nonneg (by omega)).symm, congrArg (Value.int .u64) (Int.toNat_of_nonneg (by simp only [wrap_u64]; omega)).symm, hA.setI (i + k) _ (by omega), Lib.hid (redA_stepI Hs.out (by omega) hq HR.out.lvs Hd.out Hu.out _ _ rfl rfl), hch.setCell _⟩
      case measure => simp [intOf] <;> omega
    · obtain rfl : k = n := by omega
      have c3 := hA.cell (i + k) (by rw [Ol.out]; omega)
      have c4 := hA.frozen (i + k)
      have hkeep : os'.getD (i + k) 0 = os.getD (i + k) 0 := Hs.out.2.2.2.2.1 (i + k) (Nat.le_refl _)
      have bu := lims_getD HR.out.los (i + k)
      rw [hkeep] at c3
      obtain ⟨u, hu⟩ : ∃ u, u = os.getD (i + k) 0 := ⟨_, rfl⟩
      rw [← hu] at c3 bu
      have Hu := Lib.hid hu; clear hu hkeep hos
      by_cases hge : c + bw ≤ u
      · have ht : ((((u : Int) - (c : Int) - (bw : Int)) / 9223372036854775808) == 0) = true := by rw [beq_iff_eq]; omega
        have hY := Lib.hid (redA_yes HR.out Hs.out (x := u - c - bw) (by rw [← Hu.out]; omega))
        have HQ : Hid ((q : Int) % 4294967296 = ((val (os.drop i) / val vs : Nat) : Int)) := Lib.hid (by
          have h1 := HR.out.qlt
          rw [← hY.out.1] at h1 ⊢
          omega)
        go_wp2
        go_ret
        refine ⟨_, by show Ending.returned (Value.int _ _) = _; rw [HQ.out], ?_, hY.out.2.1, hY.out.2.2.1, ?_, hch.setCell _⟩
        · have := hA.setI (i + k) ((u : Int) - (c : Int) - (bw : Int)) (by omega)
          rwa [show ((u : Int) - (c : Int) - (bw : Int)).toNat = u - c - bw by omega] at this
        · have := hY.out.2.2.2; have h2 := hY.out.1; rw [← h2]; exact this
      · have hno := redA_no HR.out Hs.out (by rw [← Hu.out]; omega)
        have hx : IntKind.u64.wrap (IntKind.u64.wrap ((u : Int) - (c : Int)) - (bw : Int)) = 18446744073709551615 := by
          have := hno.2
          rw [← Hu.out] at this
          simp only [wrap_u64]; omega
        have HN := Lib.hid hno; clear hno
        have hq1 : 1 ≤ q := by rw [HN.out.1]; exact Nat.succ_pos _
        have Hge := Lib.hid hge; clear hge
        have hA1 : Arr (wr.setCell ⟨b, i + k, none⟩ (.int .u32 4294967295)) b (os'.set (i + k) 4294967295) := hA.set (i + k) 4294967295
        have HA1 := Lib.hid hA1; clear hA1
        obtain ⟨wo, hwo⟩ : ∃ wo : World, wo = wr.setCell ⟨b, i + k, none⟩ (.int .u32 4294967295) := ⟨_, rfl⟩
        have hch1 : Chg b w wo := by rw [hwo]; exact hch.setCell _
        go_wp2_with fail
        rw [← hwo] at HA1 ⊢
        clear hwo
        go_loopw [7, 72] (fun cy j wr => ∃ m c2 os2, m ≤ k ∧ j = .int .i64 ((m : Nat) : Int) ∧ cy = .int .u64 ((c2 : Nat) : Int) ∧ Arr wr b os2 ∧ Hid (redB i m c2 (os'.set (i + k) 4294967295) os2 vs) ∧ Chg b w wr) (fun _ j _ => k - (intOf j).toNat)
        case atStart => exact ⟨0, 0, _, Nat.zero_le _, rfl, rfl, HA1.out, Lib.hid (redB_zero (lims_set Hs.out.2.1 _ _ (by decide))), hch1⟩
        case round =>
          clear hA c3 c4 hx hch hch1
          obtain ⟨m, c2, os2, hm, rfl, rfl, hA2, Hs2, hch⟩ := hrel
          have ⟨hol2, hos2, hcb2, hkeep2, _⟩ := Hs2.out
          have Ol2 : Hid (os2.length = os.length) := Lib.hid (by rw [hol2, List.length_set]; exact Ol.out)
          clear hol2
          by_cases hmk : m < k
          · have c1 := (hch.cell (p := ⟨bv, ov + m, none⟩) hne).trans (Hvc.out m hmk)
            have bd := lims_getD HR.out.lvs m
            have bu2 := lims_getD hos2 (i + m)
            have c3 := hA2.cell (i + m) (by rw [Ol2.out]; omega)
            have c4 := hA2.frozen (i + m)
            obtain ⟨d, hd⟩ : ∃ d, d = vs.getD m 0 := ⟨_, rfl⟩
            obtain ⟨u2, hu2⟩ : ∃ u2, u2 = os2.getD (i + m) 0 := ⟨_, rfl⟩
            rw [← hd] at c1 bd
            rw [← hu2] at c3 bu2
            have Hd := Lib.hid hd; clear hd
            have Hu2 := Lib.hid hu2; clear hu2 hos2 hkeep2
            go_wp2
            go_roundw
            case rel =>
              exact ⟨m + 1, _, _, by omega, by go_num, congrArg (Value.int .u64) (Int.toNat_of_nonneg (by omega)).symm, hA2.setI (i + m) _ (by omega), Lib.hid (redB_stepI Hs2.out (by rw [List.length_set, Ol.out]; omega) HR.out.lvs Hd.out Hu2.out _ rfl), hch.setCell _⟩
            case measure => simp [intOf] <;> omega
          · obtain rfl : m = k := by omega
            have hE := redB_end HR.out Hs.out (by rw [← Hu.out]; have := Hge.out; omega) Hs2.out
            obtain ⟨hc2, ht2, hE⟩ := hE
            subst hc2
            have HE := Lib.hid hE; clear hE
            have c3 := hA2.cell (i + m) (by rw [Ol2.out]; omega)
            have c4 := hA2.frozen (i + m)
            rw [ht2] at c3
            clear ht2 hos2 hkeep2
            have HQ : Hid (((q : Int) - 1) = ((val (os.drop i) / val vs : Nat) : Int)) := Lib.hid (by
              have h1 := HR.out.qlt
              have h2 := HN.out.1
              generalize val (os.drop i) / val vs = Q at h1 h2 ⊢
              omega)
            go_wp2
            go_ret
            refine ⟨_, by show Ending.returned (Value.int _ _) = _; rw [HQ.out], ?_, HE.out.1, HE.out.2.1, HE.out.2.2, hch.setCell _⟩
            exact hA2.set (i + m) 0

end Go.Proofs.Ytfkjhaniglmejaa
