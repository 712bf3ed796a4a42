/- Walks over package natural, eighth part: estimate. -/
import Derived.Test.YtfkjhaniglmejaaNatH
import Derived.Test.YtfkjhaniglmejaaNumD
namespace Go.Proofs.Ytfkjhaniglmejaa
open Go.RowKit Nt

/-- estimate's answer: the limb of the quotient, or one more. -/
def Estd (U V : Nat) (_ : World) (v : Value) : Prop := ∃ q : Nat, v = .int .u64 (q : Int) ∧ U / V ≤ q ∧ q ≤ U / V + 1

set_option maxRecDepth 100000 in
set_option maxHeartbeats 1000000 in
theorem estimate_any (u v : Value) (us vs : List Nat) (n : Nat) (w : World) (h : Sl w u us) (h' : Sl w v vs) (hul : us.length = n + 1) (hvl : vs.length = n) (hn2 : 2 ≤ n)
    (hnorm : 2147483648 ≤ vs.getD (n - 1) 0) (hlt : val us < 4294967296 * val vs) :
    Calls Try.prog 105 #[u, v] w (Ret w (Estd (val us) (val vs))) := by
  have E := est_of (m := n - 2) h.lims h'.lims (by omega) (by omega) (by rw [show n - 2 + 1 = n - 1 by omega]; exact hnorm) hlt
  rw [show n - 2 + 1 = n - 1 by omega, show n - 2 + 2 = n by omega] at E
  obtain ⟨ad, k, cap, rfl, hk, hnc, hm, ha, hs⟩ := h
  obtain ⟨ad', k', cap', rfl, hk', hnc', hm', hb, hs'⟩ := h'
  obtain ⟨b, off, rfl, hbw, hc⟩ := hs (by omega)
  obtain ⟨b', off', rfl, hbw', hc'⟩ := hs' (by omega)
  have a1 := hc n (by omega)
  have a2 := hc (n - 1) (by omega)
  have a3 := hc (n - 2) (by omega)
  have a4 := hc' (n - 1) (by omega)
  have a5 := hc' (n - 2) (by omega)
  have hkn : n < k := by omega
  have hkn' : k' ≤ n := by omega
  obtain rfl : k' = n := by omega
  clear hs hs' hc hc' hk hk' hnorm hlt ha hb hul hvl
  generalize val (us.take (k' - 2)) = lu at *
  generalize val (vs.take (k' - 2)) = lv at *
  generalize 4294967296 ^ (k' - 2) = L at *
  generalize us.getD k' 0 = u1 at *
  generalize us.getD (k' - 1) 0 = u2 at *
  generalize us.getD (k' - 2) 0 = u3 at *
  generalize vs.getD (k' - 1) 0 = v1 at *
  generalize vs.getD (k' - 2) 0 = v2 at *
  generalize val us = U at *
  generalize val vs = V at *
  have HE := Lib.hid E
  have hb1 := E.b1
  have hb2 := E.b2
  have hb3 := E.b3
  have hc1 := E.c1
  have hc2 := E.c2
  have hv1 := E.norm
  have HI := Lib.hid E.init
  have hq := E.init.2.2
  have ho : bits .or .u64 ((u1 : Int) * 4294967296) (u2 : Int) = ((u2 + 4294967296 * u1 : Nat) : Int) := or_high' hb2 hb1
  obtain ⟨T, hT⟩ : ∃ T, T = u2 + 4294967296 * u1 := ⟨_, rfl⟩
  rw [← hT] at ho HI hq
  have hT0 : T < 18446744073709551616 := by omega
  have HT := Lib.hid hT
  have hr : T % v1 < 4294967296 := Nat.lt_of_lt_of_le (Nat.mod_lt _ (by omega)) (by omega)
  have HW : Hid (IntKind.u64.wrap ((T : Int) / (v1 : Int)) = ((T / v1 : Nat) : Int)) := Lib.hid (by
    have e : (T : Int) / (v1 : Int) = ((T / v1 : Nat) : Int) := by simp
    rw [e, wrap_u64]
    generalize T / v1 = Q at hq ⊢
    omega)
  have Hr := Lib.hid hr
  have Hq := Lib.hid hq
  clear E hT hr hq
  go_enter Try.func105, Try.ntmps105
  go_wp2_with fail
  go_quiet (fail)
  go_wp2_with fail
  go_quiet (fail)
  go_wp2_with fail
  clear ho
  go_loopw [7, 8] (fun q r wr => ∃ Q R : Nat, q = .int .u64 (Q : Int) ∧ r = .int .u64 (R : Int) ∧ R < 4294967296 ∧ Q ≤ 4294967297 ∧ Hid (EstInv u1 u2 v1 U V Q R) ∧ Below w.heap.size w wr) (fun q _ _ => (intOf q).toNat)
  case atStart => exact ⟨_, _, congrArg (Value.int .u64) HW.out, congrArg (Value.int .u64) (Int.natCast_emod T v1).symm, Hr.out, Hq.out, HI, below_drewN (below_drewN (Below.refl _ _) _) _⟩
  case round =>
    obtain ⟨q, r, rfl, rfl, hr, hq, Hi, hbl⟩ := hrel
    have d3 := (hbl.cell (p := ⟨b, off + (k' - 2), none⟩) hbw).trans a3
    have d4 := (hbl.cell (p := ⟨b', off' + (k' - 1), none⟩) hbw').trans a4
    have d5 := (hbl.cell (p := ⟨b', off' + (k' - 2), none⟩) hbw').trans a5
    clear a1 a2 a3 a4 a5
    have D4 := Lib.hid d4; clear d4
    have HR : Hid (r * 4294967296 + u3 < 18446744073709551616) := Lib.hid (by omega)
    by_cases hqB : 4294967296 ≤ q
    · have HS := Lib.hid (HE.out.step Hi.out (Or.inl hqB))
      have hq1 := HS.out.1
      have hv1 := HE.out.norm
      have FIN : ∀ (h : 4294967296 ≤ r + v1), q - 1 ≤ U / V + 1 := fun h => HE.out.done HS.out.2 (by
        have h1 : (q - 1) * v2 ≤ 4294967296 * 4294967295 := Nat.mul_le_mul (by omega) (by omega)
        omega)
      have HL := Lib.hid HS.out.2.2.1
      have ht : decide ((4294967296 : Int) ≤ (q : Int)) = true := by simp; omega
      clear hb1 hb2 hb3 hc2 hv1 hT0 d3 d5 hqB
      by_cases hbr : 4294967296 ≤ r + v1
      · have HF := Lib.hid (FIN hbr)
        have ht2 : decide ((4294967296 : Int) ≤ (r : Int) + (v1 : Int)) = true := by simp; omega
        clear hbr FIN
        go_wp2_with fail
        go_quiet (fail)
        clear ht 
        have d4 := D4.out
        go_wp2
        go_ret
        exact ⟨_, rfl, ⟨q - 1, congrArg (Value.int .u64) (by omega), HL.out, HF.out⟩, below_drewN hbl _⟩
      · have Hbr := Lib.hid hbr
        have ht2 : decide ((4294967296 : Int) ≤ (r : Int) + (v1 : Int)) = false := by simp; omega
        clear hbr FIN
        go_wp2_with fail
        go_quiet (fail)
        clear ht 
        have d4 := D4.out
        go_wp2
        go_roundw
        case rel => exact ⟨q - 1, r + v1, congrArg (Value.int .u64) (by omega), congrArg (Value.int .u64) (by omega), by have := Hbr.out; omega, by omega, Lib.hid HS.out.2, below_drewN hbl _⟩
        case measure => simp [intOf] <;> omega
    · have ht : decide ((4294967296 : Int) ≤ (q : Int)) = false := by simp; omega
      have hm := mul_bound (x := q) (y := v2) (by omega) (by omega)
      have ho : bits .or .u64 ((r : Int) * 4294967296) (u3 : Int) = ((u3 + 4294967296 * r : Nat) : Int) := or_high' hb3 hr
      obtain ⟨X, hX⟩ : ∃ X, X = u3 + 4294967296 * r := ⟨_, rfl⟩
      rw [← hX] at ho
      have hcast : ((q * v2 : Nat) : Int) = (q : Int) * (v2 : Int) := Int.natCast_mul q v2
      by_cases hgt : X < q * v2
      · have HS := Lib.hid (HE.out.step Hi.out (Or.inr (by omega)))
        have hq1 := HS.out.1
        have FIN : ∀ (h : 4294967296 ≤ r + v1), q - 1 ≤ U / V + 1 := fun h => HE.out.done HS.out.2 (by
          have h1 : (q - 1) * v2 ≤ 4294967296 * 4294967295 := Nat.mul_le_mul (by omega) (by omega)
          omega)
        have HL := Lib.hid HS.out.2.2.1
        have ht3 : decide ((X : Int) < (q : Int) * (v2 : Int)) = true := by simp; omega
        clear hb1 hb2 hv1 hT0 hqB hgt hcast hX
        by_cases hbr : 4294967296 ≤ r + v1
        · have HF := Lib.hid (FIN hbr)
          have ht2 : decide ((4294967296 : Int) ≤ (r : Int) + (v1 : Int)) = true := by simp; omega
          clear hbr FIN
          go_wp2_with fail
          go_quiet (fail)
          clear ht ht3 hm ho d3 d5 hb3 hc2
          have d4 := D4.out
          go_wp2
          go_ret
          exact ⟨_, rfl, ⟨q - 1, congrArg (Value.int .u64) (by omega), HL.out, HF.out⟩, below_drewN hbl _⟩
        · have Hbr := Lib.hid hbr
          have ht2 : decide ((4294967296 : Int) ≤ (r : Int) + (v1 : Int)) = false := by simp; omega
          clear hbr FIN
          go_wp2_with fail
          go_quiet (fail)
          clear ht ht3 hm ho d3 d5 hb3 hc2
          have d4 := D4.out
          go_wp2
          go_roundw
          case rel => exact ⟨q - 1, r + v1, congrArg (Value.int .u64) (by omega), congrArg (Value.int .u64) (by omega), by have := Hbr.out; omega, by omega, Lib.hid HS.out.2, below_drewN hbl _⟩
          case measure => simp [intOf] <;> omega
      · have HD := Lib.hid (HE.out.done Hi.out (by omega))
        have HL := Lib.hid Hi.out.2.1
        have ht3 : decide ((X : Int) < (q : Int) * (v2 : Int)) = false := by simp; omega
        clear hb1 hb2 hv1 hT0 hqB hgt hcast hX
        go_wp2_with fail
        go_quiet (fail)
        clear ht ht3 hm ho d3 d5 hb3 hc2
        go_wp2
        go_ret
        exact ⟨_, rfl, ⟨q, rfl, HL.out, HD.out⟩, below_drewN hbl _⟩

end Go.Proofs.Ytfkjhaniglmejaa
