/- Texts RatG Spl RatH RatI RatJ ShelR, in this order. -/
import Derived.Test.YtikglhmabidjoaaGreatDoorCd
import Derived.ProofKit
import Derived.OpenShut
import Derived.ShutString
import Derived.ChangeOld
import Derived.Lib.SmallJoins
namespace Go.Proofs.YtikglhmabidjoaaGreatDoor
open Go.RowKit Nt
set_option linter.unusedVariables false
theorem Box.c1 {w : World} {g : Nat} {t : TypeId} {x : Value} (h : Box w g t #[x]) : w.cell? ⟨g, 0, none⟩ = some x ∧ w.frozen? ⟨g, 0, none⟩ = false := ⟨h.cell 0 rfl, h.free 0⟩
theorem Is.ofbox {w : World} {g : Nat} {t : TypeId} (h : Box w g t #[.int .u32 1]) : Is 1 1 w (.slice (some ⟨g, 0, none⟩) 1 1) := by
  refine ⟨[1], ⟨_, _, _, rfl, rfl, Nat.le_refl _, by decide, ?_, fun _ => ⟨g, 0, rfl, h.lt, fun i hi => ?_⟩⟩, by simp [val], by simp⟩
  · intro x hx; simp at hx; omega
  · obtain rfl : i = 0 := by omega
    exact h.c1.1
end Go.Proofs.YtikglhmabidjoaaGreatDoor
namespace Go.Proofs.YtikglhmabidjoaaGreatDoor
open Go.RowKit Nt
set_option linter.unusedVariables false
theorem add_int (t : Rat) (f : Int) : (t + (f : Rat)).num = t.num + f * t.den ∧ (t + (f : Rat)).den = t.den := by
  have hc : (t.num + f * t.den).natAbs.Coprime t.den := by
    have h1 : t.num.gcd (t.den : Int) = 1 := t.reduced
    have h2 : (t.num + f * t.den).gcd (t.den : Int) = 1 := by rw [Int.gcd_add_mul_right_left]; exact h1
    exact h2
  have h : t + (f : Rat) = ⟨t.num + f * t.den, t.den, t.den_nz, hc⟩ := by
    rw [Rat.mk_eq_mkRat]
    have h1 : (f : Rat) = mkRat f 1 := by rw [mkRat_one]
    rw [h1]
    conv => lhs; rw [← Rat.mkRat_self t]
    rw [Rat.mkRat_add_mkRat _ _ t.den_nz (by decide)]
    simp
  rw [h]
  exact ⟨rfl, rfl⟩
theorem num_pos' {t : Rat} (h : 0 < t) : 0 < t.num := by
  rw [Rat.lt_iff] at h
  simpa using h
theorem one_div_parts {t : Rat} (h : 0 < t) : (1 / t).num = t.den ∧ (1 / t).den = t.num.natAbs ∧ 0 < 1 / t := by
  have hp := num_pos' h
  have e : 1 / t = t⁻¹ := by rw [Rat.div_def, Rat.one_mul]
  rw [e]
  refine ⟨by rw [Rat.num_inv, Int.sign_eq_one_of_pos hp]; omega, by rw [Rat.den_inv, if_neg (by omega)], Rat.inv_pos.2 h⟩
theorem le_num {a b : Rat} (h : a ≤ b) : a.num * b.den ≤ b.num * a.den := (Rat.le_iff a b).1 h
def spl : Nat → Rat → Rat → Rat
  | 0, lo, _ => lo
  | n + 1, lo, hi => if (lo.floor : Rat) = lo then (lo.floor : Rat) else if (lo.floor : Rat) + 1 ≤ hi then (lo.floor : Rat) + 1 else
      (lo.floor : Rat) + 1 / spl n (1 / (hi - (lo.floor : Rat))) (1 / (lo - (lo.floor : Rat)))
structure Down (lo hi : Rat) : Prop where
  f0 : 0 ≤ lo.floor
  a : 0 < hi - (lo.floor : Rat)
  b : 0 < lo - (lo.floor : Rat)
  le : lo - (lo.floor : Rat) ≤ hi - (lo.floor : Rat)
  a1 : (hi - (lo.floor : Rat)).num < hi.den
  b1 : (lo - (lo.floor : Rat)).num < lo.den
  ad : (hi - (lo.floor : Rat)).den = hi.den
  bd : (lo - (lo.floor : Rat)).den = lo.den
theorem one_div_le {a b : Rat} (h : 0 < a) (h' : a ≤ b) : 1 / b ≤ 1 / a := by
  have hb : 0 < b := by grind
  have h1 := one_div_parts h
  have h2 := one_div_parts hb
  have p1 := num_pos' h
  have p2 := num_pos' hb
  rw [Rat.le_iff, h1.1, h1.2.1, h2.1, h2.2.1]
  have := le_num h'
  rw [show ((a.num.natAbs : Nat) : Int) = a.num by omega, show ((b.num.natAbs : Nat) : Int) = b.num by omega]
  rw [Int.mul_comm (b.den : Int), Int.mul_comm (a.den : Int)]
  exact this
theorem Down.inv {lo hi : Rat} (d : Down lo hi) : 0 < 1 / (hi - (lo.floor : Rat)) ∧ 1 / (hi - (lo.floor : Rat)) ≤ 1 / (lo - (lo.floor : Rat)) :=
  ⟨(one_div_parts d.a).2.2, one_div_le d.b d.le⟩
theorem back {y : Rat} (f : Int) (h : 0 < y) : ((f : Rat) + 1 / y).den = y.num.natAbs ∧ ((f : Rat) + 1 / y).num = y.den + f * y.num := by
  have h1 := one_div_parts h
  have h2 := add_int (1 / y) f
  have hp := num_pos' h
  rw [Rat.add_comm, h2.1, h2.2, h1.1, h1.2.1]
  exact ⟨rfl, by rw [show ((y.num.natAbs : Nat) : Int) = y.num by omega]⟩
theorem Down.sm {L : Nat} {lo hi : Rat} (d : Down lo hi) (h : Sm L lo) (h' : Sm L hi) : Sm L (1 / (hi - (lo.floor : Rat))) ∧ Sm L (1 / (lo - (lo.floor : Rat))) := by
  have h1 := one_div_parts d.a
  have h2 := one_div_parts d.b
  have a1 := d.a1; have b1 := d.b1; have p1 := num_pos' d.a; have p2 := num_pos' d.b
  unfold Sm at *
  rw [h1.1, h1.2.1, h2.1, h2.2.1, d.ad, d.bd]
  simp only [Int.natAbs_natCast]
  exact ⟨⟨h'.2, Nat.le_trans (sz_mono (by omega)) h'.2⟩, ⟨h.2, Nat.le_trans (sz_mono (by omega)) h.2⟩⟩
end Go.Proofs.YtikglhmabidjoaaGreatDoor
namespace Go.Proofs.YtikglhmabidjoaaGreatDoor
open Go.RowKit Nt
set_option linter.unusedVariables false
end Go.Proofs.YtikglhmabidjoaaGreatDoor
namespace Go.Proofs.YtikglhmabidjoaaGreatDoor
open Go.RowKit Nt
set_option linter.unusedVariables false
def smp (lo hi : Rat) : Rat := if lo ≤ 0 ∧ 0 ≤ hi then 0 else if hi < 0 then -(spl ((-hi).den + (-lo).den) (-hi) (-lo)) else spl (lo.den + hi.den) lo hi
end Go.Proofs.YtikglhmabidjoaaGreatDoor
namespace Go.Proofs.YtikglhmabidjoaaGreatDoor
open Go.RowKit Nt
set_option linter.unusedVariables false
end Go.Proofs.YtikglhmabidjoaaGreatDoor
namespace Go.Proofs.YtikglhmabidjoaaGreatDoor
open Go.RowKit Go.ChangeShapes Go.WideShapes Nt
theorem wf_i64 {n : Int} (h : (Lit.int .i64 n).wf = true) : -9223372036854775808 ≤ n ∧ n < 9223372036854775808 := by
  simp [Lit.wf, IntKind.min, IntKind.max, IntKind.signed, IntKind.bits] at h
  omega
theorem Row.ar {w : World} {b : Bool} {a d : Option Addr} {n c m e : Nat} (h : Row w (.slice a n c) n) (h' : Row w (.slice d m e) m) (L : Nat) (hn : n ≤ L) (hm : m ≤ L) (hL : L ≤ 1099511627776) :
    ∃ q, AR q L w (.agg #[.bool b, .slice a n c, .slice d m e]) := by
  obtain ⟨X, hX⟩ := h.is L hn hL
  obtain ⟨Y, hY⟩ := h'.is L hm hL
  exact ⟨_, AR.mk hX hY⟩
end Go.Proofs.YtikglhmabidjoaaGreatDoor
