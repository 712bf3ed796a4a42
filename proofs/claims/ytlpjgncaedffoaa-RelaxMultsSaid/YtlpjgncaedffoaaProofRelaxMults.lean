/- PROVED HERE: the statement RelaxMultsSaid: for every input the law relucertlaw25.RelaxMults of the given program returns true, and the input reads as it did. Conditions: none beyond the statement's own. -/
import Derived.Test.YtlpjgncaedffoaaRows
import Derived.WalkKit
import Derived.ProofKit
import Derived.OpenShut
import Derived.ShutString
import Derived.ChangeOld
import Derived.Below
import Derived.Test.YtlpjgncaedffoaaDi
namespace Go.Proofs.Ytlpjgncaedffoaa.relaxMults
open Go.ChangeShapes Go.WideShapes Go.ChangeAt Go.RowKit
open Go.ChangeMaps (open_string shut_string)
set_option linter.unusedVariables false

theorem own : ownKnob Try.prog.godebug = none := by kernel_rfl
theorem laidOut : laidOutB Try.prog = true := by kernel_rfl

theorem walk (i0 : Int) (i1 : Int) (i2 : Int) (b3 : Bool) (a3 : Option Addr) (n3 c3 : Nat) (d3 : Option Addr) (m3 e3 : Nat) (b4 : Bool) (a4 : Option Addr) (n4 c4 : Nat) (d4 : Option Addr) (m4 e4 : Nat) (w : World) (w0 : (Lit.int .i64 i0).wf = true) (w1 : (Lit.int .i64 i1).wf = true) (w2 : (Lit.int .i64 i2).wf = true) (w3 : Row w (.slice a3 n3 c3) n3) (x3 : Row w (.slice d3 m3 e3) m3) (w4 : Row w (.slice a4 n4 c4) n4) (x4 : Row w (.slice d4 m4 e4) m4) :
    Calls Try.prog 9 #[.int .i64 i0, .int .i64 i1, .int .i64 i2, .agg #[.bool b3, .slice a3 n3 c3, .slice d3 m3 e3], .agg #[.bool b4, .slice a4 n4 c4, .slice d4 m4 e4]] w fun e w' => e = .returned (.bool true) ∧ Below w.heap.size w w' :=
  (RelaxMults_all _ _ _ _ _ _ _ _ _ _ _ _ _ _ _ _ _ w w3 x3 w4 x4).mono fun e w' h => ret_post h

set_option maxRecDepth 100000 in
theorem lifted (os : Os) (started : os.Started) (H : Type) (enc : TypeId × Value → H) :
    ReturnsInHanded {} Try.checked os 9 .any (Rows.relaxMultsSpec.pre6 enc Try.prog Try.f9 Rows.relaxMultsRow.domain false) (Rows.relaxMultsSpec.post enc Try.prog Try.f9 false true false false) := by
  refine returnsInHanded_of_change (C := Try.checked) own started (by kernel_rfl) Try.func9
    (ChangeSpec.witness6 (enc := enc) (C := Try.checked) false ⟨#[], #[.int .i64 0, .int .i64 0, .int .i64 0, .agg #[.bool false, .slice none 0 0, .slice none 0 0], .agg #[.bool false, .slice none 0 0, .slice none 0 0]], []⟩ 8 (by kernel_rfl) (by kernel_rfl) (by kernel_rfl) (by kernel_rfl)) ?_
  intro W base args ds gs before hval0 hW hcnd _
  have hval : ∀ (j : Nat) t v, Try.f9.params[j]? = some t → args[j]? = some v → Value.okWide Try.prog W .any base t v := hval0
  have hW' := hW
  obtain ⟨p, q, hA0, hV, rfl, hfz, hnd⟩ := hW
  have hA : DataW.TrodAll enc Try.prog W 0 (fun _ => true) true Try.f9.params.toList args.toList ds p := hA0
  rw [Try.params9] at hA hval
  obtain ⟨v0, vs0, d0, ds0, p0, q0, hargs, rfl, rfl, h0, r0⟩ := trodAll_cons hA
  obtain ⟨v1, vs1, d1, ds1, p1, q1, rfl, rfl, rfl, h1, r1⟩ := trodAll_cons r0
  obtain ⟨v2, vs2, d2, ds2, p2, q2, rfl, rfl, rfl, h2, r2⟩ := trodAll_cons r1
  obtain ⟨v3, vs3, d3, ds3, p3, q3, rfl, rfl, rfl, h3, r3⟩ := trodAll_cons r2
  obtain ⟨v4, vs4, d4, ds4, p4, q4, rfl, rfl, rfl, h4, r4⟩ := trodAll_cons r3
  obtain ⟨rfl, rfl, rfl⟩ := trodAll_nil r4
  obtain rfl : args = #[v0, v1, v2, v3, v4] := by cases args; simp_all
  obtain ⟨rfl, rfl⟩ := trodVars_none hV
  obtain ⟨i0, rfl, rfl, rfl, w0⟩ := open_int Try.underlying3 (hval 0 3 v0 rfl rfl) h0
  obtain ⟨i1, rfl, rfl, rfl, w1⟩ := open_int Try.underlying3 (hval 1 3 v1 rfl rfl) h1
  obtain ⟨i2, rfl, rfl, rfl, w2⟩ := open_int Try.underlying3 (hval 2 3 v2 rfl rfl) h2
  have k3 := h3
  have lt3 : ∀ x ∈ p3, x.block < W.heap.size := by obtain ⟨m, hm⟩ := k3; exact DataW.trod_lt m _ _ _ hm
  obtain ⟨b3, a3, n3, c3, d3, m3, e3, rfl, w3, x3⟩ := open_Rat (hval 3 25 v3 rfl rfl) h3
  have k4 := h4
  have lt4 : ∀ x ∈ p4, x.block < W.heap.size := by obtain ⟨m, hm⟩ := k4; exact DataW.trod_lt m _ _ _ hm
  obtain ⟨b4, a4, n4, c4, d4, m4, e4, rfl, w4, x4⟩ := open_Rat (hval 4 25 v4 rfl rfl) h4
  clear hA0 hval0
  refine (walk i0 i1 i2 b3 a3 n3 c3 d3 m3 e3 b4 a4 n4 c4 d4 m4 e4 W w0 w1 w2 w3 x3 w4 x4).mono fun e W' ⟨he, bel⟩ => ?_
  subst he
  exact ⟨_, rfl, _, _, _, [], _, [], hW', trodAll_mk1 (shut_bool Try.underlying4 _), (trodAll_cons_mk (shut_int Try.underlying3 w0) (trodAll_cons_mk (shut_int Try.underlying3 w1) (trodAll_cons_mk (shut_int Try.underlying3 w2) (trodAll_cons_mk (Below.trod laidOut (by kernel_rfl) (of_decide_eq_true (by kernel_rfl)) k3 bel lt3) (trodAll_cons_mk (Below.trod laidOut (by kernel_rfl) (of_decide_eq_true (by kernel_rfl)) k4 bel lt4) trodAll_mk0))))), rfl, bel.frame _, fun h => by cases h⟩

theorem over : Rows.relaxMultsRow.holds Try.pinned (OpenSpec.ofChange Rows.relaxMultsSpec) :=
  OpenClaim.holds_of_wide 9 Try.f9 rfl rfl rfl rfl rfl rfl rfl ⟨rfl, rfl, rfl, rfl, rfl⟩ rfl rfl rfl rfl rfl (by kernel_rfl) Try.func9 (by kernel_rfl)
    (of_decide_eq_true (by kernel_rfl)) (by unfold Func.isWrapper; first | (rw [if_pos (by decide +kernel)]; kernel_rfl) | (rw [if_neg (by decide +kernel)]; exact ⟨rfl, rfl⟩))
    (fun os started H enc _ => lifted os started H enc)

theorem proved : Rows.RelaxMultsSaid := over
#print axioms proved
end Go.Proofs.Ytlpjgncaedffoaa.relaxMults
