/- PROVED HERE: the statement RationalCanonSaid: for every input the law relucertlaw03.RationalCanon of the given program returns true, and the input reads as it did. Conditions: none beyond the statement's own. -/
import Derived.Test.YtfkjhaniglmejaaRows
import Derived.WalkKit
import Derived.ProofKit
import Derived.OpenShut
import Derived.ShutString
import Derived.ChangeOld
import Derived.Below
import Derived.Test.YtfkjhaniglmejaaRatO
namespace Go.Proofs.Ytfkjhaniglmejaa.rationalCanon
open Go.ChangeShapes Go.WideShapes Go.ChangeAt Go.RowKit
open Go.ChangeMaps (open_string shut_string)
set_option linter.unusedVariables false

theorem own : ownKnob Try.prog.godebug = none := by kernel_rfl
theorem laidOut : laidOutB Try.prog = true := by kernel_rfl

theorem walk (b0 : Bool) (a0 : Option Addr) (n0 c0 : Nat) (d0 : Option Addr) (m0 e0 : Nat) (w : World) (w0 : Row w (.slice a0 n0 c0) n0) (x0 : Row w (.slice d0 m0 e0) m0) :
    Calls Try.prog 10 #[.agg #[.bool b0, .slice a0 n0 c0, .slice d0 m0 e0]] w fun e w' => e = .returned (.bool true) ∧ Below w.heap.size w w' :=
  (RationalCanon_all _ _ _ _ _ _ _ w w0 x0).mono fun e w' h => ret_post h

set_option maxRecDepth 100000 in
theorem lifted (os : Os) (started : os.Started) (H : Type) (enc : TypeId × Value → H) :
    ReturnsInHanded {} Try.checked os 10 .any (Rows.rationalCanonSpec.pre6 enc Try.prog Try.f10 Rows.rationalCanonRow.domain false) (Rows.rationalCanonSpec.post enc Try.prog Try.f10 false true false false) := by
  refine returnsInHanded_of_change (C := Try.checked) own started (by kernel_rfl) Try.func10
    (ChangeSpec.witness6 (enc := enc) (C := Try.checked) false ⟨#[], #[.agg #[.bool false, .slice none 0 0, .slice none 0 0]], []⟩ 8 (by kernel_rfl) (by kernel_rfl) (by kernel_rfl) (by kernel_rfl)) ?_
  intro W base args ds gs before hval0 hW hcnd _
  have hval : ∀ (j : Nat) t v, Try.f10.params[j]? = some t → args[j]? = some v → Value.okWide Try.prog W .any base t v := hval0
  have hW' := hW
  obtain ⟨p, q, hA0, hV, rfl, hfz, hnd⟩ := hW
  have hA : DataW.TrodAll enc Try.prog W 0 (fun _ => true) true Try.f10.params.toList args.toList ds p := hA0
  rw [Try.params10] at hA hval
  obtain ⟨v0, vs0, d0, ds0, p0, q0, hargs, rfl, rfl, h0, r0⟩ := trodAll_cons hA
  obtain ⟨rfl, rfl, rfl⟩ := trodAll_nil r0
  obtain rfl : args = #[v0] := by cases args; simp_all
  obtain ⟨rfl, rfl⟩ := trodVars_none hV
  have k0 := h0
  have lt0 : ∀ x ∈ p0, x.block < W.heap.size := by obtain ⟨m, hm⟩ := k0; exact DataW.trod_lt m _ _ _ hm
  obtain ⟨b0, a0, n0, c0, d0, m0, e0, rfl, w0, x0⟩ := open_Rat (hval 0 25 v0 rfl rfl) h0
  clear hA0 hval0
  refine (walk b0 a0 n0 c0 d0 m0 e0 W w0 x0).mono fun e W' ⟨he, bel⟩ => ?_
  subst he
  exact ⟨_, rfl, _, _, _, [], _, [], hW', trodAll_mk1 (shut_bool Try.underlying4 _), (trodAll_cons_mk (Below.trod laidOut (by kernel_rfl) (of_decide_eq_true (by kernel_rfl)) k0 bel lt0) trodAll_mk0), rfl, bel.frame _, fun h => by cases h⟩

theorem over : Rows.rationalCanonRow.holds Try.pinned (OpenSpec.ofChange Rows.rationalCanonSpec) :=
  OpenClaim.holds_of_wide 10 Try.f10 rfl rfl rfl rfl rfl rfl rfl ⟨rfl, rfl, rfl, rfl, rfl⟩ rfl rfl rfl rfl rfl (by kernel_rfl) Try.func10 (by kernel_rfl)
    (of_decide_eq_true (by kernel_rfl)) (by unfold Func.isWrapper; first | (rw [if_pos (by decide +kernel)]; kernel_rfl) | (rw [if_neg (by decide +kernel)]; exact ⟨rfl, rfl⟩))
    (fun os started H enc _ => lifted os started H enc)

theorem proved : Rows.RationalCanonSaid := over
#print axioms proved
end Go.Proofs.Ytfkjhaniglmejaa.rationalCanon
