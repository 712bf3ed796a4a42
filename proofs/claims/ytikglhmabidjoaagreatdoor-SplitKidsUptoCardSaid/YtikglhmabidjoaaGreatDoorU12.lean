/- PROVED HERE: the statement SplitKidsUptoCardSaid: for every input of bulk at most 1048576 the law relucertlaw38.SplitKids of the given program returns true, and the input reads as it did, where the listed variable reads as the card ties it to the program's text. Conditions: none beyond the statement's own. -/
import Derived.Test.YtikglhmabidjoaaGreatDoorU08
import Derived.Test.YtikglhmabidjoaaGreatDoorU10
import Derived.Test.YtikglhmabidjoaaGreatDoorU11
import Derived.Test.YtikglhmabidjoaaGreatDoorTie
import Derived.Test.YtikglhmabidjoaaGreatDoorCards
import Derived.SevenTiedAt
import Derived.WalkKit
import Derived.ProofKit
import Derived.OpenShut
import Derived.ShutString
import Derived.ChangeOld
import Derived.Below
import Derived.JoinedCond
import Derived.Deep.DeepHandedRow
import Derived.Deep.DeepWitnessRowRef
set_option linter.unusedVariables false
set_option linter.unusedSimpArgs false
set_option maxRecDepth 100000
set_option maxHeartbeats 4000000
namespace Go.Proofs.YtikglhmabidjoaaGreatDoor.Lf
open Go.ChangeShapes Go.WideShapes Go.ChangeAt Go.RowKit
theorem own : ownKnob Tryz.prog.godebug = none := by kernel_rfl
theorem laidOut : laidOutB Tryz.prog = true := by kernel_rfl
abbrev laidL : List (String × DataW Unit) := [("relucert/phase.opposites", Rows.laid_relucert_phase_opposites)]
theorem door_met (os : Os) (args : Array Value) : laidMetH Tryz.prog laidL ((World.doorLaid Tryz.prog 400 os).forCall (fun _ _ => 0) ⟨#[], args, []⟩).memory :=
 laidMetH_of_parts3 (fuel := 8) (laidMet_of_run' 8 (by kernel_rfl) (by kernel_rfl)) (by kernel_rfl) (by kernel_rfl)
theorem at_u8 {H : Type} {enc : TypeId × Value → H} {w : World} {base : Nat} {held : Bool} {fuel : Nat} {cs : List Value} {y : DataW H × List MemPlace} (h : Tro H enc w base held fuel 5 cs = some y) : ∃ b : Nat, Cls w cs [.lit (.int .u8 (b : Nat))] ∧ b < 256 := by
 obtain ⟨z, e, _, hw⟩ := DataW.trod_int Tryz.underlying5 h
 obtain ⟨z1, z2⟩ := wfu8 hw
 subst e
 refine ⟨z.toNat, ⟨⟨rfl, ?_⟩, trivial⟩, by omega⟩
 rw [show ((z.toNat : Nat) : Int) = z by omega]
 exact .lit _
theorem at_bytes {H : Type} {enc : TypeId × Value → H} {w : World} {base : Nat} {held : Bool} {fuel : Nat} {cs : List Value} {y : DataW H × List MemPlace} (h : Tro H enc w base held fuel 22 cs = some y) (hb : Rows.uptoBulk y.1 ≤ 1048576) : ∃ (l : List Nat) (v : Value), cs = [v] ∧ RdD M0 w (bysD l) v ∧ RawOk' l := by
 obtain ⟨l, v, h1, _, h2, h3, h4⟩ := at_slice (f := fun b : Nat => [D.lit (.int .u8 (b : Nat))]) (Q := fun b => b < 256) Tryz.underlying22 (k := 1) (by kernel_rfl) (by decide) (fun _ => rfl) (fun n cs y h hb => at_u8 h) h hb
 exact ⟨l, v, h1, h2, by omega, h4⟩
namespace Kids
theorem contract (H : Type) (enc : TypeId × Value → H) (W : World) (base : Nat) (args : Array Value) (ds gs : List (DataW H)) (before : List MemPlace)
  (hval0 : ∀ (j : Nat) t v, Tryz.f4.params[j]? = some t → args[j]? = some v → Value.okWide Tryz.prog W .any base t v)
  (hW : DataW.Whole enc Tryz.prog Tryz.f4.params.toList Rows.splitKidsSpec.vars false W args.toList ds gs before) (hL : laidMetH Tryz.prog laidL W) (hk : Rows.uptoSmall H (ds ++ gs) = true) :
  Calls Tryz.prog 4 args W fun e W' => ∃ v, e = .returned v ∧ Rows.splitKidsSpec.post enc Tryz.prog Tryz.f4 false true false false W args v W' := by
 have hval : ∀ (j : Nat) t v, Tryz.f4.params[j]? = some t → args[j]? = some v → Value.okWide Tryz.prog W .any base t v := hval0
 have hW' := hW
 obtain ⟨p, q, hA0, hV, rfl, hfz, hnd⟩ := hW'
 have hA : DataW.TrodAll enc Tryz.prog W 0 (fun _ => true) true Tryz.f4.params.toList args.toList ds p := hA0
 rw [Tryz.params4] at hA hval
 obtain ⟨v0, vs0, d0, ds0, p0, q0, hargs, rfl, rfl, h0, r0⟩ := trodAll_cons hA
 obtain ⟨v1, vs1, d1, ds1, p1, q1, rfl, rfl, rfl, h1, r1⟩ := trodAll_cons r0
 obtain ⟨v2, vs2, d2, ds2, p2, q2, rfl, rfl, rfl, h2, r2⟩ := trodAll_cons r1
 obtain ⟨rfl, rfl, rfl⟩ := trodAll_nil r2
 obtain rfl : args = #[v0, v1, v2] := by cases args; simp_all
 obtain ⟨rfl, rfl⟩ := trodVars_none hV
 have hb : Rows.uptoBulkAll [d0, d1, d2] ≤ 1048576 := of_decide_eq_true (by simpa [Rows.uptoSmall] using hk)
 have k0 := h0
 have lt0 : ∀ x ∈ p0, x.block < W.heap.size := by obtain ⟨m, hm⟩ := k0; exact DataW.trod_lt m _ _ _ hm
 have b0 : Rows.uptoBulk d0 ≤ 1048576 := tL_ (bulk_part (by simp)) hb
 obtain ⟨a0, n0, y0, rfl⟩ := okWide_slice Tryz.underlying22 (hval 0 22 v0 rfl rfl)
 obtain ⟨m0, g0⟩ := h0
 obtain ⟨x0, u0, e0, c0, w0⟩ := at_bytes g0 b0
 injection e0 with e0 _
 subst e0
 have k1 := h1
 have lt1 : ∀ x ∈ p1, x.block < W.heap.size := by obtain ⟨m, hm⟩ := k1; exact DataW.trod_lt m _ _ _ hm
 have b1 : Rows.uptoBulk d1 ≤ 1048576 := tL_ (bulk_part (by simp)) hb
 obtain ⟨a1, n1, y1, rfl⟩ := okWide_slice Tryz.underlying23 (hval 1 23 v1 rfl rfl)
 obtain ⟨m1, g1⟩ := h1
 obtain ⟨x1, u1, e1, c1, l1, w1⟩ := at_decs g1 b1
 injection e1 with e1 _
 subst e1
 have k2 := h2
 have lt2 : ∀ x ∈ p2, x.block < W.heap.size := by obtain ⟨m, hm⟩ := k2; exact DataW.trod_lt m _ _ _ hm
 have b2 : Rows.uptoBulk d2 ≤ 1048576 := tL_ (bulk_part (by simp)) hb
 obtain ⟨cs2, rfl, _⟩ := okWide_struct Tryz.underlying46 (hval 2 46 v2 rfl rfl)
 obtain ⟨m2, g2⟩ := h2
 obtain ⟨x2, c2, w2⟩ := at_dec g2 b2
 have walk : Calls Tryz.prog 4 #[.slice a0 n0 y0, .slice a1 n1 y1, .agg cs2] W fun e w' => e = .returned (.bool true) ∧ Below W.heap.size W w' := lv_lit (rs := [.slice a0 n0 y0, .slice a1 n1 y1, .agg cs2]) (lx_kidslaw w0 l1 w1 w2) (glb_of_laid hL) ⟨c0, c1, ⟨cs2.toList, rfl, rdv_of c2⟩, trivial⟩
 refine walk.mono fun e W' ⟨he, bel⟩ => ?_
 subst he
 exact ⟨_, rfl, _, _, _, [], _, [], hW, trodAll_mk1 (shut_bool Tryz.underlying4 _), (trodAll_cons_mk (Below.trod laidOut (by kernel_rfl) (of_decide_eq_true (by kernel_rfl)) k0 bel lt0) (trodAll_cons_mk (Below.trod laidOut (by kernel_rfl) (of_decide_eq_true (by kernel_rfl)) k1 bel lt1) (trodAll_cons_mk (Below.trod laidOut (by kernel_rfl) (of_decide_eq_true (by kernel_rfl)) k2 bel lt2) trodAll_mk0))), rfl, bel.frame _, fun h => by cases h⟩
theorem reads (os : Os) {H : Type} (enc : TypeId × Value → H) : ∃ places, DataW.whole enc Tryz.prog ((World.doorLaid Tryz.prog 400 os).forCall (fun _ _ => 0) ⟨#[], #[.slice none 0 0, .slice none 0 0, .agg #[.int .i64 0, .int .i64 0, .bool false, .slice none 0 0, .slice none 0 0]], []⟩).memory Tryz.f4.params.toList Rows.splitKidsSpec.vars false #[.slice none 0 0, .slice none 0 0, .agg #[.int .i64 0, .int .i64 0, .bool false, .slice none 0 0, .slice none 0 0]].toList 8 = some ([.nil, .nil, .agg [.lit (.int .i64 0), .lit (.int .i64 0), .agg [.lit (.bool false), .nil, .nil]]], [], places) :=
 ⟨[], by kernel_rfl⟩
theorem lifted (os : Os) (started : os.Started) (H : Type) (enc : TypeId × Value → H) (F : Stop.Interp) :
  ReturnsInHanded {} Tryz.checked os 4 .any ((Rows.OpenSpec.upto Rows.splitKidsSpec).preRow enc Tryz.prog Tryz.f4 Rows.splitKidsUptoRow.domain false Rows.splitKidsUptoRow.laid) (((Rows.OpenSpec.upto Rows.splitKidsSpec).at F).post enc Tryz.prog Tryz.f4 false true false false) := by
 obtain ⟨places, hx⟩ := reads os enc
 refine returnsInHanded_of_row (C := Tryz.checked) (s := Rows.OpenSpec.upto Rows.splitKidsSpec) own started (by kernel_rfl) Tryz.func4
  (witness_row_atRef (enc := enc) (C := Tryz.checked) false (World.doorLaid Tryz.prog 400 os) #[.slice none 0 0, .slice none 0 0, .agg #[.int .i64 0, .int .i64 0, .bool false, .slice none 0 0, .slice none 0 0]] rfl (by kernel_rfl) (by kernel_rfl) (by kernel_rfl)
   (OpenSpec.preRow_of_cond 8 hx (by kernel_rfl) (fun k hk => by cases hk; kernel_rfl) (by kernel_rfl) (door_met os _))) ?_
 intro W base args ds gs before hval hW _ hcond _ hL _ _
 exact contract H enc W base args ds gs before hval hW hL (hcond _ rfl)
theorem said : Rows.SplitKidsUptoSaid :=
 OpenClaim.holds_of_cond 4 Tryz.f4 rfl rfl rfl rfl rfl rfl rfl ⟨rfl, rfl, rfl, rfl, rfl⟩ rfl rfl rfl rfl rfl (by kernel_rfl) Tryz.func4 (by kernel_rfl)
  (of_decide_eq_true (by kernel_rfl)) (by unfold Func.isWrapper; first | (rw [if_pos (by decide +kernel)]; kernel_rfl) | (rw [if_neg (by decide +kernel)]; exact ⟨rfl, rfl⟩))
  (fun os started H enc _ F => by rw [OpenClaim.pre_eq_preRow]; exact lifted os started H enc F)
theorem plain (f : FuncId) (fn : Func) (hf : Tryz.pinned.checked.prog.funcNamed "relucert/relucertlaw38.SplitKids" = some f) (hfn : Tryz.pinned.checked.prog.funcs[f]? = some fn) :
  false = Tryz.pinned.checked.prog.looks [] ∧ ∀ (j : Nat) t, fn.params[j]? = some t → Tryz.pinned.checked.prog.wantsStandIn t = false := by
 obtain rfl : f = 4 := Option.some.inj ((show Tryz.prog.funcNamed "relucert/relucertlaw38.SplitKids" = some 4 by kernel_rfl).symm.trans hf) |>.symm
 obtain rfl : fn = Tryz.f4 := (Option.some.inj (Tryz.func4.symm.trans hfn)).symm
 refine ⟨by kernel_rfl, fun j t ht => ?_⟩
 rw [Tryz.params4] at ht
 have h3 := Array.mem_of_getElem? ht
 simp at h3
 rcases h3 with h3 | h3 | h3
 all_goals subst h3
 all_goals first
  | exact (show Tryz.prog.wantsStandIn 22 = false by kernel_rfl)
  | exact (show Tryz.prog.wantsStandIn 23 = false by kernel_rfl)
  | exact (show Tryz.prog.wantsStandIn 46 = false by kernel_rfl)
theorem card : Rows.SplitKidsUptoCardSaid :=
 Claim7.holds_tied_plain_at .later [] _ _ _ _ said (fun _ h => by cases h) (by kernel_rfl) (fun _ h => by cases h) splitKidsUpto_row_tie rfl ⟨rfl, rfl⟩ (by kernel_rfl) rfl plain (by kernel_rfl)
#print axioms card
end Kids
end Go.Proofs.YtikglhmabidjoaaGreatDoor.Lf
