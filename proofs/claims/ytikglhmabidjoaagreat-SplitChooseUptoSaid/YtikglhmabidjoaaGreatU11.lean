/- PROVED HERE: the statement SplitChooseUptoSaid: for every input of bulk at most 1048576 the law relucertlaw38.SplitChoose of the given program returns true, and the input reads as it did. Conditions: none beyond the statement's own. -/
import Derived.Test.YtikglhmabidjoaaGreatU09
import Derived.Test.YtikglhmabidjoaaGreatU10
import Derived.WalkKit
import Derived.ProofKit
import Derived.OpenShut
import Derived.ShutString
import Derived.ChangeOld
import Derived.Below
import Derived.JoinedCond
set_option linter.unusedVariables false
set_option linter.unusedSimpArgs false
set_option maxRecDepth 100000
set_option maxHeartbeats 4000000
namespace Go.Proofs.YtikglhmabidjoaaGreat.Lf
open Go.ChangeShapes Go.WideShapes Go.ChangeAt Go.RowKit
theorem own : ownKnob Tryz.prog.godebug = none := by kernel_rfl
theorem laidOut : laidOutB Tryz.prog = true := by kernel_rfl
theorem glb0 (w : World) : Glb M0 w := by
 intro g row hg j d hd
 unfold GT at hg
 split at hg
 ·
  injection hg with hg
  subst hg
  simp at hd
 ·
  cases hg
theorem at_u8 {H : Type} {enc : TypeId × Value → H} {w : World} {base : Nat} {held : Bool} {fuel : Nat} {cs : List Value} {y : DataW H × List MemPlace} (h : Tro H enc w base held fuel 5 cs = some y) : ∃ b : Nat, Cls w cs [.lit (.int .u8 (b : Nat))] ∧ b < 256 := by
 obtain ⟨z, e, _, hw⟩ := DataW.trod_int Tryz.underlying5 h
 obtain ⟨z1, z2⟩ := wfu8 hw
 subst e
 refine ⟨z.toNat, ⟨⟨rfl, ?_⟩, trivial⟩, by omega⟩
 rw [show ((z.toNat : Nat) : Int) = z by omega]
 exact .lit _
theorem at_bytes {H : Type} {enc : TypeId × Value → H} {w : World} {base : Nat} {held : Bool} {fuel : Nat} {cs : List Value} {y : DataW H × List MemPlace} (h : Tro H enc w base held fuel 22 cs = some y) (hb : Rows.uptoBulk y.1 ≤ 1048576) : ∃ (l : List Nat) (v : Value), cs = [v] ∧ RdD M0 w (bysD l) v ∧ RawOk' l := by
 obtain ⟨l, v, h1, _, h2, h3, h4⟩ := at_slice (f := fun b : Nat => [D.lit (.int .u8 (b : Nat))]) (Q := fun b => b < 256) Tryz.underlying22 (k := 1) (by kernel_rfl) (by decide) (fun _ => rfl) (fun n cs y h hb => at_u8 h) h hb
 exact ⟨l, v, h1, h2, by omega, h4⟩
namespace Choose
theorem contract (H : Type) (enc : TypeId × Value → H) (W : World) (base : Nat) (args : Array Value) (ds gs : List (DataW H)) (before : List MemPlace)
  (hval0 : ∀ (j : Nat) t v, Tryz.f5.params[j]? = some t → args[j]? = some v → Value.okWide Tryz.prog W .any base t v)
  (hW : DataW.Whole enc Tryz.prog Tryz.f5.params.toList Rows.splitChooseSpec.vars false W args.toList ds gs before) (hk : Rows.uptoSmall H (ds ++ gs) = true) :
  Calls Tryz.prog 5 args W fun e W' => ∃ v, e = .returned v ∧ Rows.splitChooseSpec.post enc Tryz.prog Tryz.f5 false true false false W args v W' := by
 have hval : ∀ (j : Nat) t v, Tryz.f5.params[j]? = some t → args[j]? = some v → Value.okWide Tryz.prog W .any base t v := hval0
 have hW' := hW
 obtain ⟨p, q, hA0, hV, rfl, hfz, hnd⟩ := hW'
 have hA : DataW.TrodAll enc Tryz.prog W 0 (fun _ => true) true Tryz.f5.params.toList args.toList ds p := hA0
 rw [Tryz.params5] at hA hval
 obtain ⟨v0, vs0, d0, ds0, p0, q0, hargs, rfl, rfl, h0, r0⟩ := trodAll_cons hA
 obtain ⟨v1, vs1, d1, ds1, p1, q1, rfl, rfl, rfl, h1, r1⟩ := trodAll_cons r0
 obtain ⟨v2, vs2, d2, ds2, p2, q2, rfl, rfl, rfl, h2, r2⟩ := trodAll_cons r1
 obtain ⟨v3, vs3, d3, ds3, p3, q3, rfl, rfl, rfl, h3, r3⟩ := trodAll_cons r2
 obtain ⟨v4, vs4, d4, ds4, p4, q4, rfl, rfl, rfl, h4, r4⟩ := trodAll_cons r3
 obtain ⟨rfl, rfl, rfl⟩ := trodAll_nil r4
 obtain rfl : args = #[v0, v1, v2, v3, v4] := by cases args; simp_all
 obtain ⟨rfl, rfl⟩ := trodVars_none hV
 have hb : Rows.uptoBulkAll [d0, d1, d2, d3, d4] ≤ 1048576 := of_decide_eq_true (by simpa [Rows.uptoSmall] using hk)
 have k0 := h0
 have lt0 : ∀ x ∈ p0, x.block < W.heap.size := by obtain ⟨m, hm⟩ := k0; exact DataW.trod_lt m _ _ _ hm
 have b0 : Rows.uptoBulk d0 ≤ 1048576 := tL_ (bulk_part (by simp)) hb
 obtain ⟨a0, n0, y0, rfl⟩ := okWide_slice Tryz.underlying22 (hval 0 22 v0 rfl rfl)
 obtain ⟨m0, g0⟩ := h0
 obtain ⟨x0, u0, e0, c0, w0⟩ := at_bytes g0 b0
 injection e0 with e0 _
 subst e0
 have k1 := h1
 have lt1 : ∀ x ∈ p1, x.block < W.heap.size := by obtain ⟨m, hm⟩ := k1; exact DataW.trod_lt m _ _ _ hm
 have b1 : Rows.uptoBulk d1 ≤ 1048576 := tL_ (bulk_part (by simp)) hb
 obtain ⟨a1, n1, y1, rfl⟩ := okWide_slice Tryz.underlying23 (hval 1 23 v1 rfl rfl)
 obtain ⟨m1, g1⟩ := h1
 obtain ⟨x1, u1, e1, c1, l1, w1⟩ := at_decs g1 b1
 injection e1 with e1 _
 subst e1
 have k2 := h2
 have lt2 : ∀ x ∈ p2, x.block < W.heap.size := by obtain ⟨m, hm⟩ := k2; exact DataW.trod_lt m _ _ _ hm
 have b2 : Rows.uptoBulk d2 ≤ 1048576 := tL_ (bulk_part (by simp)) hb
 obtain ⟨a2, n2, y2, rfl⟩ := okWide_slice Tryz.underlying24 (hval 2 24 v2 rfl rfl)
 obtain ⟨m2, g2⟩ := h2
 obtain ⟨x2, u2, e2, c2, l2, w2⟩ := at_lems g2 b2
 injection e2 with e2 _
 subst e2
 have k3 := h3
 have lt3 : ∀ x ∈ p3, x.block < W.heap.size := by obtain ⟨m, hm⟩ := k3; exact DataW.trod_lt m _ _ _ hm
 have b3 : Rows.uptoBulk d3 ≤ 1048576 := tL_ (bulk_part (by simp)) hb
 obtain ⟨a3, n3, y3, rfl⟩ := okWide_slice Tryz.underlying30 (hval 3 30 v3 rfl rfl)
 obtain ⟨m3, g3⟩ := h3
 obtain ⟨x3, u3, e3, c3, l3, w3⟩ := at_rats g3 b3
 injection e3 with e3 _
 subst e3
 obtain ⟨i4, rfl, rfl, rfl, w4⟩ := open_int Tryz.underlying3 (hval 4 3 v4 rfl rfl) h4
 have walk : Calls Tryz.prog 5 #[.slice a0 n0 y0, .slice a1 n1 y1, .slice a2 n2 y2, .slice a3 n3 y3, .int .i64 i4] W fun e w' => e = .returned (.bool true) ∧ Below W.heap.size W w' := lv_lit (rs := [.slice a0 n0 y0, .slice a1 n1 y1, .slice a2 n2 y2, .slice a3 n3 y3, .int .i64 i4]) (lx_chooselaw w0 (by omega) (by omega) w1 w2 (fun x h => (w3 x h).2) (fun x h => (w3 x h).1)) (glb0 W) ⟨c0, c1, c2, c3, .lit _, trivial⟩
 refine walk.mono fun e W' ⟨he, bel⟩ => ?_
 subst he
 exact ⟨_, rfl, _, _, _, [], _, [], hW, trodAll_mk1 (shut_bool Tryz.underlying4 _), (trodAll_cons_mk (Below.trod laidOut (by kernel_rfl) (of_decide_eq_true (by kernel_rfl)) k0 bel lt0) (trodAll_cons_mk (Below.trod laidOut (by kernel_rfl) (of_decide_eq_true (by kernel_rfl)) k1 bel lt1) (trodAll_cons_mk (Below.trod laidOut (by kernel_rfl) (of_decide_eq_true (by kernel_rfl)) k2 bel lt2) (trodAll_cons_mk (Below.trod laidOut (by kernel_rfl) (of_decide_eq_true (by kernel_rfl)) k3 bel lt3) (trodAll_cons_mk (shut_int Tryz.underlying3 w4) trodAll_mk0))))), rfl, bel.frame _, fun h => by cases h⟩
theorem lifted (os : Os) (started : os.Started) (H : Type) (enc : TypeId × Value → H) (F : Stop.Interp) :
  ReturnsInHanded {} Tryz.checked os 5 .any ((Rows.OpenSpec.upto Rows.splitChooseSpec).pre6 enc Tryz.prog Tryz.f5 Rows.splitChooseUptoRow.domain false) (((Rows.OpenSpec.upto Rows.splitChooseSpec).at F).post enc Tryz.prog Tryz.f5 false true false false) := by
 refine returnsInHanded_of_cond (C := Tryz.checked) (s := Rows.OpenSpec.upto Rows.splitChooseSpec) (k := Rows.uptoSmall) rfl own started (by kernel_rfl) Tryz.func5
  (OpenSpec.witness (enc := enc) (C := Tryz.checked) (s := Rows.OpenSpec.upto Rows.splitChooseSpec) (k := Rows.uptoSmall) rfl false ⟨#[], #[.slice none 0 0, .slice none 0 0, .slice none 0 0, .slice none 0 0, .int .i64 0], []⟩ 8 (by kernel_rfl) (by kernel_rfl) (by kernel_rfl)
   (x := ([.nil, .nil, .nil, .nil, .lit (.int .i64 0)], [], [])) (by kernel_rfl) rfl (by kernel_rfl)) ?_
 intro W base args ds gs before hval hW _ hk _
 exact contract H enc W base args ds gs before hval hW hk
theorem said : Rows.SplitChooseUptoSaid :=
 OpenClaim.holds_of_cond 5 Tryz.f5 rfl rfl rfl rfl rfl rfl rfl ⟨rfl, rfl, rfl, rfl, rfl⟩ rfl rfl rfl rfl rfl (by kernel_rfl) Tryz.func5 (by kernel_rfl)
  (of_decide_eq_true (by kernel_rfl)) (by unfold Func.isWrapper; first | (rw [if_pos (by decide +kernel)]; kernel_rfl) | (rw [if_neg (by decide +kernel)]; exact ⟨rfl, rfl⟩))
  (fun os started H enc _ F => lifted os started H enc F)
#print axioms said
end Choose
end Go.Proofs.YtikglhmabidjoaaGreat.Lf
