/- PROVED HERE: the statement WholeDualityCardSaid: for every input the law relucerttop.WholeDuality of the given program returns true, and the input reads as it did, where the listed variables read as the card ties them to the program's text. Conditions: none beyond the statement's own. -/
import Derived.Test.YthdoopaenanibaaGreatDoorU08
import Derived.Test.YthdoopaenanibaaGreatDoorTie
import Derived.Test.YthdoopaenanibaaGreatDoorCards
import Derived.SevenTiedAt
import Derived.WalkKit
import Derived.ProofKit
import Derived.OpenShut
import Derived.ShutString
import Derived.ChangeOld
import Derived.Below
set_option linter.unusedVariables false
set_option linter.unusedSimpArgs false
set_option maxRecDepth 100000
set_option maxHeartbeats 4000000
namespace Go.Proofs.YthdoopaenanibaaGreatDoor.Lf
open Go.ChangeShapes Go.WideShapes Go.ChangeAt Go.RowKit
attribute [local go_sem] Oper.semAt_some
theorem whole_long {a0:Option Addr}{n0 c0:Nat}{w:World}(hG:Glb M0 w)(h:200<n0):
  Calls Tryz.prog 3 #[.slice a0 n0 c0] w fun e w'=>e= .returned (.bool true)∧Below w.heap.size w w':=by
 refine(callsIn_wide (n:=9)).1 ?_;refine callsIn_of_wp Tryz.func3 rfl trivial ?_ rfl;simp only[Tryz.ntmps3,List.size_toArray,List.length_cons,List.length_nil,Nat.reduceAdd,Nat.reduceSub,Array.replicate_succ,Array.replicate_zero,List.push_toArray,List.append_toArray,List.nil_append,List.cons_append]
 gi_wp2_with fail
 refine⟨trivial,(callsIn_wide.2 (lv_lit (rs:=[]) ly_awake hG trivial)).mono ?_⟩;rintro e W1 ⟨rfl,hb1⟩;have d0:decide (200<((n0:Nat):Int))=true:=decide_eq_true (by omega)
 gi_wp2_with fail
 exact⟨rfl,_,results_tmp rfl _ _ _,rfl,hb1⟩
theorem whole_all {a0:Option Addr}{n0 c0:Nat}{w:World}(hG:Glb M0 w)(w0:Bys w (.slice a0 n0 c0) n0):
  Calls Tryz.prog 3 #[.slice a0 n0 c0] w fun e w'=>e= .returned (.bool true)∧Below w.heap.size w w':=by
 rcases Nat.lt_or_ge 200 n0 with h0|h0
 ·exact whole_long hG h0
 obtain⟨raw,k1,k2,k3⟩:=w0 (by omega);exact lv_lit (rs:=[.slice a0 n0 c0]) (ly_top k3) hG ⟨k1,trivial⟩
theorem own:ownKnob Tryz.prog.godebug=none:=by kernel_rfl
theorem laidOut:laidOutB Tryz.prog=true:=by kernel_rfl
theorem door_met (os:Os)(args:Array Value):laidMetH Tryz.prog laidL ((World.doorLaid Tryz.prog 400 os).forCall (fun _ _=>0) ⟨#[],args,[]⟩).memory:=
 laidMetH_of_parts3 (fuel:=8) (laidMet_of_run' 8 (by kernel_rfl) (by kernel_rfl)) (by kernel_rfl) (by kernel_rfl)
namespace WholeD
theorem lifted (os:Os)(started:os.Started)(H:Type)(enc:TypeId×Value→H):
  ReturnsInHanded {} Tryz.checked os 3 .any (fun w args=>(Rows.wholeDualitySpec.pre enc Tryz.prog Tryz.f3 [] false w args∧laidMetH Tryz.prog laidL w)∧sizedMet enc Tryz.prog Tryz.f3 (OpenSpec.ofChange Rows.wholeDualitySpec) false w args)
   (Rows.wholeDualitySpec.post enc Tryz.prog Tryz.f3 false true false false):=by
 refine returnsInHanded_of_change_and (C:=Tryz.checked) (X:=fun w _=>laidMetH Tryz.prog laidL w) (fun _ _ _ hh h=>h.of_heap hh) own started (by kernel_rfl) Tryz.func3
  (ChangeSpec.witness_shaped (enc:=enc) (C:=Tryz.checked) (os:=os) (X:=fun w _=>laidMetH Tryz.prog laidL w) false (World.doorLaid Tryz.prog 400 os) #[.slice none 0 0] 8 rfl (World.shaped_of_RefB (by kernel_rfl) (by kernel_rfl)) (by kernel_rfl) (by kernel_rfl) (by kernel_rfl) (door_met os _)) ?_
 intro W base args ds gs before hval0 hW _ _ hL _;have hval:∀(j:Nat) t v,Tryz.f3.params[j]? =some t→args[j]? =some v→Value.okWide Tryz.prog W .any base t v:=hval0;have hW':=hW;obtain⟨p,q,hA0,hV,rfl,hfz,hnd⟩:=hW';have hA:DataW.TrodAll enc Tryz.prog W 0 (fun _=>true) true Tryz.f3.params.toList args.toList ds p:=hA0;rw[Tryz.params3]at hA hval;obtain⟨v0,vs0,d0,ds0,p0,q0,hargs,rfl,rfl,h0,r0⟩:=trodAll_cons hA;obtain⟨rfl,rfl,rfl⟩:=trodAll_nil r0;obtain rfl:args= #[v0]:=by cases args;simp_all
 obtain⟨rfl,rfl⟩:=trodVars_none hV;have k0:=h0;have lt0:∀x∈p0,x.block<W.heap.size:=by obtain⟨m,hm⟩:=k0;exact DataW.trod_lt m _ _ _ hm
 obtain⟨a0,n0,c0,rfl,w0⟩:=open_Bys (hval 0 23 v0 rfl rfl) h0;clear hA0 hval0;refine(whole_all (glb_of_laid hL) w0).mono fun e W' ⟨he,bel⟩=> ?_;subst he;exact⟨_,rfl,_,_,_,[],_,[],hW,trodAll_mk1 (shut_bool Tryz.underlying4 _),(trodAll_cons_mk (Below.trod laidOut (by kernel_rfl) (of_decide_eq_true (by kernel_rfl)) k0 bel lt0) trodAll_mk0),rfl,bel.frame _,fun h=>by cases h⟩
theorem over:Rows.WholeDualitySaid:=
 OpenClaim.holds_of_wide 3 Tryz.f3 rfl rfl rfl rfl rfl rfl rfl ⟨rfl,rfl,rfl,rfl,rfl⟩ rfl rfl rfl rfl rfl (by kernel_rfl) Tryz.func3 (by kernel_rfl)
  (of_decide_eq_true (by kernel_rfl)) (by unfold Func.isWrapper;first|(rw[if_pos (by decide +kernel)];kernel_rfl)|(rw[if_neg (by decide +kernel)];exact⟨rfl,rfl⟩))
  (fun os started H enc _=>lifted os started H enc)
theorem plain (f:FuncId)(fn:Func)(hf:Tryz.pinned.checked.prog.funcNamed "relucert/relucerttop.WholeDuality" =some f)(hfn:Tryz.pinned.checked.prog.funcs[f]? =some fn):
  false=Tryz.pinned.checked.prog.looks []∧∀(j:Nat) t,fn.params[j]? =some t→Tryz.pinned.checked.prog.wantsStandIn t=false:=by
 obtain rfl:f=3:=Option.some.inj ((show Tryz.prog.funcNamed "relucert/relucerttop.WholeDuality" =some 3 by kernel_rfl).symm.trans hf) |>.symm;obtain rfl:fn=Tryz.f3:=(Option.some.inj (Tryz.func3.symm.trans hfn)).symm;refine⟨by kernel_rfl,fun j t ht=> ?_⟩;rw[Tryz.params3]at ht;have h3:=Array.mem_of_getElem? ht;simp at h3;subst h3;exact(show Tryz.prog.wantsStandIn 23=false by kernel_rfl)
theorem card:Rows.WholeDualityCardSaid:=
 Claim7.holds_tied_plain_at .later [] _ _ _ _ over (fun _ h=>by cases h) (by kernel_rfl) (fun _ h=>by cases h) wholeDuality_row_tie rfl ⟨rfl,rfl⟩ (by kernel_rfl) rfl plain (by kernel_rfl)
#print axioms card
end WholeD
end Go.Proofs.YthdoopaenanibaaGreatDoor.Lf
