/- PROVED HERE: the statement WholePiecesUptoCardSaid: for every input of bulk at most 1048576 the law relucerttop.WholePieces of the given program returns true, and the input reads as it did, where the listed variables read as the card ties them to the program's text. Conditions: none beyond the statement's own. -/
import Derived.Test.YtbegidaaiajffaaGreatDoorW07
import Derived.Test.YtbegidaaiajffaaGreatDoorTie
import Derived.Test.YtbegidaaiajffaaGreatDoorCards
import Derived.SevenTiedAt
import Derived.WalkKit
import Derived.ProofKit
import Derived.OpenShut
import Derived.ShutString
import Derived.ChangeOld
import Derived.Below
import Derived.JoinedCond
import Derived.Deep.DeepHandedRow
import Derived.Deep.DeepWitnessRowRef
set_option linter.unusedVariables false
set_option linter.unusedSimpArgs false
set_option maxRecDepth 100000
set_option maxHeartbeats 4000000
namespace Go.Proofs.YtbegidaaiajffaaGreatDoor.Lf
open Go.ChangeShapes Go.WideShapes Go.ChangeAt Go.RowKit
namespace WholeP
theorem contract (H:Type)(enc:TypeId×Value→H)(W:World)(base:Nat)(args:Array Value)(ds gs:List (DataW H))(before:List MemPlace)
  (hval0:∀(j:Nat) t v,Tryz.f4.params[j]? =some t→args[j]? =some v→Value.okWide Tryz.prog W .any base t v)
  (hW:DataW.Whole enc Tryz.prog Tryz.f4.params.toList Rows.wholePiecesSpec.vars false W args.toList ds gs before) (hL:laidMetH Tryz.prog laidL W) (hk:Rows.uptoSmall H (ds++gs)=true):
  Calls Tryz.prog 4 args W fun e W'=>∃v,e= .returned v∧Rows.wholePiecesSpec.post enc Tryz.prog Tryz.f4 false true false false W args v W':=by
 have hval:∀(j:Nat) t v,Tryz.f4.params[j]? =some t→args[j]? =some v→Value.okWide Tryz.prog W .any base t v:=hval0;have hW':=hW;obtain⟨p,q,hA0,hV,rfl,hfz,hnd⟩:=hW';have hA:DataW.TrodAll enc Tryz.prog W 0 (fun _=>true) true Tryz.f4.params.toList args.toList ds p:=hA0;rw[Tryz.params4]at hA hval;obtain⟨v0,vs0,d0,ds0,p0,q0,hargs,rfl,rfl,h0,r0⟩:=trodAll_cons hA;obtain⟨v1,vs1,d1,ds1,p1,q1,rfl,rfl,rfl,h1,r1⟩:=trodAll_cons r0;obtain⟨v2,vs2,d2,ds2,p2,q2,rfl,rfl,rfl,h2,r2⟩:=trodAll_cons r1;obtain⟨rfl,rfl,rfl⟩:=trodAll_nil r2;obtain rfl:args= #[v0,v1,v2]:=by cases args;simp_all
 obtain⟨rfl,rfl⟩:=trodVars_none hV;have hb:Rows.uptoBulkAll [d0,d1,d2]≤1048576:=of_decide_eq_true (by simpa [Rows.uptoSmall]using hk);have k0:=h0;have lt0:∀x∈p0,x.block<W.heap.size:=by obtain⟨m,hm⟩:=k0;exact DataW.trod_lt m _ _ _ hm
 have b0:Rows.uptoBulk d0≤1048576:=tL_ (bulk_part (by simp)) hb;obtain⟨u0,u1,y0,y1,m0,rfl,e0,-,g0,g1⟩:=Joins.open_agg2 Tryz.underlying25 (by kernel_rfl) (by kernel_rfl) (hval 0 25 v0 rfl rfl) h0;have b00:Rows.uptoBulk y0.1≤1048576:=by
  have:=bulk_part (d:=y0.1) (l:=[y0.1,y1.1]) (by simp);rw[e0]at b0;simp only[Rows.uptoBulk]at b0;omega
 have b01:Rows.uptoBulk y1.1≤1048576:=by
  have:=bulk_part (d:=y1.1) (l:=[y0.1,y1.1]) (by simp);rw[e0]at b0;simp only[Rows.uptoBulk]at b0;omega
 obtain⟨inp,w0,ea,ca,la⟩:=at_ints g0 b00;obtain⟨ls,w1,eb,cb,lb,wb⟩:=at_lays g1 b01;obtain rfl:=(List.cons.inj ea).1;obtain rfl:=(List.cons.inj eb).1;have k1:=h1;have lt1:∀x∈p1,x.block<W.heap.size:=by obtain⟨m,hm⟩:=k1;exact DataW.trod_lt m _ _ _ hm
 have b1:Rows.uptoBulk d1≤1048576:=tL_ (bulk_part (by simp)) hb;obtain⟨a1,n1,k1c,rfl⟩:=okWide_slice Tryz.underlying26 (hval 1 26 v1 rfl rfl);obtain⟨m1,g1'⟩:=h1;obtain⟨raw,x1,ec,cc,lc,wc⟩:=at_bytes g1' b1;obtain rfl:=(List.cons.inj ec).1;have k2:=h2;have lt2:∀x∈p2,x.block<W.heap.size:=by obtain⟨m,hm⟩:=k2;exact DataW.trod_lt m _ _ _ hm
 have b2:Rows.uptoBulk d2≤1048576:=tL_ (bulk_part (by simp)) hb;obtain⟨a2,n2,k2c,rfl⟩:=okWide_slice Tryz.underlying26 (hval 2 26 v2 rfl rfl);obtain⟨m2,g2'⟩:=h2;obtain⟨raw2,x2,ed,cd,ld,wd⟩:=at_bytes g2' b2;obtain rfl:=(List.cons.inj ed).1;have walk:Calls Tryz.prog 4 #[.agg #[u0,u1],.slice a1 n1 k1c,.slice a2 n2 k2c] W fun e w'=>e= .returned (.bool true)∧Below W.heap.size W w':=lv_lit (rs:=[.agg #[u0,u1],.slice a1 n1 k1c,.slice a2 n2 k2c]) (lx_wp (by omega) (by omega) wb (by omega) wc (by omega) wd) (glb_of_laid hL) ⟨⟨[u0,u1],rfl,ca,cb,trivial⟩,cc,cd,trivial⟩;refine walk.mono fun e W' ⟨he,bel⟩=> ?_;subst he;exact⟨_,rfl,_,_,_,[],_,[],hW,trodAll_mk1 (shut_bool Tryz.underlying4 _),(trodAll_cons_mk (Below.trod laidOut (by kernel_rfl) (of_decide_eq_true (by kernel_rfl)) k0 bel lt0) (trodAll_cons_mk (Below.trod laidOut (by kernel_rfl) (of_decide_eq_true (by kernel_rfl)) k1 bel lt1) (trodAll_cons_mk (Below.trod laidOut (by kernel_rfl) (of_decide_eq_true (by kernel_rfl)) k2 bel lt2) trodAll_mk0))),rfl,bel.frame _,fun h=>by cases h⟩
theorem reads (os:Os){H:Type}(enc:TypeId×Value→H):∃places,DataW.whole enc Tryz.prog ((World.doorLaid Tryz.prog 400 os).forCall (fun _ _=>0) ⟨#[],#[.agg #[.slice none 0 0,.slice none 0 0],.slice none 0 0,.slice none 0 0],[]⟩).memory Tryz.f4.params.toList Rows.wholePiecesSpec.vars false #[.agg #[.slice none 0 0,.slice none 0 0],.slice none 0 0,.slice none 0 0].toList 8=some ([.agg [.nil,.nil],.nil,.nil],[],places):=
 ⟨[],by kernel_rfl⟩
theorem lifted (os:Os)(started:os.Started)(H:Type)(enc:TypeId×Value→H)(F:Stop.Interp):
  ReturnsInHanded {} Tryz.checked os 4 .any ((Rows.OpenSpec.upto Rows.wholePiecesSpec).preRow enc Tryz.prog Tryz.f4 Rows.wholePiecesUptoRow.domain false Rows.wholePiecesUptoRow.laid) (((Rows.OpenSpec.upto Rows.wholePiecesSpec).at F).post enc Tryz.prog Tryz.f4 false true false false):=by
 obtain⟨places,hx⟩:=reads os enc;refine returnsInHanded_of_row (C:=Tryz.checked) (s:=Rows.OpenSpec.upto Rows.wholePiecesSpec) own started (by kernel_rfl) Tryz.func4
  (witness_row_atRef (enc:=enc) (C:=Tryz.checked) false (World.doorLaid Tryz.prog 400 os) #[.agg #[.slice none 0 0,.slice none 0 0],.slice none 0 0,.slice none 0 0] rfl (by kernel_rfl) (by kernel_rfl) (by kernel_rfl)
   (OpenSpec.preRow_of_cond 8 hx (by kernel_rfl) (fun k hk=>by cases hk;kernel_rfl) (by kernel_rfl) (door_met os _))) ?_
 intro W base args ds gs before hval hW _ hcond _ hL _ _;exact contract H enc W base args ds gs before hval hW hL (hcond _ rfl)
theorem said:Rows.WholePiecesUptoSaid:=
 OpenClaim.holds_of_cond 4 Tryz.f4 rfl rfl rfl rfl rfl rfl rfl ⟨rfl,rfl,rfl,rfl,rfl⟩ rfl rfl rfl rfl rfl (by kernel_rfl) Tryz.func4 (by kernel_rfl)
  (of_decide_eq_true (by kernel_rfl)) (by unfold Func.isWrapper;first|(rw[if_pos (by decide +kernel)];kernel_rfl)|(rw[if_neg (by decide +kernel)];exact⟨rfl,rfl⟩))
  (fun os started H enc _ F=>by rw[OpenClaim.pre_eq_preRow];exact lifted os started H enc F)
theorem plain (f:FuncId)(fn:Func)(hf:Tryz.pinned.checked.prog.funcNamed "relucert/relucerttop.WholePieces" =some f)(hfn:Tryz.pinned.checked.prog.funcs[f]? =some fn):
  false=Tryz.pinned.checked.prog.looks []∧∀(j:Nat) t,fn.params[j]? =some t→Tryz.pinned.checked.prog.wantsStandIn t=false:=by
 obtain rfl:f=4:=Option.some.inj ((show Tryz.prog.funcNamed "relucert/relucerttop.WholePieces" =some 4 by kernel_rfl).symm.trans hf) |>.symm;obtain rfl:fn=Tryz.f4:=(Option.some.inj (Tryz.func4.symm.trans hfn)).symm;refine⟨by kernel_rfl,fun j t ht=> ?_⟩;rw[Tryz.params4]at ht;have h3:=Array.mem_of_getElem? ht;simp at h3;rcases h3 with h3|h3
 all_goals subst h3
 all_goals first
  |exact(show Tryz.prog.wantsStandIn 25=false by kernel_rfl)
  |exact(show Tryz.prog.wantsStandIn 26=false by kernel_rfl)
theorem card:Rows.WholePiecesUptoCardSaid:=
 Claim7.holds_tied_plain_at .later [] _ _ _ _ said (fun _ h=>by cases h) (by kernel_rfl) (fun _ h=>by cases h) wholePiecesUpto_row_tie rfl ⟨rfl,rfl⟩ (by kernel_rfl) rfl plain (by kernel_rfl)
#print axioms card
end WholeP
end Go.Proofs.YtbegidaaiajffaaGreatDoor.Lf
