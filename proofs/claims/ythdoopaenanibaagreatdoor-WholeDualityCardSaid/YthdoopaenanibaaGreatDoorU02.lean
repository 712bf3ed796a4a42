/- Texts LfF LfG LfH LfS LfM LfN LfT LfU LfV LfW of this proof, in this order. -/
import Derived.Test.YthdoopaenanibaaGreatDoorU01
import Derived.Maps.Own
set_option linter.unusedVariables false
set_option linter.unusedSimpArgs false
set_option maxRecDepth 100000
set_option maxHeartbeats 4000000
namespace Go.Proofs.YthdoopaenanibaaGreatDoor.Lf
open Go.RowKit Nt
def opL (P:Program)(o:Oper)(T:List (Nat×V))(H:List (Nat×Ent))(n:Nat):Option (V×List (Nat×Ent)×List Nat×Nat):=
 match o.op with
 | .load t x=>match evL (look T) x with
   |some vx=>(loadL P t (look H) vx).map fun p=>(p.1,[],p.2,n)
   |none=>none
 | .alloc t=>match zeroT P zv t with
   |some zs=>(boxL t zs n (look H)).map fun p=>(p.1,p.2.1,p.2.2,n+1)
   |none=>none
 | .box t x=>match (evL (look T) x).bind cellsV with
   |some xs=>(boxL t xs n (look H)).map fun p=>(p.1,p.2.1,p.2.2,n+1)
   |none=>none
 | .store t x y=>match evL (look T) x,evL (look T) y with
   |some vx,some vy=>(storeL P t (look H) vx vy).map fun p=>(vl undef,p.1,p.2,n)
   |_,_=>none
 | .buildSlice t len parts=>(bsL P (evL (look T)) (look H) n t len parts.toList).map fun p=>(p.1,p.2.1,p.2.2,n+1)
 | .call {callee:= .builtin .append,args:=⟨[s,x]⟩,argTypes:=⟨[t,t']⟩}=>match (elemT P t').isSome,evL (look T) s,evL (look T) x with
   |true,some vs,some vx=>(appL P t (look H) n vs vx).map fun p=>(p.1,p.2.1,p.2.2,n+1)
   |_,_,_=>none
 |_=>(pureL P (evL (look T)) o).map fun v=>(v,[],[],n)
theorem opL_ok {P:Program}{o:Oper}{T:List (Nat×V)}{H:List (Nat×Ent)}{n n':Nat}{v:V}{sets:List (Nat×Ent)}{rk:List Nat}(ho:opL P o T H n=some (v,sets,rk,n')):OT P o (look T) (look H) v sets rk:=by
 unfold opL at ho;split at ho
 case h_1 t x e=>
  split at ho
  ·rename_i vx h1;obtain⟨p,h2,h3⟩:=Option.map_eq_some_iff.1 ho;simp only[Prod.mk.injEq]at h3;obtain⟨rfl,rfl,rfl,rfl⟩:=h3;exact OT_load e h1 h2
  ·cases ho
 case h_2 t e=>
  split at ho
  ·rename_i zs h1;obtain⟨p,h2,h3⟩:=Option.map_eq_some_iff.1 ho;simp only[Prod.mk.injEq]at h3;obtain⟨rfl,rfl,rfl,rfl⟩:=h3;exact OT_alloc e h1 h2
  ·cases ho
 case h_3 t x e=>
  split at ho
  ·rename_i xs h1;obtain⟨vx,h0,h1⟩:=Option.bind_eq_some_iff.1 h1;obtain⟨p,h2,h3⟩:=Option.map_eq_some_iff.1 ho;simp only[Prod.mk.injEq]at h3;obtain⟨rfl,rfl,rfl,rfl⟩:=h3;exact OT_box e h0 h1 h2
  ·cases ho
 case h_4 t x y e=>
  split at ho
  ·rename_i vx vy h0 h1;obtain⟨p,h2,h3⟩:=Option.map_eq_some_iff.1 ho;simp only[Prod.mk.injEq]at h3;obtain⟨rfl,rfl,rfl,rfl⟩:=h3;exact OT_store e h0 h1 h2
  ·cases ho
 case h_5 t len parts e=>
  obtain⟨p,h2,h3⟩:=Option.map_eq_some_iff.1 ho;simp only[Prod.mk.injEq]at h3;obtain⟨rfl,rfl,rfl,rfl⟩:=h3;exact OT_bs e h2
 case h_6 s x t t' e=>
  split at ho
  ·rename_i vs vx h0 h1 h4;obtain⟨p,h2,h3⟩:=Option.map_eq_some_iff.1 ho;simp only[Prod.mk.injEq]at h3;obtain⟨rfl,rfl,rfl,rfl⟩:=h3;exact OT_append e h0 h1 h4 h2
  ·cases ho
 case h_7=>
  obtain⟨p,h2,h3⟩:=Option.map_eq_some_iff.1 ho;simp only[Prod.mk.injEq]at h3;obtain⟨rfl,rfl,rfl,rfl⟩:=h3;exact OT_pure h2
def callOf (o:Oper):Option (Operand×List Operand):=
 match o.op with
 | .call c=>match c.callee with
   | .value f=>some (f,c.args.toList)
   |_=>none
 |_=>none
structure Ft where
 dst:Option Nat
 wk:List Nat
 rk:List Nat
 sl:List Nat
def gslot (ops:Array Oper)(o:Oper):Option (Nat×Bool):=
 match o.guard with
 |some (j,want)=>match (ops[j]?).bind (·.dst)with
  |some d=>some (d,want)
  |none=>none
 |none=>none
def slotsOf (ops:Array Oper)(o:Oper):List Nat:=
 (o.op.operands.toList.filterMap fun| .tmp t=>some t|_=>none)++(match gslot ops o with
  |some (d,_)=>[d]
  |none=>[])
def gW (ops:Array Oper)(o:Oper)(T:Nat→Option V):Option Bool:=
 match o.guard with
 |none=>some true
 |some _=>match gslot ops o with
  |some (d,want)=>match T d with
   |some (.a (.d (.lit (.bool b))))=>some (b==want)
   |some (.a (.d (.lit (.tuple _))))=>some false
   |_=>none
  |none=>none
def wrT (dst:Option Nat)(v:V):List (Nat×V):=
 match dst with
 |some d=>[(d,v)]
 |none=>[]
structure Rec where
 o:Oper
 v:V
 sets:List (Nat×Ent)
 rk:List Nat
def Rec.ft (ops:Array Oper)(r:Rec):Ft:=⟨r.o.dst,r.sets.map (·.1),r.rk,slotsOf ops r.o⟩
def Fact (P:Program)(N:Nat)(ops:Array Oper)(r:Rec)(T:Nat→Option V)(h:Hp):Prop:=
 (∀d,r.o.dst=some d→d<N)∧((gW ops r.o T=some true∧OT P r.o T h r.v r.sets r.rk)∨(gW ops r.o T=some false∧r.v=vl undef∧r.sets=[]))
inductive Facts (P:Program) (N:Nat) (ops:Array Oper):List Rec→List (Nat×V)→List (Nat×Ent)→List (Nat×V)→List (Nat×Ent)→Prop
 |nil (T:List (Nat×V)) (H:List (Nat×Ent)):Facts P N ops [] T H T H
 |cons (r:Rec) (rs:List Rec) (T T':List (Nat×V)) (H H':List (Nat×Ent)) (h:Fact P N ops r (look T) (look H)) (k:Facts P N ops rs (wrT r.o.dst r.v++T) (r.sets++H) T' H'):Facts P N ops (r::rs) T H T' H'
theorem look_app {β:Type}:∀(xs T:List (Nat×β)),look (xs++T)=over xs (look T)
 |[],T=>rfl
 |(j,x)::r,T=>by
  funext k
  have ih:=congrFun (look_app r T) k;simp only[List.cons_append,look,over]at ih ⊢
  by_cases hj:j=k
  ·rw[if_pos hj,if_pos hj]
  ·rw[if_neg hj,if_neg hj];exact ih
def SR (N:Nat)(γ0:Gh)(h0:Hp)(M0:MS)(w0:World)(T:Nat→Option V)(h:Hp)(a:Act)(w:World):Prop:=
 ∃γ M,Rel γ h M w∧TR γ h M w T a∧a.tmps.size=N∧a.defers=[]∧Stp γ0 h0 M0 w0 γ h M w
section
variable {γ γ':Gh} {h h':Hp} {M M':MS} {w w':World} {T T':Nat→Option V} {a:Act} {P:Program} {N:Nat} {ops:Array Oper}
theorem TR.stp (s:Stp γ h M w γ' h' M' w')(ht:TR γ h M w T a):TR γ' h' M' w' T a:=⟨ht.1.fx s.fx,fun d v hd=>let ⟨r,h1,h2⟩:=ht.2 d v hd;⟨r,h1,RdV.stp s h2⟩⟩
theorem TR.put (ht:TR γ h M w T a){dst:Option Nat}{v:V}{r:Value}(hr:RdV γ h M w v r)(hN:∀d,dst=some d→d<a.tmps.size):TR γ h M w (over (wrT dst v) T) (a.put dst r):=by
 refine⟨ht.1,fun d u hd=> ?_⟩
 cases dst with
 |none=>exact ht.2 d u hd
 |some d0=>
  simp only[wrT]at hd
  by_cases e:d=d0
  ·subst e;simp only[over,look,if_true]at hd;injection hd with hd;subst hd;exact⟨r,by simp[Act.put,hN d rfl],hr⟩
  ·have hd':T d=some u:=by simpa [over,look,Ne.symm e]using hd
   obtain⟨r',h1,h2⟩:=ht.2 d u hd';exact⟨r',by simp only[Act.put];rw[Array.getElem?_setIfInBounds_ne (Ne.symm e)];exact h1,h2⟩
theorem gW_ok (ht:TR γ h M w T a){o:Oper}{b:Bool}(hb:gW ops o T=some b):Region.wanted o (yielded ops a.tmps)=b:=by
 unfold gW at hb;unfold Region.wanted;split at hb
 ·rename_i hg;injection hb with hb;subst hb;rw[hg]
 ·rename_i gd hg;obtain⟨j,want⟩:=gd;rw[hg];unfold gslot at hb;rw[hg]at hb;simp only at hb
  cases hd:(ops[j]?).bind (·.dst)with
  |none=>rw[hd]at hb;cases hb
  |some d=>
   rw[hd]at hb;simp only at hb
   have hy:yielded ops a.tmps j=match a.tmps[d]? with
     |some (.bool b)=>some b
     |_=>none:=by
    unfold yielded;rw[hd];simp only[Option.bind_some];cases a.tmps[d]? with
    |none=>rfl
    |some v=>cases v<;>rfl
   simp only[hy];split at hb
   ·rename_i b' he;injection hb with hb;subst hb;obtain⟨r,h1,h2⟩:=ht.2 d _ he;rw[h1,lit_inv h2]
    cases b'<;>cases want<;>rfl
   ·rename_i vs he;injection hb with hb;subst hb;obtain⟨r,h1,h2⟩:=ht.2 d _ he;rw[h1,lit_inv h2];rfl
   ·cases hb
theorem gW_congr {o:Oper}(hT:∀d∈slotsOf ops o,T' d=T d):gW ops o T'=gW ops o T:=by
 unfold gW;split
 ·rfl
 ·split
  ·rename_i d want hg;rw[hT d (by unfold slotsOf;rw[hg];simp)]
  ·rfl
theorem fact_op {γ0:Gh}{h0:Hp}{M0:MS}{w0:World}(hdom:∀b i,M0 b i→b<w0.heap.size){r:Rec}{i:Nat}{Q:Exit→Act→World→Prop}{K:Act→World→Prop}(f:Fact P N ops r T h)(hT:∀d∈slotsOf ops r.o,T' d=T d)(hH:∀k∈r.rk,h' k=h k)
  (hS:SR N γ0 h0 M0 w0 T' h' a w) (ho:ops[i]? =some r.o) (hn:∀a' w',SR N γ0 h0 M0 w0 (over (wrT r.o.dst r.v) T') (over r.sets h') a' w'→K a' w'):wpOp P ops Q i K a w:=by
 obtain⟨γ,M,hr,ht,hsz,hdf,hst⟩:=hS;obtain⟨hd,hf⟩:=f;have hdN:∀d,r.o.dst=some d→d<a.tmps.size:=fun d he=>by rw[hsz];exact hd d he
 unfold wpOp;rw[ho];simp only;have hsz':∀u,(a.put r.o.dst u).tmps.size=N:=by intro u;cases r.o.dst<;>simp[Act.put,hsz]
 have hdf':∀u,(a.put r.o.dst u).defers=[]:=by intro u;cases r.o.dst<;>simp[Act.put,hdf]
 rcases hf with⟨g1,g2⟩|⟨g1,g2,g3⟩
 ·rw[←gW_congr hT]at g1;rw[gW_ok ht g1,if_pos rfl];refine .inl (g2 T' h' γ M w a _ Q (fun d hm=>hT d ?_) hH hr ht fun u γ' M' w' k1 k2 k3=>hn _ _ ⟨γ',M',k1,?_,hsz' u,hdf' u,hst.trans k3 hdom⟩)
  ·unfold slotsOf;exact List.mem_append_left _ (List.mem_filterMap.2 ⟨.tmp d,by simpa using hm,rfl⟩)
  ·exact(ht.stp k3).put k2 hdN
 ·rw[←gW_congr hT]at g1;rw[gW_ok ht g1,if_neg (by simp)];refine hn _ _ ⟨γ,M,by rw[g3];exact hr,by rw[g2,g3];exact ht.put (.lit _) hdN,hsz' _,hdf' _,by rw[g3];exact hst⟩
theorem facts_plain {γ0:Gh}{h0:Hp}{M0:MS}{w0:World}(hdom:∀b i,M0 b i→b<w0.heap.size){Q:Exit→Act→World→Prop}{recs:List Rec}{T T':List (Nat×V)}{H H':List (Nat×Ent)}(f:Facts P N ops recs T H T' H'):
  ∀(i:Nat) (a:Act) (w:World),(∀j r,recs[j]? =some r→ops[i+j]? =some r.o)→SR N γ0 h0 M0 w0 (look T) (look H) a w→(∀a' w',SR N γ0 h0 M0 w0 (look T') (look H') a' w'→Q .normal a' w')→wpOps P ops Q ((List.range recs.length).map (i+ ·)) a w:=by
 induction f with
 |nil T H=>intro i a w _ hS hQ;exact hQ _ _ hS
 |cons r rs T T' H H' hf k ih=>
  intro i a w hops hS hQ;rw[List.length_cons,List.range_succ_eq_map,List.map_cons,List.map_map,wpOps_cons];refine fact_op hdom hf (fun _ _=>rfl) (fun _ _=>rfl) hS (by simpa using hops 0 r rfl) fun a' w' hS'=> ?_;have:=ih (i+1) a' w' (fun j r' hj=>by rw[show i+1+j=i+(j+1)from by omega];exact hops (j+1) r' (by simpa using hj)) (by rw[look_app,look_app];exact hS') hQ;have e:((fun x=>i+x)∘Nat.succ)=fun x=>i+1+x:=by funext x;simp;omega
  rw[e];exact this
end
def sel {β:Type}:List (List (Nat×β))→Nat→(Nat→Bool)→List (Nat×β)→List (Nat×β)
 |[],_,_,T=>T
 |x::xs,i,S,T=>sel xs (i+1) S (if S i then x++T else T)
theorem look_app_none {β:Type}{x T:List (Nat×β)}{d:Nat}(h:look x d=none):look (x++T) d=look T d:=by rw[look_app];simp[over,h]
theorem look_app_some {β:Type}{x T:List (Nat×β)}{d:Nat}{v:β}(h:look x d=some v):look (x++T) d=some v:=by rw[look_app];simp[over,h]
theorem look_app_congr {β:Type}{x T T':List (Nat×β)}{d:Nat}(h:look T d=look T' d):look (x++T) d=look (x++T') d:=by rw[look_app,look_app];simp[over,h]
theorem sel_agree {β:Type}{d:Nat}{S S':Nat→Bool}:∀(ws:List (List (Nat×β))) (i:Nat) (T T':List (Nat×β)),(∀(j:Nat) x,ws[j]? =some x→look x d≠none→S (i+j)=S' (i+j))→look T d=look T' d→look (sel ws i S T) d=look (sel ws i S' T') d
 |[],_,_,_,_,h=>h
 |x::xs,i,T,T',ha,h=>by
  simp only[sel];refine sel_agree xs (i+1) _ _ (fun j y hj hy=>by rw[show i+1+j=i+(j+1)from by omega];exact ha (j+1) y (by simpa using hj) hy) ?_
  by_cases hx:look x d=none
  ·split<;>split<;>simp[look_app_none hx,h]
  ·have:=ha 0 x rfl hx;simp only[Nat.add_zero]at this;rw[this];split
   ·exact look_app_congr h
   ·exact h
theorem sel_last {β:Type}{d:Nat}{v:β}{S:Nat→Bool}:∀(ws:List (List (Nat×β))) (i k:Nat) (T x:List (Nat×β)),ws[k]? =some x→look x d=some v→S (i+k)=true→(∀(j:Nat) y,k<j→ws[j]? =some y→S (i+j)=true→look y d=none)→look (sel ws i S T) d=some v
 |[],_,k,_,_,hk,_,_,_=>by simp at hk
 |y::ys,i,0,T,x,hk,hx,hs,hl=>by
  simp at hk;subst hk;simp only[sel];have hs':S i=true:=by simpa using hs
  rw[hs',if_pos rfl];refine(sel_agree (S:=S) (S':=fun _=>false) ys (i+1) _ (y++T) (fun j z hj hz=> ?_) rfl).trans ?_
  ·cases hq:S (i+1+j)with
   |false=>rfl
   |true=>exact absurd (hl (j+1) z (by omega) (by simpa using hj) (by rw[show i+(j+1)=i+1+j from by omega];exact hq)) hz
  ·have:∀(zs:List (List (Nat×β))) (i:Nat) (T:List (Nat×β)),sel zs i (fun _=>false) T=T:=by
    intro zs
    induction zs with
    |nil=>intros;rfl
    |cons z zs ih=>intro i T;simp only[sel];rw[ih];simp
   rw[this];exact look_app_some hx
 |y::ys,i,k+1,T,x,hk,hx,hs,hl=>by
  simp only[sel];exact sel_last ys (i+1) k _ x (by simpa using hk) hx (by rw[show i+1+k=i+(k+1)from by omega];exact hs) fun j z hj hz hq=>hl (j+1) z (by omega) (by simpa using hz) (by rw[show i+(j+1)=i+1+j from by omega];exact hq)
theorem sel_add {β:Type}{S S':Nat→Bool}{ws:List (List (Nat×β))}{T x:List (Nat×β)}{k:Nat}(hk:ws[k]? =some x)(hS:∀j,j≠k→S' j=S j)(hS':S' k=true)(hl:∀(j:Nat) y d,k<j→ws[j]? =some y→S j=true→look x d≠none→look y d=none):
  look (sel ws 0 S' T)=over x (look (sel ws 0 S T)):=by
 funext d
 unfold over
 cases hx:look x d with
 |none=>
  refine sel_agree ws 0 T T (fun j y hj hy=> ?_) rfl;rw[Nat.zero_add];refine hS j fun e=> ?_;subst e;rw[hk]at hj;injection hj with hj;subst hj;exact hy hx
 |some v=>
  refine sel_last ws 0 k T x hk hx (by simpa using hS') fun j y hj hy hs=>hl j y d hj hy ?_ (by rw[hx];simp);rw[Nat.zero_add,hS j (by omega)]at hs;exact hs
def maskOf (acc:List Nat):List Edge→Nat
 |[]=>0
 |e::r=>(if Region.binds .any e then 2^e.on ||| acc.getD e.on 0 else 0) ||| maskOf acc r
def masks:List Oper→List Nat→List Nat
 |[],acc=>acc
 |o::r,acc=>masks r (acc++[maskOf acc o.after.toList])
theorem masks_pre:∀(l:List Oper) (acc:List Nat) (i:Nat),i<acc.length→(masks l acc)[i]? =acc[i]?
 |[],_,_,_=>rfl
 |o::r,acc,i,hi=>by
  simp only[masks];rw[masks_pre r _ i (by simp;omega),List.getElem?_append_left hi]
theorem masks_at:∀(l:List Oper) (acc:List Nat) (i:Nat) (o:Oper),l[i]? =some o→∃pre:List Nat,pre.length=acc.length+i∧(∀j,j<pre.length→pre[j]? =(masks l acc)[j]?)∧(masks l acc)[acc.length+i]? =some (maskOf pre o.after.toList)
 |[],_,_,_,hi=>by simp at hi
 |x::r,acc,0,o,hi=>by
  simp at hi;subst hi;refine⟨acc,rfl,fun j hj=>(masks_pre (x::r) acc j hj).symm,?_⟩;simp only[masks];rw[masks_pre r _ _ (by simp)];simp
 |x::r,acc,i+1,o,hi=>by
  obtain⟨pre,h1,h2,h3⟩:=masks_at r (acc++[maskOf acc x.after.toList]) i o (by simpa using hi);simp only[masks];simp only[List.length_append,List.length_singleton]at h1 h3;exact⟨pre,by omega,h2,by rw[show acc.length+(i+1)=acc.length+1+i from by omega];exact h3⟩
theorem maskOf_bit {acc:List Nat}{j:Nat}:∀{es:List Edge},(maskOf acc es).testBit j=true→∃e∈es,Region.binds .any e=true∧(e.on=j∨(acc.getD e.on 0).testBit j=true)
 |[],h=>by simp[maskOf]at h
 |e::r,h=>by
  simp only[maskOf,Nat.testBit_or,Bool.or_eq_true]at h;rcases h with h|h
  ·split at h
   ·rename_i hb;simp only[Nat.testBit_or,Bool.or_eq_true,Nat.testBit_two_pow,decide_eq_true_eq]at h;exact⟨e,by simp,hb,h⟩
   ·simp at h
  ·obtain⟨e',h1,h2⟩:=maskOf_bit h;exact⟨e',by simp[h1],h2⟩
theorem anc {ops:Array Oper}{S:Nat→Bool}(hcl:∀i o,S i=true→ops[i]? =some o→∀e∈o.after,Region.binds .any e=true→S e.on=true):
  ∀(i:Nat) (o:Oper),ops[i]? =some o→(∀e∈o.after,Region.binds .any e=true→S e.on=true)→∀j,((masks ops.toList []).getD i 0).testBit j=true→S j=true:=by
 intro i
 induction i using Nat.strongRecOn with
 |_ i ih=>
  intro o ho hr j hj;obtain⟨pre,h1,h2,h3⟩:=masks_at ops.toList [] i o (by simpa using ho);simp only[List.length_nil,Nat.zero_add]at h1 h3;rw[List.getD_eq_getElem?_getD,h3]at hj;simp only[Option.getD_some]at hj;obtain⟨e,he,hb,hq⟩:=maskOf_bit hj;have he':e∈o.after:=Array.mem_toList_iff.1 he;have hSe:=hr e he' hb;rcases hq with rfl|hq
  ·exact hSe
  ·by_cases hlt:e.on<i
   ·rw[List.getD_eq_getElem?_getD,h2 _ (by omega)]at hq;have hi:=(Array.getElem?_eq_some_iff.1 ho).1;have ho2:ops[e.on]? =some (ops[e.on]'(by omega)):=Array.getElem?_eq_getElem _;exact ih e.on hlt _ ho2 (hcl e.on _ hSe ho2) j (by rw[List.getD_eq_getElem?_getD];exact hq)
   ·rw[List.getD_eq_getElem?_getD,List.getElem?_eq_none (by omega)]at hq;simp at hq
def confT (a b:Ft):Bool:=
 (match a.dst with
  |some d=>b.dst==some d||b.sl.contains d
  |none=>false)||
 (match b.dst with
  |some d=>a.sl.contains d
  |none=>false)||
 a.wk.any (fun k=>b.wk.contains k||b.rk.contains k)||b.wk.any (fun k=>a.rk.contains k)
def noConf (fs:List Ft)(ms:List Nat):Bool:=
 (List.range fs.length).all fun j=>(List.range j).all fun i=>match fs[i]?,fs[j]? with
  |some a,some b=> !confT a b||(ms.getD j 0).testBit i
  |_,_=>true
def edgesOk (ops:Array Oper):Bool:=
 (List.range ops.size).all fun i=>match ops[i]? with
  |some o=>o.after.all fun e=> !Region.binds .any e||decide (e.on<i)
  |none=>true
theorem noConf_ok {fs:List Ft}{ms:List Nat}(hc:noConf fs ms=true){i j:Nat}{a b:Ft}(hij:i<j)(ha:fs[i]? =some a)(hb:fs[j]? =some b)(hab:confT a b=true):(ms.getD j 0).testBit i=true:=by
 have hj:=(List.getElem?_eq_some_iff.1 hb).1;have h1:=List.all_eq_true.1 hc j (List.mem_range.2 hj);have h2:=List.all_eq_true.1 h1 i (List.mem_range.2 hij);rw[ha,hb]at h2;simpa [hab]using h2
def unl (L:Array Bool):Nat:=L.toList.countP (fun b=> !b)
theorem unl_set {L:Array Bool}{i:Nat}(h:L[i]? =some false):unl (L.setIfInBounds i true)+1=unl L:=by
 obtain⟨l⟩:=L;simp only[unl,sI];simp only[List.getElem?_toArray]at h
 induction l generalizing i with
 |nil=>simp at h
 |cons b l ih=>
  cases i with
  |zero=>simp at h;subst h;simp
  |succ i=>simp at h;have:=ih h;simp only[sS,List.countP_cons];omega
theorem look_ne {β:Type}{x:List (Nat×β)}{d:Nat}(h:look x d≠none):(x.map (·.1)).contains d=true:=by
 cases hl:look x d with
 |none=>exact absurd hl h
 |some v=>simp only[List.contains_eq_mem,decide_eq_true_eq];exact List.mem_map.2 ⟨(d,v),look_mem hl,rfl⟩
theorem wrT_ne {dst:Option Nat}{v:V}{d:Nat}(h:look (wrT dst v) d≠none):dst=some d:=by
 cases dst with
 |none=>exact absurd rfl h
 |some e=>
  simp only[wrT,look]at h;split at h
  ·rename_i e1;rw[e1]
  ·exact absurd rfl h
section
variable {P:Program} {N:Nat} {ops:Array Oper} {γ0:Gh} {h0:Hp} {M0:MS} {w0:World}
theorem facts_at {recs:List Rec}{T T':List (Nat×V)}{H H':List (Nat×Ent)}(f:Facts P N ops recs T H T' H'):∀(i k:Nat) (r:Rec),recs[k]? =some r→
  Fact P N ops r (look (sel (recs.map fun r=>wrT r.o.dst r.v) i (fun j=>decide (j<i+k)) T)) (look (sel (recs.map fun r=>r.sets) i (fun j=>decide (j<i+k)) H)):=by
 induction f with
 |nil=>intro i k r hk;simp at hk
 |cons r0 rs T T' H H' hf _ ih=>
  intro i k r hk;have hnone:∀{β:Type} (zs:List (List (Nat×β))) (i m:Nat) (T:List (Nat×β)),m≤i→sel zs i (fun j=>decide (j<m)) T=T:=by
   intro β zs
   induction zs with
   |nil=>intros;rfl
   |cons z zs ih=>intro i m T hm;simp only[sel];rw[if_neg (by simp;omega)];exact ih _ _ _ (by omega)
  cases k with
  |zero=>
   simp at hk;subst hk;rw[hnone _ _ _ _ (by omega),hnone _ _ _ _ (by omega)];exact hf
  |succ k=>
   have:=ih (i+1) k r (by simpa using hk);simp only[List.map_cons,sel];rw[if_pos (by simp),if_pos (by simp),show i+(k+1)=i+1+k from by omega];exact this
theorem facts_end {recs:List Rec}{T T':List (Nat×V)}{H H':List (Nat×Ent)}(f:Facts P N ops recs T H T' H'):∀(i:Nat),sel (recs.map fun r=>wrT r.o.dst r.v) i (fun _=>true) T=T'∧sel (recs.map fun r=>r.sets) i (fun _=>true) H=H':=by
 induction f with
 |nil=>intro i;exact⟨rfl,rfl⟩
 |cons r0 rs T T' H H' hf _ ih=>intro i;simp only[List.map_cons,sel,if_true];exact ih (i+1)
theorem facts_any (hdom:∀b i,M0 b i→b<w0.heap.size){Q:Exit→Act→World→Prop}{recs:List Rec}{T T':List (Nat×V)}{H H':List (Nat×Ent)}(f:Facts P N ops recs T H T' H')(hops:recs.map (·.o)=ops.toList)
  (hc:noConf (recs.map (·.ft ops)) (masks ops.toList [])=true) (he:edgesOk ops=true) (hQ:∀a' w',SR N γ0 h0 M0 w0 (look T') (look H') a' w'→Q .normal a' w'):
  ∀(fuel:Nat) (L:Array Bool) (a:Act) (w:World),L.size=ops.size→unl L=fuel→(∀i o,L.getD i false=true→ops[i]? =some o→∀e∈o.after,Region.binds .any e=true→L.getD e.on false=true)→
   SR N γ0 h0 M0 w0 (look (sel (recs.map fun r=>wrT r.o.dst r.v) 0 (fun j=>L.getD j false) T)) (look (sel (recs.map fun r=>r.sets) 0 (fun j=>L.getD j false) H)) a w→wpAny P .any ops Q fuel L a w:=by
 have hrec:∀(i:Nat) (o:Oper),ops[i]? =some o→∃r:Rec,recs[i]? =some r∧r.o=o:=by
  intro i o ho;have h1:ops.toList[i]? =some o:=by simpa using ho
  rw[←hops,List.getElem?_map]at h1;obtain⟨r,h2,h3⟩:=Option.map_eq_some_iff.1 h1;exact⟨r,h2,h3⟩
 have hrec':∀(i:Nat) (r:Rec),recs[i]? =some r→ops[i]? =some r.o:=by
  intro i r hr;have h1:ops.toList[i]? =some r.o:=by rw[←hops,List.getElem?_map,hr];rfl
  simpa using h1
 -- all have come up where nothing is ready
 have hdone:∀(L:Array Bool),L.size=ops.size→Region.ready .any ops L=[]→∀i,i<ops.size→L.getD i false=true:=by
  intro L hL hr i
  induction i using Nat.strongRecOn with
  |_ i ih=>
   intro hi
   cases hb:L.getD i false with
   |true=>rfl
   |false=>
    exfalso;have hmem:i∈Region.ready .any ops L:=by
     refine mem_ready.2 ⟨?_,ops[i],Array.getElem?_eq_getElem hi,fun e hem hbind=> ?_⟩
     ·have hlt:i<L.size:=by omega
      simp only[Array.getD_eq_getD_getElem?,Array.getElem?_eq_getElem hlt,Option.getD_some]at hb ⊢;exact hb
     ·have h1:=List.all_eq_true.1 he i (List.mem_range.2 hi);rw[Array.getElem?_eq_getElem hi]at h1;have h2:=Array.all_eq_true'.1 h1 e hem;simp only[hbind,Bool.not_true,Bool.false_or,decide_eq_true_eq]at h2;exact ih e.on h2 (by omega)
    rw[hr]at hmem;cases hmem
 have hfin:∀(L:Array Bool) (a:Act) (w:World),L.size=ops.size→Region.ready .any ops L=[]→
   SR N γ0 h0 M0 w0 (look (sel (recs.map fun r=>wrT r.o.dst r.v) 0 (fun j=>L.getD j false) T)) (look (sel (recs.map fun r=>r.sets) 0 (fun j=>L.getD j false) H)) a w→Q .normal a w:=by
  intro L a w hL hr hS;have hall:=hdone L hL hr;have hlen:recs.length=ops.size:=by rw[←List.length_map (f:=(·.o)),hops];simp
  have e1:look (sel (recs.map fun r=>wrT r.o.dst r.v) 0 (fun j=>L.getD j false) T)=look T':=by
   funext d
   rw[←(facts_end f 0).1];refine sel_agree _ 0 _ _ (fun j x hj _=> ?_) rfl;have:=(List.getElem?_eq_some_iff.1 hj).1;rw[Nat.zero_add];exact hall j (by simp at this;omega)
  have e2:look (sel (recs.map fun r=>r.sets) 0 (fun j=>L.getD j false) H)=look H':=by
   funext d
   rw[←(facts_end f 0).2];refine sel_agree _ 0 _ _ (fun j x hj _=> ?_) rfl;have:=(List.getElem?_eq_some_iff.1 hj).1;rw[Nat.zero_add];exact hall j (by simp at this;omega)
  rw[e1,e2]at hS;exact hQ a w hS
 intro fuel
 induction fuel with
 |zero=>
  intro L a w hL hu hcl hS;have hr:Region.ready .any ops L=[]:=by
   cases hq:Region.ready .any ops L with
   |nil=>rfl
   |cons i r=>
    exfalso;have hm:i∈Region.ready .any ops L:=by rw[hq];simp
    have h1:=(mem_ready.1 hm).1;have hlt:i<L.size:=by
     rcases Nat.lt_or_ge i L.size with h2|h2
     ·exact h2
     ·rw[Array.getD_eq_getD_getElem?,Array.getElem?_eq_none h2]at h1;cases h1
    have h3:L[i]? =some false:=by
     rw[Array.getD_eq_getD_getElem?,Array.getElem?_eq_getElem hlt]at h1;rw[Array.getElem?_eq_getElem hlt];simpa using h1
    have:=unl_set h3;omega
  exact⟨hr,hfin L a w hL hr hS⟩
 |succ fuel ih=>
  intro L a w hL hu hcl hS;refine⟨fun hr=>hfin L a w hL hr hS,fun i hm=> ?_⟩;obtain⟨h1,o,ho,hready⟩:=mem_ready.1 hm;have hlt:i<L.size:=by
   rcases Nat.lt_or_ge i L.size with h2|h2
   ·exact h2
   ·rw[Array.getD_eq_getD_getElem?,Array.getElem?_eq_none h2]at h1;cases h1
  have h3:L[i]? =some false:=by
   rw[Array.getD_eq_getD_getElem?,Array.getElem?_eq_getElem hlt]at h1;rw[Array.getElem?_eq_getElem hlt];simpa using h1
  have hSi:L.getD i false=false:=by rw[Array.getD_eq_getD_getElem?,h3];rfl
  obtain⟨r,hr,rfl⟩:=hrec i o ho;have hfi:(recs.map (·.ft ops))[i]? =some (r.ft ops):=by rw[List.getElem?_map,hr];rfl
  -- what comes before in the text and meddles has come up
  have hbefore:∀(j:Nat) (r':Rec),j<i→recs[j]? =some r'→confT (r'.ft ops) (r.ft ops)=true→L.getD j false=true:=by
   intro j r' hj hr' hcf;have hb:=noConf_ok hc hj (by rw[List.getElem?_map,hr'];rfl) hfi hcf;exact anc (S:=fun j=>L.getD j false) hcl i _ ho hready j hb
  have hafter:∀(j:Nat) (r':Rec),i<j→recs[j]? =some r'→confT (r.ft ops) (r'.ft ops)=true→L.getD j false=false:=by
   intro j r' hj hr' hcf
   cases hq:L.getD j false with
   |false=>rfl
   |true=>
    exfalso;have hb:=noConf_ok hc hj hfi (by rw[List.getElem?_map,hr'];rfl) hcf;have:=anc (S:=fun j=>L.getD j false) hcl j _ (hrec' j r' hr') (fun e hem hbind=>hcl j _ hq (hrec' j r' hr') e hem hbind) i hb;simp only[hSi]at this;cases this
  have hagree:∀(j:Nat) (r':Rec),recs[j]? =some r'→(j<i→confT (r'.ft ops) (r.ft ops)=true)→(i<j→confT (r.ft ops) (r'.ft ops)=true)→L.getD (0+j) false=decide (0+j<0+i):=by
   intro j r' hr' c1 c2;rw[Nat.zero_add,Nat.zero_add];rcases Nat.lt_trichotomy j i with hj|hj|hj
   ·rw[hbefore j r' hj hr' (c1 hj)];simp[hj]
   ·subst hj;rw[hSi];simp
   ·rw[hafter j r' hj hr' (c2 hj)];simp;omega
  have fi:=facts_at f 0 i r hr;refine fact_op hdom fi (fun d hd=> ?_) (fun k hk=> ?_) hS ho fun a' w' hS'=>ih _ a' w' (by simp[hL]) (by have:=unl_set h3;omega) ?_ ?_
  ·refine sel_agree _ 0 _ _ (fun j x hj hx=> ?_) rfl;rw[List.getElem?_map]at hj;obtain⟨r',hr',rfl⟩:=Option.map_eq_some_iff.1 hj;have hdst:=wrT_ne hx;refine hagree j r' hr' (fun _=> ?_) (fun _=> ?_)
   ·simp[confT,Rec.ft,hdst,hd]
   ·simp[confT,Rec.ft,hdst,hd]
  ·refine sel_agree _ 0 _ _ (fun j x hj hx=> ?_) rfl;rw[List.getElem?_map]at hj;obtain⟨r',hr',rfl⟩:=Option.map_eq_some_iff.1 hj;have hw:=look_ne hx;simp only[List.contains_eq_mem,decide_eq_true_eq]at hw;refine hagree j r' hr' (fun _=> ?_) (fun _=> ?_)
   ·simp only[confT,Rec.ft,Bool.or_eq_true,List.any_eq_true];exact .inl (.inr ⟨k,hw,by simp[hk]⟩)
   ·simp only[confT,Rec.ft,Bool.or_eq_true,List.any_eq_true];exact .inr ⟨k,hw,by simpa using hk⟩
  ·intro j o' hj ho' e hem hbind
   by_cases hji:j=i
   ·subst hji;rw[ho]at ho';injection ho' with ho';subst ho';have:=hready e hem hbind;rw[Array.getD_eq_getD_getElem?]at this ⊢
    by_cases hei:e.on=j
    ·subst hei;simp[hlt]
    ·rw[Array.getElem?_setIfInBounds_ne (Ne.symm hei)];exact this
   ·have hj':L.getD j false=true:=by
     rw[Array.getD_eq_getD_getElem?]at hj ⊢
     rwa [Array.getElem?_setIfInBounds_ne (Ne.symm hji)]at hj
    have:=hcl j o' hj' ho' e hem hbind;rw[Array.getD_eq_getD_getElem?]at this ⊢
    by_cases hei:e.on=i
    ·rw[hei];simp[hlt]
    ·rw[Array.getElem?_setIfInBounds_ne (Ne.symm hei)];exact this
  ·have hne:∀j,j≠i→(L.setIfInBounds i true).getD j false=L.getD j false:=by
    intro j hj;rw[Array.getD_eq_getD_getElem?,Array.getD_eq_getD_getElem?,Array.getElem?_setIfInBounds_ne (Ne.symm hj)]
   have hself:(L.setIfInBounds i true).getD i false=true:=by simp[Array.getD_eq_getD_getElem?,hlt]
   rw[sel_add (k:=i) (x:=wrT r.o.dst r.v) (by rw[List.getElem?_map,hr];rfl) hne hself,sel_add (k:=i) (x:=r.sets) (by rw[List.getElem?_map,hr];rfl) hne hself]
   ·exact hS'
   ·intro j y d hj hy hs hx;rw[List.getElem?_map]at hy;obtain⟨r',hr',rfl⟩:=Option.map_eq_some_iff.1 hy
    cases hq:look r'.sets d with
    |none=>rfl
    |some v=>
     exfalso;have hw:=look_ne hx;have hw':=look_ne (x:=r'.sets) (d:=d) (by rw[hq];simp);simp only[List.contains_eq_mem,decide_eq_true_eq]at hw hw'
     have:=hafter j r' hj hr' (by
      simp only[confT,Rec.ft,Bool.or_eq_true,List.any_eq_true];exact .inl (.inr ⟨d,hw,by simp only[List.contains_eq_mem,Bool.or_eq_true,decide_eq_true_eq];exact .inl hw'⟩))
     rw[hs]at this;cases this
   ·intro j y d hj hy hs hx;rw[List.getElem?_map]at hy;obtain⟨r',hr',rfl⟩:=Option.map_eq_some_iff.1 hy
    cases hq:look (wrT r'.o.dst r'.v) d with
    |none=>rfl
    |some v=>
     exfalso;have hw:=wrT_ne hx;have hw':=wrT_ne (dst:=r'.o.dst) (v:=r'.v) (d:=d) (by rw[hq];simp);have:=hafter j r' hj hr' (by simp[confT,Rec.ft,hw,hw']);rw[hs]at this;cases this
end
structure St where
 T:List (Nat×V)
 H:List (Nat×Ent)
 n:Nat
def Wk (m:Nat)(s s':St):Prop:=∀(N:Nat) (γ0:Gh) (h0:Hp) (M0:MS) (w0:World) (a:Act) (w:World),(∀key,(h0 key).isSome=true→key<m)→(∀b i,M0 b i→b<w0.heap.size)→
 SR N γ0 h0 M0 w0 (look s.T) (look s.H) a w→SR N γ0 h0 M0 w0 (look s'.T) (look s'.H) a w
theorem Wk.refl (m:Nat)(s:St):Wk m s s:=fun _ _ _ _ _ _ _ _ _ k=>k
theorem Wk.trans {m:Nat}{s s' s'':St}(h:Wk m s s')(k:Wk m s' s''):Wk m s s'':=fun _ _ _ _ _ _ _ h1 h2 h3=>k _ _ _ _ _ _ _ h1 h2 (h _ _ _ _ _ _ _ h1 h2 h3)
section
variable {γ γ':Gh} {h h':Hp} {M M':MS} {w w':World} {T T':Nat→Option V} {a:Act} {P:Program} {N m:Nat}
theorem stp_drew (γ:Gh)(h:Hp)(M:MS)(w:World):Stp γ h M w γ h M w.drew:=
 ⟨rfl,rfl,rfl,lR_ _,fun _ _ _ k=>k,fun _ _ _=>rfl,fun _ _ k _=>k,fun key b i k _=>⟨key,k⟩,fun key e he=>⟨e,he,Goes.refl e,.inl rfl⟩⟩
theorem SR.drew {γ0:Gh}{h0:Hp}{M0:MS}{w0:World}(hd:∀b i,M0 b i→b<w0.heap.size)(k:SR N γ0 h0 M0 w0 T h a w):SR N γ0 h0 M0 w0 T h a w.drew:=by
 obtain⟨γ,M,h1,h2,h3,h4,h5⟩:=k;have s:=stp_drew γ h M w;exact⟨γ,M,⟨fun key e he=>EntR.stp s (h1.ent key e he) rfl fun _ _ _=>rfl,h1.own,h1.inj,h1.u32,h1.dom,h1.glb.fx s.fx⟩,h2.stp s,h3,h4,h5.trans s hd⟩
def WkA (x y:A):Prop:=∀(γ:Gh) (h:Hp) (M:MS) (w:World) (r:Value),RdA γ h M w x r→RdA γ h M w y r
theorem WkA.refl (x:A):WkA x x:=fun _ _ _ _ _ k=>k
abbrev aR_:= @WkA.refl
theorem WkA.own {key k:Nat}{xs:List (List D)}:WkA (.own key k xs) (.d (.sl k xs)):=fun _ _ _ _ _ k=>k.1
theorem WkA.nil {k:Nat}:WkA (.d (.lit (.slice none 0 0))) (.d (.sl k [])):=fun _ _ _ _ _ q=>by rw[lit_inv q];exact nil_ok k
theorem all2_wk {γ:Gh}{h:Hp}{M:MS}{w:World}:∀{xs ys:List A} {vs:List Value},All2 WkA xs ys→All2 (RdA γ h M w) xs vs→All2 (RdA γ h M w) ys vs
 |[],[],[],_,_=>trivial
 |_::_,_::_,_::_,h,k=>⟨h.1 _ _ _ _ _ k.1,all2_wk h.2 k.2⟩
 |[],[],_::_,_,k=>k.elim
 |[],_::_,_,h,_=>h.elim
 |_::_,[],_,h,_=>h.elim
 |_::_,_::_,[],_,k=>k.elim
theorem WkV.agg {xs ys:List A}(h:All2 WkA xs ys):WkV (.agg xs) (.agg ys):=fun _ _ _ _ _ ⟨vs,h1,h2⟩=>⟨vs,h1,all2_wk h h2⟩
def WkW:W→W→Prop
 | .s x,.s y=>WkA x y
 | .g xs,.g ys=>All2 WkA xs ys
 |_,_=>False
theorem all2_wkW {γ:Gh}{h:Hp}{M:MS}{w:World}:∀{xs ys:List W} {vs:List Value},All2 WkW xs ys→All2 (RdW γ h M w) xs vs→All2 (RdW γ h M w) ys vs
 |[],[],[],_,_=>trivial
 |x::_,y::_,v::_,hh,k=>⟨by
   cases x<;>cases y<;>first|exact hh.1.elim|skip
   ·exact hh.1 _ _ _ _ _ k.1
   ·obtain⟨vs,h1,h2⟩:=k.1;exact⟨vs,h1,all2_wk hh.1 h2⟩,all2_wkW hh.2 k.2⟩
 |[],[],_::_,_,k=>k.elim
 |[],_::_,_,h,_=>h.elim
 |_::_,[],_,h,_=>h.elim
 |_::_,_::_,[],_,k=>k.elim
theorem WkV.tup {xs ys:List W}(h:All2 WkW xs ys):WkV (.tup xs) (.tup ys):=fun _ _ _ _ _ ⟨vs,h1,h2⟩=>⟨vs,h1,all2_wkW h h2⟩
def WkD (x y:D):Prop:=∀(M:MS) (w:World) (r:Value),RdD M w x r→RdD M w y r
theorem WkD.refl (x:D):WkD x x:=fun _ _ _ k=>k
theorem all2_wkD {M:MS}{w:World}:∀{xs ys:List (List D)} {vs:List Value},All2 (All2 WkD) xs ys→All2 (RdD M w) xs.flatten vs→All2 (RdD M w) ys.flatten vs:=by
 have one:∀{xs ys:List D},All2 WkD xs ys→∀{zs zs':List D} {vs:List Value},(∀us,All2 (RdD M w) zs us→All2 (RdD M w) zs' us)→All2 (RdD M w) (xs++zs) vs→All2 (RdD M w) (ys++zs') vs:=by
  intro xs
  induction xs with
  |nil=>intro ys h zs zs' vs k q;cases ys with
   |nil=>exact k _ q
   |cons=>exact h.elim
  |cons x xs ih=>intro ys h zs zs' vs k q;cases ys with
   |nil=>exact h.elim
   |cons y ys=>cases vs with
    |nil=>exact q.elim
    |cons v vs=>exact⟨h.1 _ _ _ q.1,ih h.2 k q.2⟩
 intro xs
 induction xs with
 |nil=>intro ys vs h q;cases ys with
  |nil=>exact q
  |cons=>exact h.elim
 |cons x xs ih=>intro ys vs h q;cases ys with
  |nil=>exact h.elim
  |cons y ys=>exact one h.1 (fun us=>ih h.2) q
theorem all2_len {xs ys:List (List D)}{k:Nat}(h:All2 (All2 WkD) xs ys)(hk:∀row∈xs,row.length=k):∀row∈ys,row.length=k:=by
 intro row hr;obtain⟨i,hi⟩:=List.mem_iff_getElem?.1 hr;have hl:=h.len;have hlt:=(List.getElem?_eq_some_iff.1 hi).1;obtain⟨y,e1,e2⟩:=All2.get h (i:=i) (x:=xs[i]'(by omega)) (List.getElem?_eq_getElem _);rw[hi]at e1;injection e1 with e1;subst e1;rw[←e2.len];exact hk _ (List.getElem_mem _)
def WkE (e e':Ent):Prop:=
 match e' with
 | .gone=>True
 | .box t cs'=>∃cs,e= .box t cs∧All2 WkA cs cs'
 | .arr t k n=>e= .arr t k n
 | .tab t k rows=>∃rows0,e= .tab t k rows0∧All2 (All2 WkD) rows0 rows
 | .mp φ=>∃φ0,e= .mp φ0∧∀M w o,φ0.p M w o→φ.p M w o
 | .tt f0 f k o ar=>∃ar0,e= .tt f0 f k o ar0∧All2 (All2 (All2 WkD)) ar0 ar
theorem ars_len {ar0 ar:List (List (List D))}(h:All2 (All2 (All2 WkD)) ar0 ar)(a:Nat):(ar.getD a []).length=(ar0.getD a []).length:=by
 have hl:=h.len;rw[List.getD_eq_getElem?_getD,List.getD_eq_getElem?_getD]
 by_cases ha:a<ar0.length
 ·obtain⟨y,q1,q2⟩:=All2.get h (List.getElem?_eq_getElem ha);rw[q1,List.getElem?_eq_getElem ha];exact q2.len.symm
 ·rw[List.getElem?_eq_none (by omega),List.getElem?_eq_none (by omega)]
def keysE:Ent→List Nat
 | .box _ cs=>cs.flatMap keysA
 |_=>[]
def inH (H:List (Nat×Ent))(ks:List Nat):Bool:=ks.all fun k=>(look H k).isSome
def subT (T:List (Nat×V))(H':List (Nat×Ent)):List (Nat×V)→Prop
 |[]=>True
 |(d,v')::r=>(∃v,look T d=some v∧WkV v v'∧inH H' (keysV v')=true)∧subT T H' r
def subH (H H':List (Nat×Ent)):List (Nat×Ent)→Prop
 |[]=>True
 |(k,e')::r=>(∃e,look H k=some e∧WkE e e'∧inH H' (keysE e')=true)∧subH H H' r
def subM (m:Nat)(H H':List (Nat×Ent)):Bool:=(List.range m).all fun k=> !(look H k).isSome||(look H' k).isSome
theorem subT_at {T:List (Nat×V)}{H':List (Nat×Ent)}:∀{L:List (Nat×V)},subT T H' L→∀{d:Nat} {v':V},look L d=some v'→∃v,look T d=some v∧WkV v v'∧inH H' (keysV v')=true
 |(e,x)::r,hs,d,v',hl=>by
  simp only[look]at hl;split at hl
  ·rename_i hd;subst hd;injection hl with hl;subst hl;exact hs.1
  ·exact subT_at hs.2 hl
theorem subH_at {H H':List (Nat×Ent)}:∀{L:List (Nat×Ent)},subH H H' L→∀{d:Nat} {e':Ent},look L d=some e'→∃e,look H d=some e∧WkE e e'∧inH H' (keysE e')=true
 |(e,x)::r,hs,d,v',hl=>by
  simp only[look]at hl;split at hl
  ·rename_i hd;subst hd;injection hl with hl;subst hl;exact hs.1
  ·exact subH_at hs.2 hl
theorem renB_id (x:BA):renB id x=x:=by cases x<;>rfl
theorem renA_id (x:A):renA id x=x:=by
 cases x<;>simp[renA]
 have hl:∀l:List BA,l.map (renB id)=l:=fun l=>by rw[show(renB id)=id from funext renB_id];simp
 exact⟨hl _,hl _⟩
theorem renW_id (x:W):renW id x=x:=by
 cases x with
 |s x=>simp[renW,renA_id]
 |g xs=>simp[renW,show(renA id)=id from funext renA_id]
theorem renV_id (x:V):renV id x=x:=by
 cases x with
 |a x=>simp[renV,renA_id]
 |agg xs=>simp[renV,show(renA id)=id from funext renA_id]
 |tup xs=>simp[renV,show(renW id)=id from funext renW_id]
theorem rel_sub (r:Rel γ h M w){H':List (Nat×Ent)}(hs:∀(d:Nat) (e':Ent),look H' d=some e'→∃e,h d=some e∧WkE e e'∧inH H' (keysE e')=true):
  Rel γ (look H') M w∧(∀v x,RdV γ h M w v x→inH H' (keysV v)=true→RdV γ (look H') M w v x)∧(∀{γ0:Gh} {h0:Hp} {M0:MS} {w0:World},(∀key,(h0 key).isSome=true→(h key).isSome=true→(look H' key).isSome=true)→Stp γ0 h0 M0 w0 γ h M w→Stp γ0 h0 M0 w0 γ (look H') M w):=by
 have hsame:∀key,(look H' key).isSome=true→SameKey id γ h γ (look H') key:=by
  intro key hk;obtain⟨e',he'⟩:=Option.isSome_iff_exists.1 hk;obtain⟨e,he,hw,_⟩:=hs key e' he';refine⟨rfl,fun hp=> ?_,fun hp=> ?_,fun _=>hk,fun e0 k n hq=> ?_,fun e0 k n hq=> ?_,fun hp=> ?_,fun e0 e1 k o ar hq=> ?_⟩
  ·rw[he]at hp;simp only[id_eq,he']
   cases e' with
   |gone=>rfl
   |box=>rfl
   |tab=>rfl
   |mp=>obtain⟨φ0,rfl,_⟩:=hw;cases hp
   |tt=>obtain⟨_,rfl,_⟩:=hw;cases hp
   |arr=>rw[show e=_ from hw]at hp;exact hp
  ·rw[he]at hp;simp only[id_eq,he']
   cases e' with
   |gone=>rfl
   |box=>obtain⟨_,rfl,_⟩:=hw;cases hp
   |tab=>obtain⟨_,rfl,_⟩:=hw;cases hp
   |mp=>rfl
   |tt=>obtain⟨_,rfl,_⟩:=hw;cases hp
   |arr=>rw[show e=_ from hw]at hp;cases hp
  ·simp only[id_eq]at hq;rw[he']at hq;injection hq with hq;subst hq;rw[he,show e=_ from hw]
  ·simp only[id_eq]at hq;rw[he']at hq;injection hq with hq;subst hq;obtain⟨rows0,rfl,h0⟩:=hw;exact⟨_,he,h0.len.symm⟩
  ·rw[he]at hp;simp only[id_eq,he']
   cases e' with
   |gone=>rfl
   |box=>obtain⟨_,rfl,_⟩:=hw;cases hp
   |tab=>obtain⟨_,rfl,_⟩:=hw;cases hp
   |mp=>obtain⟨φ0,rfl,_⟩:=hw;cases hp
   |tt=>rfl
   |arr=>rw[show e=_ from hw]at hp;cases hp
  ·simp only[id_eq]at hq;rw[he']at hq;injection hq with hq;subst hq;obtain⟨ar0,rfl,h0⟩:=hw;exact⟨o,ar0,he,rfl,h0.len.symm,ars_len h0⟩
 have hin:∀{ks:List Nat},inH H' ks=true→∀key∈ks,(look H' key).isSome=true:=fun hi key hk=>List.all_eq_true.1 hi key hk;have hlive:∀key,live (look H' key)=true→live (h key)=true:=by
  intro key hl
  cases he':look H' key with
  |none=>rw[he']at hl;cases hl
  |some e'=>
   obtain⟨e,he,hw,_⟩:=hs key e' he';rw[he']at hl;rw[he]
   cases e' with
   |gone=>cases hl
   |box=>obtain⟨cs,rfl,_⟩:=hw;rfl
   |tab=>obtain⟨cs,rfl,_⟩:=hw;rfl
   |mp=>obtain⟨cs,rfl,_⟩:=hw;rfl
   |tt=>obtain⟨cs,rfl,_⟩:=hw;rfl
   |arr=>rw[show e=_ from hw];rfl
 have hown:∀key b i,Owns γ (look H') key b i→Owns γ h key b i:=by
  intro key b i ho;unfold Owns at ho ⊢
  cases he':look H' key with
  |none=>rw[he']at ho;exact ho.elim
  |some e'=>
   obtain⟨e,he,hw,_⟩:=hs key e' he';rw[he']at ho;rw[he]
   cases e' with
   |gone=>exact ho.elim
   |box=>obtain⟨cs,rfl,_⟩:=hw;exact ho
   |tab=>obtain⟨cs,rfl,_⟩:=hw;exact ho
   |mp=>obtain⟨cs,rfl,_⟩:=hw;exact ho
   |tt=>obtain⟨cs,rfl,_⟩:=hw;exact ho
   |arr=>rw[show e=_ from hw];exact ho
 refine⟨⟨fun key e' he'=> ?_,fun key b i ho=>r.own key b i (hown key b i ho),fun k1 k2 b l1 l2=>r.inj k1 k2 b (hlive k1 l1) (hlive k2 l2),r.u32,r.dom,r.glb⟩,fun v x hv hi=> ?_,fun {γ0 h0 M0 w0} hm s=> ?_⟩
 ·obtain⟨e,he,hw,hi⟩:=hs key e' he';have hr:=r.ent key e he
  cases e' with
  |gone=>trivial
  |arr t k n=>rw[show e=_ from hw]at hr;exact hr
  |mp φ=>
   obtain⟨φ0,rfl,h0⟩:=hw;obtain⟨g,o,k1,k2,k3,k4⟩:=hr;exact⟨g,o,k1,k2,h0 _ _ o k3,k4⟩
  |tt f0 f k o ar=>
   obtain⟨ar0,rfl,h0⟩:=hw;have q:=tt_ren (f:=id) (γ':=γ) (h':=look H') hr (hsame key (by rw[he'];rfl));obtain⟨hd,ps,k1,k2,k3,k4,k5⟩:=q;refine⟨hd,ps,k1,k2.trans h0.len,k3,k4,fun a b rows ha har=> ?_⟩;have hl:=h0.len;have hlt:=(List.getElem?_eq_some_iff.1 har).1;obtain⟨y,q1,q2⟩:=All2.get h0 (i:=a) (x:=ar0[a]'(by omega)) (List.getElem?_eq_getElem _);rw[har]at q1;injection q1 with q1;subst q1;obtain⟨vs,sp,m1,m2,m3,m4⟩:=k5 a b _ ha (List.getElem?_eq_getElem (by omega));exact⟨vs,sp,m1,all2_len q2 m2,all2_wkD q2 m3,m4⟩
  |tab t k rows=>
   obtain⟨rows0,rfl,h0⟩:=hw;obtain⟨g,vs,sp,k1,k2,k3,k4,k5⟩:=hr;exact⟨g,vs,sp,k1,k2,all2_len h0 k3,all2_wkD h0 k4,k5⟩
  |box t cs'=>
   obtain⟨cs,rfl,hcs⟩:=hw;obtain⟨g,vs,k1,k2,k3⟩:=hr;refine⟨g,vs,k1,k2,?_⟩;have k4:=All2.renA (f:=id) (γ':=γ) (h':=look H') (all2_wk hcs k3) fun key hk=>hsame key (hin hi key hk)
   rwa [show(renA id)=id from funext renA_id,List.map_id]at k4
 ·have:=RdV.ren (f:=id) (γ':=γ) (h':=look H') hv fun key hk=>hsame key (hin hi key hk)
  rwa [renV_id]at this
 ·refine⟨s.os,s.tape,s.output,s.size,s.fx,s.other,s.keep,fun key b i ho hb=>s.new key b i (hown key b i ho) hb,fun key e he=> ?_⟩;obtain⟨e1,h1,h2,h3⟩:=s.key key e he;have hk:=hm key (by rw[he];rfl) (by rw[h1];rfl);obtain⟨e',he'⟩:=Option.isSome_iff_exists.1 hk;obtain⟨e2,he2,hw,_⟩:=hs key e' he';rw[h1]at he2;injection he2 with he2;subst he2;refine⟨e',he',?_,?_⟩
  ·cases e' with
   |gone=>cases e<;>trivial
   |box=>obtain⟨cs,rfl,_⟩:=hw;cases e<;>exact h2
   |tab=>obtain⟨cs,rfl,h0⟩:=hw;cases e<;>first|exact h2|exact h0.len.symm.trans h2
   |mp=>obtain⟨cs,rfl,h0⟩:=hw;cases e<;>exact h2
   |tt=>
    obtain⟨cs,rfl,h0⟩:=hw
    cases e<;>first
     |(obtain⟨rfl,rfl,rfl,g1,g2,g3⟩:=h2
       exact⟨rfl,rfl,rfl,g1,by rw[←h0.len];exact g2,fun a ha=>(ars_len h0 a).trans (g3 a ha)⟩)
     |exact h2
   |arr=>rw[show e1=_ from hw]at h2;exact h2
  ·rcases h3 with h3|h3
   ·exact .inl h3
   ·right
    cases e' with
    |gone=>cases e<;>cases e1<;>first|exact .inl trivial|exact h3|(rcases h3 with q|q<;>first|exact q.elim|exact .inr q.1)
    |box=>obtain⟨cs,rfl,_⟩:=hw;cases e<;>(rcases h3 with q|q<;>exact q.elim)
    |tab=>obtain⟨cs,rfl,_⟩:=hw;cases e<;>(rcases h3 with q|q<;>exact q.elim)
    |mp=>obtain⟨cs,rfl,_⟩:=hw;cases e<;>(rcases h3 with q|q<;>exact q.elim)
    |tt=>obtain⟨cs,rfl,_⟩:=hw;cases e<;>first|exact h3|(rcases h3 with q|q<;>exact q.elim)
    |arr=>rw[show e1=_ from hw]at h3;exact h3
theorem Wk.of {m:Nat}{s s':St}(h1:subT s.T s'.H s'.T)(h2:subH s.H s'.H s'.H)(h3:subM m s.H s'.H=true):Wk m s s':=by
 intro N γ0 h0 M0 w0 a w hm hd hS;obtain⟨γ,M,k1,k2,k3,k4,k5⟩:=hS;obtain⟨r1,r2,r3⟩:=rel_sub k1 (H':=s'.H) fun d e' he=>subH_at h2 he;refine⟨γ,M,r1,⟨k2.1,fun d v' hv'=> ?_⟩,k3,k4,r3 (fun key hk0 hk=> ?_) k5⟩
 ·obtain⟨v,hv,hw,hi⟩:=subT_at h1 hv';obtain⟨x,q1,q2⟩:=k2.2 d v hv;exact⟨x,q1,r2 v' x (hw _ _ _ _ _ q2) hi⟩
 ·have:=List.all_eq_true.1 h3 key (List.mem_range.2 (hm key hk0));simpa [hk]using this
theorem Wk.own {m:Nat}{s:St}(d key:Nat)(e:TypeId)(k:Nat)(hT:look s.T d=some (vl (.slice none 0 0)))(hk:look s.H key=none)(hkm:m≤key):
  Wk m s ⟨(d,.a (.own key k []))::s.T,(key,.arr e k 0)::s.H,s.n⟩:=by
 intro N γ0 h0 M0 w0 a w hm hd hS;obtain⟨γ,M,k1,k2,k3,k4,k5⟩:=hS;obtain⟨q1,q2⟩:=new_nil k1 hk e k;have e1:look ((key,Ent.arr e k 0)::s.H)=over [(key,.arr e k 0)] (look s.H):=look_app [(key,Ent.arr e k 0)] s.H;refine⟨_,M,by rw[e1];exact q1,⟨k2.1,fun d' v' hv'=> ?_⟩,k3,k4,by rw[e1];exact k5.trans q2 hd⟩;simp only[look]at hv';split at hv'
 ·rename_i hdd;subst hdd;injection hv' with hv';subst hv';obtain⟨x,y1,y2⟩:=k2.2 _ _ hT;have y3:=lit_inv y2;subst y3;refine⟨_,y1,nil_ok k,by simp[look],fun e' k' n he=> ?_⟩;simp only[look,if_true]at he;injection he with he;injection he with _ _ he;subst he;exact⟨lR_ _,fun _=>by rw[upd_same]⟩
 ·obtain⟨x,y1,y2⟩:=k2.2 d' v' hv';exact⟨x,y1,by rw[e1];exact RdV.stp q2 y2⟩
end
section
variable {γ γ':Gh} {h h':Hp} {M M':MS} {w w':World} {T T':Nat→Option V} {a:Act} {P:Program}
theorem flat_row {k:Nat}:∀{rows:List (List D)} {m:Nat} {row:List D},(∀r∈rows,r.length=k)→rows[m]? =some row→
  ∃pre post:List D,rows.flatten=pre++(row++post)∧pre.length=m*k∧∀row',(rows.set m row').flatten=pre++(row'++post)
 |[],m,row,_,hm=>by simp at hm
 |r::rows,0,row,hk,hm=>by
  simp at hm;subst hm;exact⟨[],rows.flatten,by simp,by simp,fun row'=>by simp⟩
 |r::rows,m+1,row,hk,hm=>by
  simp at hm;obtain⟨pre,post,h1,h2,h3⟩:=flat_row (fun r hr=>hk r (by simp[hr])) hm;exact⟨r++pre,post,by simp[h1],by simp[h2,hk r (by simp),Nat.add_mul];omega,fun row'=>by simp[h3]⟩
theorem take_mid {α:Type}{pre row post:List α}{j:Nat}(hj:j≤row.length):(pre++(row++post)).take (pre.length+j)=pre++row.take j:=by
 rw[List.take_length_add_append,List.take_append_of_le_length hj]
theorem drop_mid {α:Type}{pre row post:List α}{j:Nat}(hj:j≤row.length):(pre++(row++post)).drop (pre.length+j)=row.drop j++post:=by
 rw[List.drop_length_add_append,List.drop_append_of_le_length hj]
theorem OT_ixt {o:Oper}{t e:TypeId}{x i:Operand}{key nn m s:Nat}(ho:o.op= .indexAddr t x i)(hx:evL T x=some (.a (.tab key nn)))(hi:natI (evL T i)=some m)(he:elemT P t=some (e,s))(hm:m<nn):OT P o T h (.a (.ptr key (m*s))) [] []:=by
 intro T' h' γ M w a next Q hT hk hr ht hn
 have hx':evL T' x=some (.a (.tab key nn)):=by rw[←hx];exact evL_congr fun d hd=>hT d (by rw[ho];simp[Op.operands,hd])
 have hi':natI (evL T' i)=some m:=by rw[←hi];congr 1;exact evL_congr fun d hd=>hT d (by rw[ho];simp[Op.operands,hd])
 obtain⟨k1,⟨g,cp,k2,k3,_⟩,_⟩:=evL_ok ht hx';obtain⟨ki,hki⟩:=natI_ok ht hi';obtain⟨e1,e2⟩:=elemT_ok he;unfold Oper.wp;have:(execOp a.eval o).run P w= .ok (.value (.pointer (some ⟨g,0+m*s,none⟩))) w:=by
  simp[execOp,ho,k3,hki,Instr.indexAt,asIntOf,run_underlying e1,sizeT_run e2,hm,Addr.add_lit]
 rw[this];exact hn _ γ M w hr ⟨k1,g,k2,by rw[Nat.zero_add]⟩ (Stp.refl _ _ _ _)
theorem all2_d {ds:List D}{vs:List Value}(k:All2 (RdD M w) ds vs):All2 (RdA γ h M w) (ds.map .d) vs:=All2.map (All2.imp (fun _ _ q=>q) k)
theorem OT_ldt {o:Oper}{t e:TypeId}{x:Operand}{key off m j k s:Nat}{rows:List (List D)}{row:List D}{ag:Bool}{v:V}(ho:o.op= .load t x)(hx:evL T x=some (.a (.ptr key off)))(hh:h key=some (.tab e k rows))(h2:aggT P t=some ag)(h3:sizeT P t=some s)
  (hoff:off=m*k+j) (hrow:rows[m]? =some row) (hv:oneL ag (((row.drop j).take s).map .d) s=some v):OT P o T h v [] [key]:=by
 intro T' h' γ M w a next Q hT hk hr ht hn
 have hx':evL T' x=some (.a (.ptr key off)):=by rw[←hx];exact evL_congr fun d hd=>hT d (by rw[ho];simp[Op.operands,hd])
 obtain⟨_,g,k1,k2⟩:=evL_ok ht hx';obtain⟨g',vs,sp,k3,k4,k5,k6,_⟩:=hr.ent key _ ((hk key (by simp)).trans hh);rw[k1]at k3;injection k3 with k3;injection k3 with k3;injection k3 with k3;subst k3;obtain⟨pre,post,f1,f2,_⟩:=flat_row k5 hrow;have hrl:row.length=k:=k5 row (mG_ hrow);have hs:((row.drop j).take s).length=s:=by
  unfold oneL at hv;split at hv
  ·rename_i e;simpa using e
  ·cases hv
 have hcut:(rows.flatten.drop off).take s=(row.drop j).take s:=by
  rw[f1,hoff,List.drop_append,List.drop_eq_nil_of_le (by omega),f2,show m*k+j-m*k=j by omega,List.nil_append,List.drop_append];rcases eP_ s with h0|h0
  ·subst h0;simp
  ·have:j+s≤row.length:=by simp at hs;omega
   rw[List.take_append_of_le_length (by simp;omega)]
 have k7:=all2_d (γ:=γ) (h:=h') (All2.take s (All2.drop off k6));rw[hcut]at k7;obtain⟨k8,k9⟩:=oneL_ok hv k7;unfold Oper.wp;have:(execOp a.eval o).run P w= .ok (.value (if ag then .agg ((vs.drop off).take s).toArray else((vs.drop off).take s).headD undef)) w:=by
  have h4:(Instr.loadAt t (a.eval x)).run P w= .ok (if ag then .agg ((vs.drop off).take s).toArray else((vs.drop off).take s).headD undef) w:=by
   rw[k2];simp only[Instr.loadAt,Instr.sureAddr,Sem.run_bind,Sem.run_pure,Result.andThen_ok];refine loadVar_run h2 h3 (fun e=>by subst e;exact oneL_one hv) k8 fun j u hj=> ?_;rw[List.getElem?_take,List.getElem?_drop]at hj;split at hj
   ·have hjl:=(List.getElem?_eq_some_iff.1 hj).1;simp[World.cell?,k4,List.getElem?_append_left hjl,hj]
   ·cases hj
  simp[execOp,ho,h4]
 rw[this];exact hn _ γ M w hr k9 (Stp.refl _ _ _ _)
theorem set_tab (r:Rel γ h M w){key g:Nat}{t:TypeId}{k:Nat}{cs cs':List (List D)}{vs' sp:List Value}(hk:h key=some (.tab t k cs))(hl:cs'.length=cs.length)(hg:γ key= .pointer (some ⟨g,0,none⟩))
  (hw':w'.heap[g]? =some (.cells (vs'++sp).toArray t (0,0))) (ho:∀b,b≠g→w'.heap[b]? =w.heap[b]?) (h1:w'.os=w.os) (h2:w'.tape=w.tape) (h3:w'.output=w.output) (hs:w'.heap.size=w.heap.size)
  (hkk:∀row∈cs',row.length=k) (k4:All2 (RdD M w) cs'.flatten vs') (k1:∀v∈vs',v.oneCell'=true) (hp:∀(i:Nat) (x:Value),(vs'++sp).toArray[i]? =some x→∀z:Int,x≠ .int .u32 z):
  Rel γ (over [(key,.tab t k cs')] h) M w'∧Stp γ h M w γ (over [(key,.tab t k cs')] h) M w':=by
 have hM:∀i,M g i:=fun i=>r.own key g i (by unfold Owns;rw[hk];simp[hg,ib,blk]);have hown:∀key' b i,Owns γ (over [(key,.tab t k cs')] h) key' b i↔Owns γ h key' b i:=by
  intro key' b i
  by_cases e:key'=key
  ·subst e;unfold Owns;rw[over_same,hk]
  ·exact owns_congr rfl (over_other e)
 have s:Stp γ h M w γ (over [(key,.tab t k cs')] h) M w':=by
  refine⟨h1,h2,h3,by omega,fun b i u q=> ?_,fun b hb hn=> ?_,fun b i q _=>q,fun key' b i q _=>⟨key',(hown _ _ _).1 q⟩,fun key' e he=> ?_⟩
  ·have hne:b≠g:=fun e=>q.1 (e▸hM i);exact⟨q.1,by rw[←q.2];exact World.cell?_of_block (a:=⟨b,i,none⟩) (ho b hne)⟩
  ·refine ho b fun e=>hn key 0 ?_;subst e;unfold Owns;rw[hk];simp[hg,ib,blk]
  ·by_cases e1:key'=key
   ·subst e1;rw[hk]at he;injection he with he;subst he;exact⟨_,over_same,hl,.inl rfl⟩
   ·exact⟨e,by rw[over_other e1];exact he,Goes.refl _,.inl rfl⟩
 refine⟨⟨fun key' e he=> ?_,fun key' b i q=>r.own key' b i ((hown _ _ _).1 q),fun key1 key2 b l1 l2=> ?_,fun b i z hm=> ?_,fun b i hm=>by rw[hs];exact r.dom b i hm,r.glb.fx s.fx⟩,s⟩
 ·by_cases e1:key'=key
  ·subst e1;rw[over_same]at he;injection he with he;subst he;exact⟨g,vs',sp,hg,hw',hkk,All2.imp (fun _ _=>RdD.fx s.fx) k4,k1⟩
  ·rw[over_other e1]at he;refine EntR.stp s (r.ent key' e he) rfl fun hl b hb=>ho b fun e2=>e1 ?_;exact r.inj key' key b (by rw[he];exact hl) (by rw[hk];rfl) hb (by rw[hg,e2];rfl)
 ·have:∀k0,live (over [(key,.tab t k cs')] h k0)=true→live (h k0)=true:=by
   intro k0 hl
   by_cases e1:k0=key
   ·subst e1;rw[hk];rfl
   ·rwa [over_other e1]at hl
  exact r.inj key1 key2 b (this _ l1) (this _ l2)
 ·by_cases e1:b=g
  ·subst e1;intro h5;have:(vs'++sp).toArray[i]? =some (.int .u32 z):=by simpa [World.cell?,hw']using h5
   exact hp i _ this z rfl
  ·rw[World.cell?_of_block (w:=w) (a:=⟨b,i,none⟩) (ho b e1)];exact r.u32 b i z hm
theorem OT_stt {o:Oper}{t e:TypeId}{x y:Operand}{key off m j k s:Nat}{rows:List (List D)}{row ds:List D}{vy:V}{xs:List A}(ho:o.op= .store t x y)(hx:evL T x=some (.a (.ptr key off)))(hy:evL T y=some vy)(hh:h key=some (.tab e k rows))(h3:sizeT P t=some s)
  (hc:cellsV vy=some xs) (hd:toDs xs=some ds) (hl:xs.length=s) (hp:xs.all plainA=true) (hoff:off=m*k+j) (hrow:rows[m]? =some row) (hjs:j+s≤row.length):
  OT P o T h (vl undef) [(key,.tab e k (rows.set m (row.take j++ds++row.drop (j+s))))] [key]:=by
 intro T' h' γ M w a next Q hT hk hr ht hn
 have hx':evL T' x=some (.a (.ptr key off)):=by rw[←hx];exact evL_congr fun d hd=>hT d (by rw[ho];simp[Op.operands,hd])
 have hy':evL T' y=some vy:=by rw[←hy];exact evL_congr fun d hd=>hT d (by rw[ho];simp[Op.operands,hd])
 have hkey:=(hk key (by simp)).trans hh;obtain⟨_,g,k1,k2⟩:=evL_ok ht hx';obtain⟨us,q1,q2⟩:=cellsV_ok (evL_ok ht hy') hc;obtain⟨g',vs,sp,k3,k4,k5,k6,k66⟩:=hr.ent key _ hkey;rw[k1]at k3;injection k3 with k3;injection k3 with k3;injection k3 with k3;subst k3;obtain⟨pre,post,f1,f2,f3⟩:=flat_row k5 hrow;have hrl:row.length=k:=k5 row (mG_ hrow);have hul:us.length=s:=by rw[←hl];exact q2.len.symm
 have q3:=toDs_ok q2 hd;have hdl:ds.length=s:=by rw[q3.len,hul]
 have hvl:=k6.len;have hfl:rows.flatten.length=m*k+(k+post.length):=by rw[f1];simp[f2,hrl]
 have hone:∀v∈us,v.oneCell'=true:=by
  intro v hv;obtain⟨i,hi⟩:=List.mem_iff_getElem?.1 hv;have hlt:=(List.getElem?_eq_some_iff.1 hi).1;obtain⟨q,z1,z2⟩:=All2.get q2 (i:=i) (x:=xs[i]'(by omega)) (List.getElem?_eq_getElem _);rw[hi]at z1;injection z1 with z1;subst z1;exact plain_one z2 (List.all_eq_true.1 hp _ (List.getElem_mem _))
 have hrun:=run_storeCells_at P g off e us 0 (vs++sp).toArray w k4 (by simp;omega) hone;simp only[Nat.add_zero,List.toList_toArray,hul]at hrun;have hcat:(vs++sp).take off++us++(vs++sp).drop (off+s)=vs.take off++us++vs.drop (off+s)++sp:=by
  rw[List.take_append_of_le_length (by omega),List.drop_append_of_le_length (by omega)];simp
 rw[hcat]at hrun;have hcut:(rows.set m (row.take j++ds++row.drop (j+s))).flatten=rows.flatten.take off++ds++rows.flatten.drop (off+s):=by
  rw[f3,f1,hoff,←f2,take_mid (by omega),Nat.add_assoc,drop_mid (by omega)];simp
 have k8:All2 (RdD M w) (rows.set m (row.take j++ds++row.drop (j+s))).flatten (vs.take off++us++vs.drop (off+s)):=by
  rw[hcut];exact All2.app (All2.app (All2.take _ k6) q3) (All2.drop _ k6)
 have hpl:∀(i:Nat) (x:Value),(vs.take off++us++vs.drop (off+s)++sp).toArray[i]? =some x→∀z:Int,x≠ .int .u32 z:=by
  intro i x hi;have hi':(vs.take off++us++vs.drop (off+s)++sp)[i]? =some x:=by simpa using hi
  have hold:∀j',(vs++sp)[j']? =some x→∀z:Int,x≠ .int .u32 z:=fun j' hj z ez=>by
   refine hr.u32 g j' z (hr.own key g j' (by unfold Owns;rw[hkey];simp[k1,ib,blk])) ?_;subst ez;simp only[World.cell?,k4];simpa using hj
  have holdm:x∈vs++sp→∀z:Int,x≠ .int .u32 z:=fun hm=>let ⟨j',hj⟩:=List.mem_iff_getElem?.1 hm;hold j' hj;rcases List.mem_append.1 (mG_ hi')with hm|hm;rcases List.mem_append.1 hm with hm|hm
  ·rcases List.mem_append.1 hm with hm|hm
   ·exact holdm (List.mem_append_left _ (List.mem_of_mem_take hm))
   ·obtain⟨j',hj⟩:=List.mem_iff_getElem?.1 hm;have hlt:=(List.getElem?_eq_some_iff.1 hj).1;obtain⟨q,z1,z2⟩:=All2.get q2 (i:=j') (x:=xs[j']'(by omega)) (List.getElem?_eq_getElem _);rw[hj]at z1;injection z1 with z1;subst z1;exact plainA_u32 z2 (List.all_eq_true.1 hp _ (List.getElem_mem _))
  ·exact holdm (List.mem_append_left _ (List.mem_of_mem_drop hm))
  ·exact holdm (List.mem_append_right _ hm)
 obtain⟨r1,r2⟩:=set_tab (w':=w.setRow g (vs.take off++us++vs.drop (off+s)++sp).toArray) hr hkey (by simp) k1 (setRow_heap w g _ _ e _ k4) (fun b hb=>setRow_other w g b _ hb) rfl rfl rfl (by simp) (fun r hr'=>by
  rcases List.mem_or_eq_of_mem_set hr' with h5|h5
  ·exact k5 r h5
  ·subst h5;simp[hdl];omega) k8 (fun v hv=>by
  rcases List.mem_append.1 hv with hm|hm
  ·rcases List.mem_append.1 hm with hm|hm
   ·exact k66 v (List.mem_of_mem_take hm)
   ·exact hone v hm
  ·exact k66 v (List.mem_of_mem_drop hm)) hpl
 unfold Oper.wp;have:(execOp a.eval o).run P w= .ok .skip (w.setRow g (vs.take off++us++vs.drop (off+s)++sp).toArray):=by
  simp[execOp,ho,Instr.storeAt,k2,Instr.sureAddr,storeVar,sizeT_run h3,q1,hul,hrun]
 rw[this];exact hn undef γ M _ r1 (.lit _) r2
theorem OT_mk {o:Oper}{t e:TypeId}{l c:Operand}{n nn k:Nat}{zs:List A}{ds:List D}(ho:o.op= .makeSlice t l c)(h1:natI (evL T l)=some nn)(h2:natI (evL T c)=some nn)(he:elemT P t=some (e,k))(hz:zeroT P zb e=some zs)(hd:toDs zs=some ds)
  (hok:appOk P e k=true) (hzp:zs.all plainA=true) (hn0:h n=none) (hb:nn≤68719476736):OT P o T h (.a (.tab n nn)) [(n,.tab e k (List.replicate nn ds))] [n]:=by
 intro T' h' γ M w a next Q hT hk hr ht hn
 have h1':natI (evL T' l)=some nn:=by rw[←h1];congr 1;exact evL_congr fun d hd=>hT d (by rw[ho];simp[Op.operands,hd])
 have h2':natI (evL T' c)=some nn:=by rw[←h2];congr 1;exact evL_congr fun d hd=>hT d (by rw[ho];simp[Op.operands,hd])
 obtain⟨kl,e1⟩:=natI_ok ht h1';obtain⟨kc,e2⟩:=natI_ok ht h2';obtain⟨u1,u2⟩:=elemT_ok he;obtain⟨i,z,i1,i2,hk0,i3,i4,i5,i6⟩:=appOk_ok hok;obtain⟨i',z',j1,j2,j3⟩:=zeroT_ok (γ:=γ) (h:=h') (M:=M) (w:=w) zb_ok hz;rw[i1]at j1;injection j1 with j1;subst j1;rw[i2]at j2;injection j2 with j2;subst j2;have hzl:z.cells.toList.length=k:=by simpa using i5
 have hdd:=toDs_ok j3 hd;have hdl:ds.length=k:=by rw[hdd.len,hzl]
 have hby:(i.bytes:Int)*(nn:Int)≤281474976710656:=by
  have:i.bytes*nn≤2048*68719476736:=Nat.mul_le_mul i4 hb;have:((i.bytes*nn:Nat):Int)≤281474976710656:=by omega
  rwa [Int.natCast_mul]at this
 have hrun:=run_make (P:=P) w t e i z u1 i1 i2 kl kc nn nn (by omega) (Int.le_refl _) hby (by omega);simp only[Int.toNat_natCast,i3]at hrun;have hcells:(madeCells z.cells (nn*k)).toList=(List.replicate nn z.cells.toList).flatten:=by
  apply List.ext_getElem?;intro j
  by_cases hj:j<nn*k
  ·rw[flat_get _ hzl nn j hj];have hlt:j % k<z.cells.size:=by rw[i5];exact Nat.mod_lt _ hk0
   simp[madeCells,hj,i5];rw[getElem!_pos z.cells (j % k) hlt,Array.getElem?_eq_getElem hlt]
  ·have h7:(List.replicate nn z.cells.toList).flatten.length=nn*k:=flat_len _ hzl nn;have h8:(madeCells z.cells (nn*k)).toList.length=nn*k:=by rw[Array.length_toList,size_madeCells]
   rw[List.getElem?_eq_none (by omega),List.getElem?_eq_none (by omega)]
 have harr:madeCells z.cells (nn*k)=((List.replicate nn z.cells.toList).flatten).toArray:=by rw[←hcells]
 have hall:∀nn:Nat,All2 (RdD M w) (List.replicate nn ds).flatten (List.replicate nn z.cells.toList).flatten:=by
  intro nn
  induction nn with
  |zero=>trivial
  |succ m ih=>rw[List.replicate_succ,List.replicate_succ,List.flatten_cons,List.flatten_cons];exact All2.app hdd ih
 have hbk:∀b,ib (.pointer (some ⟨w.heap.size,0,none⟩)) b→b=w.heap.size:=by intro b hb;simp[ib,blk]at hb;exact hb.symm
 have hfree:h' n=none:=(hk n (by simp)).trans hn0;have hn':∀e1,h' n=some e1→Goes e1 (.tab e k (List.replicate nn ds))∧Grown1 e1 (.tab e k (List.replicate nn ds)):=fun e1 he=>by rw[hfree]at he;cases he
 have s:=stp_new hr hn' (e:= .tab e k (List.replicate nn ds)) (v:= .pointer (some ⟨w.heap.size,0,none⟩)) (cs:=((List.replicate nn z.cells.toList).flatten).toArray) (t:=e) (w1:=w) rfl rfl rfl rfl (m:=0) hbk
 have r:=rel_new hr hn' rfl rfl rfl rfl (m:=0) (v:= .pointer (some ⟨w.heap.size,0,none⟩)) (cs:=((List.replicate nn z.cells.toList).flatten).toArray) (t:=e) (w1:=w) hbk ⟨_,(List.replicate nn z.cells.toList).flatten,[],upd_same,by rw[List.append_nil];exact heap_alloc_new w _,fun row hrow=>by rw[List.eq_of_mem_replicate hrow];exact hdl,All2.imp (fun _ _=>RdD.fx s.fx) (hall nn),fun v hv=>by
  obtain⟨l,hl,hx⟩:=List.mem_flatten.1 hv;rw[List.eq_of_mem_replicate hl]at hx;obtain⟨j,hj⟩:=List.mem_iff_getElem?.1 hx;have hlt:=(List.getElem?_eq_some_iff.1 hj).1;have hzz:=j3.len;obtain⟨q,z1,z2⟩:=All2.get j3 (i:=j) (x:=zs[j]'(by omega)) (List.getElem?_eq_getElem _);rw[hj]at z1;injection z1 with z1;subst z1;exact plain_one z2 (List.all_eq_true.1 hzp _ (List.getElem_mem _))⟩ (fun _ i _=>zL_ i) (fun j x _ hj=>by
  have hj':((List.replicate nn z.cells.toList).flatten)[j]? =some x:=by simpa using hj
  obtain⟨l,hl,hx⟩:=List.mem_flatten.1 (mG_ hj');rw[List.eq_of_mem_replicate hl]at hx;exact i6 x hx)
 unfold Oper.wp;have:(execOp a.eval o).run P w= .ok (.value (.slice (some ⟨w.heap.size,0,none⟩) nn nn)) (w.alloc (.cells ((List.replicate nn z.cells.toList).flatten).toArray e)):=by
  simp[execOp,ho,e1,e2,hrun,harr]
 rw[this];refine hn _ _ _ _ r ⟨by rw[over_same];rfl,⟨_,_,upd_same,rfl,lR_ _⟩,fun e1 k1 rows h5=> ?_⟩ s;rw[over_same]at h5;injection h5 with h5;injection h5 with _ _ h5;subst h5;simp
def eqFs (P:Program)(xs ys:List A):List Field→Option Bool
 |[]=>some true
 |f::fs=>match intT P f.type,aggT P f.type,xs[f.offset]?,ys[f.offset]? with
  |some _,some false,some (.d (.lit (.int k a))),some (.d (.lit (.int k' b)))=>if k=k'∧f.name≠ "_" ∧sizeT P f.type=some 1 then(match eqFs P xs ys fs with
   |some r=>some ((a==b)&&r)
   |none=>none)else none
  |_,_,_,_=>none
def eqOk (P:Program)(t:TypeId):Bool:= !P.stoodInHeld t&& !P.eqGuardType P.depth t
def structT (P:Program)(t:TypeId):Option (List Field):=
 match P.underlying t with
 |some (.struct fs)=>some fs.toList
 |_=>none
theorem cellA {xs:List A}{us:List Value}(k:All2 (RdA γ h M w) xs us){j:Nat}{v:Value}(hj:xs[j]? =some (.d (.lit v))):us[j]? =some v:=by
 obtain⟨y,h1,h2⟩:=All2.get k hj;rw[h1,show y=v from lit_inv h2]
theorem part_one {t:TypeId}{us:List Value}{j:Nat}{v:Value}(h1:aggT P t=some false)(h2:sizeT P t=some 1)(hj:us[j]? =some v):(part t us.toArray j).run P w= .ok v w:=by
 obtain⟨hj1,hj2⟩:=List.getElem?_eq_some_iff.1 hj;simp[part,aggT_run h1,hj1,hj2]
theorem eqFs_run {xs ys:List A}{us vs:List Value}(k:All2 (RdA γ h M w) xs us)(k':All2 (RdA γ h M w) ys vs){d:Nat}:∀{fs:List Field} {r:Bool},eqFs P xs ys fs=some r→(Op.eqFields (d+1) us.toArray vs.toArray fs).run P w= .ok r w
 |[],r,he=>by simp only[eqFs]at he;injection he with he;subst he;simp[Op.eqFields]
 |f::fs,r,he=>by
  simp only[eqFs]at he;split at he
  ·rename_i kk k1 x k2 y h1 h2 h3 h4;split at he
   ·rename_i hc;obtain⟨rfl,hn,hs⟩:=hc;split at he
    ·rename_i r' hr;injection he with he;subst he;have hu:P.underlying f.type=some (.int kk):=by unfold intT at h1;split at h1<;>simp_all
     have ih:=eqFs_run k k' (d:=d) hr;have e1:=run_equalIn_int (P:=P) w d f.type k1 kk x y hu;simp only[Op.eqFields,if_pos hn,Sem.run_bind,part_one h2 hs (cellA k h3),part_one h2 hs (cellA k' h4),Result.andThen_ok,e1]
     by_cases hxy:x=y
     ·subst hxy;simp[ih]
     ·simp[hxy]
    ·cases he
   ·cases he
  ·cases he
theorem OT_eq {o:Oper}{op:BinOp}{t u:TypeId}{x y:Operand}{xs ys:List A}{fs:List Field}{r:Bool}(ho:o.op= .binOp op t x y u)(hop:op= .eql∨op= .neq)(hx:evL T x=some (.agg xs))(hy:evL T y=some (.agg ys))(hf:structT P t=some fs)(hr:eqFs P xs ys fs=some r)(hok:eqOk P t=true):
  OT P o T h (vl (.bool (if op= .eql then r else !r))) [] []:=by
 intro T' h' γ M w a next Q hT hk hrl ht hn
 have hx':evL T' x=some (.agg xs):=by rw[←hx];exact evL_congr fun d hd=>hT d (by rw[ho];simp[Op.operands,hd])
 have hy':evL T' y=some (.agg ys):=by rw[←hy];exact evL_congr fun d hd=>hT d (by rw[ho];simp[Op.operands,hd])
 obtain⟨us,e1,k1⟩:=evL_ok ht hx';obtain⟨vs,e2,k2⟩:=evL_ok ht hy';unfold eqOk at hok;simp only[Bool.and_eq_true,Bool.not_eq_true']at hok;unfold structT at hf;split at hf
 ·rename_i fs' hu;injection hf with hf;subst hf;have hfo:P.fieldsOf t=fs':=by simp[Program.fieldsOf,hu]
  have q1:=run_equalIn_struct (P:=P) w 9999 t us.toArray vs.toArray (by rw[hfo];exact hu) hok.1;rw[hfo,eqFs_run k1 k2 (d:=9998) hr]at q1;unfold Oper.wp;have:(execOp a.eval o).run P w= .ok (.value (.bool (if op= .eql then r else !r))) w:=by
   have g1:=run_eqGuard_agg (P:=P) w op t x y us.toArray vs.toArray hok.2;rcases hop with rfl|rfl
   ·simp[execOp,ho,e1,e2,g1,run_eql_struct,q1]
   ·simp[execOp,ho,e1,e2,g1,run_neq_struct,q1]
  rw[this];exact hn _ γ M w hrl (.lit _) (Stp.refl _ _ _ _)
 ·cases hf
theorem OT_sadd {o:Oper}{t u:TypeId}{x y:Operand}{s s':ByteArray}(ho:o.op= .binOp .add t x y u)(hx:evL T x=some (vl (.string s)))(hy:evL T y=some (vl (.string s')))(hl:s.size+s'.size≤4611686018427387904):OT P o T h (vl (.string (s++s'))) [] []:=by
 intro T' h' γ M w a next Q hT hk hr ht hn
 have hx':evL T' x=some (vl (.string s)):=by rw[←hx];exact evL_congr fun d hd=>hT d (by rw[ho];simp[Op.operands,hd])
 have hy':evL T' y=some (vl (.string s')):=by rw[←hy];exact evL_congr fun d hd=>hT d (by rw[ho];simp[Op.operands,hd])
 have e1:=lit_inv (evL_ok ht hx');have e2:=lit_inv (evL_ok ht hy');unfold Oper.wp;have hle:¬(((s.size+s'.size:Nat):Int)>IntKind.i64.max):=by
  have:IntKind.i64.max=9223372036854775807:=by decide
  omega
 have hb:(binOp .add t (.string s) (.string s')).run P w= .ok (.string (s++s')) w:=by
  simp only[binOp,Op.stringOp];rw[if_neg hle];rfl
 have hg:(eqGuard .add t x y (.string s) (.string s')).run P w= .ok () w:=by simp[eqGuard]
 have:(execOp a.eval o).run P w= .ok (.value (.string (s++s'))) w:=by simp[execOp,ho,e1,e2,hb,hg]
 rw[this];exact hn _ γ M w hr (.lit _) (Stp.refl _ _ _ _)
def slNe:V→Bool
 | .a (.d (.sl _ (_::_)))=>true
 | .a (.own _ _ (_::_))=>true
 |_=>false
theorem OT_nz {o:Oper}{op:BinOp}{t u:TypeId}{x y:Operand}{v:V}(ho:o.op= .binOp op t x y u)(hop:op= .eql∨op= .neq)(hx:evL T x=some v)(hv:slNe v=true)(hy:evL T y=some (vl (.slice none 0 0)))(he:(elemT P t).isSome=true):
  OT P o T h (vl (.bool (op== .neq))) [] []:=by
 intro T' h' γ M w a next Q hT hk hrl ht hn
 have hx':evL T' x=some v:=by rw[←hx];exact evL_congr fun d hd=>hT d (by rw[ho];simp[Op.operands,hd])
 have hy':evL T' y=some (vl (.slice none 0 0)):=by rw[←hy];exact evL_congr fun d hd=>hT d (by rw[ho];simp[Op.operands,hd])
 have k1:=evL_ok ht hx';have k2:=lit_inv (evL_ok ht hy');obtain⟨⟨e,s⟩,he⟩:=Option.isSome_iff_exists.1 he;have hu:=(elemT_ok he).1;have key:∃ad n c,a.eval x= .slice (some ad) n c:=by
  have:∀{k:Nat} {r:List D} {rs:List (List D)} {z:Value},RdD M w (.sl k (r::rs)) z→∃ad n c,z= .slice (some ad) n c:=by
   intro k r rs z hz
   cases hz with
   |sl k xs ad cap vs hc hl h0=>obtain⟨b,o,rfl,_⟩:=h0 (by simp);exact⟨_,_,_,rfl⟩
  unfold slNe at hv;split at hv
  ·exact this k1
  ·exact this k1.1
  ·cases hv
 obtain⟨ad,n,c,e1⟩:=key;have hq:=eq_nil_run (P:=P) (w:=w) (a:=some ad) (n:=n) (c:=c) hu;unfold Oper.wp;have:(execOp a.eval o).run P w= .ok (.value (.bool (op== .neq))) w:=by
  rcases hop with rfl|rfl
  ·simp[execOp,ho,e1,k2,eqGuard,binOp,hq]
  ·simp[execOp,ho,e1,k2,eqGuard,binOp,hq]
 rw[this];exact hn _ γ M w hrl (.lit _) (Stp.refl _ _ _ _)
def pnV:V→Option Bool
 | .a (.ptr _ _)=>some false
 | .a (.elt _ _)=>some false
 | .a (.d (.lit (.pointer none)))=>some true
 |_=>none
def ptrT (P:Program)(t:TypeId):Bool:=match P.underlying t with
 |some (.pointer _)=>true
 |_=>false
theorem OT_pnz {o:Oper}{op:BinOp}{t u:TypeId}{x y:Operand}{v:V}{b:Bool}(ho:o.op= .binOp op t x y u)(hop:op= .eql∨op= .neq)(hx:evL T x=some v)(hv:pnV v=some b)(hy:evL T y=some (vl (.pointer none)))(he:ptrT P t=true):
  OT P o T h (vl (.bool (op== .neq^^b))) [] []:=by
 intro T' h' γ M w a next Q hT hk hrl ht hn
 have hx':evL T' x=some v:=by rw[←hx];exact evL_congr fun d hd=>hT d (by rw[ho];simp[Op.operands,hd])
 have hy':evL T' y=some (vl (.pointer none)):=by rw[←hy];exact evL_congr fun d hd=>hT d (by rw[ho];simp[Op.operands,hd])
 have k1:=evL_ok ht hx';have k2:=lit_inv (evL_ok ht hy');have hu:∃e,P.underlying t=some (.pointer e):=by
  unfold ptrT at he;split at he
  ·exact⟨_,by assumption⟩
  ·cases he
 obtain⟨e,hu⟩:=hu;have key:∃p:Option Addr,a.eval x= .pointer p∧p.isNone=b:=by
  unfold pnV at hv;split at hv
  ·obtain⟨_,g,_,q⟩:=k1;injection hv with hv;exact⟨_,q,hv⟩
  ·obtain⟨g,o,vs,q,_⟩:=k1;injection hv with hv;exact⟨_,q,hv⟩
  ·injection hv with hv;exact⟨_,lit_inv k1,hv⟩
  ·cases hv
 obtain⟨p,e1,e2⟩:=key;have hq:(Op.equal t (.pointer p) (.pointer none)).run P w= .ok p.isNone w:=by
  have:∀d:Nat,(Op.equalIn (d+1) t (.pointer p) (.pointer none)).run P w= .ok p.isNone w:=fun d=>by cases p<;>simp[Op.equalIn,run_underlying hu]
  exact this 9999
 unfold Oper.wp;have:(execOp a.eval o).run P w= .ok (.value (.bool (op== .neq^^b))) w:=by
  rcases hop with rfl|rfl
  ·simp[execOp,ho,e1,k2,eqGuard,binOp,hq,e2];cases b<;>rfl
  ·simp[execOp,ho,e1,k2,eqGuard,binOp,hq,e2]
 rw[this];exact hn _ γ M w hrl (.lit _) (Stp.refl _ _ _ _)
theorem freeze (r:Rel γ h M w){key k nn:Nat}{e:TypeId}{rows:List (List D)}(hk:h key=some (.tab e k rows))(hl:nn≤1099511627776):
  ∃M',Rel γ (over [(key,.gone)] h) M' w∧Stp γ h M w γ (over [(key,.gone)] h) M' w∧∀v,RdV γ h M w (.a (.tab key nn)) v→RdD M' w (.sl k rows) v:=by
 obtain⟨g,vs,sp,k1,k2,k3,k4,k5⟩:=r.ent key _ hk;have hne:∀key' b i,Owns γ (over [(key,.gone)] h) key' b i→key'≠key:=by
  intro key' b i ho e1;subst e1;unfold Owns at ho;rw[over_same]at ho;exact ho
 have hown:∀key' b i,Owns γ (over [(key,.gone)] h) key' b i→Owns γ h key' b i:=fun key' b i ho=>(owns_congr rfl (over_other (hne _ _ _ ho))).1 ho;have hog:∀i,Owns γ h key g i:=fun i=>by unfold Owns;rw[hk];simp[k1,ib,blk]
 have s:Stp γ h M w γ (over [(key,.gone)] h) (fun b i=>M b i∧b≠g) w:=
  ⟨rfl,rfl,rfl,lR_ _,fun b i v q=>⟨fun q2=>q.1 q2.1,q.2⟩,fun _ _ _=>rfl,fun b i q hn=>⟨q,fun e1=>hn key (e1▸hog i)⟩,fun key' b i ho _=>⟨key',hown _ _ _ ho⟩,fun key' e' he=>by
   by_cases e1:key'=key
   ·subst e1;exact⟨.gone,over_same,by cases e'<;>trivial,.inl rfl⟩
   ·exact⟨e',by rw[over_other e1];exact he,Goes.refl _,.inl rfl⟩⟩
 have hlv:∀key',live (over [(key,.gone)] h key')=true→key'≠key∧live (h key')=true:=by
  intro key' hl'
  by_cases e1:key'=key
  ·subst e1;rw[over_same]at hl';cases hl'
  ·exact⟨e1,by rwa [over_other e1]at hl'⟩
 refine⟨fun b i=>M b i∧b≠g,⟨fun key' e' he=> ?_,fun key' b i ho=>⟨r.own _ _ _ (hown _ _ _ ho),fun e1=> ?_⟩,fun key1 key2 b l1 l2=>r.inj _ _ b (hlv _ l1).2 (hlv _ l2).2,fun b i z q=>r.u32 b i z q.1,fun b i q=>r.dom b i q.1,r.glb.fx s.fx⟩,s,fun v hv=> ?_⟩
 ·by_cases e1:key'=key
  ·subst e1;rw[over_same]at he;injection he with he;subst he;trivial
  ·rw[over_other e1]at he;exact EntR.stp s (r.ent key' e' he) rfl fun _ _ _=>rfl
 ·subst e1;obtain⟨l1,l2⟩:=owns_live (hown _ _ _ ho);exact hne _ _ _ ho (r.inj key' key _ l1 (by rw[hk];rfl) l2 (by rw[k1];rfl))
 ·obtain⟨_,⟨g',cp,q1,q2,q22⟩,q3⟩:=hv;rw[k1]at q1;injection q1 with q1;injection q1 with q1;injection q1 with q1;subst q1;have hn:=q3 _ _ _ hk;subst hn q2;have hfl:∀{rows:List (List D)},(∀row∈rows,row.length=k)→rows.flatten.length=rows.length*k:=by
   intro rows
   induction rows with
   |nil=>intro _;simp
   |cons x xs ih=>intro hx;rw[List.flatten_cons,List.length_append,ih (fun r hr=>hx r (by simp[hr])),hx x (by simp),List.length_cons,Nat.add_mul];omega
  refine sl_of (cells:=vs) q22 hl (fun i row hi=>k3 row (mG_ hi)) (by rw[←k4.len,hfl k3]) k5 (fun _=>⟨g,0,rfl,fun q u hq=>⟨fun q2=>q2.2 rfl,by simp[World.cell?,k2,List.getElem?_append_left (List.getElem?_eq_some_iff.1 hq).1,hq]⟩⟩) fun i row j d hi hj=> ?_;obtain⟨pre,post,f1,f2,_⟩:=flat_row k3 hi;have hjl:=(List.getElem?_eq_some_iff.1 hj).1;have:rows.flatten[i*k+j]? =some d:=by
   rw[f1,←f2,List.getElem?_append_right (by omega),show pre.length+j-pre.length=j by omega,List.getElem?_append_left hjl];exact hj
  obtain⟨u,u1,u2⟩:=All2.get k4 this;exact⟨u,u1,RdD.fx s.fx u2⟩
theorem Wk.freeze {m:Nat}{s:St}(d key nn:Nat){k:Nat}{e:TypeId}{rows:List (List D)}(hT:look s.T d=some (.a (.tab key nn)))(hk:look s.H key=some (.tab e k rows))(hl:nn≤1099511627776):
  Wk m s ⟨(d,.a (.d (.sl k rows)))::s.T,(key,.gone)::s.H,s.n⟩:=by
 intro N γ0 h0 M0 w0 a w hm hd hS;obtain⟨γ,M,k1,k2,k3,k4,k5⟩:=hS;obtain⟨M',q1,q2,q3⟩:=Lf.freeze k1 hk hl;have e1:look ((key,Ent.gone)::s.H)=over [(key,.gone)] (look s.H):=look_app [(key,Ent.gone)] s.H;refine⟨γ,M',by rw[e1];exact q1,⟨k2.1.fx q2.fx,fun d' v' hv'=> ?_⟩,k3,k4,by rw[e1];exact k5.trans q2 hd⟩;simp only[look]at hv';split at hv'
 ·rename_i hdd;subst hdd;injection hv' with hv';subst hv';obtain⟨x,y1,y2⟩:=k2.2 _ _ hT;exact⟨x,y1,q3 x y2⟩
 ·obtain⟨x,y1,y2⟩:=k2.2 d' v' hv';exact⟨x,y1,by rw[e1];exact RdV.stp q2 y2⟩
end
open Go.Maps
def MX (P:Program)(k e:TypeId)(n:Nat)(D:DataW Unit)(o:Obj):Prop:=∃w:World,w.heap[0]? =some o∧w.ownsMap P k (plainElem P e) 0 n D
def MXp (P:Program)(k e:TypeId)(n:Nat)(D:DataW Unit):MPred:=⟨fun _ _=>MX P k e n D,fun _ _ _ _ _ _ h=>h⟩
section
variable {γ γ':Gh} {h h':Hp} {M M':MS} {w w':World} {T T':Nat→Option V} {a:Act} {P:Program}
theorem MX.owns {k e:TypeId}{n b:Nat}{D:DataW Unit}{o:Obj}(hm:MX P k e n D o)(hb:w.heap[b]? =some o):w.ownsMap P k (plainElem P e) b n D:=by
 obtain⟨w0,h0,es,clock,h1,h2⟩:=hm;rw[h0]at h1;injection h1 with h1;subst h1;exact⟨es,clock,hb,h2⟩
theorem MX.of {k e:TypeId}{n b:Nat}{D:DataW Unit}{o:Obj}(hb:w.heap[b]? =some o)(hm:w.ownsMap P k (plainElem P e) b n D):MX P k e n D o∧∃es clock,o= .map es clock:=by
 obtain⟨es,clock,h1,h2⟩:=hm;rw[hb]at h1;injection h1 with h1;subst h1;exact⟨⟨{w with heap:= #[.map es clock]},rfl,es,clock,rfl,h2⟩,es,clock,rfl⟩
theorem OT_mkmap {o:Oper}{t k e:TypeId}{n:Nat}(ho:o.op= .makeMap t none)(hn0:h n=none):OT P o T h (.a (.mp n)) [(n,.mp (MXp P k e 0 (.map [])))] [n]:=by
 intro T' h' γ M w a next Q hT hk hr ht hn
 have hfree:h' n=none:=(hk n (by simp)).trans hn0;have hold:∀b,b<w.heap.size→(w.alloc (.map #[] 0)).heap[b]? =w.heap[b]?:=fun b hb=>Below.heap_alloc _ _ _ hb;have hnew:(w.alloc (.map #[] 0)).heap[w.heap.size]? =some (.map #[] 0):=(MapKept.heap_alloc w _).1;obtain⟨S,hS⟩:∃S,S=over [(n,Ent.mp (MXp P k e 0 (.map [])))] h':=⟨_,rfl⟩;have hSn:S n=some (.mp (MXp P k e 0 (.map []))):=by rw[hS,over_same]
 have hSo:∀key,key≠n→S key=h' key:=fun key e1=>by rw[hS,over_other e1]
 have s:Stp γ h' M w (upd γ n (.map (some w.heap.size))) S (fun b i=>M b i∨b=w.heap.size) (w.alloc (.map #[] 0)):=by
  refine⟨rfl,rfl,rfl,by simp,fun b i u k=> ?_,fun b hb _=>hold b hb,fun b i k _=> .inl k,fun key b i ho hb=> ?_,fun key e' he=> ?_⟩
  ·have hlt:b<w.heap.size:=World.block_lt_of_cell? _ _ k.2;exact⟨fun k2=>k2.elim k.1 fun k3=>by omega,by rw[←k.2];exact World.cell?_of_block (a:=⟨b,i,none⟩) (hold b hlt)⟩
  ·by_cases e1:key=n
   ·subst e1;obtain⟨_,h5⟩:=owns_live ho;rw[upd_same]at h5;simp[ib,blk]at h5;omega
   ·exact⟨key,(owns_congr (upd_other e1) (hSo _ e1)).1 ho⟩
  ·have e1:key≠n:=by intro e1;subst e1;rw[hfree]at he;cases he
   exact⟨e',by rw[hSo _ e1];exact he,Goes.refl _,.inl (upd_other e1)⟩
 have hM:=World.ownsMap_made (H:=Unit) w P k (plainElem P e);have r:Rel (upd γ n (.map (some w.heap.size))) S (fun b i=>M b i∨b=w.heap.size) (w.alloc (.map #[] 0)):=by
  refine⟨fun key e' h4=> ?_,fun key b i h4=> ?_,fun key key' b h4 h5 h6 h7=> ?_,fun b i z h4=> ?_,fun b i h4=> ?_,hr.glb.fx s.fx⟩
  ·by_cases e1:key=n
   ·subst e1;rw[hSn]at h4;injection h4 with h4;subst h4;exact⟨w.heap.size,_,upd_same,hnew,(MX.of hnew hM).1,_,_,rfl⟩
   ·rw[hSo _ e1]at h4;exact EntR.stp s (hr.ent key e' h4) (upd_other e1) fun hl b h5=>hold b (blk_lt hr h4 hl h5)
  ·by_cases e1:key=n
   ·subst e1;obtain⟨_,h5⟩:=owns_live h4;rw[upd_same]at h5;simp[ib,blk]at h5;exact .inr h5.symm
   ·exact .inl (hr.own key b i ((owns_congr (upd_other e1) (hSo _ e1)).1 h4))
  ·have hlt:∀key,key≠n→live (S key)=true→ib (upd γ n (.map (some w.heap.size)) key) b→b<w.heap.size:=by
    intro key e1 l1 l2;rw[hSo _ e1]at l1;rw[upd_other e1]at l2
    cases h8:h' key with
    |none=>rw[h8]at l1;cases l1
    |some e3=>exact blk_lt hr h8 (by rw[←h8];exact l1) l2
   have hnn:∀key,key=n→ib (upd γ n (.map (some w.heap.size)) key) b→b=w.heap.size:=by
    intro key e1 l2;subst e1;rw[upd_same]at l2;simp[ib,blk]at l2;exact l2.symm
   by_cases e1:key=n<;>by_cases e2:key'=n
   ·rw[e1,e2]
   ·have:=hlt _ e2 h5 h7;have:=hnn _ e1 h6;omega
   ·have:=hlt _ e1 h4 h6;have:=hnn _ e2 h7;omega
   ·rw[hSo _ e1]at h4;rw[hSo _ e2]at h5;rw[upd_other e1]at h6;rw[upd_other e2]at h7;exact hr.inj key key' b h4 h5 h6 h7
  ·rcases h4 with h4|rfl
   ·rw[World.cell?_of_block (w:=w) (a:=⟨b,i,none⟩) (hold b (hr.dom b i h4))];exact hr.u32 b i z h4
   ·intro h5;simp only[World.cell?]at h5;rw[hnew]at h5;cases h5
  ·rcases h4 with h4|rfl
   ·have:=hr.dom b i h4;simp;omega
   ·simp
 unfold Oper.wp;have:(execOp a.eval o).run P w= .ok (.value (.map (some w.heap.size))) (w.alloc (.map #[] 0)):=by
  simp[execOp,ho,run_makeMap]
 rw[this];subst hS;exact hn _ _ _ _ r ⟨by rw[over_same];rfl,_,upd_same,rfl⟩ s
structure LkOk (P:Program)(t:TypeId)(φ:MPred)(v:Value)(k e:TypeId)(n:Nat)(D:DataW Unit)(kl zl l:Lit):Prop where
 ht:P.underlying t=some (.map k e)
 hK:Keyed P k
 hφ:φ=MXp P k e n D
 hk:keyOf P k v=some kl
 hz:(P.info? e).bind (·.zero)=some zl.value
 hzd:plainElem (H:=Unit) P e zl.value=some (.lit zl,[])
 hat:D.atKey kl (.lit zl)= .lit l
 hl:∀v ps,plainElem (H:=Unit) P e v=some (.lit l,ps)→v=l.value
structure MuOk (P:Program)(t:TypeId)(φ:MPred)(v x:Value)(k e:TypeId)(n:Nat)(D:DataW Unit)(kl l:Lit):Prop where
 ht:P.underlying t=some (.map k e)
 hK:Keyed P k
 hφ:φ=MXp P k e n D
 hk:keyOf P k v=some kl
 hx:plainElem (H:=Unit) P e x=some (.lit l,[])
 hn:n<maxLen
theorem plain_bool_inv {e:TypeId}{v:Value}{x:Bool}{ps:List MemPlace}(h:plainElem (H:=Unit) P e v=some (.lit (.bool x),ps)):v=(Lit.bool x).value:=by
 unfold plainElem at h;split at h
 ·cases h;rfl
 ·split at h<;>cases h
 ·split at h<;>cases h
 ·cases h
theorem OT_look {o:Oper}{t k e:TypeId}{m x:Operand}{key n:Nat}{φ:MPred}{v:Value}{D:DataW Unit}{kl zl l:Lit}(ho:o.op= .lookup t m x false)(hm:evL T m=some (.a (.mp key)))(hx:evL T x=some (vl v))(hh:h key=some (.mp φ))(hok:LkOk P t φ v k e n D kl zl l):
  OT P o T h (vl l.value) [] [key]:=by
 intro T' h' γ M w a next Q hT hk hr ht hn
 have hm':evL T' m=some (.a (.mp key)):=by rw[←hm];exact evL_congr fun d hd=>hT d (by rw[ho];simp[Op.operands,hd])
 have hx':evL T' x=some (vl v):=by rw[←hx];exact evL_congr fun d hd=>hT d (by rw[ho];simp[Op.operands,hd])
 obtain⟨_,b,k1,k2⟩:=evL_ok ht hm';have k3:=lit_inv (evL_ok ht hx');obtain⟨b',ob,q1,q2,q3,q4⟩:=hr.ent key _ ((hk key (by simp)).trans hh);rw[k1]at q1;injection q1 with q1;injection q1 with q1;subst q1;rw[hok.hφ]at q3;have hz:(zeroValue e).run P w= .ok zl.value w:=by
  obtain⟨i,h1,h2⟩:=Option.bind_eq_some_iff.1 hok.hz;simp[zeroValue,typeInfo,h1,h2]
 obtain⟨r,ps,hrun,hv⟩:=(q3.owns q2).lookup hok.hK hok.ht hz hok.hzd hok.hk;rw[hok.hat]at hv;have:=hok.hl r ps hv;subst this;unfold Oper.wp;have:(execOp a.eval o).run P w= .ok (.value l.value) w:=by simp[execOp,ho,k2,k3,hrun]
 rw[this];exact hn _ γ M w hr (.lit _) (Stp.refl _ _ _ _)
structure LkNo (P:Program)(t:TypeId)(φ:MPred)(v:Value)(k e:TypeId)(n:Nat)(D:DataW Unit)(kl zl:Lit):Prop where
 ht:P.underlying t=some (.map k e)
 hK:Keyed P k
 hφ:φ=MXp P k e n D
 hk:keyOf P k v=some kl
 hz:(P.info? e).bind (·.zero)=some zl.value
 hat:∀zd,D.atKey kl zd=zd
structure LkYes (P:Program)(t:TypeId)(φ:MPred)(v:Value)(k e:TypeId)(n:Nat)(D:DataW Unit)(kl zl l:Lit):Prop where
 ht:P.underlying t=some (.map k e)
 hK:Keyed P k
 hφ:φ=MXp P k e n D
 hk:keyOf P k v=some kl
 hz:(P.info? e).bind (·.zero)=some zl.value
 hat:∀zd,D.atKey kl zd= .lit l
 hl:∀v ps,plainElem (H:=Unit) P e v=some (.lit l,ps)→v=l.value
theorem OT_lk2 {o:Oper}{t:TypeId}{m x:Operand}{key:Nat}{φ:MPred}{v:Value}{b:Bool}{l:Lit}(ho:o.op= .lookup t m x true)(hm:evL T m=some (.a (.mp key)))(hx:evL T x=some (vl v))(hh:h key=some (.mp φ))
  (hok:(b=false∧∃k e n D kl,LkNo P t φ v k e n D kl l)∨(b=true∧∃k e n D kl zl,LkYes P t φ v k e n D kl zl l)):
  OT P o T h (.tup [.s (.d (.lit l.value)),.s (.d (.lit (.bool b)))]) [] [key]:=by
 intro T' h' γ M w a next Q hT hk hr ht hn
 have hm':evL T' m=some (.a (.mp key)):=by rw[←hm];exact evL_congr fun d hd=>hT d (by rw[ho];simp[Op.operands,hd])
 have hx':evL T' x=some (vl v):=by rw[←hx];exact evL_congr fun d hd=>hT d (by rw[ho];simp[Op.operands,hd])
 obtain⟨_,bb,k1,k2⟩:=evL_ok ht hm';have k3:=lit_inv (evL_ok ht hx');obtain⟨b',ob,q1,q2,q3,q4⟩:=hr.ent key _ ((hk key (by simp)).trans hh);rw[k1]at q1;injection q1 with q1;injection q1 with q1;subst q1
 have fin:(execOp a.eval o).run P w= .ok (.value (.tuple #[l.value,.bool b])) w→o.wp P a w next Q:=fun hrun=>by
  unfold Oper.wp;rw[hrun];exact hn _ γ M w hr ⟨[l.value,.bool b],rfl,.lit _,.lit _,trivial⟩ (Stp.refl _ _ _ _)
 have hzero:∀{e:TypeId} {zl:Lit},(P.info? e).bind (·.zero)=some zl.value→(zeroValue e).run P w= .ok zl.value w:=fun hz=>by
  obtain⟨i,h1,h2⟩:=Option.bind_eq_some_iff.1 hz;simp[zeroValue,typeInfo,h1,h2]
 rcases hok with⟨rfl,k,e,n,D,kl,hok⟩|⟨rfl,k,e,n,D,kl,zl,hok⟩
 ·have hφ:=hok.hφ;subst hφ;obtain⟨es,clock,hb,F,_,hD⟩:=q3.owns q2;rcases Maps.fit_look true hok.hK hok.ht (hzero hok.hz) hb F hok.hk with⟨hrun,_,hat⟩|⟨e0,y,_,_,hrun,hRv,hat,_⟩
  ·simp only[if_true]at hrun;exact fin (by simp[execOp,ho,k2,k3,hrun])
  ·exfalso;have h1:=hat .nil;have h2:=hat (.lit (.bool true));rw[←hD,hok.hat]at h1 h2;rw[←h1]at h2;cases h2
 ·have hφ:=hok.hφ;subst hφ;obtain⟨es,clock,hb,F,_,hD⟩:=q3.owns q2;rcases Maps.fit_look true hok.hK hok.ht (hzero hok.hz) hb F hok.hk with⟨hrun,_,hat⟩|⟨e0,y,_,_,hrun,hRv,hat,_⟩
  ·exfalso;have h1:=hat .nil;rw[←hD,hok.hat]at h1;cases h1
  ·have h1:=hat .nil;rw[←hD,hok.hat]at h1;obtain⟨y1,y2⟩:=y;simp only at h1;subst h1;have:=hok.hl _ _ hRv;rw[this]at hrun;simp only[if_true]at hrun;exact fin (by simp[execOp,ho,k2,k3,hrun])
def LkAny (P:Program)(t:TypeId)(φ:MPred)(v:Value)(x:A):Prop:=∀(γ:Gh) (h:Hp) (M:MS) (w:World) (b:Nat) (o:Obj),w.heap[b]? =some o→φ.p M w o→∃r,(Instr.lookup t (.map (some b)) v true).run P w= .ok (.tuple #[r,.bool true]) w∧RdA γ h M w x r
theorem OT_lkA {o:Oper}{t:TypeId}{m x:Operand}{key:Nat}{φ:MPred}{v:Value}{y:A}(ho:o.op= .lookup t m x true)(hm:evL T m=some (.a (.mp key)))(hx:evL T x=some (vl v))(hh:h key=some (.mp φ))(hok:LkAny P t φ v y):
  OT P o T h (.tup [.s y,.s (.d (.lit (.bool true)))]) [] [key]:=by
 intro T' h' γ M w a next Q hT hk hr ht hn
 have hm':evL T' m=some (.a (.mp key)):=by rw[←hm];exact evL_congr fun d hd=>hT d (by rw[ho];simp[Op.operands,hd])
 have hx':evL T' x=some (vl v):=by rw[←hx];exact evL_congr fun d hd=>hT d (by rw[ho];simp[Op.operands,hd])
 obtain⟨_,bb,k1,k2⟩:=evL_ok ht hm';have k3:=lit_inv (evL_ok ht hx');obtain⟨b',ob,q1,q2,q3,q4⟩:=hr.ent key _ ((hk key (by simp)).trans hh);rw[k1]at q1;injection q1 with q1;injection q1 with q1;subst q1;obtain⟨r,hrun,hv⟩:=hok γ h' M w bb ob q2 q3;unfold Oper.wp;have:(execOp a.eval o).run P w= .ok (.value (.tuple #[r,.bool true])) w:=by simp[execOp,ho,k2,k3,hrun]
 rw[this];exact hn _ γ M w hr ⟨[r,.bool true],rfl,hv,.lit _,trivial⟩ (Stp.refl _ _ _ _)
theorem OT_mu {o:Oper}{t k e:TypeId}{m x y:Operand}{key n:Nat}{φ:MPred}{v u:Value}{D:DataW Unit}{kl l:Lit}(ho:o.op= .mapUpdate t m x y)(hm:evL T m=some (.a (.mp key)))(hx:evL T x=some (vl v))(hy:evL T y=some (vl u))(hh:h key=some (.mp φ))(hok:MuOk P t φ v u k e n D kl l):
  OT P o T h (vl undef) [(key,.mp (MXp P k e (n+1) (D.put kl (.lit l))))] [key]:=by
 intro T' h' γ M w a next Q hT hk hr ht hn
 have hm':evL T' m=some (.a (.mp key)):=by rw[←hm];exact evL_congr fun d hd=>hT d (by rw[ho];simp[Op.operands,hd])
 have hx':evL T' x=some (vl v):=by rw[←hx];exact evL_congr fun d hd=>hT d (by rw[ho];simp[Op.operands,hd])
 have hy':evL T' y=some (vl u):=by rw[←hy];exact evL_congr fun d hd=>hT d (by rw[ho];simp[Op.operands,hd])
 obtain⟨_,b,k1,k2⟩:=evL_ok ht hm';have k3:=lit_inv (evL_ok ht hx');have k4:=lit_inv (evL_ok ht hy');have hkey:=(hk key (by simp)).trans hh;obtain⟨b',ob,q1,q2,q3,es,clock,rfl⟩:=hr.ent key _ hkey;rw[k1]at q1;injection q1 with q1;injection q1 with q1;subst q1;rw[hok.hφ]at q3;obtain⟨w',hrun,hown,hg⟩:=(q3.owns q2).update hok.hK hok.ht hok.hn hok.hk hok.hx;have hMb:∀i,M b i:=fun i=>hr.own key b i (by unfold Owns;rw[hkey];simp[k1,ib,blk]);have hlt:b<w.heap.size:=(Array.getElem?_eq_some_iff.1 q2).1;obtain⟨ob',hb'⟩:∃ob',w'.heap[b]? =some ob':=by obtain⟨es,cl,h1,_⟩:=hown;exact⟨_,h1⟩
 obtain⟨p1,p2⟩:=MX.of hb' hown;obtain⟨S,hS⟩:∃S,S=over [(key,Ent.mp (MXp P k e (n+1) (D.put kl (.lit l))))] h':=⟨_,rfl⟩;have hSn:S key=some (.mp (MXp P k e (n+1) (D.put kl (.lit l)))):=by rw[hS,over_same]
 have hSo:∀key',key'≠key→S key'=h' key':=fun key' e1=>by rw[hS,over_other e1]
 have hot:∀b',b'<w.heap.size→b'≠b→w'.heap[b']? =w.heap[b']?:=fun b' hb hne=>hg.block b' hb (by simpa using hne);have hown':∀key' b' i,Owns γ S key' b' i↔Owns γ h' key' b' i:=by
  intro key' b' i
  by_cases e1:key'=key
  ·subst e1;unfold Owns;rw[hSn,hkey]
  ·exact owns_congr rfl (hSo _ e1)
 have s:Stp γ h' M w γ S M w':=by
  refine⟨hg.os,hg.tape,hg.output,hg.size,fun b' i u q=> ?_,fun b' hb hno=> ?_,fun b' i q _=>q,fun key' b' i q _=>⟨key',(hown' _ _ _).1 q⟩,fun key' e1 he=> ?_⟩
  ·have hne:b'≠b:=fun e=>q.1 (e▸hMb i);exact⟨q.1,by rw[←q.2];exact World.cell?_of_block (a:=⟨b',i,none⟩) (hot b' (World.block_lt_of_cell? _ _ q.2) hne)⟩
  ·refine hot b' hb fun e=>hno key 0 ?_;subst e;unfold Owns;rw[hkey];simp[k1,ib,blk]
  ·by_cases e2:key'=key
   ·subst e2;rw[hkey]at he;injection he with he;subst he;exact⟨_,hSn,trivial,.inl rfl⟩
   ·exact⟨e1,by rw[hSo _ e2];exact he,Goes.refl _,.inl rfl⟩
 have hlv:∀k0,live (S k0)=true→live (h' k0)=true:=by
  intro k0 hl
  by_cases e1:k0=key
  ·subst e1;rw[hkey];rfl
  ·rwa [hSo _ e1]at hl
 have r:Rel γ S M w':=by
  refine⟨fun key' e1 he=> ?_,fun key' b' i q=>hr.own key' b' i ((hown' _ _ _).1 q),fun key1 key2 b' l1 l2=>hr.inj key1 key2 b' (hlv _ l1) (hlv _ l2),fun b' i z hmm=> ?_,fun b' i hmm=>Nat.lt_of_lt_of_le (hr.dom b' i hmm) hg.size,hr.glb.fx s.fx⟩
  ·by_cases e2:key'=key
   ·subst e2;rw[hSn]at he;injection he with he;subst he;exact⟨b,ob',k1,hb',p1,p2⟩
   ·rw[hSo _ e2]at he;refine EntR.stp s (hr.ent key' e1 he) rfl fun hl b' hb=>hot b' (blk_lt hr he hl hb) fun e3=>e2 ?_;exact hr.inj key' key b' (by rw[he];exact hl) (by rw[hkey];rfl) hb (by rw[k1,e3];rfl)
  ·by_cases e1:b'=b
   ·subst e1;obtain⟨es',cl',rfl⟩:=p2;simp[World.cell?,hb']
   ·rw[World.cell?_of_block (w:=w) (a:=⟨b',i,none⟩) (hot b' (hr.dom b' i hmm) e1)];exact hr.u32 b' i z hmm
 unfold Oper.wp;have:(execOp a.eval o).run P w= .ok .skip w':=by simp[execOp,ho,k2,k3,k4,hrun]
 rw[this];subst hS;exact hn undef γ M _ r (.lit _) s
end
def lendK (kk:List Nat):Ent→Option Ent
 | .box t cs=>if(cs.flatMap keysA).all (fun k=>kk.contains k)then some (.box t (cs.map (renA fun k=>kk.idxOf k)))else none
 |e=>some e
def lendKF (kk:List Nat)(h:Hp):Nat→List Nat→Option (List (Nat×Ent))
 |_,[]=>some []
 |i,k::ks=>match (h k).bind (lendK kk),lendKF kk h (i+1) ks with
  |some e,some r=>some ((i,e)::r)
  |_,_=>none
def renE (f:Nat→Nat):Ent→Ent
 | .box t cs=> .box t (cs.map (renA f))
 |e=>e
section
variable {γ γ':Gh} {h h':Hp} {M M':MS} {w w':World} {T T':Nat→Option V} {a:Act} {P:Program}
theorem lendKF_ok {kk:List Nat}{h:Hp}:∀{ks:List Nat} {i:Nat} {Hs:List (Nat×Ent)},lendKF kk h i ks=some Hs→
  (∀j,j<ks.length→∃e e',h (ks.getD j 0)=some e∧lendK kk e=some e'∧look Hs (i+j)=some e')∧∀j e,look Hs j=some e→i≤j∧j<i+ks.length
 |[],i,Hs,hl=>by simp[lendKF]at hl;subst hl;exact⟨fun j hj=>by simp at hj,fun j e he=>by cases he⟩
 |k::ks,i,Hs,hl=>by
  simp only[lendKF]at hl;split at hl
  ·rename_i e' r h1 h2;injection hl with hl;subst hl;obtain⟨e,he,hle⟩:=Option.bind_eq_some_iff.1 h1;obtain⟨q1,q2⟩:=lendKF_ok h2;refine⟨fun j hj=> ?_,fun j e2 he2=> ?_⟩
   ·cases j with
    |zero=>exact⟨e,e',by simpa using he,hle,by simp[look]⟩
    |succ j=>
     obtain⟨x,x',y1,y2,y3⟩:=q1 j (by simpa using hj);refine⟨x,x',by simpa using y1,y2,?_⟩;simp only[look];rw[if_neg (by omega),show i+(j+1)=i+1+j from by omega];exact y3
   ·simp only[look]at he2;split at he2
    ·simp;omega
    ·have:=q2 j e2 he2;simp;omega
  ·cases hl
theorem owns_lendK {ks:List Nat}{Hs:List (Nat×Ent)}(hl:lendKF ks h 0 ks=some Hs){i b c:Nat}:Owns (fun i=>γ (ks.getD i 0)) (look Hs) i b c→Owns γ h (ks.getD i 0) b c:=by
 intro ho;obtain⟨q1,q2⟩:=lendKF_ok hl;unfold Owns at ho
 cases he:look Hs i with
 |none=>rw[he]at ho;exact ho.elim
 |some e'=>
  have hi:=(q2 i e' he).2;obtain⟨e,e2,y1,y2,y3⟩:=q1 i (by omega);rw[Nat.zero_add,he]at y3;injection y3 with y3;subst y3;rw[he]at ho;unfold Owns;rw[y1]
  cases e<;>simp only[lendK]at y2
  ·injection y2 with y2;subst y2;exact ho.elim
  ·split at y2
   ·injection y2 with y2;subst y2;exact ho
   ·cases y2
  ·injection y2 with y2;subst y2;exact ho
  ·injection y2 with y2;subst y2;exact ho
  ·injection y2 with y2;subst y2;exact ho
  ·injection y2 with y2;subst y2;exact ho
theorem same_lendK {ks:List Nat}{Hs:List (Nat×Ent)}(hl:lendKF ks h 0 ks=some Hs){key:Nat}(hmem:key∈ks):SameKey (fun k=>ks.idxOf k) γ h (fun i=>γ (ks.getD i 0)) (look Hs) key:=by
 obtain⟨q1,q2⟩:=lendKF_ok hl;have hi:ks.idxOf key<ks.length:=List.idxOf_lt_length_of_mem hmem;have hg:ks.getD (ks.idxOf key) 0=key:=by rw[getD_lt hi];exact List.getElem_idxOf hi
 obtain⟨e,e',z1,z2,z3⟩:=q1 _ hi;rw[Nat.zero_add]at z3;rw[hg]at z1;refine⟨by simp only[hg],fun hp=> ?_,fun hp=> ?_,fun _=>by rw[z3];rfl,fun e0 k n he=> ?_,fun e0 k n he=> ?_,fun hp=> ?_,fun e0 e1 k o ar he=> ?_⟩
 ·rw[z1]at hp;rw[z3]
  cases e<;>simp only[lendK]at z2
  ·injection z2 with z2;subst z2;rfl
  ·split at z2
   ·injection z2 with z2;subst z2;rfl
   ·cases z2
  ·cases hp
  ·injection z2 with z2;subst z2;rfl
  ·cases hp
  ·cases hp
 ·rw[z1]at hp;rw[z3]
  cases e<;>simp only[lendK]at z2
  ·injection z2 with z2;subst z2;rfl
  ·cases hp
  ·cases hp
  ·cases hp
  ·injection z2 with z2;subst z2;rfl
  ·cases hp
 ·rw[z3]at he;injection he with he;subst he;rw[z1]
  cases e<;>simp only[lendK]at z2
  ·injection z2 with z2;cases z2
  ·split at z2
   ·injection z2 with z2;cases z2
   ·cases z2
  ·injection z2 with z2;rw[z2]
  ·injection z2 with z2;cases z2
  ·injection z2 with z2;cases z2
  ·injection z2 with z2;cases z2
 ·rw[z3]at he;injection he with he;subst he;rw[z1]
  cases e<;>simp only[lendK]at z2
  ·injection z2 with z2;cases z2
  ·split at z2
   ·injection z2 with z2;cases z2
   ·cases z2
  ·injection z2 with z2;cases z2
  ·injection z2 with z2;exact⟨_,by rw[z2],rfl⟩
  ·injection z2 with z2;cases z2
  ·injection z2 with z2;cases z2
 ·rw[z1]at hp;rw[z3]
  cases e<;>simp only[lendK]at z2<;>first|(cases hp;done)|(injection z2 with z2;subst z2;rfl)
 ·rw[z3]at he;injection he with he;subst he;rw[z1]
  cases e<;>simp only[lendK]at z2
  ·injection z2 with z2;cases z2
  ·split at z2
   ·injection z2 with z2;cases z2
   ·cases z2
  ·injection z2 with z2;cases z2
  ·injection z2 with z2;cases z2
  ·injection z2 with z2;cases z2
  ·injection z2 with z2;exact⟨_,_,by rw[z2],rfl,rfl,fun _=>rfl⟩
theorem rel_lendK (r:Rel γ h M w){ks:List Nat}{Hs:List (Nat×Ent)}(hn:ks.Nodup)(hl:lendKF ks h 0 ks=some Hs):Rel (fun i=>γ (ks.getD i 0)) (look Hs) M w:=by
 obtain⟨q1,q2⟩:=lendKF_ok hl;have hlive:∀i,live (look Hs i)=true→i<ks.length∧live (h (ks.getD i 0))=true:=by
  intro i hi
  cases he:look Hs i with
  |none=>rw[he]at hi;cases hi
  |some e'=>
   have hi':=(q2 i e' he).2;obtain⟨e,e2,y1,y2,y3⟩:=q1 i (by omega);rw[Nat.zero_add,he]at y3;injection y3 with y3;subst y3;rw[he]at hi;refine⟨by omega,?_⟩;rw[y1]
   cases e<;>simp only[lendK]at y2
   ·injection y2 with y2;subst y2;exact hi
   ·rfl
   ·rfl
   ·rfl
   ·rfl
   ·rfl
 refine⟨fun i e' he=> ?_,fun i b c ho=>r.own _ b c (owns_lendK hl ho),fun i j b l1 l2 b1 b2=> ?_,r.u32,r.dom,r.glb⟩
 ·have hi:=(q2 i e' he).2;obtain⟨e,e2,y1,y2,y3⟩:=q1 i (by omega);rw[Nat.zero_add,he]at y3;injection y3 with y3;subst y3;have hr:=r.ent _ e y1
  cases e<;>simp only[lendK]at y2
  ·injection y2 with y2;subst y2;trivial
  ·rename_i t cs;split at y2
   ·rename_i hk;injection y2 with y2;subst y2;obtain⟨g,vs,k1,k2,k3⟩:=hr;refine⟨g,vs,k1,k2,?_⟩;have k5:All2 (RdA (fun i=>γ (ks.getD i 0)) (look Hs) M w) (cs.map (renA fun k=>ks.idxOf k)) vs:=by
     refine All2.renA k3 fun key hkk=> ?_;exact same_lendK hl (by simpa using List.all_eq_true.1 hk key hkk)
    exact k5
   ·cases y2
  ·injection y2 with y2;subst y2;exact hr
  ·injection y2 with y2;subst y2;exact hr
  ·injection y2 with y2;subst y2;exact hr
  ·injection y2 with y2;subst y2;exact tt_ren (f:=fun _=>i) hr (SameKey.tt rfl y1 he)
 ·obtain⟨i1,l1'⟩:=hlive i l1;obtain⟨j1,l2'⟩:=hlive j l2;have:=r.inj _ _ b l1' l2' b1 b2;rw[getD_lt i1,getD_lt j1]at this;exact nodup_inj hn i1 j1 this
theorem look_mapE {f:Nat→Nat}{g:Ent→Ent}(hf:∀i j,f i=f j→i=j):∀(H:List (Nat×Ent)) (i:Nat),look (H.map fun p=>(f p.1,g p.2)) (f i)=(look H i).map g
 |[],_=>rfl
 |(j,e)::r,i=>by
  simp only[List.map_cons,look]
  by_cases hj:j=i
  ·subst hj;simp
  ·rw[if_neg hj,if_neg fun h=>hj (hf _ _ h),look_mapE hf r i]
theorem live_renE {f:Nat→Nat}{e:Ent}:live (some (renE f e))=live (some e):=by cases e<;>rfl
theorem back_callK (r:Rel γ h M w){ks:List Nat}{base:Nat}{Hs H1:List (Nat×Ent)}(hn:ks.Nodup)(hb:∀k∈ks,k<base)(hl:lendKF ks h 0 ks=some Hs)(hfresh:∀p∈H1,ks.length≤p.1→h (back ks base p.1)=none)
  {γ1:Gh} {M1:MS} {w1:World} (r1:Rel γ1 (look H1) M1 w1) (s1:Stp (fun i=>γ (ks.getD i 0)) (look Hs) M w γ1 (look H1) M1 w1):
  ∃γ',Rel γ' (over (H1.map fun p=>(back ks base p.1,renE (back ks base) p.2)) h) M1 w1∧Stp γ h M w γ' (over (H1.map fun p=>(back ks base p.1,renE (back ks base) p.2)) h) M1 w1∧
   ∀v r,RdV γ1 (look H1) M1 w1 v r→RdV γ' (over (H1.map fun p=>(back ks base p.1,renE (back ks base) p.2)) h) M1 w1 (renV (back ks base) v) r:=by
 have hinj:=back_inj hn hb;obtain⟨q1,q2⟩:=lendKF_ok hl;obtain⟨S,hS⟩:∃S,S=over (H1.map fun p=>(back ks base p.1,renE (back ks base) p.2)) h:=⟨_,rfl⟩;have hSb:∀i e,look H1 i=some e→S (back ks base i)=some (renE (back ks base) e):=by
  intro i e he;rw[hS];unfold over;rw[look_mapE hinj,he];rfl
 have hSo:∀key,(∀i,(look H1 i).isSome=true→back ks base i≠key)→S key=h key:=by
  intro key hk;rw[hS];unfold over
  cases hq:look (H1.map fun p=>(back ks base p.1,renE (back ks base) p.2)) key with
  |none=>rfl
  |some e=>
   exfalso;obtain⟨p,hp,he⟩:=List.mem_map.1 (look_mem hq);injection he with he1 he2;rw[←he1,look_mapE hinj]at hq;refine hk p.1 ?_ he1
   cases hz:look H1 p.1 with
   |none=>rw[hz]at hq;cases hq
   |some e2=>rfl
 classical
 obtain⟨γ',hγ⟩:∃γ':Gh,(∀i,(look H1 i).isSome=true→γ' (back ks base i)=γ1 i)∧∀key,(∀i,(look H1 i).isSome=true→back ks base i≠key)→γ' key=γ key:=by
  refine⟨fun key=>if hq:∃i,(look H1 i).isSome=true∧back ks base i=key then γ1 hq.choose else γ key,fun i hi=> ?_,fun key hk=> ?_⟩
  ·have hq:∃j,(look H1 j).isSome=true∧back ks base j=back ks base i:=⟨i,hi,rfl⟩;simp only[dif_pos hq];rw[hinj _ _ hq.choose_spec.2]
  ·have hq:¬ ∃i,(look H1 i).isSome=true∧back ks base i=key:=fun⟨i,hi,he⟩=>hk i hi he;simp only[dif_neg hq]
 obtain⟨hγb,hγo⟩:=hγ;have hbk:∀i,i<ks.length→back ks base i=ks.getD i 0:=fun i hi=>if_pos hi
 -- a key of the caller's is the callee's,or is not
 have hcase:∀key,(∃i e,look H1 i=some e∧back ks base i=key)∨∀i,(look H1 i).isSome=true→back ks base i≠key:=by
  intro key
  by_cases hq:∃i,(look H1 i).isSome=true∧back ks base i=key
  ·obtain⟨i,hi,he⟩:=hq;obtain⟨e,hee⟩:=Option.isSome_iff_exists.1 hi;exact .inl ⟨i,e,hee,he⟩
  ·exact .inr fun i hi he=>hq ⟨i,hi,he⟩
 have hown1:∀i e b c,look H1 i=some e→(Owns γ' S (back ks base i) b c↔Owns γ1 (look H1) i b c):=by
  intro i e b c he;unfold Owns;rw[hSb i e he,he,hγb i (by rw[he];rfl)]
  cases e<;>rfl
 have hown2:∀key b c,(∀i,(look H1 i).isSome=true→back ks base i≠key)→(Owns γ' S key b c↔Owns γ h key b c):=fun key b c hk=>owns_congr (hγo key hk) (hSo key hk);have hold:∀i,i<ks.length→∃e,look H1 i=some e:=by
  intro i hi;obtain⟨e,e',y1,y2,y3⟩:=q1 i hi;rw[Nat.zero_add]at y3;obtain⟨e2,z1,_⟩:=s1.key i e' y3;exact⟨e2,z1⟩
 -- what a key that is not lent owns,no lent key owns
 have hother:∀key b,live (h key)=true→ib (γ key) b→(∀i,(look H1 i).isSome=true→back ks base i≠key)→∀i c,¬Owns (fun i=>γ (ks.getD i 0)) (look Hs) i b c:=by
  intro key b hlv hbb hk i c ho;have ho':=owns_lendK hl ho;obtain⟨l1,l2⟩:=owns_live ho';have e1:=r.inj _ _ b l1 hlv l2 hbb;have hi:i<ks.length:=by
   have:=(owns_live ho).1
   cases he:look Hs i with
   |none=>rw[he]at this;cases this
   |some e=>have:=(q2 i e he).2;omega
  obtain⟨e,he⟩:=hold i hi;exact hk i (by rw[he];rfl) (by rw[hbk i hi,e1])
 have hstp:Stp γ h M w γ' S M1 w1:=by
  refine⟨s1.os,s1.tape,s1.output,s1.size,s1.fx,fun b hb hno=>s1.other b hb fun i c ho=>hno _ c (owns_lendK hl ho),fun b c hm hno=>s1.keep b c hm fun i ho=>hno _ (owns_lendK hl ho),fun key b c ho hb=> ?_,fun key e he=> ?_⟩
  ·rcases hcase key with⟨i,e,he,rfl⟩|hk
   ·obtain⟨j,hj⟩:=s1.new i b c ((hown1 i e b c he).1 ho) hb;exact⟨_,owns_lendK hl hj⟩
   ·exact⟨key,(hown2 key b c hk).1 ho⟩
  ·rcases hcase key with⟨i,e1,he1,hbi⟩|hk
   ·by_cases hi:i<ks.length
    ·obtain⟨e0,e',y1,y2,y3⟩:=q1 i hi;rw[Nat.zero_add]at y3;have hkey:key=ks.getD i 0:=by rw[←hbi,hbk i hi]
     rw[hkey,y1]at he;injection he with he;subst he;obtain⟨e2,z1,z2,z3⟩:=s1.key i e' y3;rw[he1]at z1;injection z1 with z1;subst z1;refine⟨renE (back ks base) e1,by rw[←hbi];exact hSb i e1 he1,?_,?_⟩
     ·cases e0<;>simp only[lendK]at y2
      ·injection y2 with y2;subst y2;cases e1<;>exact z2
      ·split at y2
       ·injection y2 with y2;subst y2;cases e1<;>exact z2
       ·cases y2
      ·injection y2 with y2;subst y2;cases e1<;>exact z2
      ·injection y2 with y2;subst y2;cases e1<;>exact z2
      ·injection y2 with y2;subst y2;cases e1<;>exact z2
      ·injection y2 with y2;subst y2;cases e1<;>exact z2
     ·rw[←hbi,hγb i (by rw[he1];rfl),hbk i hi];rcases z3 with z3|z3
      ·exact .inl z3
      ·right
       cases e0<;>simp only[lendK]at y2
       ·injection y2 with y2;subst y2;cases e1<;>exact z3
       ·split at y2
        ·injection y2 with y2;subst y2;cases e1<;>exact z3
        ·cases y2
       ·injection y2 with y2;subst y2;cases e1<;>exact z3
       ·injection y2 with y2;subst y2;cases e1<;>exact z3
       ·injection y2 with y2;subst y2;cases e1<;>exact z3
       ·injection y2 with y2;subst y2;cases e1<;>exact z3
    ·have:=hfresh (i,e1) (look_mem he1) (by simpa using hi);simp only at this;rw[hbi,he]at this;cases this
   ·exact⟨e,by rw[hSo key hk];exact he,Goes.refl _,.inl (hγo key hk)⟩
 have hsame:∀i,(look H1 i).isSome=true→SameKey (back ks base) γ1 (look H1) γ' S i:=by
  intro i hi;obtain⟨e,he⟩:=Option.isSome_iff_exists.1 hi;refine⟨hγb i hi,fun hp=>by rw[hSb i e he];rw[he]at hp;cases e<;>exact hp,fun hp=>by rw[hSb i e he];rw[he]at hp;cases e<;>exact hp,fun _=>by rw[hSb i e he];rfl,fun e1 k n hq=>by rw[hSb i e he]at hq;rw[he];cases e<;>(first|exact hq|cases hq),fun e1 k n hq=>by rw[hSb i e he]at hq;refine⟨n,?_,rfl⟩;rw[he];cases e<;>(first|exact hq|cases hq),fun hp=>by rw[hSb i e he];rw[he]at hp;cases e<;>exact hp,fun e0 e1 k o ar hq=>by rw[hSb i e he]at hq;refine⟨o,ar,?_,rfl,rfl,fun _=>rfl⟩;rw[he];cases e<;>(first|exact hq|cases hq)⟩
 rw[←hS];refine⟨γ',⟨fun key e he=> ?_,fun key b c ho=> ?_,fun key1 key2 b l1 l2 b1 b2=> ?_,r1.u32,r1.dom,r1.glb⟩,hstp,fun v x hv=>hv.ren fun key hk=>hsame key (RdV.there hv key hk)⟩
 ·rcases hcase key with⟨i,e1,he1,rfl⟩|hk
  ·rw[hSb i e1 he1]at he;injection he with he;subst he;have he2:=r1.ent i e1 he1
   cases e1 with
   |gone=>trivial
   |tab e k rows=>
    obtain⟨g,vs,sp,k1,k2⟩:=he2;exact⟨g,vs,sp,by rw[hγb i (by rw[he1];rfl),k1],k2⟩
   |mp φ=>
    obtain⟨g,o,k1,k2⟩:=he2;exact⟨g,o,by rw[hγb i (by rw[he1];rfl),k1],k2⟩
   |tt e0 e k o ar=>exact tt_ren he2 (hsame i (by rw[he1];rfl))
   |arr e k n=>
    obtain⟨xs,hx⟩:=he2;exact⟨xs,by rw[hγb i (by rw[he1];rfl)];exact hx⟩
   |box t cs=>
    obtain⟨g,vs,k1,k2,k3⟩:=he2;refine⟨g,vs,by rw[hγb i (by rw[he1];rfl),k1],k2,?_⟩;exact All2.renA k3 fun key hkk=>hsame key (there_list (R:=RdA γ1 (look H1) M1 w1) (ks:=keysA) (fun _ _=>RdA.there) k3 key hkk)
  ·rw[hSo key hk]at he;refine EntR.stp hstp (r.ent key e he) (hγo key hk) fun hlv b hbb=>s1.other b (blk_lt r he hlv hbb) fun i c=>hother key b (by rw[he];exact hlv) hbb hk i c
 ·rcases hcase key with⟨i,e1,he1,rfl⟩|hk
  ·exact r1.own i b c ((hown1 i e1 b c he1).1 ho)
  ·have ho':=(hown2 key b c hk).1 ho;obtain⟨l1,l2⟩:=owns_live ho';exact s1.keep b c (r.own key b c ho') fun i ho2=>hother key b l1 l2 hk i c ho2
 ·have hmix:∀i e key,look H1 i=some e→live (some e)=true→ib (γ1 i) b→(∀i,(look H1 i).isSome=true→back ks base i≠key)→live (h key)=true→ib (γ key) b→False:=by
   intro i e key he hle hbb hk hlk hbk2
   cases hh:h key with
   |none=>rw[hh]at hlk;cases hlk
   |some e0=>
    have hlt:=blk_lt r hh (by rw[←hh];exact hlk) hbk2;have ho:∃c,Owns γ1 (look H1) i b c:=by
     unfold Owns;rw[he]
     cases e with
     |gone=>cases hle
     |box=>exact⟨0,hbb⟩
     |tab=>exact⟨0,hbb⟩
     |mp=>exact⟨0,hbb⟩
     |tt=>exact⟨0,hbb⟩
     |arr e k n=>exact⟨n*k,hbb,lR_ _⟩
    obtain⟨c,ho⟩:=ho;obtain⟨j,hj⟩:=s1.new i b c ho hlt;exact hother key b hlk hbk2 hk j c hj
  rcases hcase key1 with⟨i,e1,he1,rfl⟩|hk1<;>rcases hcase key2 with⟨j,e2,he2,rfl⟩|hk2
  ·rw[hSb i e1 he1,live_renE]at l1;rw[hSb j e2 he2,live_renE]at l2;rw[hγb i (by rw[he1];rfl)]at b1;rw[hγb j (by rw[he2];rfl)]at b2;rw[r1.inj i j b (by rw[he1];exact l1) (by rw[he2];exact l2) b1 b2]
  ·rw[hSb i e1 he1,live_renE]at l1;rw[hγb i (by rw[he1];rfl)]at b1;rw[hSo key2 hk2]at l2;rw[hγo key2 hk2]at b2;exact(hmix i e1 key2 he1 l1 b1 hk2 l2 b2).elim
  ·rw[hSb j e2 he2,live_renE]at l2;rw[hγb j (by rw[he2];rfl)]at b2;rw[hSo key1 hk1]at l1;rw[hγo key1 hk1]at b1;exact(hmix j e2 key1 he2 l2 b2 hk1 l1 b1).elim
  ·rw[hSo key1 hk1]at l1;rw[hγo key1 hk1]at b1;rw[hSo key2 hk2]at l2;rw[hγo key2 hk2]at b2;exact r.inj key1 key2 b l1 l2 b1 b2
theorem lendKF_congr {kk:List Nat}{h h':Hp}:∀{ks:List Nat} {i:Nat},(∀k,k∈ks→h' k=h k)→lendKF kk h' i ks=lendKF kk h i ks
 |[],_,_=>rfl
 |k::ks,i,hc=>by simp only[lendKF];rw[hc k (by simp),lendKF_congr fun y hy=>hc y (by simp[hy])]
theorem OT_enterK {o:Oper}{F:FuncId}{vs gs:List V}{ks:List Nat}{base:Nat}{Hs H1:List (Nat×Ent)}{v1:V}(hen:Enters P o T F vs)(hw:All2 WkV vs gs)(hn:ks.Nodup)(hb:∀k∈ks,k<base)
  (hl:lendKF ks h 0 ks=some Hs) (hk:∀key∈gs.flatMap keysV,key∈ks) (hlc:LC P F (gs.map (renV fun k=>ks.idxOf k)) Hs v1 H1)
  (hfresh:∀p∈H1,ks.length≤p.1→h (back ks base p.1)=none):
  OT P o T h (renV (back ks base) v1) (H1.map fun p=>(back ks base p.1,renE (back ks base) p.2)) (ks++H1.map fun p=>back ks base p.1):=by
 intro T' h' γ M w a next Q hT hk' hr ht hnx
 have hl':lendKF ks h' 0 ks=some Hs:=(lendKF_congr fun k hk=>hk' k (by simp[hk])).trans hl;have hfresh':∀p∈H1,ks.length≤p.1→h' (back ks base p.1)=none:=fun p hp hpl=>(hk' _ (List.mem_append_right _ (List.mem_map.2 ⟨p,hp,rfl⟩))).trans (hfresh p hp hpl);obtain⟨rs,k3,hrun⟩:=hen T' h' γ M w a hT ht;have k4:All2 (RdV γ h' M w) gs rs:=wk_all hw k3
 have k5:All2 (RdV (fun i=>γ (ks.getD i 0)) (look Hs) M w) (gs.map (renV fun k=>ks.idxOf k)) rs:=
  All2.renV k4 fun key hkey=>same_lendK hl' (hk key hkey)
 have k6:=hlc _ M w _ (rel_lendK hr hn hl') k5;unfold Oper.wp;rw[hrun];refine cM k6 ?_;rintro e w' ⟨r,γ1,M1,rfl,r1,r2,r3⟩;obtain⟨γ',z1,z2,z3⟩:=back_callK hr hn hb hl' hfresh' r1 r3;exact hnx r γ' M1 w' z1 (z3 v1 r r2) z2
end
def plainD:D→Bool
 | .lit v=>plainV v
 |_=>true
section
variable {γ γ':Gh} {h h':Hp} {M M':MS} {w w':World} {T T':Nat→Option V} {a:Act} {P:Program}
theorem rows_flatten {k:Nat}{xs:List (List D)}(hk:∀(i:Nat) (row:List D),xs[i]? =some row→row.length=k):xs.flatten.length=xs.length*k∧∀(q:Nat) d,xs.flatten[q]? =some d→∃i j row,q=i*k+j∧xs[i]? =some row∧row[j]? =some d:=by
 induction xs with
 |nil=>simp
 |cons x xs ih=>
  obtain⟨h1,h2⟩:=ih fun i row hi=>hk (i+1) row (by simpa using hi);have hx:=hk 0 x rfl;refine⟨by simp[h1,hx,Nat.add_mul];omega,fun q d hq=> ?_⟩;rw[List.flatten_cons]at hq;rcases Nat.lt_or_ge q k with hlt|hge
  ·rw[List.getElem?_append_left (by omega)]at hq;exact⟨0,q,x,by omega,rfl,hq⟩
  ·rw[List.getElem?_append_right (by omega),hx]at hq;obtain⟨i,j,row,e1,e2,e3⟩:=h2 _ d hq;exact⟨i+1,j,row,by rw[Nat.add_mul];omega,by simpa using e2,e3⟩
theorem plainD_u32 {d:D}{v:Value}(hx:RdD M w d v)(hp:plainD d=true):∀z,v≠ .int .u32 z:=
 plainA_u32 (x:= .d d) (γ:=fun _=>undef) (h:=fun _=>none) hx (by cases d<;>first|exact hp|rfl)
theorem tab_moved (r:Rel γ h M w){key:Nat}{e:TypeId}{k n:Nat}(hkey:h key=none){xs:List (List D)}{cells sp:List Value}{cap:Nat}
  (hn:xs.length=n) (hc:n≤cap) (hk:∀(i:Nat) (row:List D),xs[i]? =some row→row.length=k) (hcl:cells.length=n*k) (h1:∀c∈cells,c.oneCell'=true)
  (hr:∀(i:Nat) (row:List D) (j:Nat) (d:D),xs[i]? =some row→row[j]? =some d→∃u,cells[i*k+j]? =some u∧RdD M w d u)
  (hu:∀x∈cells++sp,∀z:Int,x≠ .int .u32 z) {w1:World} (h0:w1.heap=w.heap) (h4:w1.os=w.os) (h2:w1.tape=w.tape) (h3:w1.output=w.output):
  ∃γ' M',Rel γ' (over [(key,.tab e k xs)] h) M' (w1.alloc (.cells (cells++sp).toArray e))∧RdV γ' (over [(key,.tab e k xs)] h) M' (w1.alloc (.cells (cells++sp).toArray e)) (.a (.tab key n)) (.slice (some ⟨w.heap.size,0,none⟩) n cap)∧
   Stp γ h M w γ' (over [(key,.tab e k xs)] h) M' (w1.alloc (.cells (cells++sp).toArray e)):=by
 have hn1:∀e1,h key=some e1→Goes e1 (.tab e k xs)∧Grown1 e1 (.tab e k xs):=fun e1 he=>by rw[hkey]at he;cases he
 have hb:∀b,ib (.pointer (some ⟨w.heap.size,0,none⟩)) b→b=w.heap.size:=by intro b hb;simp[ib,blk]at hb;exact hb.symm
 have s:=stp_new r hn1 (v:= .pointer (some ⟨w.heap.size,0,none⟩)) (cs:=(cells++sp).toArray) (t:=e) h0 h4 h2 h3 (m:=0) hb;obtain⟨f1,f2⟩:=rows_flatten hk;have hall:All2 (RdD M w) xs.flatten cells:=by
  refine All2.of_get (by rw[f1,hn,hcl]) fun q d u hd hq=> ?_;obtain⟨i,j,row,rfl,e2,e3⟩:=f2 q d hd;obtain⟨u',q1,q2⟩:=hr i row j d e2 e3;rw[hq]at q1;injection q1 with q1;rw[q1];exact q2
 have r2:=rel_new r hn1 h0 h4 h2 h3 (m:=0) (v:= .pointer (some ⟨w.heap.size,0,none⟩)) (cs:=(cells++sp).toArray) (t:=e) hb
  ⟨w.heap.size,cells,sp,upd_same,by rw[←h0];exact heap_alloc_new w1 _,fun row hrow=>let ⟨i,hi⟩:=List.mem_iff_getElem?.1 hrow;hk i row hi,All2.imp (fun _ _=>RdD.fx s.fx) hall,h1⟩ (fun _ i _=>zL_ i)
  (fun i x _ hi=>hu x (by have:(cells++sp)[i]? =some x:=by simpa using hi
                          exact mG_ this))
 exact⟨_,_,r2,⟨by rw[over_same];rfl,⟨w.heap.size,cap,upd_same,rfl,hc⟩,fun e1 k1 rows he=>by rw[over_same]at he;injection he with he;injection he with _ _ he;subst he;exact hn⟩,s⟩
theorem app_tab {t ty e:TypeId}{k:Nat}{key:Nat}{xs ys:List (List D)}{vx vy:Value}(r:Rel γ h M w)(hkey:h key=none)(ht:P.underlying t=some (.slice e))(hok:appOk P e k=true)
  (hx:RdD M w (.sl k xs) vx) (hf:∃ad,vx= .slice ad xs.length xs.length) (hy:RdD M w (.sl k ys) vy) (hm0:0<ys.length) (hb:xs.length+ys.length≤68719476736) (hpl:∀row∈xs++ys,∀d∈row,plainD d=true):
  ∃v' w' γ' M',(Builtin.append_ #[t,t] ty #[vx,vy]).run P w= .ok v' w'∧Rel γ' (over [(key,.tab e k (xs++ys))] h) M' w'∧RdV γ' (over [(key,.tab e k (xs++ys))] h) M' w' (.a (.tab key (xs++ys).length)) v'∧
   Stp γ h M w γ' (over [(key,.tab e k (xs++ys))] h) M' w':=by
 obtain⟨ad,rfl⟩:=hf;obtain⟨i,z,hi,hz,hk0,hs,hby,hzs,hzu⟩:=appOk_ok hok;subst hs;obtain⟨ay,my,cy',rfl⟩:∃a n c,vy= .slice a n c:=by
  rcases rdD_slice hy with⟨_,e⟩|h5
  ·cases e
  ·exact h5
 obtain⟨l1,l2,l3,hky,cy,hcy,h1y,hfy,hry⟩:=sl_cells hy hk0;subst l1;obtain⟨b,o,rfl,hfz⟩:=hfy (by omega);obtain⟨lx1,lx2,lx3,hkx,cx,hcx,h1x,hfx,hrx⟩:=sl_cells hx hk0;have hnews:∀j v,cy[j]? =some v→w.cell? ((⟨b,o,none⟩:Addr).add j)=some v:=fun j v hj=>by rw[Addr.add_lit];exact(hfz j v hj).2
 have hmax:xs.length+ys.length≤maxLen:=by simp[maxLen];omega
 have hkk:=rows_len hkx hky;have hrr:=rows_app hcx hkx hrx hry;have hcl:(cx++cy).length=(xs.length+ys.length)*i.size:=by simp[hcx,hcy,Nat.add_mul]
 have h1:∀c∈cx++cy,c.oneCell'=true:=fun c hc=>by
  rcases List.mem_append.1 hc with h5|h5
  ·exact h1x c h5
  ·exact h1y c h5
 have hcu:∀x∈cx++cy,∀z:Int,x≠ .int .u32 z:=by
  intro x hx;obtain⟨q,hq⟩:=List.mem_iff_getElem?.1 hx;obtain⟨f1,f2⟩:=rows_flatten hkk;have hlt:=(List.getElem?_eq_some_iff.1 hq).1;have hfl:q<(xs++ys).flatten.length:=by rw[f1,List.length_append];omega
  obtain⟨i',j,row,e1,e2,e3⟩:=f2 q _ (List.getElem?_eq_getElem hfl);obtain⟨u,q1,q2⟩:=hrr i' row j _ e2 e3;rw[←e1,hq]at q1;injection q1 with q1;subst q1;exact plainD_u32 q2 (hpl row (mG_ e2) _ (mG_ e3))
 have hzc:∀m,∀x∈(Builtin.zeroCells z.cells m).toList,∀q:Int,x≠ .int .u32 q:=fun m x hx=>by
  obtain⟨q,hq⟩:=List.mem_iff_getElem?.1 hx;exact zeroCells_u32 (by omega) hzu q x (by simpa using hq)
 cases ad with
 |none=>
  have h0:xs.length=0:=by
   rcases eP_ xs.length with h0|h0
   ·exact h0
   ·obtain⟨_,_,e,_⟩:=hfx h0;cases e
  have hxs:xs=[]:=List.eq_nil_of_length_eq_zero h0;subst hxs;have hcx0:cx=[]:=List.eq_nil_of_length_eq_zero (by simpa using hcx);subst hcx0;simp only[List.nil_append,List.length_nil,Nat.zero_add]at *
  have hr:=run_append_nil (P:=P) w t ty e i z ht hi hz ⟨b,o,none⟩ ys.length cy' cy hcy hnews (by omega) (by omega) (by
   have:=Nat.mul_le_mul (show ys.length≤68719476736 by omega) hby;omega)
  have hge:=grownCap_ge w ys.length 0 e;obtain⟨γ',M',q1,q2,q3⟩:=tab_moved (w1:=w.drew) r (key:=key) (e:=e) (k:=i.size) (n:=ys.length) (xs:=ys) (cells:=cy) (sp:=(Builtin.zeroCells z.cells (grownCap w ys.length 0 e-ys.length)).toList) (cap:=grownCap w ys.length 0 e) hkey rfl hge hkk hcl h1 hrr
   (fun x hx=>by
    rcases List.mem_append.1 hx with h5|h5
    ·exact hcu x h5
    ·exact hzc _ x h5) rfl rfl rfl rfl
  have harr:(cy++(Builtin.zeroCells z.cells (grownCap w ys.length 0 e-ys.length)).toList).toArray=cy.toArray++Builtin.zeroCells z.cells (grownCap w ys.length 0 e-ys.length):=by apply Array.ext';simp
  rw[harr]at q1 q2 q3;exact⟨_,_,γ',M',hr,q1,q2,q3⟩
 |some g=>
  have holds:∀j v,cx[j]? =some v→w.cell? (g.add j)=some v:=fun j v hj=>by
   have hlt:=(List.getElem?_eq_some_iff.1 hj).1;have hn0:0<xs.length:=by
    rcases eP_ xs.length with h0|h0
    ·rw[hcx,h0,Nat.zero_mul]at hlt;omega
    ·exact h0
   obtain⟨b2,o2,e2,hf2⟩:=hfx hn0;injection e2 with e2;subst e2;rw[Addr.add_lit];exact(hf2 j v hj).2
  have hr:=run_append_grow (P:=P) w t ty e i z ht hi hz g xs.length xs.length cx hcx holds ⟨b,o,none⟩ ys.length cy' cy hcy hnews (by omega) (by omega) (growslice_fits (by omega) (by
   have:=Nat.mul_le_mul hb hby;omega))
  have hge:=grownCap_ge w (xs.length+ys.length) xs.length e;have hlen:(xs++ys).length=xs.length+ys.length:=by simp
  obtain⟨γ',M',q1,q2,q3⟩:=tab_moved (w1:=w.drew) r (key:=key) (e:=e) (k:=i.size) (n:=xs.length+ys.length) (xs:=xs++ys) (cells:=cx++cy) (sp:=(Builtin.zeroCells z.cells (grownCap w (xs.length+ys.length) xs.length e-(xs.length+ys.length))).toList) (cap:=grownCap w (xs.length+ys.length) xs.length e) hkey hlen hge hkk hcl h1 hrr
   (fun x hx=>by
    rcases List.mem_append.1 hx with h5|h5
    ·exact hcu x h5
    ·exact hzc _ x h5) rfl rfl rfl rfl
  have harr:(cx++cy++(Builtin.zeroCells z.cells (grownCap w (xs.length+ys.length) xs.length e-(xs.length+ys.length))).toList).toArray=cx.toArray++cy.toArray++Builtin.zeroCells z.cells (grownCap w (xs.length+ys.length) xs.length e-(xs.length+ys.length)):=by apply Array.ext';simp
  rw[harr]at q1 q2 q3;rw[hlen];exact⟨_,_,γ',M',hr,q1,q2,q3⟩
theorem OT_apptab {o:Oper}{t t':TypeId}{s x:Operand}{vx:V}{k n:Nat}{xs ys:List (List D)}{e:TypeId}(ho:o.op= .call {callee:= .builtin .append,args:= #[s,x],argTypes:= #[t,t']})(ht':(elemT P t').isSome=true)
  (hs:evL T s=some (.a (.full k xs))) (hx:evL T x=some vx) (hy:yOf k vx=some ys) (he:elemT P t=some (e,k)) (hok:appOk P e k=true) (hn0:h n=none) (hm:0<ys.length) (hb:xs.length+ys.length≤68719476736) (hpl:∀row∈xs++ys,∀d∈row,plainD d=true):
  OT P o T h (.a (.tab n (xs++ys).length)) [(n,.tab e k (xs++ys))] [n]:=by
 intro T' h' γ M w a next Q hT hk hr ht hn
 have hs':evL T' s=some (.a (.full k xs)):=by
  rw[←hs];exact evL_congr fun d hd=>hT d (by rw[ho];simp[Op.operands,Call.operands,hd])
 have hx':evL T' x=some vx:=by
  rw[←hx];exact evL_congr fun d hd=>hT d (by rw[ho];simp[Op.operands,Call.operands,hd])
 have h1:RdA γ h' M w (.full k xs) (a.eval s):=evL_ok ht hs';have h2:=evL_ok ht hx';obtain⟨⟨e2,s2⟩,he2⟩:=Option.isSome_iff_exists.1 ht';obtain⟨r,w',γ',M',k1,k3,k4,k5⟩:=app_tab (ty:=o.type) hr ((hk n (by simp)).trans hn0) (elemT_ok he).1 hok h1.1 h1.2 (yOf_ok h2 hy) hm hb hpl;unfold Oper.wp;have:(execOp a.eval o).run P w= .ok (.value r) w':=by
  simp[execOp,ho,resolve,invoke,builtin,append_types w t t' e e2 o.type _ (elemT_ok he).1 (elemT_ok he2).1,k1]
 rw[this];exact hn r γ' M' w' k3 k4 k5
theorem OT_bs0 {o:Oper}{t e:TypeId}{k:Nat}{parts:Array (Nat×Operand)}(ho:o.op= .buildSlice t 0 parts)(hp:parts= #[])(he:elemT P t=some (e,k)):OT P o T h (.a (.full k [])) [] []:=by
 subst hp;intro T' h' γ M w a next Q hT hk hr ht hn
 obtain⟨e1,e2⟩:=elemT_ok he;have hsz:(sizeOf e).run P w= .ok k w:=sizeT_run e2;have hrun:(execOp a.eval o).run P w= .ok (.value (.slice (some ⟨w.heap.size,0,none⟩) 0 0)) (w.alloc (.cells #[] e)):=by
  simp[execOp,ho,Instr.buildSlice,run_underlying e1,hsz,newRow,Instr.fill]
  congr 2;apply Array.ext';simp[Array.toList_range]
 have s:Stp γ h' M w γ h' M (w.alloc (.cells #[] e)):=by
  have hold:∀b,b<w.heap.size→(w.alloc (.cells #[] e)).heap[b]? =w.heap[b]?:=fun b hb=>Below.heap_alloc _ _ _ hb;refine⟨rfl,rfl,rfl,by simp,fun b i u q=>⟨q.1,?_⟩,fun b hb _=>hold b hb,fun b i q _=>q,fun key b i q _=>⟨key,q⟩,fun key e' he=>⟨e',he,Goes.refl _,.inl rfl⟩⟩;rw[←q.2];exact World.cell?_of_block (a:=⟨b,i,none⟩) (hold b (World.block_lt_of_cell? _ _ q.2))
 have r:Rel γ h' M (w.alloc (.cells #[] e)):=by
  refine⟨fun key e' he=>EntR.stp s (hr.ent key e' he) rfl fun hl b hb=>Below.heap_alloc _ _ _ (blk_lt hr he hl hb),hr.own,hr.inj,fun b i z hm=> ?_,fun b i hm=> ?_,hr.glb.fx s.fx⟩
  ·rw[World.cell?_of_block (w:=w) (a:=⟨b,i,none⟩) (Below.heap_alloc _ _ _ (hr.dom b i hm))];exact hr.u32 b i z hm
  ·have:=hr.dom b i hm;simp;omega
 unfold Oper.wp;rw[hrun];exact hn _ γ M _ r ⟨.sl k [] _ _ (fun _ _=> .bool false) (zL_ _) (zL_ _) (fun h0=>absurd h0 (by simp)) (fun i row hi=>by simp at hi) (fun _ _=>rfl) (fun i row j d hi=>by simp at hi),_,rfl⟩ s
def litA:List A→Option (List Value)
 |[]=>some []
 | .d (.lit v)::r=>match litA r with
   |some vs=>some (v::vs)
   |none=>none
 |_=>none
def litV:V→Option Value
 | .a (.d (.lit v))=>some v
 | .agg cs=>match litA cs with
   |some vs=>some (.agg vs.toArray)
   |none=>none
 |_=>none
theorem litA_ok:∀{xs:List A} {vs us:List Value},litA xs=some vs→All2 (RdA γ h M w) xs us→us=vs
 |[],vs,[],hl,_=>by simp[litA]at hl;exact hl.symm
 |x::r,vs,u::us,hl,k=>by
  cases x with
  |d d=>
   cases d with
   |lit v=>
    simp only[litA]at hl;split at hl
    ·rename_i vs' h1;injection hl with hl;subst hl;rw[litA_ok h1 k.2,show u=v from lit_inv k.1]
    ·cases hl
   |_=>simp[litA]at hl
  |_=>simp[litA]at hl
 |[],_,_::_,_,k=>k.elim
 |_::_,_,[],_,k=>k.elim
theorem litV_ok {x:V}{v r:Value}(hl:litV x=some v)(k:RdV γ h M w x r):r=v:=by
 unfold litV at hl;split at hl
 ·injection hl with hl;subst hl;exact lit_inv k
 ·split at hl
  ·rename_i vs h1;injection hl with hl;subst hl;obtain⟨us,rfl,k2⟩:=k;rw[litA_ok h1 k2]
  ·cases hl
 ·cases hl
def notIf (P:Program)(t:TypeId):Bool:=
 match P.underlying t with
 |some (.interface _)=>false
 |some _=>true
 |none=>false
theorem OT_mif {o:Oper}{t:TypeId}{x:Operand}{vx:V}{v:Value}(ho:o.op= .makeInterface t x)(hx:evL T x=some vx)(hl:litV vx=some v)(ht:notIf P t=true):OT P o T h (vl (.iface t v)) [] []:=by
 intro T' h' γ M w a next Q hT hk hr htr hn
 have hx':evL T' x=some vx:=by rw[←hx];exact evL_congr fun d hd=>hT d (by rw[ho];simp[Op.operands,hd])
 have e:=litV_ok hl (evL_ok htr hx');have hrun:(execOp a.eval o).run P w= .ok (.value (.iface t v)) w:=by
  unfold notIf at ht;split at ht
  ·cases ht
  ·rename_i d hne hu;have hd:P.underlying t=some d:=hu;simp only[execOp,ho,e,Instr.makeInterface]
   cases d<;>first|(exact absurd rfl (hne _))|simp[run_underlying hd]
  ·cases ht
 unfold Oper.wp;rw[hrun];exact hn _ γ M w hr (.lit _) (Stp.refl _ _ _ _)
end
abbrev ttV (hd:Value)(ps:List Nat):Value:= .tuple (hd::ps.map fun b=> .pointer (some ⟨b,0,none⟩)).toArray
theorem ib_tt {hd:Value}{ps:List Nat}{b:Nat}:ib (ttV hd ps) b↔blk hd=some b∨b∈ps:=by
 show(∃x∈(hd::ps.map fun b=>Value.pointer (some ⟨b,0,none⟩)).toArray,blk x=some b)↔_;constructor
 ·rintro⟨x,hx,h⟩;rcases List.mem_cons.1 (show x∈hd::ps.map fun b=> .pointer (some ⟨b,0,none⟩) by simpa using hx)with e|e
  ·subst e;exact .inl h
  ·obtain⟨b',hb',rfl⟩:=List.mem_map.1 e;simp[blk]at h;subst h;exact .inr hb'
 ·rintro(h|h)
  ·exact⟨hd,by simp,h⟩
  ·exact⟨.pointer (some ⟨b,0,none⟩),by simp;exact .inr h,rfl⟩
theorem rowT_at {hd:Value}{ps:List Nat}{a b:Nat}(h:ps[a]? =some b):rowT (ttV hd ps) a= .pointer (some ⟨b,0,none⟩):=by
 show(hd::ps.map fun b=>Value.pointer (some ⟨b,0,none⟩)).toArray.getD (a+1) undef=_;rw[Array.getD_eq_getD_getElem?];simp[h]
theorem rowT_app {hd hd':Value}{ps:List Nat}{a b:Nat}(h:a<ps.length):rowT (ttV hd' (ps++[b])) a=rowT (ttV hd ps) a:=by
 rw[rowT_at (b:=ps[a]) (by rw[List.getElem?_append_left h,List.getElem?_eq_getElem h]),rowT_at (List.getElem?_eq_getElem h)]
theorem getD_at {α:Type}{l:List α}{i:Nat}{x d:α}(h:l[i]? =some x):l.getD i d=x:=by rw[List.getD_eq_getElem?_getD,h];rfl
section
variable {γ γ':Gh} {h h':Hp} {M M':MS} {w w':World} {T T':Nat→Option V} {a:Act} {P:Program} {K:Nat} {e0 e:TypeId} {k:Nat} {o o':List (Sum (Nat×Nat×Bool) D)} {ar ar':List (List (List D))}
theorem set_tt (r:Rel γ h M w){g:Nat}(hk:h K=some (.tt e0 e k o ar))(hgo:Goes (.tt e0 e k o ar) (.tt e0 e k o' ar'))(hg:ib (γ K) g)
  (ho:∀b,b≠g→w'.heap[b]? =w.heap[b]?) (h1:w'.os=w.os) (h2:w'.tape=w.tape) (h3:w'.output=w.output) (hs:w'.heap.size=w.heap.size)
  (hu:∀(i:Nat) (z:Int),w'.cell? ⟨g,i,none⟩≠some (.int .u32 z))
  (he:Stp γ h M w γ (over [(K,.tt e0 e k o' ar')] h) M w'→EntR γ (over [(K,.tt e0 e k o' ar')] h) M w' K (.tt e0 e k o' ar')):
  Rel γ (over [(K,.tt e0 e k o' ar')] h) M w'∧Stp γ h M w γ (over [(K,.tt e0 e k o' ar')] h) M w':=by
 have hoK:∀i,Owns γ h K g i:=fun i=>by unfold Owns;rw[hk];exact hg
 have hM:∀i,M g i:=fun i=>r.own K g i (hoK i);have hown:∀key' b i,Owns γ (over [(K,.tt e0 e k o' ar')] h) key' b i↔Owns γ h key' b i:=by
  intro key' b i
  by_cases e1:key'=K
  ·subst e1;unfold Owns;rw[over_same,hk]
  ·exact owns_congr rfl (over_other e1)
 have s:Stp γ h M w γ (over [(K,.tt e0 e k o' ar')] h) M w':=by
  refine⟨h1,h2,h3,by omega,fun b i u q=> ?_,fun b hb hn=> ?_,fun b i q _=>q,fun key' b i q _=>⟨key',(hown _ _ _).1 q⟩,fun key' e1 he1=> ?_⟩
  ·have hne:b≠g:=fun e1=>q.1 (e1▸hM i);exact⟨q.1,by rw[←q.2];exact World.cell?_of_block (a:=⟨b,i,none⟩) (ho b hne)⟩
  ·refine ho b fun e1=>hn K 0 ?_;subst e1;exact hoK 0
  ·by_cases e2:key'=K
   ·subst e2;rw[hk]at he1;injection he1 with he1;subst he1;exact⟨_,over_same,hgo,.inl rfl⟩
   ·exact⟨e1,by rw[over_other e2];exact he1,Goes.refl _,.inl rfl⟩
 refine⟨⟨fun key' e1 he1=> ?_,fun key' b i q=>r.own key' b i ((hown _ _ _).1 q),fun key1 key2 b l1 l2=> ?_,fun b i z hm=> ?_,fun b i hm=>by rw[hs];exact r.dom b i hm,r.glb.fx s.fx⟩,s⟩
 ·by_cases e2:key'=K
  ·subst e2;rw[over_same]at he1;injection he1 with he1;subst he1;exact he s
  ·rw[over_other e2]at he1;refine EntR.stp s (r.ent key' e1 he1) rfl fun hl b hb=>ho b fun e3=>e2 ?_;exact r.inj key' K b (by rw[he1];exact hl) (by rw[hk];rfl) hb (by rw[e3];exact hg)
 ·have:∀k0,live (over [(K,.tt e0 e k o' ar')] h k0)=true→live (h k0)=true:=by
   intro k0 hl
   by_cases e1:k0=K
   ·subst e1;rw[hk];rfl
   ·rwa [over_other e1]at hl
  exact r.inj key1 key2 b (this _ l1) (this _ l2)
 ·by_cases e1:b=g
  ·subst e1;exact hu i z
  ·rw[World.cell?_of_block (w:=w) (a:=⟨b,i,none⟩) (ho b e1)];exact r.u32 b i z hm
theorem grow_tt (r:Rel γ h M w)(hk:h K=some (.tt e0 e k o ar)){cs:Array Value}{t:TypeId}{w1:World}(h0:w1.heap=w.heap)(h1:w1.os=w.os)(h2:w1.tape=w.tape)(h3:w1.output=w.output){v':Value}
  (hb:∀b,ib v' b→ib (γ K) b∨b=w.heap.size) (hgo:Goes (.tt e0 e k o ar) (.tt e0 e k o' ar')) (hgr:GrT (.tt e0 e k o ar) (.tt e0 e k o' ar') (γ K) v') (hu:∀(i:Nat) (x:Value),cs[i]? =some x→∀z:Int,x≠ .int .u32 z)
  (he:Stp γ h M w (upd γ K v') (over [(K,.tt e0 e k o' ar')] h) (fun b i=>M b i∨b=w.heap.size) (w1.alloc (.cells cs t))→EntR (upd γ K v') (over [(K,.tt e0 e k o' ar')] h) (fun b i=>M b i∨b=w.heap.size) (w1.alloc (.cells cs t)) K (.tt e0 e k o' ar')):
  Rel (upd γ K v') (over [(K,.tt e0 e k o' ar')] h) (fun b i=>M b i∨b=w.heap.size) (w1.alloc (.cells cs t))∧Stp γ h M w (upd γ K v') (over [(K,.tt e0 e k o' ar')] h) (fun b i=>M b i∨b=w.heap.size) (w1.alloc (.cells cs t)):=by
 have hold:∀b,b<w.heap.size→(w1.alloc (.cells cs t)).heap[b]? =w.heap[b]?:=by
  intro b hb;rw[←h0]at hb ⊢;exact Below.heap_alloc _ _ _ hb
 have hlt:∀b,ib (γ K) b→b<w.heap.size:=fun b q=>blk_lt r hk rfl q;have s:Stp γ h M w (upd γ K v') (over [(K,.tt e0 e k o' ar')] h) (fun b i=>M b i∨b=w.heap.size) (w1.alloc (.cells cs t)):=by
  refine⟨h1,h2,h3,by simp[h0],fun b i u q=> ?_,fun b hb _=>hold b hb,fun b i q _=> .inl q,fun key b i ho hb'=> ?_,fun key e' he'=> ?_⟩
  ·have hl:b<w.heap.size:=World.block_lt_of_cell? _ _ q.2;refine⟨fun q2=>q2.elim q.1 fun q3=>by omega,?_⟩;rw[←q.2];exact World.cell?_of_block (a:=⟨b,i,none⟩) (hold b hl)
  ·by_cases e1:key=K
   ·subst e1;obtain⟨_,h5⟩:=owns_live ho;rw[upd_same]at h5;rcases hb b h5 with h6|h6
    ·exact⟨key,by unfold Owns;rw[hk];exact h6⟩
    ·omega
   ·exact⟨key,(owns_congr (upd_other e1) (over_other e1)).1 ho⟩
  ·by_cases e1:key=K
   ·subst e1;rw[hk]at he';injection he' with he';subst he';exact⟨_,over_same,hgo,.inr (.inr (by rw[upd_same];exact hgr))⟩
   ·exact⟨e',by rw[over_other e1];exact he',Goes.refl _,.inl (upd_other e1)⟩
 have hlv:∀key,live (over [(K,.tt e0 e k o' ar')] h key)=true→live (h key)=true:=by
  intro key hl
  by_cases e1:key=K
  ·subst e1;rw[hk];rfl
  ·rwa [over_other e1]at hl
 have hblt:∀key b,key≠K→live (h key)=true→ib (γ key) b→b<w.heap.size:=by
  intro key b e1 hl hb'
  cases h8:h key with
  |none=>rw[h8]at hl;cases hl
  |some e3=>exact blk_lt r h8 (by rw[←h8];exact hl) hb'
 refine⟨⟨fun key e' h4=> ?_,fun key b i h4=> ?_,fun key key' b h4 h5 h6 h7=> ?_,fun b i z h4=> ?_,fun b i h4=> ?_,r.glb.fx s.fx⟩,s⟩
 ·by_cases e1:key=K
  ·subst e1;rw[over_same]at h4;injection h4 with h4;subst h4;exact he s
  ·rw[over_other e1]at h4;exact EntR.stp s (r.ent key e' h4) (upd_other e1) fun hl b h5=>hold b (blk_lt r h4 hl h5)
 ·by_cases e1:key=K
  ·subst e1;obtain⟨_,h5⟩:=owns_live h4;rw[upd_same]at h5;rcases hb b h5 with h6|h6
   ·exact .inl (r.own key b i (by unfold Owns;rw[hk];exact h6))
   ·exact .inr h6
  ·exact .inl (r.own key b i ((owns_congr (upd_other e1) (over_other e1)).1 h4))
 ·have l1:=hlv _ h4;have l2:=hlv _ h5
  by_cases e1:key=K<;>by_cases e2:key'=K
  ·rw[e1,e2]
  ·subst e1;rw[upd_same]at h6;rw[upd_other e2]at h7;rcases hb b h6 with h8|h8
   ·exact r.inj _ _ b l1 l2 h8 h7
   ·have:=hblt key' b e2 l2 h7;omega
  ·subst e2;rw[upd_other e1]at h6;rw[upd_same]at h7;rcases hb b h7 with h8|h8
   ·exact r.inj _ _ b l1 l2 h6 h8
   ·have:=hblt key b e1 l1 h6;omega
  ·rw[upd_other e1]at h6;rw[upd_other e2]at h7;exact r.inj key key' b l1 l2 h6 h7
 ·rcases h4 with h4|rfl
  ·rw[World.cell?_of_block (w:=w) (a:=⟨b,i,none⟩) (hold b (r.dom b i h4))];exact r.u32 b i z h4
  ·intro h5;rw[←h0,World.cell?_alloc_new]at h5;exact hu i _ h5 z rfl
 ·rcases h4 with h4|rfl
  ·have:=r.dom b i h4;simp[h0];omega
  ·simp[h0]
theorem row_block (hr:EntR γ h M w K (.tt e0 e k o ar)){x n:Nat}{f:Bool}{v:Value}(hv:RdA γ h M w (.row K x n f) v)(hk:h K=some (.tt e0 e k o ar)){rows:List (List D)}(ha:ar[x]? =some rows):
  ∃hd ps b c,γ K=ttV hd ps∧ps.length=ar.length∧ps[x]? =some b∧v= .slice (some ⟨b,0,none⟩) n c∧n≤c∧n≤rows.length:=by
 obtain⟨hd,ps,k1,k2,_⟩:=hr;obtain⟨_,⟨b,c,q1,q2,q3,_⟩,q4⟩:=hv;obtain⟨q5,q6⟩:=q4 _ _ _ _ _ hk;obtain⟨b',hb'⟩:∃b',ps[x]? =some b':=⟨ps[x]'(by omega),List.getElem?_eq_getElem _⟩;rw[k1,rowT_at hb']at q1;injection q1 with q1;injection q1 with q1;injection q1 with q1;subst q1;rw[getD_at ha]at q6;exact⟨hd,ps,b',c,k1,k2,hb',q2,q3,q6⟩
theorem OT_ixr {o:Oper}{t:TypeId}{x i:Operand}{key a nn m s:Nat}{f:Bool}(ho:o.op= .indexAddr t x i)(hx:evL T x=some (.a (.row key a nn f)))(hi:natI (evL T i)=some m)(he:elemT P t=some (e,s))(hm:m<nn):OT P o T h (.a (.rp key a (m*s))) [] []:=by
 intro T' h' γ M w act next Q hT hk hr ht hn
 have hx':evL T' x=some (.a (.row key a nn f)):=by rw[←hx];exact evL_congr fun d hd=>hT d (by rw[ho];simp[Op.operands,hd])
 have hi':natI (evL T' i)=some m:=by rw[←hi];congr 1;exact evL_congr fun d hd=>hT d (by rw[ho];simp[Op.operands,hd])
 obtain⟨k1,⟨b,cp,k2,k3,_⟩,k4⟩:=evL_ok ht hx';obtain⟨ki,hki⟩:=natI_ok ht hi';obtain⟨e1,e2⟩:=elemT_ok he;unfold Oper.wp;have:(execOp act.eval o).run P w= .ok (.value (.pointer (some ⟨b,0+m*s,none⟩))) w:=by
  simp[execOp,ho,k3,hki,Instr.indexAt,asIntOf,run_underlying e1,sizeT_run e2,hm,Addr.add_lit]
 rw[this];exact hn _ γ M w hr ⟨k1,⟨b,k2,by rw[Nat.zero_add]⟩,fun e0 e k o ar q=>(k4 _ _ _ _ _ q).1⟩ (Stp.refl _ _ _ _)
theorem OT_cutr {o:Oper}{t e1:TypeId}{x i:Operand}{key a nn m s:Nat}{f:Bool}(ho:o.op= .slice t x none (some i) none)(hx:evL T x=some (.a (.row key a nn f)))(hi:natI (evL T i)=some m)(he:elemT P t=some (e1,s))(hm:m≤nn):OT P o T h (.a (.row key a m false)) [] []:=by
 intro T' h' γ M w act next Q hT hk hr ht hn
 have hx':evL T' x=some (.a (.row key a nn f)):=by rw[←hx];exact evL_congr fun d hd=>hT d (by rw[ho];simp[Op.operands,hd])
 have hi':natI (evL T' i)=some m:=by rw[←hi];congr 1;exact evL_congr fun d hd=>hT d (by rw[ho];simp[Op.operands,hd])
 obtain⟨k1,⟨b,cp,k2,k3,k5,_⟩,k4⟩:=evL_ok ht hx';obtain⟨ki,hki⟩:=natI_ok ht hi';obtain⟨e1,e2⟩:=elemT_ok he;have hb:(Instr.sliceBounds true nn cp (Option.map act.eval none) ((some i).map act.eval) (Option.map act.eval none)).run P w= .ok (0,m,cp) w:=by
  simp only[Option.map_none,Option.map_some,hki];simp[Instr.sliceBounds];rw[sliceBound_run (by omega)];simp
 have:(execOp act.eval o).run P w= .ok (.value (.slice (if cp=0 then some ⟨b,0,none⟩else(some (⟨b,0,none⟩:Addr)).map (·.add (0*s))) (m-0) (cp-0))) w:=by
  simp only[Option.map_none,Option.map_some]at hb;simp[execOp,ho,k3,Instr.sliceAt,run_underlying e1,Instr.slice,hb,sizeT_run e2]
 unfold Oper.wp;rw[this];refine hn _ γ M w hr ⟨k1,⟨b,cp,k2,?_,by omega,fun q=>by cases q⟩,fun e0 e k o ar q=> ?_⟩ (Stp.refl _ _ _ _)
 ·have e0:(some (⟨b,0,none⟩:Addr)).map (·.add (0*s))=some ⟨b,0,none⟩:=by simp[Addr.add_lit]
  rw[e0];simp
 ·obtain⟨q1,q2⟩:=k4 _ _ _ _ _ q;exact⟨q1,by omega⟩
theorem rp_block (hr:EntR γ h M w K (.tt e0 e k o ar)){x off:Nat}{v:Value}(hv:RdA γ h M w (.rp K x off) v)(hk:h K=some (.tt e0 e k o ar)){rows:List (List D)}(ha:ar[x]? =some rows):
  ∃(hd:Value) (ps:List Nat) (b:Nat) (vs sp:List Value),γ K=ttV hd ps∧ps[x]? =some b∧v= .pointer (some ⟨b,off,none⟩)∧w.heap[b]? =some (.cells (vs++sp).toArray e (0,0))∧(∀row∈rows,row.length=k)∧All2 (RdD M w) rows.flatten vs∧∀v∈vs,v.oneCell'=true:=by
 obtain⟨hd,ps,k1,k2,_,_,k5⟩:=hr;obtain⟨_,⟨b,q1,q2⟩,q4⟩:=hv;have q5:=q4 _ _ _ _ _ hk;obtain⟨b',hb'⟩:∃b',ps[x]? =some b':=⟨ps[x]'(by omega),List.getElem?_eq_getElem _⟩;rw[k1,rowT_at hb']at q1;injection q1 with q1;injection q1 with q1;injection q1 with q1;subst q1;obtain⟨vs,sp,m1,m2,m3,m4⟩:=k5 x b' rows hb' ha;exact⟨hd,ps,b',vs,sp,k1,hb',q2,m1,m2,m3,m4⟩
theorem OT_ldr {o1:Oper}{t:TypeId}{x:Operand}{a off m j s:Nat}{rows:List (List D)}{row:List D}{ag:Bool}{v:V}(ho:o1.op= .load t x)(hx:evL T x=some (.a (.rp K a off)))(hh:h K=some (.tt e0 e k o ar))(h2:aggT P t=some ag)(h3:sizeT P t=some s)(hra:ar[a]? =some rows)
  (hoff:off=m*k+j) (hrow:rows[m]? =some row) (hv:oneL ag (((row.drop j).take s).map .d) s=some v):OT P o1 T h v [] [K]:=by
 intro T' h' γ M w act next Q hT hk hr ht hn
 have hx':evL T' x=some (.a (.rp K a off)):=by rw[←hx];exact evL_congr fun d hd=>hT d (by rw[ho];simp[Op.operands,hd])
 have hkey:=(hk K (by simp)).trans hh;obtain⟨hd,ps,g,vs,sp,_,_,k2,k4,k5,k6,_⟩:=rp_block (hr.ent K _ hkey) (evL_ok ht hx') hkey hra;obtain⟨pre,post,f1,f2,_⟩:=flat_row k5 hrow;have hrl:row.length=k:=k5 row (mG_ hrow);have hs:((row.drop j).take s).length=s:=by
  unfold oneL at hv;split at hv
  ·rename_i e;simpa using e
  ·cases hv
 have hcut:(rows.flatten.drop off).take s=(row.drop j).take s:=by
  rw[f1,hoff,List.drop_append,List.drop_eq_nil_of_le (by omega),f2,show m*k+j-m*k=j by omega,List.nil_append,List.drop_append];rcases eP_ s with h0|h0
  ·subst h0;simp
  ·have:j+s≤row.length:=by simp at hs;omega
   rw[List.take_append_of_le_length (by simp;omega)]
 have k7:=all2_d (γ:=γ) (h:=h') (All2.take s (All2.drop off k6));rw[hcut]at k7;obtain⟨k8,k9⟩:=oneL_ok hv k7;unfold Oper.wp;have:(execOp act.eval o1).run P w= .ok (.value (if ag then .agg ((vs.drop off).take s).toArray else((vs.drop off).take s).headD undef)) w:=by
  have h4:(Instr.loadAt t (act.eval x)).run P w= .ok (if ag then .agg ((vs.drop off).take s).toArray else((vs.drop off).take s).headD undef) w:=by
   rw[k2];simp only[Instr.loadAt,Instr.sureAddr,Sem.run_bind,Sem.run_pure,Result.andThen_ok];refine loadVar_run h2 h3 (fun e=>by subst e;exact oneL_one hv) k8 fun j u hj=> ?_;rw[List.getElem?_take,List.getElem?_drop]at hj;split at hj
   ·have hjl:=(List.getElem?_eq_some_iff.1 hj).1;simp[World.cell?,k4,List.getElem?_append_left hjl,hj]
   ·cases hj
  simp[execOp,ho,h4]
 rw[this];exact hn _ γ M w hr k9 (Stp.refl _ _ _ _)
theorem set_len {α:Type}{l:List (List α)}{i a:Nat}{x y:List α}(h:l[i]? =some y)(hl:x.length=y.length):((l.set i x).getD a []).length=(l.getD a []).length:=by
 rw[List.getD_eq_getElem?_getD,List.getD_eq_getElem?_getD,List.getElem?_set]
 by_cases e:i=a
 ·subst e;rw[if_pos rfl,if_pos (List.getElem?_eq_some_iff.1 h).1,h];exact hl
 ·rw[if_neg e]
theorem OT_str {o1:Oper}{t:TypeId}{x y:Operand}{a off m j s:Nat}{rows:List (List D)}{row ds:List D}{vy:V}{xs:List A}(ho:o1.op= .store t x y)(hx:evL T x=some (.a (.rp K a off)))(hy:evL T y=some vy)(hh:h K=some (.tt e0 e k o ar))(h3:sizeT P t=some s)(hra:ar[a]? =some rows)
  (hc:cellsV vy=some xs) (hd:toDs xs=some ds) (hl:xs.length=s) (hp:xs.all plainA=true) (hoff:off=m*k+j) (hrow:rows[m]? =some row) (hjs:j+s≤row.length):
  OT P o1 T h (vl undef) [(K,.tt e0 e k o (ar.set a (rows.set m (row.take j++ds++row.drop (j+s)))))] [K]:=by
 intro T' h' γ M w act next Q hT hk hr ht hn
 have hx':evL T' x=some (.a (.rp K a off)):=by rw[←hx];exact evL_congr fun d hd=>hT d (by rw[ho];simp[Op.operands,hd])
 have hy':evL T' y=some vy:=by rw[←hy];exact evL_congr fun d hd=>hT d (by rw[ho];simp[Op.operands,hd])
 have hkey:=(hk K (by simp)).trans hh;have hent:=hr.ent K _ hkey;obtain⟨hdv,ps,g,vs,sp,kγ,kps,k2,k4,k5,k6,k66⟩:=rp_block hent (evL_ok ht hx') hkey hra;obtain⟨us,q1,q2⟩:=cellsV_ok (evL_ok ht hy') hc;obtain⟨pre,post,f1,f2,f3⟩:=flat_row k5 hrow;have hrl:row.length=k:=k5 row (mG_ hrow);have hul:us.length=s:=by rw[←hl];exact q2.len.symm
 have q3:=toDs_ok q2 hd;have hdl:ds.length=s:=by rw[q3.len,hul]
 have hvl:=k6.len;have hfl:rows.flatten.length=m*k+(k+post.length):=by rw[f1];simp[f2,hrl]
 have hone:∀v∈us,v.oneCell'=true:=by
  intro v hv;obtain⟨i,hi⟩:=List.mem_iff_getElem?.1 hv;have hlt:=(List.getElem?_eq_some_iff.1 hi).1;obtain⟨q,z1,z2⟩:=All2.get q2 (i:=i) (x:=xs[i]'(by omega)) (List.getElem?_eq_getElem _);rw[hi]at z1;injection z1 with z1;subst z1;exact plain_one z2 (List.all_eq_true.1 hp _ (List.getElem_mem _))
 have hrun:=run_storeCells_at P g off e us 0 (vs++sp).toArray w k4 (by simp;omega) hone;simp only[Nat.add_zero,List.toList_toArray,hul]at hrun;have hcat:(vs++sp).take off++us++(vs++sp).drop (off+s)=vs.take off++us++vs.drop (off+s)++sp:=by
  rw[List.take_append_of_le_length (by omega),List.drop_append_of_le_length (by omega)];simp
 rw[hcat]at hrun;have hcut:(rows.set m (row.take j++ds++row.drop (j+s))).flatten=rows.flatten.take off++ds++rows.flatten.drop (off+s):=by
  rw[f3,f1,hoff,←f2,take_mid (by omega),Nat.add_assoc,drop_mid (by omega)];simp
 have k8:All2 (RdD M w) (rows.set m (row.take j++ds++row.drop (j+s))).flatten (vs.take off++us++vs.drop (off+s)):=by
  rw[hcut];exact All2.app (All2.app (All2.take _ k6) q3) (All2.drop _ k6)
 have hib:ib (γ K) g:=by rw[kγ];exact ib_tt.2 (.inr (mG_ kps))
 have hMg:∀i,M g i:=fun i=>hr.own K g i (by unfold Owns;rw[hkey];exact hib);have hpl:∀(i:Nat) (x:Value),(vs.take off++us++vs.drop (off+s)++sp).toArray[i]? =some x→∀z:Int,x≠ .int .u32 z:=by
  intro i x hi;have hi':(vs.take off++us++vs.drop (off+s)++sp)[i]? =some x:=by simpa using hi
  have hold:∀j',(vs++sp)[j']? =some x→∀z:Int,x≠ .int .u32 z:=fun j' hj z ez=>by
   refine hr.u32 g j' z (hMg j') ?_;subst ez;simp only[World.cell?,k4];simpa using hj
  have holdm:x∈vs++sp→∀z:Int,x≠ .int .u32 z:=fun hm=>let ⟨j',hj⟩:=List.mem_iff_getElem?.1 hm;hold j' hj;rcases List.mem_append.1 (mG_ hi')with hm|hm;rcases List.mem_append.1 hm with hm|hm
  ·rcases List.mem_append.1 hm with hm|hm
   ·exact holdm (List.mem_append_left _ (List.mem_of_mem_take hm))
   ·obtain⟨j',hj⟩:=List.mem_iff_getElem?.1 hm;have hlt:=(List.getElem?_eq_some_iff.1 hj).1;obtain⟨q,z1,z2⟩:=All2.get q2 (i:=j') (x:=xs[j']'(by omega)) (List.getElem?_eq_getElem _);rw[hj]at z1;injection z1 with z1;subst z1;exact plainA_u32 z2 (List.all_eq_true.1 hp _ (List.getElem_mem _))
  ·exact holdm (List.mem_append_left _ (List.mem_of_mem_drop hm))
  ·exact holdm (List.mem_append_right _ hm)
 have hW:=setRow_heap w g (vs++sp).toArray (vs.take off++us++vs.drop (off+s)++sp).toArray e _ k4;have hWo:=fun b (hb:b≠g)=>setRow_other w g b (vs.take off++us++vs.drop (off+s)++sp).toArray hb;obtain⟨r1,r2⟩:=set_tt (w':=w.setRow g (vs.take off++us++vs.drop (off+s)++sp).toArray) (o':=o) (ar':=ar.set a (rows.set m (row.take j++ds++row.drop (j+s)))) hr hkey
  ⟨rfl,rfl,rfl,lR_ _,by simp,fun b hb=>set_len hra (by simp)⟩ hib hWo rfl rfl rfl (by simp) (fun i z h5=>by
   simp only[World.cell?]at h5;rw[hW]at h5;exact hpl i _ h5 z rfl) fun st=>by
  obtain⟨hd2,ps2,y1,y2,y3,y4,y5⟩:=hent;have hps:ps2=ps:=by
   rw[kγ]at y1;have:=congrArg (fun v=>match v with|Value.tuple xs=>xs.toList|_=>[]) y1;simp at this;have h6:=this.2;have h7:∀l1 l2:List Nat,l1.map (fun b=>Value.pointer (some ⟨b,0,none⟩))=l2.map (fun b=>Value.pointer (some ⟨b,0,none⟩))→l1=l2:=by
    intro l1
    induction l1 with
    |nil=>intro l2 h;cases l2 with|nil=>rfl|cons=>simp at h
    |cons x l ih=>intro l2 h;cases l2 with
     |nil=>simp at h
     |cons y l2=>simp at h;rw[h.1,ih l2 (by simpa using h.2)]
   exact(h7 _ _ (by simpa using h6)).symm
  subst hps;have hgn:∀b,blk hd2=some b→b≠g:=by
   intro b hb e1;subst e1;rcases y4 with⟨_,e2⟩|⟨g2,c,os,sp2,e2,_,_,e5,_⟩
   ·rw[e2]at hb;cases hb
   ·rw[e2]at hb;simp[blk]at hb;subst hb;exact e5 (mG_ kps)
  refine⟨hd2,ps2,y1,by simpa using y2,y3,?_,fun x b rows' hx hrx=> ?_⟩
  ·rcases y4 with y4|⟨g2,c,os,sp2,e2,e3,e4,e5,e6,e7⟩
   ·exact .inl y4
   ·exact .inr ⟨g2,c,os,sp2,e2,e3,e4,e5,by rw[hWo g2 (hgn g2 (by rw[e2];rfl))];exact e6,All2.imp (fun _ _=>RdA.stp st) e7⟩
  ·rw[List.getElem?_set]at hrx
   by_cases e1:a=x
   ·subst e1;rw[if_pos rfl,if_pos (List.getElem?_eq_some_iff.1 hra).1]at hrx;injection hrx with hrx;subst hrx;rw[kps]at hx;injection hx with hx;subst hx;refine⟨_,sp,hW,fun r hr'=> ?_,All2.imp (fun _ _=>RdD.fx st.fx) k8,fun v hv=> ?_⟩
    ·rcases List.mem_or_eq_of_mem_set hr' with h5|h5
     ·exact k5 r h5
     ·subst h5;simp[hdl];omega
    ·rcases List.mem_append.1 hv with hm|hm
     ·rcases List.mem_append.1 hm with hm|hm
      ·exact k66 v (List.mem_of_mem_take hm)
      ·exact hone v hm
     ·exact k66 v (List.mem_of_mem_drop hm)
   ·rw[if_neg e1]at hrx;obtain⟨vs2,sp2,m1,m2,m3,m4⟩:=y5 x b rows' hx hrx
    have hbg:b≠g:=fun e2=>e1 (by
     subst e2;have l1:=(List.getElem?_eq_some_iff.1 kps);have l2:=(List.getElem?_eq_some_iff.1 hx);exact nodup_inj y3 l1.1 l2.1 (l1.2.trans l2.2.symm))
    exact⟨vs2,sp2,by rw[hWo b hbg];exact m1,m2,All2.imp (fun _ _=>RdD.fx st.fx) m3,m4⟩
 unfold Oper.wp;have:(execOp act.eval o1).run P w= .ok .skip (w.setRow g (vs.take off++us++vs.drop (off+s)++sp).toArray):=by
  simp[execOp,ho,Instr.storeAt,k2,Instr.sureAddr,storeVar,sizeT_run h3,q1,hul,hrun]
 rw[this];exact hn undef γ M _ r1 (.lit _) r2
end
section
variable {γ γ':Gh} {h h':Hp} {M M':MS} {w w':World} {T T':Nat→Option V} {a:Act} {P:Program} {K:Nat} {e0 e:TypeId} {k:Nat} {o o':List (Sum (Nat×Nat×Bool) D)} {ar ar':List (List (List D))}
theorem all2_rep {ds:List D}{zs:List Value}(hd:All2 (RdD M w) ds zs):∀n:Nat,All2 (RdD M w) (List.replicate n ds).flatten (List.replicate n zs).flatten
 |0=>trivial
 |n+1=>by rw[List.replicate_succ,List.replicate_succ,List.flatten_cons,List.flatten_cons];exact All2.app hd (all2_rep hd n)
theorem OT_mkr {o1:Oper}{t:TypeId}{l c:Operand}{nn:Nat}{zs:List A}{ds:List D}(ho:o1.op= .makeSlice t l c)(h1:natI (evL T l)=some nn)(h2:natI (evL T c)=some nn)(he:elemT P t=some (e,k))(hz:zeroT P zb e=some zs)(hd:toDs zs=some ds)
  (hok:appOk P e k=true) (hzp:zs.all plainA=true) (hh:h K=some (.tt e0 e k o ar)) (hb:nn≤68719476736):OT P o1 T h (.a (.row K ar.length nn true)) [(K,.tt e0 e k o (ar++[List.replicate nn ds]))] [K]:=by
 intro T' h' γ M w act next Q hT hk hr ht hn
 have h1':natI (evL T' l)=some nn:=by rw[←h1];congr 1;exact evL_congr fun d hd=>hT d (by rw[ho];simp[Op.operands,hd])
 have h2':natI (evL T' c)=some nn:=by rw[←h2];congr 1;exact evL_congr fun d hd=>hT d (by rw[ho];simp[Op.operands,hd])
 obtain⟨kl,e1⟩:=natI_ok ht h1';obtain⟨kc,e2⟩:=natI_ok ht h2';obtain⟨u1,u2⟩:=elemT_ok he;obtain⟨i,z,i1,i2,hk0,i3,i4,i5,i6⟩:=appOk_ok hok;obtain⟨i',z',j1,j2,j3⟩:=zeroT_ok (γ:=γ) (h:=h') (M:=M) (w:=w) zb_ok hz;rw[i1]at j1;injection j1 with j1;subst j1;rw[i2]at j2;injection j2 with j2;subst j2;have hzl:z.cells.toList.length=k:=by simpa using i5
 have hdd:=toDs_ok j3 hd;have hdl:ds.length=k:=by rw[hdd.len,hzl]
 have hby:(i.bytes:Int)*(nn:Int)≤281474976710656:=by
  have:i.bytes*nn≤2048*68719476736:=Nat.mul_le_mul i4 hb;have:((i.bytes*nn:Nat):Int)≤281474976710656:=by omega
  rwa [Int.natCast_mul]at this
 have hrun:=run_make (P:=P) w t e i z u1 i1 i2 kl kc nn nn (by omega) (Int.le_refl _) hby (by omega);simp only[Int.toNat_natCast,i3]at hrun;have hcells:(madeCells z.cells (nn*k)).toList=(List.replicate nn z.cells.toList).flatten:=by
  apply List.ext_getElem?;intro j
  by_cases hj:j<nn*k
  ·rw[flat_get _ hzl nn j hj];have hlt:j % k<z.cells.size:=by rw[i5];exact Nat.mod_lt _ hk0
   simp[madeCells,hj,i5];rw[getElem!_pos z.cells (j % k) hlt,Array.getElem?_eq_getElem hlt]
  ·have h7:(List.replicate nn z.cells.toList).flatten.length=nn*k:=flat_len _ hzl nn;have h8:(madeCells z.cells (nn*k)).toList.length=nn*k:=by rw[Array.length_toList,size_madeCells]
   rw[List.getElem?_eq_none (by omega),List.getElem?_eq_none (by omega)]
 have harr:madeCells z.cells (nn*k)=((List.replicate nn z.cells.toList).flatten).toArray:=by rw[←hcells]
 have hkey:=(hk K (by simp)).trans hh;have hent:=hr.ent K _ hkey;obtain⟨hdv,ps,y1,y2,y3,y4,y5⟩:=hent;have hold:∀b,b<w.heap.size→(w.alloc (.cells ((List.replicate nn z.cells.toList).flatten).toArray e)).heap[b]? =w.heap[b]?:=fun b hb=>Below.heap_alloc _ _ _ hb;have hlt:∀b,ib (γ K) b→b<w.heap.size:=fun b q=>blk_lt hr hkey rfl q;have hps:∀b∈ps,b<w.heap.size:=fun b hb=>hlt b (by rw[y1];exact ib_tt.2 (.inr hb))
 obtain⟨r,st⟩:=grow_tt (o':=o) (ar':=ar++[List.replicate nn ds]) (v':=ttV hdv (ps++[w.heap.size])) (w1:=w) (cs:=((List.replicate nn z.cells.toList).flatten).toArray) (t:=e) hr hkey rfl rfl rfl rfl (fun b hb=>by
   rcases ib_tt.1 hb with h3|h3
   ·exact .inl (by rw[y1];exact ib_tt.2 (.inl h3))
   ·rcases List.mem_append.1 h3 with h4|h4
    ·exact .inl (by rw[y1];exact ib_tt.2 (.inr h4))
    ·rw[List.mem_singleton]at h4;exact .inr h4)
  ⟨rfl,rfl,rfl,lR_ _,by simp,fun x hx=>by rw[List.getD_eq_getElem?_getD,List.getD_eq_getElem?_getD,List.getElem?_append_left hx]⟩
  ⟨fun x hx=>by rw[y1];exact rowT_app (by omega),fun _=>by rw[y1];rfl⟩ (fun j x hj=>by
   have hj':((List.replicate nn z.cells.toList).flatten)[j]? =some x:=by simpa using hj
   obtain⟨l,hl,hx⟩:=List.mem_flatten.1 (mG_ hj');rw[List.eq_of_mem_replicate hl]at hx;exact i6 x hx) fun st=>by
  refine⟨hdv,ps++[w.heap.size],upd_same,by simp[y2],List.nodup_append.2 ⟨y3,by simp,fun x hx y hy=>by rw[List.mem_singleton]at hy;have:=hps x hx;omega⟩,?_,fun x b rows hx hrx=> ?_⟩
  ·rcases y4 with y4|⟨g2,c,os,sp2,e2,e3,e4,e5,e6,e7⟩
   ·exact .inl y4
   ·have hg2:=lt_of_block e6;refine .inr ⟨g2,c,os,sp2,e2,e3,e4,fun hm=> ?_,by rw[hold g2 hg2];exact e6,All2.imp (fun _ _=>RdA.stp st) e7⟩;rcases List.mem_append.1 hm with hm|hm
    ·exact e5 hm
    ·rw[List.mem_singleton]at hm;omega
  ·by_cases hxl:x<ps.length
   ·rw[List.getElem?_append_left hxl]at hx;rw[List.getElem?_append_left (by omega)]at hrx;obtain⟨vs2,sp2,m1,m2,m3,m4⟩:=y5 x b rows hx hrx;exact⟨vs2,sp2,by rw[hold b (hps b (mG_ hx))];exact m1,m2,All2.imp (fun _ _=>RdD.fx st.fx) m3,m4⟩
   ·have hxe:x=ps.length:=by
     have:=(List.getElem?_eq_some_iff.1 hx).1;simp at this;omega
    subst hxe;rw[List.getElem?_append_right (lR_ _)]at hx;simp at hx;subst hx;rw[List.getElem?_append_right (by omega)]at hrx;simp[y2]at hrx;subst hrx;refine⟨(List.replicate nn z.cells.toList).flatten,[],by rw[List.append_nil];exact heap_alloc_new w _,fun row hrow=>by rw[List.eq_of_mem_replicate hrow];exact hdl,All2.imp (fun _ _=>RdD.fx st.fx) (all2_rep hdd nn),fun v hv=> ?_⟩;obtain⟨l,hl,hx⟩:=List.mem_flatten.1 hv;rw[List.eq_of_mem_replicate hl]at hx;obtain⟨j,hj⟩:=List.mem_iff_getElem?.1 hx;have hjlt:=(List.getElem?_eq_some_iff.1 hj).1;have hzz:=j3.len;obtain⟨q,z1,z2⟩:=All2.get j3 (i:=j) (x:=zs[j]'(by omega)) (List.getElem?_eq_getElem _);rw[hj]at z1;injection z1 with z1;subst z1;exact plain_one z2 (List.all_eq_true.1 hzp _ (List.getElem_mem _))
 unfold Oper.wp;have:(execOp act.eval o1).run P w= .ok (.value (.slice (some ⟨w.heap.size,0,none⟩) nn nn)) (w.alloc (.cells ((List.replicate nn z.cells.toList).flatten).toArray e)):=by
  simp[execOp,ho,e1,e2,hrun,harr]
 rw[this];refine hn _ _ _ _ r ⟨by rw[over_same];rfl,⟨w.heap.size,nn,by rw[upd_same];exact rowT_at (by rw[←y2,List.getElem?_append_right (lR_ _)];simp),rfl,lR_ _,fun _=>rfl⟩,fun f0 f1 k1 o1 ar1 h5=> ?_⟩ st;rw[over_same]at h5;injection h5 with h5;injection h5 with q1 q2 q3 q4 q5;subst q5;exact⟨by simp,by rw[List.getD_eq_getElem?_getD,List.getElem?_append_right (lR_ _)];simp⟩
theorem outer (hr:EntR γ h M w K (.tt e0 e k o ar)){n i:Nat}(hn:o.length=n)(hi:i<n):∃g c os sp ps,γ K=ttV (.slice (some ⟨g,0,none⟩) n c) ps∧n≤c∧c=n+sp.length∧g∉ps∧w.heap[g]? =some (.cells (os++sp).toArray e0 (0,0))∧All2 (RdA γ h M w) (o.map (cA K)) os:=by
 obtain⟨hd,ps,y1,y2,y3,y4,y5⟩:=hr;rcases y4 with⟨e1,_⟩|⟨g,c,os,sp,e2,e3,e4,e5,e6,e7⟩
 ·subst e1;simp at hn;omega
 ·exact⟨g,c,os,sp,ps,by rw[y1,e2,hn],by omega,by omega,e5,e6,e7⟩
theorem OT_ixh {o1:Oper}{t e1:TypeId}{x i:Operand}{n m:Nat}(ho:o1.op= .indexAddr t x i)(hx:evL T x=some (.a (.th K n)))(hi:natI (evL T i)=some m)(he:elemT P t=some (e1,1))(hh:h K=some (.tt e0 e k o ar))(hol:o.length=n)(hm:m<n):OT P o1 T h (.a (.tp K n m)) [] [K]:=by
 intro T' h' γ M w act next Q hT hk hr ht hn
 have hx':evL T' x=some (.a (.th K n)):=by rw[←hx];exact evL_congr fun d hd=>hT d (by rw[ho];simp[Op.operands,hd])
 have hi':natI (evL T' i)=some m:=by rw[←hi];congr 1;exact evL_congr fun d hd=>hT d (by rw[ho];simp[Op.operands,hd])
 have hkey:=(hk K (by simp)).trans hh;obtain⟨k1,_,k4⟩:=evL_ok ht hx';obtain⟨ki,hki⟩:=natI_ok ht hi';obtain⟨u1,u2⟩:=elemT_ok he;obtain⟨g,c,os,sp,ps,z1,z2,z3,z4,z5,z6⟩:=outer (hr.ent K _ hkey) hol hm;have hv:=(k4 _ _ _ _ _ hkey).2 hol;rw[z1]at hv;have hv':act.eval x= .slice (some ⟨g,0,none⟩) n c:=hv;unfold Oper.wp;have:(execOp act.eval o1).run P w= .ok (.value (.pointer (some ⟨g,0+m*1,none⟩))) w:=by
  simp[execOp,ho,hv',hki,Instr.indexAt,asIntOf,run_underlying u1,sizeT_run u2,hm,Addr.add_lit]
 rw[this];refine hn _ γ M w hr ⟨k1,⟨_,rfl⟩,fun f0 f1 k2 o2 ar2 q=> ?_⟩ (Stp.refl _ _ _ _);rw[over_nil,hkey]at q;injection q with q;injection q with q1 q2 q3 q4 q5;subst q4;exact⟨by omega,fun _=>⟨g,c,by rw[z1];rfl,by rw[Nat.zero_add,Nat.mul_one]⟩⟩
theorem OT_ldh {o1:Oper}{t:TypeId}{x:Operand}{n i:Nat}{y:Sum (Nat×Nat×Bool) D}(ho:o1.op= .load t x)(hx:evL T x=some (.a (.tp K n i)))(hh:h K=some (.tt e0 e k o ar))(hol:o.length=n)(h2:aggT P t=some false)(h3:sizeT P t=some 1)(hy:o[i]? =some y):OT P o1 T h (.a (cA K y)) [] [K]:=by
 intro T' h' γ M w act next Q hT hk hr ht hn
 have hx':evL T' x=some (.a (.tp K n i)):=by rw[←hx];exact evL_congr fun d hd=>hT d (by rw[ho];simp[Op.operands,hd])
 have hkey:=(hk K (by simp)).trans hh;have hi:i<n:=by rw[←hol];exact(List.getElem?_eq_some_iff.1 hy).1
 obtain⟨k1,_,k4⟩:=evL_ok ht hx';obtain⟨g,c,os,sp,ps,z1,z2,z3,z4,z5,z6⟩:=outer (hr.ent K _ hkey) hol hi;obtain⟨g',c',q1,q2⟩:=(k4 _ _ _ _ _ hkey).2 hol;rw[z1]at q1;have q1':Value.slice (some ⟨g,0,none⟩) n c= .slice (some ⟨g',0,none⟩) n c':=q1;injection q1' with q1' _ _;injection q1' with q1';injection q1' with q1';subst q1';obtain⟨r,m1,m2⟩:=All2.get z6 (i:=i) (x:=cA K y) (by rw[List.getElem?_map,hy];rfl);unfold Oper.wp
 have hcell:∀j u,[r][j]? =some u→w.cell? ⟨g,i+j,none⟩=some u:=fun j u hj=>by
  cases j with
  |zero=>simp at hj;subst hj;simp[World.cell?,z5,List.getElem?_append_left (List.getElem?_eq_some_iff.1 m1).1,m1]
  |succ j=>simp at hj
 have:(execOp act.eval o1).run P w= .ok (.value r) w:=by
  have h4:(Instr.loadAt t (act.eval x)).run P w= .ok r w:=by
   rw[q2];simp only[Instr.loadAt,Instr.sureAddr,Sem.run_bind,Sem.run_pure,Result.andThen_ok];have:=loadVar_run (P:=P) h2 h3 (fun _=>rfl) (vs:=[r]) (off:=i) (b:=g) (w:=w) rfl hcell;simpa using this
  simp[execOp,ho,h4]
 rw[this];exact hn _ γ M w hr m2 (Stp.refl _ _ _ _)
theorem OT_sth {o1:Oper}{t:TypeId}{x y:Operand}{n i:Nat}{q0:Sum (Nat×Nat×Bool) D}(ho:o1.op= .store t x y)(hx:evL T x=some (.a (.tp K n i)))(hy:evL T y=some (.a (cA K q0)))(hq1:oneA (cA K q0)=true)(hq2:plainA (cA K q0)=true)(hh:h K=some (.tt e0 e k o ar))(hol:o.length=n)(hi:i<n)(h3:sizeT P t=some 1):
  OT P o1 T h (vl undef) [(K,.tt e0 e k (o.set i q0) ar)] [K]:=by
 intro T' h' γ M w act next Q hT hk hr ht hn
 have hx':evL T' x=some (.a (.tp K n i)):=by rw[←hx];exact evL_congr fun d hd=>hT d (by rw[ho];simp[Op.operands,hd])
 have hy':evL T' y=some (.a (cA K q0)):=by rw[←hy];exact evL_congr fun d hd=>hT d (by rw[ho];simp[Op.operands,hd])
 have hkey:=(hk K (by simp)).trans hh;have hent:=hr.ent K _ hkey;obtain⟨k1,_,k4⟩:=evL_ok ht hx';have hrow:=evL_ok ht hy';obtain⟨g,c,os,sp,ps,z1,z2,z3,z4,z5,z6⟩:=outer hent hol hi;obtain⟨g',c',q1,q2⟩:=(k4 _ _ _ _ _ hkey).2 hol;rw[z1]at q1;have q1':Value.slice (some ⟨g,0,none⟩) n c= .slice (some ⟨g',0,none⟩) n c':=q1;injection q1' with q1' _ _;injection q1' with q1';injection q1' with q1';subst q1';obtain⟨u,hu,hrow2⟩:∃u,act.eval y=u∧RdA γ h' M w (cA K q0) u:=⟨_,rfl,hrow⟩;have hosl:os.length=n:=by rw[←z6.len,List.length_map,hol]
 have hcells:u.cells= #[u]:=oneA_cells hrow2 hq1;have hone:∀v∈[u],v.oneCell'=true:=by intro v hv;rw[List.mem_singleton]at hv;subst hv;exact plain_one hrow2 hq2
 have hrun:=run_storeCells_at P g i e0 [u] 0 (os++sp).toArray w z5 (by simp;omega) hone;simp only[Nat.add_zero,List.toList_toArray,List.length_singleton]at hrun;have hcat:(os++sp).take i++[u]++(os++sp).drop (i+1)=os.set i u++sp:=by
  rw[List.take_append_of_le_length (by omega),List.drop_append_of_le_length (by omega),List.set_eq_take_append_cons_drop,if_pos (by omega)];simp
 rw[hcat]at hrun;have hib:ib (γ K) g:=by rw[z1];exact ib_tt.2 (.inl rfl)
 have hMg:∀j,M g j:=fun j=>hr.own K g j (by unfold Owns;rw[hkey];exact hib);have hW:=setRow_heap w g (os++sp).toArray (os.set i u++sp).toArray e0 _ z5;have hWo:=fun b (hb:b≠g)=>setRow_other w g b (os.set i u++sp).toArray hb
 obtain⟨r1,r2⟩:=set_tt (w':=w.setRow g (os.set i u++sp).toArray) (o':=o.set i q0) (ar':=ar) hr hkey ⟨rfl,rfl,rfl,by simp,lR_ _,fun _ _=>rfl⟩ hib hWo rfl rfl rfl (by simp) (fun j z h5=>by
   simp only[World.cell?]at h5;rw[hW]at h5;have h6:(os.set i u++sp)[j]? =some (.int .u32 z):=by simpa using h5
   by_cases hj:j=i
   ·subst hj;rw[List.getElem?_append_left (by simp;omega),List.getElem?_set,if_pos rfl,if_pos (by omega)]at h6;injection h6 with h6;exact plainA_u32 hrow2 hq2 z h6
   ·refine hr.u32 g j z (hMg j) ?_;simp only[World.cell?,z5];have:(os.set i u++sp)[j]? =(os++sp)[j]?:=by
     rw[List.getElem?_append,List.getElem?_append,List.length_set];split
     ·rw[List.getElem?_set,if_neg (Ne.symm hj)]
     ·rfl
    rw[←h6,this];simp) fun st=>by
  obtain⟨hd2,ps2,y1,y2,y3,y4,y5⟩:=hent;have hps:ps2=ps∧hd2= .slice (some ⟨g,0,none⟩) n c:=by
   rw[z1]at y1;have:=congrArg (fun v=>match v with|Value.tuple xs=>xs.toList|_=>[]) y1;simp at this;obtain⟨h5,h6⟩:=this;have h7:∀l1 l2:List Nat,l1.map (fun b=>Value.pointer (some ⟨b,0,none⟩))=l2.map (fun b=>Value.pointer (some ⟨b,0,none⟩))→l1=l2:=by
    intro l1
    induction l1 with
    |nil=>intro l2 h;cases l2 with|nil=>rfl|cons=>simp at h
    |cons x l ih=>intro l2 h;cases l2 with
     |nil=>simp at h
     |cons y l2=>simp at h;rw[h.1,ih l2 (by simpa using h.2)]
   exact⟨(h7 _ _ (by simpa using h6)).symm,h5.symm⟩
  obtain⟨rfl,rfl⟩:=hps;refine⟨_,ps2,y1,y2,y3,.inr ⟨g,c,os.set i u,sp,by simp[hol],by simp[hol];exact z2,by simp[hol];exact z3,z4,hW,?_⟩,fun x b rows' hx hrx=> ?_⟩
  ·have e1:(o.set i q0).map (cA K)=(o.map (cA K)).set i (cA K q0):=by rw[List.map_set]
   rw[e1];refine All2.of_get (by simp[hol,hosl]) fun j x v hx hv=> ?_;rw[List.getElem?_set]at hx hv
   by_cases hj:i=j
   ·subst hj;rw[if_pos rfl,if_pos (by simp;omega)]at hx;rw[if_pos rfl,if_pos (by omega)]at hv;injection hx with hx;injection hv with hv;subst hx hv;exact RdA.stp st hrow2
   ·rw[if_neg hj]at hx hv;obtain⟨v',m1,m2⟩:=All2.get z6 hx;rw[hv]at m1;injection m1 with m1;subst m1;exact RdA.stp st m2
  ·obtain⟨vs2,sp2,m1,m2,m3,m4⟩:=y5 x b rows' hx hrx;have hbg:b≠g:=fun e2=>z4 (e2▸mG_ hx);exact⟨vs2,sp2,by rw[hWo b hbg];exact m1,m2,All2.imp (fun _ _=>RdD.fx st.fx) m3,m4⟩
 unfold Oper.wp;have:(execOp act.eval o1).run P w= .ok .skip (w.setRow g (os.set i u++sp).toArray):=by
  simp[execOp,ho,Instr.storeAt,q2,Instr.sureAddr,storeVar,sizeT_run h3,hu,hcells,hrun]
 rw[this];exact hn undef γ M _ r1 (.lit _) r2
end
section
variable {γ γ':Gh} {h h':Hp} {M M':MS} {w w':World} {T T':Nat→Option V} {a:Act} {P:Program} {K:Nat} {e0 e:TypeId} {k:Nat} {o o':List (Sum (Nat×Nat×Bool) D)} {ar ar':List (List (List D))}
theorem OT_one {o1:Oper}{t e1:TypeId}{x:Operand}{key a n:Nat}{f:Bool}(ho:o1.op= .buildSlice t 1 #[(0,x)])(he:elemT P t=some (e1,1))(hx:evL T x=some (.a (.row key a n f)))(hz:(zeroT P zb e1).isSome=true):OT P o1 T h (.a (.one key a n f)) [] []:=by
 intro T' h' γ M w act next Q hT hk hr ht hn
 have hx':evL T' x=some (.a (.row key a n f)):=by rw[←hx];exact evL_congr fun d hd=>hT d (by rw[ho];simp[Op.operands,hd])
 obtain⟨u1,u2⟩:=elemT_ok he;have hrow:=evL_ok ht hx';obtain⟨k1,⟨b,c,q1,q2,q3,q4⟩,q5⟩:=hrow;obtain⟨zs,hz⟩:=Option.isSome_iff_exists.1 hz;obtain⟨i,z,e2,e3,k3⟩:=zeroT_ok (γ:=γ) (h:=h') (M:=M) (w:=w) zb_ok hz;have hsz:(sizeOf e1).run P w= .ok 1 w:=sizeT_run u2;have hzv:(zeroValue e1).run P w= .ok z w:=by simp[zeroValue,typeInfo,e2,e3]
 have hrun:(execOp act.eval o1).run P w= .ok (.value (.slice (some ⟨w.heap.size,0,none⟩) 1 1)) (w.alloc (.cells #[act.eval x] e1)):=by
  have hc:(act.eval x).cells= #[act.eval x]:=by rw[q2];rfl
  have hf:∀C:Array Value,C.size=1→Instr.fill (fun i=>some (i,1)) C [(0,act.eval x)]=some #[act.eval x]:=fun C hC=>by
   obtain⟨y,rfl⟩:=Array.size_eq_one_iff.1 hC;simp[Instr.fill,hc]
  simp[execOp,ho,Instr.buildSlice,run_underlying u1,hsz,hzv,newRow,Array.range];rw[hf _ (by simp)];simp
 have s:Stp γ h' M w γ h' M (w.alloc (.cells #[act.eval x] e1)):=by
  have hold:∀b,b<w.heap.size→(w.alloc (.cells #[act.eval x] e1)).heap[b]? =w.heap[b]?:=fun b hb=>Below.heap_alloc _ _ _ hb;refine⟨rfl,rfl,rfl,by simp,fun b i u q=>⟨q.1,?_⟩,fun b hb _=>hold b hb,fun b i q _=>q,fun key b i q _=>⟨key,q⟩,fun key e' he=>⟨e',he,Goes.refl _,.inl rfl⟩⟩;rw[←q.2];exact World.cell?_of_block (a:=⟨b,i,none⟩) (hold b (World.block_lt_of_cell? _ _ q.2))
 have r:Rel γ h' M (w.alloc (.cells #[act.eval x] e1)):=by
  refine⟨fun key e' he=>EntR.stp s (hr.ent key e' he) rfl fun hl b hb=>Below.heap_alloc _ _ _ (blk_lt hr he hl hb),hr.own,hr.inj,fun b i z hm=> ?_,fun b i hm=> ?_,hr.glb.fx s.fx⟩
  ·rw[World.cell?_of_block (w:=w) (a:=⟨b,i,none⟩) (Below.heap_alloc _ _ _ (hr.dom b i hm))];exact hr.u32 b i z hm
  ·have:=hr.dom b i hm;simp;omega
 unfold Oper.wp;rw[hrun];refine hn _ γ M _ r ⟨k1,⟨b,c,w.heap.size,q1,rfl,⟨fun hm=>absurd (hr.dom _ _ hm) (Nat.lt_irrefl _),?_⟩,q3,q4⟩,q5⟩ s;rw[World.cell?_alloc_new,q2];rfl
theorem put_tt (r:Rel γ h M w){v':Value}{g:Nat}(hk:h K=some (.tt e0 e k o ar))(hgo:Goes (.tt e0 e k o ar) (.tt e0 e k o' ar'))(hgr:GrT (.tt e0 e k o ar) (.tt e0 e k o' ar') (γ K) v')(hb:∀b,ib v' b→ib (γ K) b)(hg:ib (γ K) g)
  (ho:∀b,b≠g→w'.heap[b]? =w.heap[b]?) (h1:w'.os=w.os) (h2:w'.tape=w.tape) (h3:w'.output=w.output) (hs:w'.heap.size=w.heap.size)
  (hu:∀(i:Nat) (z:Int),w'.cell? ⟨g,i,none⟩≠some (.int .u32 z))
  (he:Stp γ h M w (upd γ K v') (over [(K,.tt e0 e k o' ar')] h) M w'→EntR (upd γ K v') (over [(K,.tt e0 e k o' ar')] h) M w' K (.tt e0 e k o' ar')):
  Rel (upd γ K v') (over [(K,.tt e0 e k o' ar')] h) M w'∧Stp γ h M w (upd γ K v') (over [(K,.tt e0 e k o' ar')] h) M w':=by
 have hoK:∀b i,ib (γ K) b→Owns γ h K b i:=fun b i q=>by unfold Owns;rw[hk];exact q
 have hM:∀i,M g i:=fun i=>r.own K g i (hoK g i hg);have hown:∀key' b i,Owns (upd γ K v') (over [(K,.tt e0 e k o' ar')] h) key' b i→Owns γ h key' b i:=by
  intro key' b i q
  by_cases e1:key'=K
  ·subst e1;obtain⟨_,h5⟩:=owns_live q;rw[upd_same]at h5;exact hoK b i (hb b h5)
  ·exact(owns_congr (upd_other e1) (over_other e1)).1 q
 have s:Stp γ h M w (upd γ K v') (over [(K,.tt e0 e k o' ar')] h) M w':=by
  refine⟨h1,h2,h3,by omega,fun b i u q=> ?_,fun b hb hn=> ?_,fun b i q _=>q,fun key' b i q _=>⟨key',hown _ _ _ q⟩,fun key' e1 he1=> ?_⟩
  ·have hne:b≠g:=fun e1=>q.1 (e1▸hM i);exact⟨q.1,by rw[←q.2];exact World.cell?_of_block (a:=⟨b,i,none⟩) (ho b hne)⟩
  ·refine ho b fun e1=>hn K 0 ?_;subst e1;exact hoK b 0 hg
  ·by_cases e2:key'=K
   ·subst e2;rw[hk]at he1;injection he1 with he1;subst he1;exact⟨_,over_same,hgo,.inr (.inr (by rw[upd_same];exact hgr))⟩
   ·exact⟨e1,by rw[over_other e2];exact he1,Goes.refl _,.inl (upd_other e2)⟩
 have hlv:∀k0,live (over [(K,.tt e0 e k o' ar')] h k0)=true→live (h k0)=true:=by
  intro k0 hl
  by_cases e1:k0=K
  ·subst e1;rw[hk];rfl
  ·rwa [over_other e1]at hl
 have hib:∀key b,ib (upd γ K v' key) b→ib (γ key) b:=fun key b q=>by
  by_cases e1:key=K
  ·subst e1;rw[upd_same]at q;exact hb b q
  ·rwa [upd_other e1]at q
 refine⟨⟨fun key' e1 he1=> ?_,fun key' b i q=>r.own key' b i (hown _ _ _ q),fun key1 key2 b l1 l2 b1 b2=>r.inj key1 key2 b (hlv _ l1) (hlv _ l2) (hib _ _ b1) (hib _ _ b2),fun b i z hm=> ?_,fun b i hm=>by rw[hs];exact r.dom b i hm,r.glb.fx s.fx⟩,s⟩
 ·by_cases e2:key'=K
  ·subst e2;rw[over_same]at he1;injection he1 with he1;subst he1;exact he s
  ·rw[over_other e2]at he1;refine EntR.stp s (r.ent key' e1 he1) (upd_other e2) fun hl b hb=>ho b fun e3=>e2 ?_;exact r.inj key' K b (by rw[he1];exact hl) (by rw[hk];rfl) hb (by rw[e3];exact hg)
 ·by_cases e1:b=g
  ·subst e1;exact hu i z
  ·rw[World.cell?_of_block (w:=w) (a:=⟨b,i,none⟩) (ho b e1)];exact r.u32 b i z hm
theorem app_th {t ty:TypeId}{n:Nat}{vx u:Value}{q0:Sum (Nat×Nat×Bool) D}(r:Rel γ h M w)(hk:h K=some (.tt e0 e k o ar))(ht:P.underlying t=some (.slice e0))(hok:appOk P e0 1=true)(hx:RdA γ h M w (.th K n) vx)(hol:o.length=n)
  {b2 o2 c2:Nat} (hcell:w.cell? ⟨b2,o2,none⟩=some u) (hu:RdA γ h M w (cA K q0) u) (hq1:oneA (cA K q0)=true) (hq2:plainA (cA K q0)=true) (hb:n+1≤68719476736):
  ∃v' w' γ' M',(Builtin.append_ #[t,t] ty #[vx,.slice (some ⟨b2,o2,none⟩) 1 c2]).run P w= .ok v' w'∧Rel γ' (over [(K,.tt e0 e k (o++[q0]) ar)] h) M' w'∧RdV γ' (over [(K,.tt e0 e k (o++[q0]) ar)] h) M' w' (.a (.th K (n+1))) v'∧
   Stp γ h M w γ' (over [(K,.tt e0 e k (o++[q0]) ar)] h) M' w':=by
 obtain⟨i,z,hi,hz,hk0,hs,hby,hzs,hzu⟩:=appOk_ok hok;obtain⟨_,⟨ad0,c0,hv0⟩,hv1⟩:=hx;have hv2:=(hv1 _ _ _ _ _ hk).2 hol;have hent:=r.ent K _ hk;obtain⟨hd,ps,y1,y2,y3,y4,y5⟩:=hent;have hhd:vx=hd:=by rw[hv2,y1];rfl
 have hone:u.oneCell'=true:=plain_one hu hq2;have hu32:=plainA_u32 hu hq2
 have hnews:∀j v,[u][j]? =some v→w.cell? ((⟨b2,o2,none⟩:Addr).add j)=some v:=fun j v hj=>by
  cases j with
  |zero=>simp at hj;subst hj;rw[Addr.add_lit];exact hcell
  |succ j=>simp at hj
 have hzc:∀m,∀x∈(Builtin.zeroCells z.cells m).toList,∀q:Int,x≠ .int .u32 q:=fun m x hx=>by
  obtain⟨q,hq⟩:=List.mem_iff_getElem?.1 hx;exact zeroCells_u32 (by omega) hzu q x (by simpa using hq)
 have hlt:∀b,ib (γ K) b→b<w.heap.size:=fun b q=>blk_lt r hk rfl q;have hps:∀b∈ps,b<w.heap.size:=fun b hb=>hlt b (by rw[y1];exact ib_tt.2 (.inr hb))
 -- behind a new block
 have new:∀(os:List Value) (cap:Nat),All2 (RdA γ h M w) (o.map (cA K)) os→n+1≤cap→(∀x∈os,∀q:Int,x≠ .int .u32 q)→
   ∃γ' M',Rel γ' (over [(K,.tt e0 e k (o++[q0]) ar)] h) M' (w.drew.alloc (.cells (os.toArray++[u].toArray++Builtin.zeroCells z.cells (cap-(n+1))) e0))∧
    RdV γ' (over [(K,.tt e0 e k (o++[q0]) ar)] h) M' (w.drew.alloc (.cells (os.toArray++[u].toArray++Builtin.zeroCells z.cells (cap-(n+1))) e0)) (.a (.th K (n+1))) (.slice (some ⟨w.heap.size,0,none⟩) (n+1) cap)∧
    Stp γ h M w γ' (over [(K,.tt e0 e k (o++[q0]) ar)] h) M' (w.drew.alloc (.cells (os.toArray++[u].toArray++Builtin.zeroCells z.cells (cap-(n+1))) e0)):=by
  intro os cap hos hcap hosu;have hosl:os.length=n:=by rw[←hos.len,List.length_map,hol]
  have hold:∀b,b<w.heap.size→(w.drew.alloc (.cells (os.toArray++[u].toArray++Builtin.zeroCells z.cells (cap-(n+1))) e0)).heap[b]? =w.heap[b]?:=fun b hb=>Below.heap_alloc _ _ _ hb
  obtain⟨r',st⟩:=grow_tt (o':=o++[q0]) (ar':=ar) (v':=ttV (.slice (some ⟨w.heap.size,0,none⟩) (n+1) cap) ps) (w1:=w.drew) (cs:=os.toArray++[u].toArray++Builtin.zeroCells z.cells (cap-(n+1))) (t:=e0) r hk rfl rfl rfl rfl (fun b hb=>by
    rcases ib_tt.1 hb with h3|h3
    ·simp[blk]at h3;exact .inr h3.symm
    ·exact .inl (by rw[y1];exact ib_tt.2 (.inr h3)))
   ⟨rfl,rfl,rfl,by simp,lR_ _,fun _ _=>rfl⟩ ⟨fun x hx=>by
    rw[y1];obtain⟨b,hb⟩:∃b,ps[x]? =some b:=⟨ps[x]'(by omega),List.getElem?_eq_getElem _⟩;rw[rowT_at hb];exact(rowT_at (hd:=hd) hb).symm,fun h5=>by simp at h5⟩ (fun j x hj=>by
    have hj':(os++[u]++(Builtin.zeroCells z.cells (cap-(n+1))).toList)[j]? =some x:=by
     rw[←hj,←Array.getElem?_toList];simp
    rcases List.mem_append.1 (mG_ hj')with h5|h5
    ·rcases List.mem_append.1 h5 with h6|h6
     ·exact hosu x h6
     ·rw[List.mem_singleton]at h6;subst h6;exact hu32
    ·exact hzc _ x h5) fun st=>by
   refine⟨_,ps,upd_same,y2,y3,.inr ⟨w.heap.size,cap,os++[u],(Builtin.zeroCells z.cells (cap-(n+1))).toList,by simp[hol],by simp[hol];exact hcap,by simp[hol,size_zeroCells,hzs];omega,fun hm=>absurd (hps _ hm) (Nat.lt_irrefl _),?_,?_⟩,fun x b rows hx hrx=> ?_⟩
   ·have e5:(os++[u]++(Builtin.zeroCells z.cells (cap-(n+1))).toList).toArray=os.toArray++[u].toArray++Builtin.zeroCells z.cells (cap-(n+1)):=by apply Array.ext';simp
    rw[e5];exact heap_alloc_new w.drew _
   ·rw[List.map_append];exact All2.app (All2.imp (fun _ _=>RdA.stp st) hos) ⟨RdA.stp st hu,trivial⟩
   ·obtain⟨vs2,sp2,m1,m2,m3,m4⟩:=y5 x b rows hx hrx;exact⟨vs2,sp2,by rw[hold b (hps b (mG_ hx))];exact m1,m2,All2.imp (fun _ _=>RdD.fx st.fx) m3,m4⟩
  refine⟨_,_,r',⟨by rw[over_same];rfl,⟨_,_,rfl⟩,fun f0 f1 k1 o1 ar1 h5=> ?_⟩,st⟩;rw[over_same]at h5;injection h5 with h5;injection h5 with q1 q2 q3 q4 q5;subst q4;exact⟨by simp[hol],fun _=>by rw[upd_same];rfl⟩
 rcases y4 with⟨e1,e2⟩|⟨g,c,os,sp,e2,e3,e4,e5,e6,e7⟩
 ·subst e1;have hn0:n=0:=by simpa using hol.symm
  subst hn0;rw[e2]at hhd;have hr:=run_append_nil (P:=P) w t ty e0 i z ht hi hz ⟨b2,o2,none⟩ 1 c2 [u] (by simp[hs]) hnews (by omega) (by omega) (by omega);obtain⟨γ',M',q1,q2,q3⟩:=new [] (grownCap w 1 0 e0) trivial (grownCap_ge w 1 0 e0) (fun x hx=>by cases hx);simp only[show(([]:List Value)).toArray= #[]from rfl,Array.empty_append,Nat.zero_add]at q1 q2 q3;rw[hhd];exact⟨_,_,γ',M',hr,q1,q2,q3⟩
 ·rw[e2]at hhd;have hosl:os.length=n:=by rw[←e7.len,List.length_map,hol]
  have hib:ib (γ K) g:=by rw[y1,e2];exact ib_tt.2 (.inl rfl)
  have hMg:∀j,M g j:=fun j=>r.own K g j (by unfold Owns;rw[hk];exact hib)
  have hgu:∀x∈os++sp,∀q:Int,x≠ .int .u32 q:=fun x hx q ex=>by
   obtain⟨j,hj⟩:=List.mem_iff_getElem?.1 hx;refine r.u32 g j q (hMg j) ?_;simp only[World.cell?,e6];subst ex;simpa using hj
  by_cases hroom:n+1≤c
  ·have hr:=run_append_room (P:=P) w t ty e0 i ht hi g n c (os++sp).toArray e6 ⟨b2,o2,none⟩ 1 c2 [u] (by simp[hs]) hnews (fun x hx=>by rw[List.mem_singleton]at hx;subst hx;exact hone) hroom (by simp[hs];omega);have hcat:(os++sp).take (n*i.size)++[u]++(os++sp).drop (n*i.size+[u].length)=os++[u]++sp.drop 1:=by
    rw[hs,Nat.mul_one,List.take_append_of_le_length (by omega),List.take_of_length_le (by omega),List.length_singleton,List.drop_append,List.drop_eq_nil_of_le (by omega),List.nil_append,hosl,show n+1-n=1 by omega]
   simp only[List.toList_toArray]at hr;rw[hcat]at hr;have hW:=setRow_heap w g (os++sp).toArray (os++[u]++sp.drop 1).toArray e0 _ e6;have hWo:=fun b (hb:b≠g)=>setRow_other w g b (os++[u]++sp.drop 1).toArray hb;obtain⟨r1,r2⟩:=put_tt (w':=w.setRow g (os++[u]++sp.drop 1).toArray) (o':=o++[q0]) (ar':=ar) (v':=ttV (.slice (some ⟨g,0,none⟩) (n+1) c) ps) r hk ⟨rfl,rfl,rfl,by simp,lR_ _,fun _ _=>rfl⟩
    ⟨fun x hx=>by
     rw[y1];obtain⟨b,hb⟩:∃b,ps[x]? =some b:=⟨ps[x]'(by omega),List.getElem?_eq_getElem _⟩;rw[rowT_at hb];exact(rowT_at (hd:=hd) hb).symm,fun h5=>by simp at h5⟩
    (fun b hb=>by
     rcases ib_tt.1 hb with h3|h3
     ·simp[blk]at h3;rw[←h3];exact hib
     ·rw[y1];exact ib_tt.2 (.inr h3)) hib hWo rfl rfl rfl (by simp) (fun j q h5=>by
     simp only[World.cell?]at h5;rw[hW]at h5;have h6:(os++[u]++sp.drop 1)[j]? =some (.int .u32 q):=by simpa using h5
     rcases List.mem_append.1 (mG_ h6)with h7|h7
     ·rcases List.mem_append.1 h7 with h8|h8
      ·exact hgu _ (List.mem_append_left _ h8) q rfl
      ·rw[List.mem_singleton]at h8;exact hu32 q h8.symm
     ·exact hgu _ (List.mem_append_right _ (List.mem_of_mem_drop h7)) q rfl) fun st=>by
    refine⟨_,ps,upd_same,y2,y3,.inr ⟨g,c,os++[u],sp.drop 1,by simp[hol],by simp[hol];exact hroom,by simp[hol];omega,e5,hW,?_⟩,fun x b rows hx hrx=> ?_⟩
    ·rw[List.map_append];exact All2.app (All2.imp (fun _ _=>RdA.stp st) e7) ⟨RdA.stp st hu,trivial⟩
    ·obtain⟨vs2,sp2,m1,m2,m3,m4⟩:=y5 x b rows hx hrx;exact⟨vs2,sp2,by rw[hWo b fun e9=>e5 (e9▸mG_ hx)];exact m1,m2,All2.imp (fun _ _=>RdD.fx st.fx) m3,m4⟩
   rw[hhd,hol];refine⟨_,_,_,_,hr,r1,⟨by rw[over_same];rfl,⟨_,_,rfl⟩,fun f0 f1 k1 o1 ar1 h5=> ?_⟩,r2⟩;rw[over_same]at h5;injection h5 with h5;injection h5 with q1 q2 q3 q4 q5;subst q4;exact⟨by simp[hol],fun _=>by rw[upd_same];rfl⟩
  ·have hnc:c=n:=by rw[hol]at e3;omega
   subst hnc
   have holds:∀j v,os[j]? =some v→w.cell? ((⟨g,0,none⟩:Addr).add j)=some v:=fun j v hj=>by
    rw[Addr.add_lit];simp[World.cell?,e6,List.getElem?_append_left (List.getElem?_eq_some_iff.1 hj).1,hj]
   have hr:=run_append_grow (P:=P) w t ty e0 i z ht hi hz ⟨g,0,none⟩ c c os (by rw[hs,Nat.mul_one];exact hosl) holds ⟨b2,o2,none⟩ 1 c2 [u] (by simp[hs]) hnews (by omega) (by omega) (growslice_fits (by omega) (by
    have:=Nat.mul_le_mul hb hby;omega))
   obtain⟨γ',M',q1,q2,q3⟩:=new os (grownCap w (c+1) c e0) e7 (grownCap_ge w (c+1) c e0) (fun x hx=>hgu x (List.mem_append_left _ hx));rw[hhd,hol];exact⟨_,_,γ',M',hr,q1,q2,q3⟩
def cellOf (K:Nat):V→Option (Sum (Nat×Nat×Bool) D)
 | .a (.one key a m f)=>if key=K then some (.inl (a,m,f))else none
 |v=>match yOf 1 v with
  |some [[d]]=>some (.inr d)
  |_=>none
theorem cellOf_ok {vx:V}{r:Value}{q:Sum (Nat×Nat×Bool) D}(hv:RdV γ h M w vx r)(hq:cellOf K vx=some q):∃b o c u,r= .slice (some ⟨b,o,none⟩) 1 c∧w.cell? ⟨b,o,none⟩=some u∧RdA γ h M w (cA K q) u:=by
 unfold cellOf at hq;split at hq
 ·split at hq
  ·rename_i hk;subst hk;injection hq with hq;subst hq;obtain⟨k1,⟨b,c,g,q1,q2,q3,q4,q5⟩,q6⟩:=hv;exact⟨g,0,1,_,q2,q3.2,k1,⟨b,c,q1,rfl,q4,q5⟩,q6⟩
  ·cases hq
 ·split at hq
  ·rename_i d hy;injection hq with hq;subst hq;have hr:=yOf_ok hv hy
   cases hr with
   |sl k xs ad cap vs hc hl h0 hk h1 hr=>
    obtain⟨b,o,rfl,hx⟩:=h0 (by simp);have h2:=hx 0 [d] 0 d rfl rfl;exact⟨b,o,cap,vs 0 0,rfl,h2.2,hr 0 [d] 0 d rfl rfl⟩
  ·cases hq
theorem OT_aph {o1:Oper}{t t':TypeId}{s x:Operand}{n:Nat}{vx:V}{q0:Sum (Nat×Nat×Bool) D}(ho:o1.op= .call {callee:= .builtin .append,args:= #[s,x],argTypes:= #[t,t']})(ht':(elemT P t').isSome=true)(hs:evL T s=some (.a (.th K n)))(hx:evL T x=some vx)(hq:cellOf K vx=some q0)
  (he:elemT P t=some (e0,1)) (hok:appOk P e0 1=true) (hh:h K=some (.tt e0 e k o ar)) (hol:o.length=n) (hq1:oneA (cA K q0)=true) (hq2:plainA (cA K q0)=true) (hb:n+1≤68719476736):OT P o1 T h (.a (.th K (n+1))) [(K,.tt e0 e k (o++[q0]) ar)] [K]:=by
 intro T' h' γ M w act next Q hT hk hr ht hn
 have hs':evL T' s=some (.a (.th K n)):=by
  rw[←hs];exact evL_congr fun d hd=>hT d (by rw[ho];simp[Op.operands,Call.operands,hd])
 have hx':evL T' x=some vx:=by
  rw[←hx];exact evL_congr fun d hd=>hT d (by rw[ho];simp[Op.operands,Call.operands,hd])
 obtain⟨b2,o2,c2,u,y1,y2,y3⟩:=cellOf_ok (evL_ok ht hx') hq;obtain⟨⟨e2,s2⟩,he2⟩:=Option.isSome_iff_exists.1 ht';obtain⟨r,w',γ',M',k1,k3,k4,k5⟩:=app_th (ty:=o1.type) hr ((hk K (by simp)).trans hh) (elemT_ok he).1 hok (evL_ok ht hs') hol y2 y3 hq1 hq2 hb;unfold Oper.wp;have:(execOp act.eval o1).run P w= .ok (.value r) w':=by
  rw[←y1]at k1;simp[execOp,ho,resolve,invoke,builtin,append_types w t t' e0 e2 o1.type _ (elemT_ok he).1 (elemT_ok he2).1,k1]
 rw[this];exact hn r γ' M' w' k3 k4 k5
theorem new_tt (r:Rel γ h M w)(hk:h K=none)(e0 e:TypeId)(k:Nat):Rel (upd γ K (ttV (.slice none 0 0) [])) (over [(K,.tt e0 e k [] [])] h) M w∧Stp γ h M w (upd γ K (ttV (.slice none 0 0) [])) (over [(K,.tt e0 e k [] [])] h) M w:=by
 have hni:∀b,¬ib (ttV (.slice none 0 0) []) b:=fun b q=>by
  rcases ib_tt.1 q with q|q
  ·cases q
  ·cases q
 have hown:∀key b i,Owns (upd γ K (ttV (.slice none 0 0) [])) (over [(K,.tt e0 e k [] [])] h) key b i→Owns γ h key b i:=by
  intro key b i q
  by_cases e1:key=K
  ·subst e1;obtain⟨_,h5⟩:=owns_live q;rw[upd_same]at h5;exact absurd h5 (hni b)
  ·exact(owns_congr (upd_other e1) (over_other e1)).1 q
 have s:Stp γ h M w (upd γ K (ttV (.slice none 0 0) [])) (over [(K,.tt e0 e k [] [])] h) M w:=by
  refine⟨rfl,rfl,rfl,lR_ _,fun _ _ _ q=>q,fun _ _ _=>rfl,fun _ _ q _=>q,fun key b i q _=>⟨key,hown _ _ _ q⟩,fun key e' he'=> ?_⟩;have e1:key≠K:=fun e1=>by rw[e1,hk]at he';cases he'
  exact⟨e',by rw[over_other e1];exact he',Goes.refl _,.inl (upd_other e1)⟩
 have hlv:∀key b,live (over [(K,.tt e0 e k [] [])] h key)=true→ib (upd γ K (ttV (.slice none 0 0) []) key) b→live (h key)=true∧ib (γ key) b:=fun key b l q=>by
  by_cases e1:key=K
  ·subst e1;rw[upd_same]at q;exact absurd q (hni b)
  ·rw[over_other e1]at l;rw[upd_other e1]at q;exact⟨l,q⟩
 refine⟨⟨fun key e' he'=> ?_,fun key b i q=>r.own key b i (hown _ _ _ q),fun k1 k2 b l1 l2 b1 b2=>r.inj k1 k2 b (hlv _ _ l1 b1).1 (hlv _ _ l2 b2).1 (hlv _ _ l1 b1).2 (hlv _ _ l2 b2).2,r.u32,r.dom,r.glb⟩,s⟩
 by_cases e1:key=K
 ·subst e1;rw[over_same]at he';injection he' with he';subst he';exact⟨.slice none 0 0,[],upd_same,rfl,List.nodup_nil,.inl ⟨rfl,rfl⟩,fun a b rows hx=>by simp at hx⟩
 ·rw[over_other e1]at he';exact EntR.stp s (r.ent key e' he') (upd_other e1) fun _ _ _=>rfl
end
end Go.Proofs.YthdoopaenanibaaGreatDoor.Lf
