/- Texts LoH LoI LoJ LoK LoL LoT LoM LoN LmJ LmK LmM LmN LmO LmP LmQ LnB LoO LmR LpA LpB of this proof, in this order. -/
import Derived.Test.YtcnebhohjghngaaGreatDoorU07
import Derived.Test.YtcnebhohjghngaaGreatDoorU06
import Derived.Test.YtcnebhohjghngaaGreatDoorRows
import Derived.Lib.LaidTab
import Derived.OpenShut
import Derived.ShutString
import Derived.ChangeOld
import Derived.ProofKit
import Derived.WalkKit
import Derived.LaidMore
set_option linter.unusedVariables false
set_option linter.unusedSimpArgs false
set_option maxRecDepth 100000
set_option maxHeartbeats 4000000
namespace Go.Proofs.YtcnebhohjghngaaGreatDoor.Lf
open Go.RowKit Nt Koh
def tF (n:Nat)(obj:Af):Af:=subS (varS (n:Nat)) obj
def alF (n:Nat)(rows:List Af)(obj:Af):List Af:=[tF n obj,scaleS (tF n obj) m1]++rows
theorem md64 {m:Nat}(h:m<18446744073709551616):(m:Int) % 18446744073709551616=m:=by omega
theorem shl1 {i:Nat}(h:i≤62):IntKind.u64.wrap (1*2^min ((i:Int)).toNat IntKind.u64.bits)=((2^i:Nat):Int):=by
 have hp:2^i≤2^62:=Nat.pow_le_pow_right (by omega) h;rw[Int.toNat_natCast,show min i IntKind.u64.bits=i from Nat.min_eq_left (show i≤64 by omega),Int.one_mul,show((2:Int)^i)=((2^i:Nat):Int) by rw[Int.natCast_pow];rfl];have hlt:2^i<18446744073709551616:=by omega
 show((2^i:Nat):Int) % 18446744073709551616=_;exact md64 hlt
theorem key2 {m key:Nat}{b:Bool}(h:key∈keysV (.tup [.s (.tab 2 m),.s (.d (.lit (.bool b)))])):key=2:=by
 have e:keysV (.tup [.s (.tab 2 m),.s (.d (.lit (.bool b)))])=[2]:=rfl;rw[e]at h;exact List.mem_singleton.1 h
abbrev boolR (ds:List Bool):List (List D):=ds.map fun b=>[D.lit (.bool b)]
structure LsJ (n:Nat)(al:List Af)(S:List Nat)(L:List Rl)(ds:List Bool):Prop where
 nd:S.Nodup
 lt:∀c∈S,c<n
 le:S.length≤n
 bl:ds.length=n
 bt:∀i:Nat,ds[i]? =some true↔i∈S
 rp:RepL n al S L
 ok:∀r∈L,RlOk (n+2) r
 len:L.length≤62+20000*S.length
theorem LsJ.next {n v:Nat}{al:List Af}{S:List Nat}{L L':List Rl}{ds:List Bool}(h:LsJ n al S L ds)(hm:al.length≤64)(hv1:v<n)(hv2:v∉S)(he:ElOk L (n+2) v (S.length+1) L')(hp:upN v L*dnN v L≤20000):LsJ n al (v::S) L' (ds.set v true):=by
 have hbl:=h.bl;have hlen:=h.len;have hel:=he.len;refine⟨List.nodup_cons.2 ⟨hv2,h.nd⟩,fun c hc=> ?_,?_,by simp[hbl],fun i=> ?_,repL_step h.rp h.ok hm he rfl (by omega),he.rows,by rw[List.length_cons];omega⟩
 ·rcases List.mem_cons.1 hc with hc|hc
  ·rw[hc];exact hv1
  ·exact h.lt c hc
 ·have:=nodup_le (v::S) (List.nodup_cons.2 ⟨hv2,h.nd⟩) (List.range n) fun x hx=>by
   rcases List.mem_cons.1 hx with hx|hx
   ·rw[hx];exact List.mem_range.2 hv1
   ·exact List.mem_range.2 (h.lt x hx)
  rw[List.length_range]at this;exact this
 ·rw[List.getElem?_set]
  by_cases e:v=i
  ·subst e;rw[if_pos rfl,if_pos (by omega)];simp
  ·rw[if_neg e,h.bt i,List.mem_cons];exact⟨.inr,fun q=>q.elim (fun q=>absurd q.symm e) id⟩
theorem pl_least {n k:Nat}{rows:List Af}{obj:Af}(hr:∀f∈rows,FB k (n+1:Nat) f)(ho:FB k (n+1:Nat) obj)(hk:k≤100000000)(hn:n≤4)(hl:rows.length≤100000):
  ∃(st:Int) (v:Rat),(st=1→∃S L,S.Nodup∧(∀c∈S,c<n)∧S.length=n∧RepL n (alF n rows obj) S L∧(∀r∈L,RlOk (n+2) r)∧EndAt L n v)∧Bt 70 v∧LV Tryz.prog 34 [.agg ([.d (.lit (.int .i64 (n:Nat))),.d (afsD rows)]++obj.A)] (.tup [.s (.d (.lit (.int .i64 st))),.g (can v).A]):=by
 suffices hh:LX Tryz.prog 34 [.agg ([.d (.lit (.int .i64 (n:Nat))),.d (afsD rows)]++obj.A)] [] fun V H=>∃(st:Int) (v:Rat),((st=1→∃S L,S.Nodup∧(∀c∈S,c<n)∧S.length=n∧RepL n (alF n rows obj) S L∧(∀r∈L,RlOk (n+2) r)∧EndAt L n v)∧Bt 70 v)∧V= .tup [.s (.d (.lit (.int .i64 st))),.g (can v).A]∧H=[] by
  obtain⟨_,_,⟨st,v,⟨h1,h2⟩,rfl,rfl⟩,hc⟩:=hh;exact⟨st,v,h1,h2,_,_,⟨rfl,rfl⟩,hc⟩
 have ret0:∀(H:List (Nat×Ent)) (st:Int),st≠1→Rt 0 H (V.tup [.s (.d (.lit (.int .i64 st))),.g [.d (.lit (.bool false)),.d (.lm (limbs 0)),.d (.lm (limbs 0))]]) fun V H=>∃(st:Int) (v:Rat),((st=1→∃S L,S.Nodup∧(∀c∈S,c<n)∧S.length=n∧RepL n (alF n rows obj) S L∧(∀r∈L,RlOk (n+2) r)∧EndAt L n v)∧Bt 70 v)∧V= .tup [.s (.d (.lit (.int .i64 st))),.g (can v).A]∧H=[]:=fun H st hst=>
  .q ⟨st,0,⟨fun h=>absurd h hst,bt0 _⟩,by rw[can0],rfl⟩
 have hw1:IntKind.i64.wrap ((n:Int)+1)=((n+1:Nat):Int):=by rw[wr64 (by omega) (by omega)];omega
 have hv:FB 0 (n+1:Nat) (varS (n:Nat)):=FB.var (by omega) (by omega);have ht:FB (0+k+1) (n+1:Nat) (tF n obj):=hv.sub ho
 have hal:∀f∈alF n rows obj,FB (k+10) (n+1:Nat) f:=fun f hf=>by
  rcases List.mem_append.1 hf with h|h
  ·rcases List.mem_cons.1 h with h|h
   ·rw[h];exact ht.up (by omega) (Int.le_refl _)
   ·rw[List.mem_singleton.1 h];exact(ht.scale m1_b).up (by omega) (Int.le_refl _)
  ·exact(hr f h).up (by omega) (Int.le_refl _)
 refine LX_run (m:=0) (n0:=0) mix Tryz.func34 rfl rfl rfl rfl ?_;conv=>whnf
 refine .c (lx_zvar) ?_;conv=>whnf
 refine .c (lx_sub hv ho (by omega) (by omega) (by omega)) ?_;conv=>whnf
 refine .mk (by kernel_rfl) ?_;conv=>whnf
 refine .c (lx_zofm) ?_;conv=>whnf
 refine .c (lx_scale ht m1_b (by omega) (by omega) (by omega)) ?_;conv=>whnf
 refine .mk ((alF n rows obj).map Af.D) rfl rfl (by simp[alF];omega) ?_;conv=>whnf
 refine .mk (by kernel_rfl) ?_;conv=>whnf
 have ell:(alF n rows obj).length=rows.length+2:=by simp[alF]
 refine bs (fun hc=> ?_) (fun hc=> ?_)
 ·conv=>whnf
  exact ret0 _ 0 (by decide)
 have hm:(alF n rows obj).length≤62:=by have:=of_decide_eq_false hc;simp at this;omega
 have htd:=fun(i:Nat) f (hi:(alF n rows obj)[i]? =some f)=>hal f (mG_ hi);have eat:∀(i:Nat) f,(alF n rows obj)[i]? =some f→atF (alF n rows obj) i=f:=fun i f h=>by unfold atF;rw[Int.toNat_natCast,h];rfl
 generalize alF n rows obj=al at *
 conv=>whnf
 refine .mk (Nat×List Rl) (fun(i,L)=>⟨[(8,vl (.int .i64 (i:Nat))),(7,.a (.own 4 2 (L.map Rl.D))),(6,.a (.own 3 4 (al.map Af.D))),(4,vl (.int .i64 (n:Nat))),(3,.a (.ptr 1 0))],[(1,.box 34 (can 0).A),(3,.arr 36 4 (al.map Af.D).length),(4,.arr 134 2 (L.map Rl.D).length)],5⟩)
  (fun b=>b.1≤al.length∧b.2.length=b.1∧∀(j:Nat) r,b.2[j]? =some r→Rw0 n al j r) (fun b=>al.length-b.1) (0,[]) (Wk.trans (Wk.own 7 4 134 2 rfl rfl (zL_ _)) (by rw[can0];exact Wk.go)) ⟨zL_ _,rfl,fun j r h=>by simp at h⟩ fun⟨i,L⟩ hb=> ?_
 obtain⟨hi,hLl,hR⟩:=hb;simp only at hi hLl hR;conv=>whnf
 refine bs (fun h1=> ?_) (fun h1=> ?_)
 ·conv=>whnf
  have h1':i<al.length:=by simpa using h1
  obtain⟨f,hf⟩:=at_some h1';refine .mk (i) (f.D) (rfl) (at_map hf) ?_;conv=>whnf
  conv=>whnf
  rw[hw1];obtain⟨_,_,hcs,cd⟩:=pl_dense (htd i f hf) (V:=n+1) (by omega) (by omega) (by omega) (by omega);rcases hcs with⟨c,hd,rfl,rfl⟩|⟨c,rfl,rfl⟩|⟨rfl,rfl⟩
  ·have cr:=LX.ren0t (j:=2) (fun key h=>key2 h) ⟨_,_,⟨rfl,rfl⟩,cd⟩;refine .l [] (cr) ?_;conv=>whnf
   refine .mk ((2^i:Nat):Int) (by omega) (shl1 (by omega)) ?_;conv=>whnf
   refine .mk (by omega) ?_;conv=>whnf
   refine .mk ((L++[(⟨c,2^i⟩:Rl)]).map Rl.D) rfl (by rw[List.map_append];rfl) (by simp;omega) ?_;conv=>whnf
   refine⟨(i+1,L++[⟨c,2^i⟩]),Wk.go,⟨h1',by simp[hLl],fun j r hj=> ?_⟩,by simp only;omega⟩;rcases Nat.lt_or_ge j L.length with hjl|hjl
   ·rw[List.getElem?_append_left hjl]at hj;exact hR j r hj
   ·rw[List.getElem?_append_right hjl]at hj;have hj0:=at_lt hj;obtain rfl:j=i:=by simp at hj0;omega
    rw[hLl,Nat.sub_self]at hj;injection hj with hj;subst hj;exact⟨⟨by rw[hd.len],fun z hz=>hd.b z hz,by have hp:2^j≤2^62:=Nat.pow_le_pow_right (by omega) (by omega);show 2^j<18446744073709551616;omega⟩,by rw[eat j f hf];exact hd,rfl⟩
  ·have cr:=LX.ren0t (j:=2) (fun key h=>key2 h) ⟨_,_,⟨rfl,rfl⟩,cd⟩;refine .l [] (cr) ?_;conv=>whnf
   exact ret0 _ 0 (by decide)
  ·have cr:LV Tryz.prog 67 [.agg f.A,vl (.int .i64 (n+1:Nat))] (.tup [.s (.d (.lit (.slice none 0 0))),.s (.d (.lit (.bool false)))]):=⟨_,_,⟨rfl,rfl⟩,cd⟩;refine .c (cr) ?_;conv=>whnf
   exact ret0 _ 0 (by decide)
 ·conv=>whnf
  have ei:i=al.length:=by simp at h1;omega
  subst ei;have hR0:RepL n al [] L:=repL0 hLl hR
  have hRk:∀r∈L,RlOk (n+2) r:=fun r h=>by
   obtain⟨j,hj⟩:=List.mem_iff_getElem?.1 h;exact(hR j r hj).ok
  refine .mk n rfl rfl (by omega) ?_;conv=>whnf
  refine .mk (List Nat×List Rl×List Bool) (fun(S,L,ds)=>⟨[(12,vl (.int .i64 (S.length+1:Nat))),(11,.a (.tab 5 n)),(7,.a (.d (rlsD L))),(4,vl (.int .i64 (n:Nat))),(3,.a (.ptr 1 0))],[(1,.box 34 (can 0).A),(5,.tab 4 1 (boolR ds))],6⟩)
   (fun b=>LsJ n al b.1 b.2.1 b.2.2) (fun b=>n-b.1.length) ([],L,List.replicate n false)
   (by simp only[boolR,List.map_replicate];exact Wk.go (h1:=by(repeat' first|exact trivial|exact vR_ _|exact stripV_ok (.a (.own 4 2 (L.map Rl.D)))|refine⟨⟨_,rfl,?_,rfl⟩,?_⟩))) ⟨List.nodup_nil,fun c h=>(by cases h),zL_ _,by simp,fun i=>by simp[List.getElem?_replicate],hR0,hRk,by simp;omega⟩ fun⟨S,L,ds⟩ hJ=> ?_
  simp only at hJ;have hnd:=hJ.nd;have hlt:=hJ.lt;have hle:=hJ.le;have hbl:=hJ.bl;have hlen:=hJ.len;have hrow:L.length≤100000:=by omega
  conv=>whnf
  refine bs (fun h2=> ?_) (fun h2=> ?_)
  ·conv=>whnf
   have h2':S.length<n:=by have:=of_decide_eq_true h2;omega
   refine .mk (Nat×Int) (fun(i,z)=>⟨[(14,vl (.int .i64 (i:Nat))),(13,vl (.int .i64 z)),(12,vl (.int .i64 (S.length+1:Nat))),(11,.a (.tab 5 n)),(7,.a (.d (rlsD L))),(4,vl (.int .i64 (n:Nat))),(3,.a (.ptr 1 0))],[(1,.box 34 (can 0).A),(5,.tab 4 1 (boolR ds))],6⟩)
    (fun b=>b.1≤n∧(b.2= -1∧(∀j,j<b.1→j∈S)∨∃v:Nat,b.2=v∧v<n∧v∉S)) (fun b=>n-b.1) (0,-1) Wk.go ⟨zL_ _,.inl ⟨rfl,fun j h=>by omega⟩⟩ fun⟨i,z⟩ hz=> ?_
   obtain⟨hi,hz⟩:=hz;simp only at hi hz;conv=>whnf
   refine bs (fun h3=> ?_) (fun h3=> ?_)
   ·conv=>whnf
    have h3':i<n:=by have:=of_decide_eq_true h3;omega
    obtain⟨b,hb⟩:=at_some (l:=ds) (i:=i) (by omega);refine .mk i rfl (by omega) ?_;conv=>whnf
    refine .mk i 0 [D.lit (.bool b)] rfl (by rw[List.getElem?_map,hb];rfl) ?_;conv=>whnf
    cases b
    ·have hnS:i∉S:=fun h=>by rw[(hJ.bt i).2 h]at hb;cases hb
     conv=>whnf
     refine bs (fun h5=> ?_) (fun h5=> ?_)
     ·conv=>whnf
      exact⟨(i+1,(i:Int)),Wk.go,⟨h3',.inr ⟨i,rfl,h3',hnS⟩⟩,by simp only;omega⟩
     ·have h5':=of_decide_eq_false h5;obtain⟨v,rfl,hv1,hv2⟩:∃v:Nat,z=v∧v<n∧v∉S:=by
       rcases hz with⟨h,_⟩|h
       ·omega
       ·exact h
      conv=>whnf
      refine .c (pl_pairs2 hJ.ok (show i<n+2 by omega) (by omega)) ?_;conv=>whnf
      refine .c (pl_pairs2 hJ.ok (show v<n+2 by omega) (by omega)) ?_;conv=>whnf
      refine bs (fun h6=> ?_) (fun h6=> ?_)
      ·conv=>whnf
       exact⟨(i+1,(i:Int)),Wk.go,⟨h3',.inr ⟨i,rfl,h3',hnS⟩⟩,by simp only;omega⟩
      ·conv=>whnf
       exact⟨(i+1,(v:Int)),Wk.go,⟨h3',.inr ⟨v,rfl,hv1,hv2⟩⟩,by simp only;omega⟩
    ·have hiS:i∈S:=(hJ.bt i).1 hb;conv=>whnf
     refine⟨(i+1,z),Wk.go,⟨h3',?_⟩,by simp only;omega⟩;rcases hz with⟨h,h'⟩|h
     ·refine .inl ⟨h,fun j hj=> ?_⟩;rcases Nat.lt_succ_iff_lt_or_eq.1 hj with h7|h7
      ·exact h' j h7
      ·rw[h7];exact hiS
     ·exact .inr h
   ·conv=>whnf
    have h3':i=n:=by have:=of_decide_eq_false h3;omega
    subst h3';obtain⟨v,rfl,hv1,hv2⟩:∃v:Nat,z=v∧v<i∧v∉S:=by
     rcases hz with⟨_,h⟩|h
     ·have:=nodup_le (List.range i) List.nodup_range S fun x hx=>h x (List.mem_range.1 hx);rw[List.length_range]at this;omega
     ·exact h
    refine .c (pl_pairs2 hJ.ok (show v<i+2 by omega) (by omega)) ?_;conv=>whnf
    refine bs (fun h4=> ?_) (fun h4=> ?_)
    ·conv=>whnf
     exact ret0 _ 0 (by decide)
    have h4':upN v L*dnN v L≤20000:=by have:=of_decide_eq_false h4;omega
    obtain⟨_,_,hcs,cd⟩:=pl_elim (k:=S.length+1) hJ.ok (show v<i+2 by omega) hrow h4' (by omega) (by omega);rcases hcs with⟨L',he,rfl,rfl⟩|⟨rfl,rfl⟩
    ·have cr:LV Tryz.prog 69 [.a (.d (rlsD L)),vl (.int .i64 (v:Nat)),vl (.int .i64 (S.length+1:Nat))] (.tup [.s (.d (rlsD L')),.s (.d (.lit (.bool true)))]):=⟨_,_,⟨rfl,rfl⟩,cd⟩;conv=>whnf
     refine .c (cr) ?_;conv=>whnf
     obtain⟨b,hb⟩:=at_some (l:=ds) (i:=v) (by omega);refine .mk v rfl (by omega) ?_;conv=>whnf
     refine .mk v 0 [D.lit (.bool b)] (boolR (ds.set v true)) rfl (by rw[List.getElem?_map,hb];rfl) (lR_ 1) (by rw[boolR,List.map_set];rfl) ?_;conv=>whnf
     exact⟨(v::S,L',ds.set v true),Wk.go,hJ.next (by omega) hv1 hv2 he h4',by simp only[List.length_cons];omega⟩
    ·have cr:LV Tryz.prog 69 [.a (.d (rlsD L)),vl (.int .i64 (v:Nat)),vl (.int .i64 (S.length+1:Nat))] (.tup [.s (.d (.lit (.slice none 0 0))),.s (.d (.lit (.bool false)))]):=⟨_,_,⟨rfl,rfl⟩,cd⟩;conv=>whnf
     refine .c (cr) ?_;conv=>whnf
     exact ret0 _ 0 (by decide)
  ·have h2':S.length=n:=by have:=of_decide_eq_false h2;omega
   obtain⟨st,v,he,hbv,ce⟩:=pl_ends hJ.ok (by omega) (by omega);conv=>whnf
   refine .c (ce) ?_;conv=>whnf
   exact .q ⟨st,v,⟨fun e=>⟨S,L,hnd,hlt,h2',hJ.rp,hJ.ok,he e⟩,hbv⟩,rfl,rfl⟩
theorem pl_leastX {n k:Nat}{rows:List Af}{obj:Af}(hr:∀f∈rows,FB k (n+1:Nat) f)(ho:FB k (n+1:Nat) obj)(hk:k≤100000000)(hn:n≤4)(hl:rows.length≤100000):
  ∃(st:Int) (v:Rat),(st=1→∃X:Int→Rat,(∀f∈rows,0≤ph 1 X f)∧ph 1 X obj=v)∧Bt 70 v∧LV Tryz.prog 34 [.agg ([.d (.lit (.int .i64 (n:Nat))),.d (afsD rows)]++obj.A)] (.tup [.s (.d (.lit (.int .i64 st))),.g (can v).A]):=by
 obtain⟨st,v,h1,h2,h3⟩:=pl_least hr ho hk hn hl;refine⟨st,v,fun e=> ?_,h2,h3⟩;obtain⟨S,L,hS,hlt,hle,hrp,hok,hat⟩:=h1 e;have hv:FB 0 (n+1:Nat) (varS (n:Nat)):=FB.var (by omega) (by omega);have ht:FB (0+k+1) (n+1:Nat) (tF n obj):=hv.sub ho
 obtain⟨X,hX,hall⟩:=least_at hS hlt hle hrp hok hat fun f hf=>by
  rcases List.mem_append.1 hf with h|h
  ·rcases List.mem_cons.1 h with h|h
   ·rw[h];exact ht.ts
   ·rw[List.mem_singleton.1 h];exact(ht.scale m1_b).ts
  ·exact(hr f h).ts
 refine⟨X,fun f hf=>hall f (by simp[alF,hf]),?_⟩;have a1:=hall (tF n obj) (by simp[alF]);have a2:=hall (scaleS (tF n obj) m1) (by simp[alF]);rw[ph_scale,tF,ph_sub,ph_var,hX]at a2;rw[tF,ph_sub,ph_var,hX]at a1;have em:m1= -1:=m1_r;rw[em]at a2;grind
def insT (vs:List Af)(a:Af)(t:Tm):Af:=addS a (scaleS (atF vs t.v) t.q)
def insS (f:Af)(vs:List Af):Af:=f.ts.foldl (insT vs) (numS f.c)
def insI (f:Af)(vs:List Af)(i:Nat):Af:=(f.ts.take i).foldl (insT vs) (numS f.c)
theorem insI_succ {f:Af}{vs:List Af}{i:Nat}{t:Tm}(h:f.ts[i]? =some t):insI f vs (i+1)=insT vs (insI f vs i) t:=by
 unfold insI;rw[take_snoc h,List.foldl_append];rfl
theorem insI_all {f:Af}{vs:List Af}:insI f vs f.ts.length=insS f vs:=by unfold insI insS;rw[List.take_length]
theorem insI_FB {f:Af}{vs:List Af}{m n:Int}{B:Nat}(hf:FB 5 m f)(hv:∀v,0≤v→v<m→FB B n (atF vs v)):∀i,i≤f.ts.length→FB (5+i*(B+6)) n (insI f vs i)
 |0,_=>by rw[Nat.zero_mul];exact FB.num hf.c
 |i+1,h=>by
  obtain⟨t,ht⟩:=at_some (l:=f.ts) (i:=i) h;obtain⟨t1,t2,_,t4⟩:=hf.tm t (mG_ ht);rw[insI_succ ht];exact((insI_FB hf hv i (by omega)).add ((hv t.v t1 t2).scale t4)).up (by rw[Nat.add_mul];omega) (Int.le_refl _)
theorem ph_insT {vs:List Af}{X:Int→Rat}:∀{ts:List Tm} {a:Af},ph 1 X (ts.foldl (insT vs) a)=ph 1 X a+lsum (fun v=>ph 1 X (atF vs v)) ts
 |[],a=>by simp[lsum,Rat.add_zero]
 |t::ts,a=>by
  rw[List.foldl_cons,ph_insT,insT,ph_add,ph_scale,lsum];grind
theorem ph_ins {f:Af}{vs:List Af}{X:Int→Rat}:ph 1 X (insS f vs)=ph 1 (fun v=>ph 1 X (atF vs v)) f:=by
 rw[insS,ph_insT,ph_num];show 1*f.c+_=_+1*f.c;grind
theorem lsum_cong {X Y:Int→Rat}{n:Int}(h:∀v,0≤v→v<n→X v=Y v):∀{ts:List Tm} {lo:Int},0≤lo→TsOk n lo ts→lsum X ts=lsum Y ts
 |[],_,_,_=>rfl
 |t::ts,lo,h0,ht=>by
  rw[lsum,lsum,lsum_cong h (by have:=ht.1;omega) ht.2.2.2,h t.v (by have:=ht.1;omega) ht.2.1]
theorem ph_cong {X Y:Int→Rat}{n:Int}{k:Nat}{f:Af}(h:∀v,0≤v→v<n→X v=Y v)(hf:FB k n f):ph 1 X f=ph 1 Y f:=by
 unfold ph;rw[lsum_cong h (Int.le_refl 0) hf.ts]
theorem pz_insert {f:Af}{vs:List Af}{m n:Int}{B:Nat}(hf:FB 5 m f)(hm:m≤vs.length)(hm2:m≤1000)(h0:0≤m)(hv:∀x∈vs,FB B n x)(hB:B≤200000)(hn0:0≤n)(hn:n≤100000):
  LV Tryz.prog 33 [.agg f.A,.a (.d (afsD vs))] (.agg (insS f vs).A):=by
 have hl:=hf.ts.len h0
 have hat:∀v,0≤v→v<m→vs[v.toNat]? =some (atF vs v):=fun v h1 h2=>by
  obtain⟨x,hx⟩:=at_some (l:=vs) (i:=v.toNat) (by omega);unfold atF;rw[hx];rfl
 have hvv:∀v,0≤v→v<m→FB B n (atF vs v):=fun v h1 h2=>hv _ (mG_ (hat v h1 h2));refine LX_run (m:=0) (n0:=0) mix Tryz.func33 rfl rfl rfl rfl ?_;conv=>whnf
 refine .mk Nat (fun i=>⟨[(6,vl (.int .i64 (i:Nat))),(5,.a (.ptr 2 0)),(4,.a (.ptr 1 0)),(2,.a (.ptr 0 0)),(1,.a (.d (afsD vs)))],[(0,.box 36 f.A),(1,.box 36 [.d (.lit (.slice none 0 0)),.d (.lit (.bool false)),.d (.lm (limbs 0)),.d (.lm (limbs 0))]),(2,.box 36 (insI f vs i).A)],3⟩)
  (fun i=>i≤f.ts.length) (fun i=>f.ts.length-i) 0 (Wk.go (h2:=⟨⟨_,rfl,wke_refl _,rfl⟩,⟨_,rfl,wke_refl _,rfl⟩,⟨_,rfl,⟨_,rfl,WkA.nil,aR_ _,aR_ _,aR_ _,trivial⟩,rfl⟩,trivial⟩)) (zL_ _) fun i hi=> ?_
 conv=>whnf
 refine bs (fun h1=> ?_) (fun h1=> ?_)
 ·conv=>whnf
  have h1':i<f.ts.length:=by simpa using h1
  obtain⟨t,ht⟩:=at_some h1';obtain⟨t1,t2,_,t4⟩:=hf.tm t (mG_ ht);have hfi:=insI_FB hf hvv i hi;have hsc:=(hvv t.v t1 t2).scale t4;have hi6:i*(B+6)≤1000*(200000+6):=Nat.mul_le_mul (by omega) (by omega);refine .mk (i) (t.D) (rfl) (at_map ht) ?_;conv=>whnf
  conv=>whnf
  refine .mk (t.v.toNat) ((atF vs t.v).D) (by omega) (at_map (hat t.v t1 t2)) ?_;conv=>whnf
  conv=>whnf
  refine .mk (i) (t.D) (rfl) (at_map ht) ?_;conv=>whnf
  conv=>whnf
  refine .c (lx_scale (hvv t.v t1 t2) t4 (by omega) (by omega) (by omega)) ?_;conv=>whnf
  refine .c (lx_add hfi hsc (by omega) (by omega) (by omega)) ?_;conv=>whnf
  refine .mk (by kernel_rfl) ?_;conv=>whnf
  refine⟨i+1,?_,h1',by omega⟩;rw[insI_succ ht];exact Wk.go
 ·conv=>whnf
  have ei:i=f.ts.length:=by simp at h1;omega
  subst ei;rw[insI_all];exact .q ⟨rfl,rfl⟩
structure PatOk (k:Nat)(p:List Int):Prop where
 len:p.length=k
 ph:∀z∈p,z=1∨z=2
abbrev psR (ps:List (List Int)):List (List D):=ps.map fun p=>[intsD p]
abbrev psD (ps:List (List Int)):D:= .sl 1 (psR ps)
theorem ps_at {ps:List (List Int)}{i:Nat}{p:List Int}(h:ps[i]? =some p):(psR ps)[i]? =some [intsD p]:=by rw[List.getElem?_map,h];rfl
theorem pl_complete {k:Nat}{p:List Int}(h:PatOk k p)(hk:k≤1000):LV Tryz.prog 100 [.a (.d (intsD p))] (vl (.bool true)):=by
 have hl:=h.len;refine LX_run (m:=0) (n0:=0) mix Tryz.func100 rfl rfl rfl rfl ?_;conv=>whnf
 refine .mk Nat (fun i=>⟨[(3,vl (.int .i64 (i:Nat))),(0,.a (.d (intsD p)))],[],0⟩) (fun i=>i≤p.length) (fun i=>p.length-i) 0 Wk.go (zL_ _) fun i hi=> ?_;conv=>whnf
 refine bs (fun h1=> ?_) (fun h1=> ?_)
 ·conv=>whnf
  have h1':i<p.length:=by simpa using h1
  obtain⟨z,hz⟩:=at_some h1';have hzp:=h.ph z (mG_ hz);refine .mk (i) ([D.lit (.int .i64 z)]) (rfl) (int_at hz) ?_;conv=>whnf
  conv=>whnf
  refine bs (fun h2=> ?_) (fun h2=> ?_)
  ·conv=>whnf
   have h2':z≠1:=by simpa using h2
   refine .mk (i) ([D.lit (.int .i64 z)]) (rfl) (int_at hz) ?_;conv=>whnf
   conv=>whnf
   refine bs (fun h3=> ?_) (fun h3=> ?_)
   ·have h3':z≠2:=by simpa using h3
    omega
   ·conv=>whnf
    exact⟨i+1,Wk.go,h1',by omega⟩
  ·conv=>whnf
   exact⟨i+1,Wk.go,h1',by omega⟩
 ·conv=>whnf
  exact .q ⟨rfl,rfl⟩
theorem pl_all0:LV Tryz.prog 29 [vl (.int .i64 (0:Nat))] (.a (.d (psD [[]]))):=by
 refine LX_run (m:=0) (n0:=0) mix Tryz.func29 rfl rfl rfl rfl ?_;conv=>whnf
 refine .own ?_;conv=>whnf
 exact .s ⟨rfl,rfl⟩
theorem pl_allS {k:Nat}{ps:List (List Int)}(hp:∀p∈ps,PatOk k p)(hl:ps.length≤100000)(hk:k≤100)(hc:LV Tryz.prog 29 [vl (.int .i64 (k:Nat))] (.a (.d (psD ps)))):
  ∃qs:List (List Int),(∀p∈qs,PatOk (k+1) p)∧qs.length≤2*ps.length∧LV Tryz.prog 29 [vl (.int .i64 (k+1:Nat))] (.a (.d (psD qs))):=by
 suffices hh:LX Tryz.prog 29 [vl (.int .i64 (k+1:Nat))] [] fun V H=>∃qs:List (List Int),((∀p∈qs,PatOk (k+1) p)∧qs.length≤2*ps.length)∧V= .a (.d (psD qs))∧H=[] by
  obtain⟨_,_,⟨qs,⟨h1,h2⟩,rfl,rfl⟩,hc⟩:=hh;exact⟨qs,h1,h2,_,_,⟨rfl,rfl⟩,hc⟩
 have hw:IntKind.i64.wrap (((k+1:Nat):Int)-1)=(k:Nat):=by rw[wr64 (by omega) (by omega)];omega
 refine LX_run (m:=0) (n0:=0) mix Tryz.func29 rfl rfl rfl rfl ?_;conv=>whnf
 rw[hw];refine .c (hc) ?_;conv=>whnf
 refine .mk (Nat×List (List Int)) (fun(z,o)=>⟨[(5,vl (.int .i64 (z:Nat))),(4,.a (.own 0 1 (psR o))),(3,.a (.d (psD ps)))],[(0,.arr 87 1 (psR o).length)],1⟩)
  (fun b=>1≤b.1∧b.1≤3∧(∀p∈b.2,PatOk (k+1) p)∧b.2.length≤(b.1-1)*ps.length) (fun b=>3-b.1) (1,[]) (Wk.trans (Wk.own 4 0 87 1 rfl rfl (zL_ _)) Wk.go) ⟨by omega,by omega,fun p h=>(by cases h),zL_ _⟩ fun⟨z,o⟩ hb=> ?_
 obtain⟨hz1,hz3,ho,hol⟩:=hb;simp only at hz1 hz3 ho hol;conv=>whnf
 refine bs (fun h1=> ?_) (fun h1=> ?_)
 ·conv=>whnf
  have h1':z≤2:=by have:=of_decide_eq_true h1;omega
  refine .mk (Nat×List (List Int)) (fun(j,o)=>⟨[(6,vl (.int .i64 (j:Nat))),(5,vl (.int .i64 (z:Nat))),(4,.a (.own 0 1 (psR o))),(3,.a (.d (psD ps)))],[(0,.arr 87 1 (psR o).length)],1⟩)
   (fun b=>b.1≤ps.length∧(∀p∈b.2,PatOk (k+1) p)∧b.2.length≤(z-1)*ps.length+b.1) (fun b=>ps.length-b.1) (0,o) Wk.go ⟨zL_ _,ho,hol⟩ fun⟨j,o⟩ hb=> ?_
  obtain⟨hj,ho,hol⟩:=hb;simp only at hj ho hol;conv=>whnf
  refine bs (fun h2=> ?_) (fun h2=> ?_)
  ·conv=>whnf
   have h2':j<ps.length:=by simpa using h2
   obtain⟨p,hpj⟩:=at_some h2';have hpo:=hp p (mG_ hpj);have hpl:=hpo.len;have hol2:(z-1)*ps.length≤1*ps.length:=Nat.mul_le_mul_right _ (by omega);refine .mk (j) ([intsD p]) (rfl) (ps_at hpj) ?_;conv=>whnf
   conv=>whnf
   refine .mk (intR ((z:Int)::p)) rfl rfl (by simp;omega) ?_;conv=>whnf
   refine .mk (psR (o++[(z:Int)::p])) rfl (by rw[psR,List.map_append];rfl) (by simp;omega) ?_;conv=>whnf
   refine⟨(j+1,o++[(z:Int)::p]),Wk.go,⟨h2',fun q hq=> ?_,by simp;omega⟩,by simp only;omega⟩;rcases List.mem_append.1 hq with hq|hq
   ·exact ho q hq
   ·rw[List.mem_singleton.1 hq];refine⟨by rw[List.length_cons,hpl],fun y hy=> ?_⟩;rcases List.mem_cons.1 hy with hy|hy
    ·omega
    ·exact hpo.ph y hy
  ·conv=>whnf
   have ej:j=ps.length:=by simp at h2;omega
   subst ej;refine⟨(z+1,o),Wk.go,⟨by omega,by omega,ho,?_⟩,by simp only;omega⟩;simp only;rw[show z+1-1=(z-1)+1 by omega,Nat.add_mul,Nat.one_mul];exact hol
 ·conv=>whnf
  have h1':z=3:=by have:=of_decide_eq_false h1;omega
  subst h1';exact .s ⟨o,⟨ho,by omega⟩,rfl,rfl⟩
theorem pl_All:∀k,k≤8→∃ps:List (List Int),(∀p∈ps,PatOk k p)∧ps.length≤2^k∧LV Tryz.prog 29 [vl (.int .i64 (k:Nat))] (.a (.d (psD ps)))
 |0,_=>⟨[[]],fun p hp=>by rw[List.mem_singleton.1 hp];exact⟨rfl,fun z h=>(by cases h)⟩,by simp,pl_all0⟩
 |k+1,h=>by
  obtain⟨ps,h1,h2,h3⟩:=pl_All k (by omega);have hp:2^k≤2^8:=Nat.pow_le_pow_right (by omega) (by omega);obtain⟨qs,k1,k2,k3⟩:=pl_allS h1 (by omega) (by omega) h3;exact⟨qs,k1,by rw[Nat.pow_succ];omega,k3⟩
def V0 (n:Nat):List Af:=(List.range n).map fun i:Nat=>varS (i:Nat)
def vlS (g:Gr)(p:List Int):Nat→List Af
 |0=>V0 g.n
 |j+1=>vlS g p j++[if p[j]? =some 2 then numS 0 else insS (atF g.us (j:Nat)) (vlS g p j)]
def preS (g:Gr)(p:List Int)(j:Nat):Af:=insS (atF g.us (j:Nat)) (vlS g p j)
def preL (g:Gr)(p:List Int)(J:Nat):List Af:=(List.range J).map (preS g p)
def outL (g:Gr)(p:List Int)(J:Nat):List Af:=(g.os.take J).map fun f=>insS f (vlS g p g.us.length)
def uBi:Nat→Nat
 |0=>1
 |j+1=>5+8*(uBi j+6)
theorem V0_len {n:Nat}:(V0 n).length=n:=by simp[V0]
theorem V0_succ {n:Nat}:V0 (n+1)=V0 n++[varS (n:Nat)]:=by simp[V0,List.range_succ]
theorem vl_len {g:Gr}{p:List Int}:∀j,(vlS g p j).length=g.n+j
 |0=>V0_len
 |j+1=>by rw[vlS,List.length_append,vl_len j];rfl
theorem pre_len {g:Gr}{p:List Int}{j:Nat}:(preL g p j).length=j:=by simp[preL]
theorem pre_succ {g:Gr}{p:List Int}{j:Nat}:preL g p (j+1)=preL g p j++[preS g p j]:=by simp[preL,List.range_succ]
theorem atF_nat {l:List Af}{i:Nat}{f:Af}(h:l[i]? =some f):atF l (i:Nat)=f:=by unfold atF;rw[Int.toNat_natCast,h];rfl
theorem atF_mem {l:List Af}{v:Int}(h0:0≤v)(h1:v<l.length):atF l v∈l:=by
 obtain⟨x,hx⟩:=at_some (l:=l) (i:=v.toNat) (by omega);have:atF l v=x:=by unfold atF;rw[hx];rfl
 rw[this];exact mG_ hx
theorem vl_FB {g:Gr}(hg:GrB g){p:List Int}:∀j,j≤g.us.length→∀x∈vlS g p j,FB (uBi j) (g.n:Nat) x
 |0,_,x,hx=>by
  obtain⟨i,hi,rfl⟩:=List.mem_map.1 hx;have:=List.mem_range.1 hi;exact(FB.var (by omega) (by omega)).up (by simp[uBi]) (Int.le_refl _)
 |j+1,hj,x,hx=>by
  have ih:=vl_FB hg (p:=p) j (by omega);obtain⟨f,hf⟩:=at_some (l:=g.us) (i:=j) (by omega);have hf5:=hg.us j f hf;have hl:=hf5.ts.len (by omega);have hn:=hg.n2;have hu:=hg.u1;rw[vlS]at hx;rcases List.mem_append.1 hx with h|h
  ·exact(ih x h).up (by rw[uBi];omega) (Int.le_refl _)
  ·rw[List.mem_singleton.1 h];split
   ·exact FB.z _ _
   ·rw[atF_nat hf];have:=insI_FB hf5 (fun v h1 h2=>ih _ (atF_mem h1 (by rw[vl_len];exact h2))) f.ts.length (lR_ _);rw[insI_all]at this;refine this.up ?_ (Int.le_refl _);rw[uBi];exact Nat.add_le_add_left (Nat.mul_le_mul_right _ (by omega)) _
theorem uBi_le:∀j,j≤4→uBi j≤100000:=by decide
abbrev zD:List D:=[.lit (.slice none 0 0),.lit (.bool false),.lm (limbs 0),.lm (limbs 0)]
abbrev afR (l:List Af):List (List D):=l.map Af.D
theorem all2_back {α β:Type}{R:α→β→Prop}:∀{xs:List α} {ys:List β},All2 R xs ys→xs.length=ys.length∧∀(i:Nat) y,ys[i]? =some y→∃x,xs[i]? =some x∧R x y
 |[],[],_=>⟨rfl,fun i y h=>by simp at h⟩
 |x::xs,y::ys,h=>⟨by rw[List.length_cons,List.length_cons,(all2_back h.2).1],fun i z hz=>by
  cases i with
  |zero=>injection hz with hz;subst hz;exact⟨x,rfl,h.1⟩
  |succ i=>exact(all2_back h.2).2 i z hz⟩
 |[],_::_,h=>h.elim
 |_::_,[],h=>h.elim
theorem WkA.ownD {key k:Nat}{xs ys:List (List D)}(h:All2 (All2 WkD) xs ys):WkA (.own key k xs) (.own key k ys):=fun γ hp M w r ⟨q1,q2,q3⟩=>by
 obtain⟨hl,hb⟩:=all2_back h;refine⟨?_,q2,fun e k' n he=>hl▸q3 e k' n he⟩
 cases q1 with
 |sl k xs ad cap vs hc hlm h0 hk h1 hr=>
  rw[hl]
  have hrow:∀(i j:Nat) row d,ys[i]? =some row→row[j]? =some d→∃row' d',xs[i]? =some row'∧row'[j]? =some d'∧WkD d' d:=fun i j row d hi hj=>by
   obtain⟨row',e1,e2⟩:=hb i row hi;obtain⟨d',e3,e4⟩:=(all2_back e2).2 j d hj;exact⟨row',d',e1,e3,e4⟩
  refine .sl k ys ad cap vs (hl▸hc) (hl▸hlm) (fun hp=> ?_) (fun i row hi=> ?_) h1 fun i row j d hi hj=> ?_
  ·obtain⟨b,o,e,hf⟩:=h0 (hl▸hp);refine⟨b,o,e,fun i row j d hi hj=> ?_⟩;obtain⟨row',d',e1,e2,_⟩:=hrow i j row d hi hj;exact hf i row' j d' e1 e2
  ·obtain⟨row',e1,e2⟩:=hb i row hi;rw[←(all2_back e2).1];exact hk i row' e1
  ·obtain⟨row',d',e1,e2,e3⟩:=hrow i j row d hi hj;exact e3 _ _ _ (hr i row' j d' e1 e2)
theorem WkD.nil {k:Nat}:WkD (.lit (.slice none 0 0)) (.sl k []):=fun _ _ _ q=>by rw[lit_inv q];exact nil_ok k
theorem all2_snoc {α β:Type}{R:α→β→Prop}{x:α}{y:β}(h:R x y):∀{xs:List α} {ys:List β},All2 R xs ys→All2 R (xs++[x]) (ys++[y])
 |[],[],_=>⟨h,trivial⟩
 |_::_,_::_,q=>⟨q.1,all2_snoc h q.2⟩
 |[],_::_,q=>q.elim
 |_::_,[],q=>q.elim
theorem pl_vall {g:Gr}{p:List Int}(hg:GrB g)(hp:PatOk g.us.length p):
  LX Tryz.prog 65 [.agg g.A,.a (.d (intsD p))] [] fun v H=>v= .tup [.s (.own 0 4 (afR (vlS g p g.us.length))),.s (.own 1 4 (afR (preL g p g.us.length))),.s (.own 2 4 (afR (outL g p g.os.length))),.s (.d (.lit (.int .i64 0)))]∧
   H=[(0,.arr 36 4 (afR (vlS g p g.us.length)).length),(1,.arr 36 4 (afR (preL g p g.us.length)).length),(2,.arr 36 4 (afR (outL g p g.os.length)).length)]:=by
 have n1:=hg.n1;have n2:=hg.n2;have u1:=hg.u1;have o1:=hg.o1;have o2:=hg.o2;have pl:=hp.len;refine LX_run (m:=0) (n0:=3) mix Tryz.func65 rfl rfl rfl rfl ?_;conv=>whnf
 refine .c (lx_zgvalid hg.ok) ?_;conv=>whnf
 refine bF ((by simp[pl])) ?_;conv=>whnf
 refine .c (pl_complete hp (by omega)) ?_;conv=>whnf
 refine .mk Nat (fun i=>⟨[(11,vl (.int .i64 (i:Nat))),(10,vl (.slice none 0 0)),(9,vl (.slice none 0 0)),(8,.a (.own 0 4 (afR (V0 i)))),(2,.a (.ptr 3 0)),(1,.a (.d (intsD p)))],[(3,.box 26 g.A),(0,.arr 36 4 (afR (V0 i)).length)],4⟩)
  (fun i=>i≤g.n) (fun i=>g.n-i) 0 (Wk.trans (Wk.own 8 0 36 4 rfl rfl (zL_ _)) Wk.go) (zL_ _) fun i hi=> ?_
 conv=>whnf
 refine bs (fun h1=> ?_) (fun h1=> ?_)
 ·conv=>whnf
  have h1':i<g.n:=by have:=of_decide_eq_true h1;omega
  refine .c (lx_zof (z:=1) (by decide) (by decide)) ?_;conv=>whnf
  refine .mk (afR (V0 (i+1))) rfl (by rw[V0_succ,afR,List.map_append];show _++[D.sl 4 _::(can 0).D]=_;rw[can0];rfl) (by simp[V0_len];omega) ?_;conv=>whnf
  exact⟨i+1,Wk.go,h1',by omega⟩
 ·conv=>whnf
  have ei:i=g.n:=by have:=of_decide_eq_false h1;omega
  subst ei;refine .mk Nat (fun j=>⟨[(12,vl (.int .i64 (j:Nat))),(10,vl (.slice none 0 0)),(9,.a (.own 1 4 (afR (preL g p j)))),(8,.a (.own 0 4 (afR (vlS g p j)))),(2,.a (.ptr 3 0)),(1,.a (.d (intsD p)))],[(3,.box 26 g.A),(0,.arr 36 4 (afR (vlS g p j)).length),(1,.arr 36 4 (afR (preL g p j)).length)],4⟩)
   (fun j=>j≤g.us.length) (fun j=>g.us.length-j) 0 (Wk.trans (Wk.own 9 1 36 4 rfl rfl (zL_ _)) Wk.go) (zL_ _) fun j hj=> ?_
  conv=>whnf
  refine bs (fun h2=> ?_) (fun h2=> ?_)
  ·conv=>whnf
   have h2':j<g.us.length:=by simpa using h2
   obtain⟨f,hf⟩:=at_some h2';have hf5:=hg.us j f hf;have hvf:=vl_FB hg (p:=p) j hj;have hB:=uBi_le j (by omega);obtain⟨z,hz⟩:=at_some (l:=p) (i:=j) (by omega);refine .mk (j) (f.D) (rfl) (at_map hf) ?_;conv=>whnf
   conv=>whnf
   refine .c (pz_insert (vs:=vlS g p j) hf5 (by rw[vl_len];omega) (by omega) (by omega) hvf (by omega) (by omega) (by omega)) ?_;conv=>whnf
   refine .mk (afR (preL g p (j+1))) rfl (by rw[pre_succ,afR,List.map_append,preS,atF_nat hf];rfl) (by simp[pre_len];omega) ?_;conv=>whnf
   refine .mk (j) ([D.lit (.int .i64 z)]) (rfl) (int_at hz) ?_;conv=>whnf
   conv=>whnf
   refine bs (fun h3=> ?_) (fun h3=> ?_)
   ·conv=>whnf
    have h3':z=2:=by simpa using h3
    have hv:vlS g p (j+1)=vlS g p j++[numS 0]:=by rw[vlS,if_pos (by rw[hz,h3'])]
    have hlen:(afR (vlS g p j)++[zD]).length=(afR (vlS g p (j+1))).length:=by rw[hv];simp
    refine .mk (afR (vlS g p j)++[zD]) rfl rfl (by simp[vl_len];omega) ?_;conv=>whnf
    refine⟨j+1,?_,h2',by omega⟩;rw[hlen];have hwk:WkA (.own 0 4 (afR (vlS g p j)++[zD])) (.own 0 4 (afR (vlS g p (j+1)))):=by
     refine WkA.ownD ?_;rw[hv,show afR (vlS g p j++[numS 0])=afR (vlS g p j)++[(numS 0).D]from List.map_append ..];refine all2_snoc ?_ (wkds_refl _);show All2 WkD zD (D.sl 4 []::(can 0).D);rw[can0];exact⟨WkD.nil,WkD.refl _,WkD.refl _,WkD.refl _,trivial⟩
    exact Wk.go (h1:=by(repeat' first|exact trivial|exact vR_ _|exact WkV.int (wr64 (by omega) (by omega))|exact WkV.of hwk|refine⟨⟨_,rfl,?_,rfl⟩,?_⟩))
   ·conv=>whnf
    have h3':¬z=2:=by simpa using h3
    have hv:vlS g p (j+1)=vlS g p j++[insS f (vlS g p j)]:=by rw[vlS,if_neg (by rw[hz];simpa using h3'),atF_nat hf]
    refine .mk (afR (vlS g p (j+1))) rfl (by rw[hv,afR,List.map_append];rfl) (by simp[vl_len];omega) ?_;conv=>whnf
    exact⟨j+1,Wk.go,h2',by omega⟩
  ·conv=>whnf
   have ej:j=g.us.length:=by simp at h2;omega
   subst ej;have hvf:=vl_FB hg (p:=p) g.us.length (lR_ _);have hB:=uBi_le g.us.length (by omega)
   refine .mk Nat (fun i=>⟨[(14,vl (.int .i64 (i:Nat))),(10,.a (.own 2 4 (afR (outL g p i)))),(9,.a (.own 1 4 (afR (preL g p g.us.length)))),(8,.a (.own 0 4 (afR (vlS g p g.us.length)))),(2,.a (.ptr 3 0)),(1,.a (.d (intsD p)))],
    [(3,.box 26 g.A),(0,.arr 36 4 (afR (vlS g p g.us.length)).length),(1,.arr 36 4 (afR (preL g p g.us.length)).length),(2,.arr 36 4 (afR (outL g p i)).length)],4⟩)
    (fun i=>i≤g.os.length) (fun i=>g.os.length-i) 0 (Wk.trans (Wk.own 10 2 36 4 rfl rfl (zL_ _)) Wk.go) (zL_ _) fun i hi=> ?_
   conv=>whnf
   refine bs (fun h4=> ?_) (fun h4=> ?_)
   ·conv=>whnf
    have h4':i<g.os.length:=by simpa using h4
    obtain⟨f,hf⟩:=at_some h4';have hf5:=hg.os f (mG_ hf);refine .mk (i) (f.D) (rfl) (at_map hf) ?_;conv=>whnf
    conv=>whnf
    refine .c (pz_insert (vs:=vlS g p g.us.length) hf5 (by rw[vl_len];omega) (by omega) (by omega) hvf (by omega) (by omega) (by omega)) ?_;conv=>whnf
    refine .mk (afR (outL g p (i+1))) rfl (by rw[outL,take_snoc hf,List.map_append,afR,List.map_append];rfl) (by simp[outL];omega) ?_;conv=>whnf
    exact⟨i+1,Wk.go,h4',by omega⟩
   ·conv=>whnf
    have ei:i=g.os.length:=by simp at h4;omega
    subst ei;exact⟨_,_,⟨rfl,rfl⟩,vR_ _,rfl,⟨⟨_,rfl,wke_refl _,rfl⟩,⟨_,rfl,wke_refl _,rfl⟩,⟨_,rfl,wke_refl _,rfl⟩,trivial⟩,rfl⟩
section
variable {γ γ':Gh} {h h':Hp} {M:MS} {w:World} {g:Nat}
def NI (M:MS)(w:World)(g:Nat):Prop:=∀i u,Fx M w g i u→∀k z,u≠ .int k z
abbrev Mg (M:MS)(g:Nat):MS:=fun b i=>M b i∨b=g
theorem ni_fx (hg:NI M w g){b i:Nat}{u:Value}(h:Fx M w b i u)(hb:b≠g):Fx (Mg M g) w b i u:=⟨fun q=>q.elim h.1 hb,h.2⟩
theorem ni_lm (hg:NI M w g){xs:List Nat}{v:Value}(hv:RdD M w (.lm xs) v):RdD (Mg M g) w (.lm xs) v:=by
 cases hv with
 |lm xs v hs hm=>
  refine .lm xs v hs fun b o l c he i hi hq=> ?_;rcases hq with hq|hq
  ·exact hm b o l c he i hi hq
  ·obtain⟨ad,n,cap,e1,h1,h2,h3,h4,h5⟩:=hs;rw[he]at e1;injection e1 with e1 e2 e3;subst e2 e3;obtain⟨b',off,e4,hb,hc⟩:=h5 (by omega);rw[e4]at e1;injection e1 with e1;injection e1 with e5 e6;subst e5 e6 hq;exact hg (o+i) _ ⟨hm b o l c he i hi,hc i hi⟩ _ _ rfl
theorem ni_sl (hg:NI M w g){k:Nat}{xs:List (List D)}{v:Value}(hv:RdD M w (.sl k xs) v)(h1:∀row∈xs,∃kk z r,row=D.lit (.int kk z)::r)(h2:∀row∈xs,∀d∈row,∀u,RdD M w d u→RdD (Mg M g) w d u):RdD (Mg M g) w (.sl k xs) v:=by
 cases hv with
 |sl k xs ad cap vs hc hl h0 hk h1' hr=>
  refine .sl k xs ad cap vs hc hl (fun hp=> ?_) hk h1' fun i row j d hi hj=>h2 row (mG_ hi) d (mG_ hj) _ (hr i row j d hi hj);obtain⟨b,o,e,hf⟩:=h0 hp;refine⟨b,o,e,fun i row j d hi hj=>ni_fx hg (hf i row j d hi hj) ?_⟩;intro hb;subst hb;obtain⟨kk,z,r,rfl⟩:=h1 row (mG_ hi);have f0:=hf i _ 0 _ hi rfl;have q0:=hr i _ 0 _ hi rfl;exact hg _ _ f0 kk z (lit_inv (M:=M) (w:=w) q0)
theorem ni_lit {v u:Value}(hv:RdD M w (.lit v) u):RdD (Mg M g) w (.lit v) u:=by cases hv with|lit v=>exact .lit _
theorem ni_tms (hg:NI M w g){ts:List Tm}{v:Value}(hv:RdD M w (.sl 4 (ts.map Tm.D)) v):RdD (Mg M g) w (.sl 4 (ts.map Tm.D)) v:=by
 refine ni_sl hg hv (fun row hr=> ?_) fun row hr d hd u hu=> ?_
 ·obtain⟨t,_,rfl⟩:=List.mem_map.1 hr;exact⟨_,_,_,rfl⟩
 ·obtain⟨t,_,rfl⟩:=List.mem_map.1 hr;simp only[Tm.D,List.mem_cons,List.not_mem_nil,or_false]at hd;rcases hd with rfl|rfl|rfl|rfl
  ·exact ni_lit hu
  ·exact ni_lit hu
  ·exact ni_lm hg hu
  ·exact ni_lm hg hu
theorem af_ni (hg:NI M w g){f:Af}:∀d∈f.D,∀u,RdD M w d u→RdD (Mg M g) w d u:=fun d hd u hu=>by
 simp only[Af.D,List.mem_cons,List.not_mem_nil,or_false]at hd;rcases hd with rfl|rfl|rfl|rfl
 ·exact ni_tms hg hu
 ·exact ni_lit hu
 ·exact ni_lm hg hu
 ·exact ni_lm hg hu
theorem af_nint {f:Af}:∀d∈f.D,∀u,RdD M w d u→∀k z,u≠ .int k z:=fun d hd u hu k z e=>by
 subst e;simp only[Af.D,List.mem_cons,List.not_mem_nil,or_false]at hd;rcases hd with rfl|rfl|rfl|rfl
 ·cases hu
 ·cases hu
 ·cases hu with|lm _ _ hs _=>obtain⟨ad,n,cap,e,_⟩:=hs;cases e
 ·cases hu with|lm _ _ hs _=>obtain⟨ad,n,cap,e,_⟩:=hs;cases e
end
theorem LX.thaw {P:Program}{F:FuncId}{args:List V}{e:TypeId}{vs ps os:List Af}{r:Int}(hvs:vs≠[])(hps:ps≠[])(hos:os≠[])
  (hc:LX P F args [] fun v H=>v= .tup [.s (.own 0 4 (vs.map Af.D)),.s (.own 1 4 (ps.map Af.D)),.s (.own 2 4 (os.map Af.D)),.s (.d (.lit (.int .i64 r)))]∧H=[(0,.arr e 4 (vs.map Af.D).length),(1,.arr e 4 (ps.map Af.D).length),(2,.arr e 4 (os.map Af.D).length)]):
  LX P F args [] fun v H=>v= .tup [.s (.tab 0 (vs.map Af.D).length),.s (.tab 1 (ps.map Af.D).length),.s (.tab 2 (os.map Af.D).length),.s (.d (.lit (.int .i64 r)))]∧H=[(0,.gone),(1,.tab e 4 (ps.map Af.D)),(2,.gone)]:=by
 obtain⟨_,_,⟨rfl,rfl⟩,hc⟩:=hc;refine⟨_,_,⟨rfl,rfl⟩,fun γ M w rs hr ha=> ?_⟩;refine cM (hc γ M w rs hr ha) ?_;rintro e' w' ⟨x,γ',M',h1,h2,h3,h4⟩;obtain⟨ws,rfl,h3⟩:=h3
 match ws,h3 with
 |[v0,v1,v2,v3],⟨a0,a1,a2,a3,_⟩=>
 have key:∀(kk:Nat) (l:List Af) (v:Value),l≠[]→look [(0,Ent.arr e 4 (vs.map Af.D).length),(1,.arr e 4 (ps.map Af.D).length),(2,.arr e 4 (os.map Af.D).length)] kk=some (.arr e 4 (l.map Af.D).length)→
   RdA γ' (look [(0,Ent.arr e 4 (vs.map Af.D).length),(1,.arr e 4 (ps.map Af.D).length),(2,.arr e 4 (os.map Af.D).length)]) M' w' (.own kk 4 (l.map Af.D)) v→
   ∃g cap cur,v= .slice (some ⟨g,0,none⟩) (l.map Af.D).length cap∧γ' kk=v∧w'.heap[g]? =some (.cells cur e (0,0))∧(l.map Af.D).length≤cap∧cur.size=cap*4:=by
  intro kk l v hl hk ⟨b1,b2,b3⟩;have b4:=(b3 e 4 _ hk).2 rfl;obtain⟨xs,hx⟩:=h2.ent kk _ hk;rw[←b4]at hx;rcases hx.2 with⟨q1,q2⟩|⟨g,cap,cur,q1,_,q2,q3,_,q4,_⟩
  ·exfalso;apply hl;exact List.map_eq_nil_iff.1 (List.eq_nil_of_length_eq_zero q2)
  ·exact⟨g,cap,cur,q1,b4.symm,q2,q3,q4⟩
 obtain⟨g0,c0,cur0,rfl,y0,z0,l0,_⟩:=key 0 vs v0 hvs rfl a0;obtain⟨g1,c1,cur1,rfl,y1,z1,l1,s1⟩:=key 1 ps v1 hps rfl a1;obtain⟨g2,c2,cur2,rfl,y2,z2,l2,_⟩:=key 2 os v2 hos rfl a2
 have hroom:∀i,(ps.map Af.D).length*4≤i→M' g1 i:=fun i hi=>h2.own 1 g1 i (by
  show blk (γ' 1)=some g1∧_;exact⟨by rw[y1];rfl,hi⟩)
 have hnew:w.heap.size≤g1:=by
  rcases Nat.lt_or_ge g1 w.heap.size with hlt|hge
  ·obtain⟨key0,ho⟩:=h4.new 1 g1 ((ps.map Af.D).length*4) (by
    show blk (γ' 1)=some g1∧_;exact⟨by rw[y1];rfl,lR_ _⟩) hlt
   exact absurd ho (by unfold Owns;simp[look])
  ·exact hge
 obtain⟨m1,m2,m3,m4,cx,k1,k2,k3,k4⟩:=sl_cells a1.1 (by decide);have hpos:0<(ps.map Af.D).length:=by
  rcases eP_ (ps.map Af.D).length with h0|h0
  ·exfalso;apply hps;exact List.map_eq_nil_iff.1 (List.eq_nil_of_length_eq_zero h0)
  ·exact h0
 obtain⟨b,o,eb,hfx⟩:=k3 hpos;injection eb with eb;injection eb with eb eo _;subst eb eo
 have hcur:∀q u,cx[q]? =some u→cur1[q]? =some u:=fun q u hq=>by
  have:=(hfx q u hq).2;simp only[World.cell?,z1,Nat.zero_add]at this;simpa using this
 obtain⟨f1,f2⟩:=rows_flatten (xs:=ps.map Af.D) m4
 have hel:∀q u,cx[q]? =some u→∃d,(ps.map Af.D).flatten[q]? =some d∧(∃f:Af,d∈f.D)∧RdD M' w' d u:=fun q u hq=>by
  have hlt:=(List.getElem?_eq_some_iff.1 hq).1;obtain⟨i,j,row,e1,e2,e3⟩:=f2 q _ (List.getElem?_eq_getElem (by rw[f1];omega));obtain⟨u',t1,t2⟩:=k4 i row j _ e2 e3;rw[←e1,hq]at t1;injection t1 with t1;subst t1;refine⟨_,List.getElem?_eq_getElem _,?_,t2⟩;obtain⟨f,_,rfl⟩:=List.mem_map.1 (mG_ e2);exact⟨f,mG_ e3⟩
 have hcell:∀i u,Fx M' w' g1 i u→cx[i]? =some u:=fun i u hf=>by
  have hi:i<(ps.map Af.D).length*4:=by
   rcases Nat.lt_or_ge i ((ps.map Af.D).length*4)with hlt|hge
   ·exact hlt
   ·exact absurd (hroom i hge) hf.1
  have hlt:i<cx.length:=by omega
  have hq:=List.getElem?_eq_getElem hlt;have:=(hfx i _ hq).2;rw[Nat.zero_add]at this;rw[hf.2]at this;injection this with this;rw[hq,this]
 have hni:NI M' w' g1:=fun i u hf k z=>by
  obtain⟨d,_,⟨f,hd⟩,hu⟩:=hel i u (hcell i u hf);exact af_nint d hd u hu k z
 have hall:All2 (RdD (Mg M' g1) w') (ps.map Af.D).flatten cx:=by
  refine All2.of_get (by rw[f1];omega) fun q d u hd hq=> ?_;obtain⟨d',e1,⟨f,hf⟩,hu⟩:=hel q u hq;rw[hd]at e1;injection e1 with e1;subst e1;exact af_ni hni d hf u hu
 have hcur2:cur1=(cx++cur1.toList.drop cx.length).toArray:=by
  apply Array.ext';rw[List.toList_toArray];have:cur1.toList.take cx.length=cx:=by
   refine List.ext_getElem? fun q=> ?_;rw[List.getElem?_take];split
   ·rename_i hq;rw[List.getElem?_eq_getElem hq,Array.getElem?_toList];exact hcur q _ (List.getElem?_eq_getElem hq)
   ·rw[List.getElem?_eq_none (by omega)]
  conv=>lhs;rw[←List.take_append_drop cx.length cur1.toList,this]
 have hf0:∀b i v,Fx M w b i v→Fx (Mg M' g1) w' b i v:=fun b i v hf=>by
  have hb:=World.block_lt_of_cell? _ _ hf.2;exact ni_fx hni (h4.fx b i v hf) (by simp only at hb;omega)
 have hown:∀key b i,Owns (fun k=>if k=0 then .pointer (some ⟨g0,0,none⟩)else if k=1 then .pointer (some ⟨g1,0,none⟩)else .pointer (some ⟨g2,0,none⟩)) (look [(0,Ent.gone),(1,.tab e 4 (ps.map Af.D)),(2,.gone)]) key b i→key=1∧b=g1:=fun key b i ho=>by
  unfold Owns at ho;simp only[look]at ho
  by_cases e0:key=0
  ·subst e0;simp at ho
  ·rw[if_neg (fun h=>e0 h.symm)]at ho
   by_cases e1:key=1
   ·subst e1;simp[blk]at ho;exact⟨rfl,ho.symm⟩
   ·rw[if_neg (fun h=>e1 h.symm)]at ho
    by_cases e2:key=2
    ·subst e2;simp at ho
    ·rw[if_neg (fun h=>e2 h.symm)]at ho;simp at ho
 have hlive:∀key,live (look [(0,Ent.gone),(1,.tab e 4 (ps.map Af.D)),(2,.gone)] key)=true→key=1:=fun key hk=>by
  simp only[look]at hk
  by_cases e0:key=0
  ·subst e0;simp[live]at hk
  ·rw[if_neg (fun h=>e0 h.symm)]at hk
   by_cases e1:key=1
   ·exact e1
   ·rw[if_neg (fun h=>e1 h.symm)]at hk
    by_cases e2:key=2
    ·subst e2;simp[live]at hk
    ·rw[if_neg (fun h=>e2 h.symm)]at hk;simp[live]at hk
 refine⟨_,fun k=>if k=0 then .pointer (some ⟨g0,0,none⟩)else if k=1 then .pointer (some ⟨g1,0,none⟩)else .pointer (some ⟨g2,0,none⟩),Mg M' g1,h1,⟨fun key en hk=> ?_,fun key b i ho=> .inr (hown _ _ _ ho).2,fun k1' k2' b l1' l2' _ _=>by rw[hlive _ l1',hlive _ l2'],fun b i z hm=> ?_,fun b i hm=> ?_,hr.glb.fx hf0⟩,⟨_,rfl,?_,?_,?_,(by rw[show v3= .int .i64 r from lit_inv a3];exact .lit _),trivial⟩,
  ⟨h4.os,h4.tape,h4.output,h4.size,hf0,h4.other,fun b i hm hn=> .inl (h4.keep b i hm hn),fun key b i ho hb=>by have:=(hown _ _ _ ho).2;omega,fun key en hk=>by simp[look]at hk⟩⟩
 ·simp only[look]at hk
  by_cases e0:key=0
  ·subst e0;simp at hk;subst hk;trivial
  ·rw[if_neg (fun h=>e0 h.symm)]at hk
   by_cases e1:key=1
   ·subst e1;simp at hk;subst hk;refine⟨g1,cx,cur1.toList.drop cx.length,rfl,by rw[←hcur2];exact z1,fun row hrow=> ?_,hall,k2⟩;obtain⟨f,_,rfl⟩:=List.mem_map.1 hrow;rfl
   ·rw[if_neg (fun h=>e1 h.symm)]at hk
    by_cases e2:key=2
    ·subst e2;simp at hk;subst hk;trivial
    ·rw[if_neg (fun h=>e2 h.symm)]at hk;simp at hk
 ·rcases hm with hm|hm
  ·exact h2.u32 b i z hm
  ·subst hm;intro hcl;rcases Classical.em (∃u,cx[i]? =some u)with⟨u,hu⟩|hno
   ·obtain⟨d,_,⟨f,hd⟩,hru⟩:=hel i u hu;have:=(hfx i u hu).2;rw[Nat.zero_add,hcl]at this;injection this with this;exact af_nint d hd u hru _ _ this.symm
   ·have hge:(ps.map Af.D).length*4≤i:=by
     rcases Nat.lt_or_ge i ((ps.map Af.D).length*4)with hlt|hge
     ·exfalso;exact hno ⟨_,List.getElem?_eq_getElem (by omega)⟩
     ·exact hge
    exact h2.u32 b i z (hroom i hge) hcl
 ·rcases hm with hm|hm
  ·exact h2.dom b i hm
  ·subst hm;exact(Array.getElem?_eq_some_iff.1 z1).1
 ·exact⟨rfl,⟨g0,c0,rfl,rfl,l0⟩,fun e1 k rows he=>by simp[look]at he⟩
 ·refine⟨rfl,⟨g1,c1,rfl,rfl,l1⟩,fun e1 k rows he=> ?_⟩;simp[look]at he;rw[←he.2.2,List.length_map]
 ·exact⟨rfl,⟨g2,c2,rfl,rfl,l2⟩,fun e1 k rows he=>by simp[look]at he⟩
def pcE (g:Gr)(p:List Int)(i j:Nat):Af:=if j<i∧p[j]? =some 2 then scaleS (preS g p j) m1 else preS g p j
def pcS (g:Gr)(p:List Int)(J i:Nat):List Af:=(List.range J).map (pcE g p i)
theorem pc_len {g:Gr}{p:List Int}{J i:Nat}:(pcS g p J i).length=J:=by simp[pcS]
theorem pc_at {g:Gr}{p:List Int}{J i j:Nat}(h:j<J):(pcS g p J i)[j]? =some (pcE g p i j):=by
 unfold pcS;rw[List.getElem?_map,List.getElem?_range h];rfl
theorem pc_zero {g:Gr}{p:List Int}{J:Nat}:pcS g p J 0=preL g p J:=by
 unfold pcS preL;refine List.map_congr_left fun j _=> ?_;rw[pcE,if_neg (fun h=>by omega)]
theorem pc_set {g:Gr}{p:List Int}{J i:Nat}(h:i<J)(h2:p[i]? =some 2):(pcS g p J i).set i (scaleS (preS g p i) m1)=pcS g p J (i+1):=by
 refine List.ext_getElem? fun j=> ?_;rw[List.getElem?_set]
 by_cases e:i=j
 ·subst e;rw[if_pos rfl,if_pos (by rw[pc_len];exact h),pc_at h,pcE,if_pos ⟨by omega,h2⟩]
 ·rw[if_neg e];rcases Nat.lt_or_ge j J with hj|hj
  ·rw[pc_at hj,pc_at hj,pcE,pcE]
   by_cases hc:j<i∧p[j]? =some 2
   ·rw[if_pos hc,if_pos ⟨by omega,hc.2⟩]
   ·rw[if_neg hc,if_neg (fun q=>hc ⟨by omega,q.2⟩)]
  ·rw[List.getElem?_eq_none (by rw[pc_len];exact hj),List.getElem?_eq_none (by rw[pc_len];exact hj)]
theorem pc_same {g:Gr}{p:List Int}{J i:Nat}(h2:p[i]?≠some 2):pcS g p J (i+1)=pcS g p J i:=by
 unfold pcS;refine List.map_congr_left fun j _=> ?_;rw[pcE,pcE]
 by_cases hc:j<i∧p[j]? =some 2
 ·rw[if_pos hc,if_pos ⟨by omega,hc.2⟩]
 ·rw[if_neg hc,if_neg (fun q=>by
   rcases Nat.lt_succ_iff_lt_or_eq.1 q.1 with h|h
   ·exact hc ⟨h,q.2⟩
   ·subst h;exact h2 q.2)]
theorem pre_FB {g:Gr}(hg:GrB g){p:List Int}{j:Nat}(hj:j<g.us.length):FB 1000000 (g.n:Nat) (preS g p j):=by
 obtain⟨f,hf⟩:=at_some (l:=g.us) (i:=j) hj;have hf5:=hg.us j f hf;have hl:=hf5.ts.len (by omega);have hn:=hg.n2;have hu:=hg.u1;have ih:=vl_FB hg (p:=p) j (by omega);have hB:=uBi_le j (by omega);have:=insI_FB hf5 (fun v h1 h2=>ih _ (atF_mem h1 (by rw[vl_len];exact h2))) f.ts.length (lR_ _);rw[insI_all]at this;rw[preS,atF_nat hf];refine this.up ?_ (Int.le_refl _);have:f.ts.length*(uBi j+6)≤8*(100000+6):=Nat.mul_le_mul (by omega) (by omega);omega
theorem pl_forms {g:Gr}{p:List Int}(hg:GrB g)(hp:PatOk g.us.length p):LV Tryz.prog 30 [.agg g.A,.a (.d (intsD p))] (.tup [.s (.d (afsD (vlS g p g.us.length))),.s (.d (afsD (outL g p g.os.length))),.s (.d (.lit (.int .i64 0)))]):=by
 refine LX_run (m:=0) (n0:=0) mix Tryz.func30 rfl rfl rfl rfl ?_;conv=>whnf
 refine .l [] (pl_vall hg hp) ?_;conv=>whnf
 exact .s ⟨rfl,rfl⟩
theorem pl_piece {g:Gr}{p:List Int}(hg:GrB g)(hp:PatOk g.us.length p):LV Tryz.prog 31 [.agg g.A,.a (.d (intsD p))] (.tup [.s (.d (afsD (pcS g p g.us.length g.us.length))),.s (.d (.lit (.int .i64 0)))]):=by
 have n1:=hg.n1;have n2:=hg.n2;have u1:=hg.u1;have o1:=hg.o1;have o2:=hg.o2;have pl:=hp.len;rcases eP_ g.us.length with h0|hpos
 ·have ca:=pl_vall hg hp;rw[h0]at ca ⊢;refine LX_run (m:=0) (n0:=0) mix Tryz.func31 rfl rfl rfl rfl ?_;conv=>whnf
  refine .l [] (ca) ?_;conv=>whnf
  refine .mk Nat (fun i=>⟨[(10,vl (.int .i64 (i:Nat))),(7,.a (.own 2 4 (afR (preL g p 0)))),(1,.a (.d (intsD p)))],[(2,.arr 36 4 (afR (preL g p 0)).length)],4⟩) (fun i=>i≤0) (fun i=>0-i) 0 Wk.go (zL_ _) fun i hi=> ?_;conv=>whnf
  exact .s ⟨rfl,rfl⟩
 ·have ct:=LX.thaw (vs:=vlS g p g.us.length) (ps:=preL g p g.us.length) (os:=outL g p g.os.length) (by intro h;have:=congrArg List.length h;rw[vl_len]at this;simp at this;omega) (by intro h;have:=congrArg List.length h;rw[pre_len]at this;change g.us.length=0 at this;omega) (by intro h;have:=congrArg List.length h;rw[outL,List.length_map,List.length_take,Nat.min_self]at this;change g.os.length=0 at this;omega) (pl_vall hg hp);rw[←pc_zero]at ct;have hpl:((pcS g p g.us.length 0).map Af.D).length=g.us.length:=by rw[List.length_map,pc_len]
  rw[hpl]at ct;refine LX_run (m:=0) (n0:=0) mix Tryz.func31 rfl rfl rfl rfl ?_;conv=>whnf
  refine .l [] (ct) ?_;conv=>whnf
  refine .mkw Nat (fun i=>⟨[(10,vl (.int .i64 (i:Nat))),(7,.a (.tab 2 g.us.length)),(1,.a (.d (intsD p)))],[(2,.tab 36 4 ((pcS g p g.us.length i).map Af.D))],4⟩) (fun i=>i≤g.us.length) (fun i=>g.us.length-i) 0 Wk.go (zL_ _) fun i hi=> ?_;conv=>whnf
  refine bs (fun h1=> ?_) (fun h1=> ?_)
  ·conv=>whnf
   have h1':i<g.us.length:=by have:=of_decide_eq_true h1;omega
   obtain⟨z,hz⟩:=at_some (l:=p) (i:=i) (by omega);have hat:(pcS g p g.us.length i)[i]? =some (preS g p i):=by rw[pc_at h1',pcE,if_neg (fun h=>by omega)]
   refine .mk (i) ([D.lit (.int .i64 z)]) (rfl) (int_at hz) ?_;conv=>whnf
   conv=>whnf
   refine bs (fun h2=> ?_) (fun h2=> ?_)
   ·conv=>whnf
    have h2':z=2:=by simpa using h2
    have hfb:=pre_FB hg (p:=p) h1';refine .mk i rfl (by omega) ?_;conv=>whnf
    refine .mk i 0 (preS g p i).D rfl (at_map hat) ?_;conv=>whnf
    refine .c (lx_zofm) ?_;conv=>whnf
    refine .c (lx_scale hfb m1_b (by omega) (by omega) (by omega)) ?_;conv=>whnf
    refine .mk i rfl (by omega) ?_;conv=>whnf
    refine .mk i 0 (preS g p i).D ((pcS g p g.us.length (i+1)).map Af.D) rfl (at_map hat) (Nat.le_of_ble_eq_true rfl) (by rw[←pc_set h1' (by rw[hz,h2']),List.map_set];rfl) ?_;conv=>whnf
    refine .mk (by kernel_rfl) ?_;conv=>whnf
    exact⟨i+1,Wk.go,h1',by omega⟩
   ·conv=>whnf
    have h2':¬z=2:=by simpa using h2
    refine⟨i+1,?_,h1',by omega⟩;rw[pc_same (fun h=>by rw[hz]at h;injection h with h;exact h2' h)];exact Wk.go
  ·conv=>whnf
   have ei:i=g.us.length:=by have:=of_decide_eq_false h1;omega
   subst ei;refine⟨_,Wk.freeze 7 2 g.us.length rfl rfl (by omega),?_⟩;conv=>whnf
   exact .q ⟨rfl,rfl⟩
theorem pz_unit {v:Int}:LV Tryz.prog 66 [vl (.int .i64 v)] (.agg (varS v).A):=by
 refine LX_run (m:=0) (n0:=0) mix Tryz.func66 rfl rfl rfl rfl ?_;conv=>whnf
 refine .c (lx_zof (z:=1) (by decide) (by decide)) ?_;conv=>whnf
 exact .s ⟨by show _=V.agg (A.d _::(can 0).A);rw[can0];rfl,rfl⟩
def boxP (r:Rg)(j:Nat):List Af:=[subS (varS (j:Nat)) (numS (atQ r.lo (j:Nat))),subS (numS (atQ r.hi (j:Nat))) (varS (j:Nat))]
def boxR (r:Rg):Nat→List Af
 |0=>[]
 |i+1=>boxR r i++boxP r i
theorem boxR_len {r:Rg}:∀i,(boxR r i).length=2*i
 |0=>rfl
 |i+1=>by rw[boxR,List.length_append,boxR_len i];simp[boxP];omega
theorem boxR_mem {r:Rg}{f:Af}:∀{n:Nat},f∈boxR r n↔∃j,j<n∧f∈boxP r j
 |0=>by simp[boxR]
 |n+1=>by
  rw[boxR,List.mem_append,boxR_mem];constructor
  ·rintro(⟨j,h1,h2⟩|h)
   ·exact⟨j,by omega,h2⟩
   ·exact⟨n,by omega,h⟩
  ·rintro⟨j,h1,h2⟩;rcases Nat.lt_succ_iff_lt_or_eq.1 h1 with h|h
   ·exact .inl ⟨j,h,h2⟩
   ·subst h;exact .inr h2
theorem atQ_at {l:List Rat}{i:Nat}{q:Rat}(h:l[i]? =some q):atQ l (i:Nat)=q:=by unfold atQ;rw[Int.toNat_natCast,h];rfl
theorem boxP_FB {r:Rg}{n j:Nat}(hr:RgB r n)(hj:j<n):∀f∈boxP r j,FB 12 (n:Nat) f:=fun f hf=>by
 obtain⟨a,ha⟩:=at_some (l:=r.lo) (i:=j) (by rw[hr.lo];exact hj);obtain⟨b,hb⟩:=at_some (l:=r.hi) (i:=j) (by rw[hr.hi];exact hj);have hv:FB 0 (n:Nat) (varS (j:Nat)):=FB.var (by omega) (by omega);have fa:FB 11 (n:Nat) (numS a):=FB.num (hr.sl a (mG_ ha));have fb:FB 11 (n:Nat) (numS b):=FB.num (hr.sh b (mG_ hb));rw[boxP,atQ_at ha,atQ_at hb]at hf;rcases List.mem_cons.1 hf with h|h
 ·rw[h];exact hv.sub fa
 ·rw[List.mem_singleton.1 h];exact fb.sub hv
theorem pl_Box {r:Rg}{n:Nat}(hr:RgB r n)(hn:n≤3):LX Tryz.prog 32 [.agg r.A] [] fun v H=>v= .a (.own 0 4 (afR (boxR r n++r.rs)))∧H=[(0,.arr 36 4 (afR (boxR r n++r.rs)).length)]:=by
 have h1:=hr.lo;have h2:=hr.hi;have h3:=hr.rl;refine LX_run (m:=0) (n0:=1) mix Tryz.func32 rfl rfl rfl rfl ?_;conv=>whnf
 refine .mk Nat (fun i=>⟨[(4,vl (.int .i64 (i:Nat))),(3,.a (.own 0 4 (afR (boxR r i)))),(1,.a (.ptr 1 0))],[(1,.box 29 r.A),(0,.arr 36 4 (afR (boxR r i)).length)],2⟩)
  (fun i=>i≤n) (fun i=>n-i) 0 (Wk.trans (Wk.own 3 0 36 4 rfl rfl (zL_ _)) Wk.go) (zL_ _) fun i hi=> ?_
 conv=>whnf
 refine bs (fun hc=> ?_) (fun hc=> ?_)
 ·conv=>whnf
  have hc':i<n:=by have:=of_decide_eq_true hc;simp at this;omega
  obtain⟨a,ha⟩:=at_some (l:=r.lo) (i:=i) (by omega);obtain⟨b,hb⟩:=at_some (l:=r.hi) (i:=i) (by omega);have hv:FB 0 (n:Nat) (varS (i:Nat)):=FB.var (by omega) (by omega);have fa:FB 11 (n:Nat) (numS a):=FB.num (hr.sl a (mG_ ha));have fb:FB 11 (n:Nat) (numS b):=FB.num (hr.sh b (mG_ hb));refine .c (pz_unit) ?_;conv=>whnf
  refine .mk (i) ((can a).D) (rfl) (at_map ha) ?_;conv=>whnf
  conv=>whnf
  refine Cn.as (lx_sub hv fa (by omega) (by omega) (by omega)) rfl ⟨vR_ _,numA_wk _,trivial⟩ rfl rfl ?_;conv=>whnf
  refine .mk (i) ((can b).D) (rfl) (at_map hb) ?_;conv=>whnf
  conv=>whnf
  refine .c (pz_unit) ?_;conv=>whnf
  refine Cn.as (lx_sub fb hv (by omega) (by omega) (by omega)) rfl ⟨numA_wk _,vR_ _,trivial⟩ rfl rfl ?_;conv=>whnf
  refine .mk (afR (boxR r (i+1))) rfl (by rw[boxR,afR,List.map_append,boxP,atQ_at ha,atQ_at hb];rfl) (by simp[boxR_len];omega) ?_;conv=>whnf
  refine .mk (by kernel_rfl) ?_;conv=>whnf
  exact⟨i+1,Wk.go,hc',by omega⟩
 ·conv=>whnf
  have ei:i=n:=by have:=of_decide_eq_false hc;simp at this;omega
  subst ei;refine .mk (afR (boxR r i++r.rs)) rfl (by rw[afR,List.map_append]) (by simp[boxR_len];omega) ?_;conv=>whnf
  exact⟨_,_,⟨rfl,rfl⟩,vR_ _,rfl,⟨⟨_,rfl,wke_refl _,rfl⟩,trivial⟩,rfl⟩
def bkB (B:Nat):Nat→Nat
 |0=>5
 |m+1=>2*bkB B m+(4*B+8)+1
theorem bkB_mono (B:Nat):∀{m k:Nat},m≤k→bkB B m≤bkB B k:=by
 intro m k h
 induction k with
 |zero=>rw[show m=0 by omega];exact lR_ _
 |succ k ih=>
  rcases Nat.lt_or_ge k m with h1|h1
  ·rw[show m=k+1 by omega];exact lR_ _
  ·have:=ih h1;simp only[bkB];omega
theorem bkB_le (B:Nat):∀{m:Nat},m≤3→bkB B m≤28*B+103
 |0,_=>by simp only[bkB];omega
 |1,_=>by simp only[bkB];omega
 |2,_=>by simp only[bkB];omega
 |3,_=>by simp only[bkB];omega
theorem FB.byW {n:Int}{p:Af}{l u:Rat}{B:Nat}(hp:FB 5 n p)(hl:Bt B l)(hu:Bt B u)(h:unB l u=true):FB (4*B+8) n (byW p l u):=by
 have hne:=un_ne h;have hd:=hu.sub hl
 have bc:∀c:Rat,c*(u/(u-l))+ -(l*u)/(u-l)=u*((c-l)/(u-l)):=fun c=>by
  rw[Rat.div_def,Rat.div_def,Rat.div_def];grind
 refine⟨ok_fold (fun t ht=>by cases ht) (ok_scale _ hp.ts),fun w=> ?_,?_⟩
 ·rw[Lf.byW,addS,cof_fold,scaleS,cof_scale];show Bt _ (_+0);rw[Rat.add_zero];exact((hp.co w).mul (hu.div hd hne)).mono (by omega)
 ·show Bt _ (p.c*(u/(u-l))+gapQ l u);rw[gapQ,if_pos h,bc];exact(hu.mul ((hp.c.sub hl).div hd hne)).mono (by omega)
theorem rpl_fb {n:Int}{p:Af}{j B:Nat}{lo hi c:Rat}(hp:FB 5 n p)(hl:Bt B lo)(hu:Bt B hi):FB (4*B+8) n (rplS p j lo hi c).by_:=by
 unfold rplS;split
 ·exact hp.up (by omega) (Int.le_refl _)
 ·rename_i c1;split
  ·exact FB.z _ _
  ·rename_i c2;split
   ·split
    ·exact hp.up (by omega) (Int.le_refl _)
    ·exact FB.z _ _
   ·exact FB.byW hp hl hu (by rw[unB,decide_eq_true (by grind),decide_eq_true (by grind)];rfl)
theorem rpl_c {p:Af}{j B F:Nat}{lo hi c:Rat}(hl:Bt B lo)(hu:Bt B hi)(hc:Bt F c):Bt (F+2*B+1) (rplS p j lo hi c).c∧0≤(rplS p j lo hi c).c:=by
 have r1:Bt (F+2*B+1) (rabs c):=hc.rabs.mono (by omega);have r0:=rabs_nn c;unfold rplS;split
 ·exact⟨r1,r0⟩
 ·rename_i c1;split
  ·exact⟨r1,r0⟩
  ·rename_i c2;split
   ·split<;>exact⟨r1,r0⟩
   ·have h3:0<hi-lo:=by grind
    exact⟨(hc.rabs.div (hu.sub hl) (by grind)).mono (by omega),by rw[Rat.div_def];exact Rat.mul_nonneg r0 (Rat.le_of_lt (Rat.inv_pos.2 h3))⟩
theorem rpl_row {q:Qu}{ls:List Lm}{J j:Nat}{p:Af}{c:Rat}(hj:j<J):RwJ q ls J (rplS p j (loV ls j) (hiV ls j) c).r:=by
 unfold rplS;split
 ·rename_i c1;simp only;split
  ·exact .above j hj
  ·exact .onEq j hj c1
 ·rename_i c1;split
  ·rename_i c2;simp only;split
   ·exact .zero j hj
   ·exact .offEq j hj c2
  ·rename_i c2;split
   ·split
    ·exact .above j hj
    ·exact .zero j hj
   ·exact .tri j hj (by grind) (by grind)
theorem FB.substW {F b:Nat}{n v:Int}{f g:Af}(h:FB F n f)(hg:FB b n g):FB (2*F+b+1) n (substS f v g):=by
 have:=(h.rest v).add (hg.scale (h.co v));exact this.up (by omega) (Int.le_refl _)
theorem cof_subst {f g:Af}{v w:Int}:cof (substS f v g).ts w=(if w=v then 0 else cof f.ts w)+cof g.ts w*cof f.ts v:=by
 rw[substS,addS,cof_fold,scaleS,cof_scale,restS,cof_without]
structure BkI (q:Qu)(ls:List Lm)(J B:Nat)(f:Af)(m:Nat)(g:Af)(l:List Mu):Prop where
 fb:FB (bkB B (J-m)) (q.g.n+J:Nat) g
 mu:MuB (bkB B J+2*B+1) l
 len:l.length≤J-m
 nn:∀x∈l,0≤x.c
 rows:∀x∈l,RwJ q ls J x.r
 eq:∀(κ:Rat) (ξ:Int→Rat),wsum (pR κ ξ q ls) l=ph κ ξ f-ph κ ξ g
 z:∀i:Nat,m≤i→cof g.ts (q.g.n+i:Nat)=0
 same:J=0→g=f
theorem BkI.start {q:Qu}{ls:List Lm}{J B U:Nat}{f:Af}(hf:FB 5 (q.g.n+J:Nat) f)(hU:J≤U):BkI q ls J B f U f []:=
 ⟨by rw[show J-U=0 by omega];exact hf,fun m hm=>(by cases hm),by simp,fun m hm=>(by cases hm),fun m hm=>(by cases hm),fun κ ξ=>by rw[wsum];grind,fun i hi=>hf.ts.cof_ge (by omega),fun _=>rfl⟩
theorem BkI.skip {q:Qu}{ls:List Lm}{J B m:Nat}{f g:Af}{l:List Mu}(h:BkI q ls J B f (m+1) g l)(hz:cof g.ts (q.g.n+m:Nat)=0):BkI q ls J B f m g l:=
 ⟨h.fb.up (bkB_mono B (by omega)) (Int.le_refl _),h.mu,by have:=h.len;omega,h.nn,h.rows,h.eq,fun i hi=>by
  rcases Nat.lt_or_ge m i with h1|h1
  ·exact h.z i h1
  ·rw[show i=m by omega];exact hz,h.same⟩
theorem BkI.next {q:Qu}{ls:List Lm}{J B m:Nat}{f g p:Af}{l:List Mu}(h:BkI q ls J B f (m+1) g l)(hm:m<J)(hl:LsI ls J)(hp:q.g.us[m]? =some p)(hpf:FB 5 (q.g.n+m:Nat) p)(hv:Bt B (loV ls m)∧Bt B (hiV ls m)):
  BkI q ls J B f m (substS g (q.g.n+m:Nat) (rplS p m (loV ls m) (hiV ls m) (cof g.ts (q.g.n+m:Nat))).by_) (l++[⟨(rplS p m (loV ls m) (hiV ls m) (cof g.ts (q.g.n+m:Nat))).r,(rplS p m (loV ls m) (hiV ls m) (cof g.ts (q.g.n+m:Nat))).c⟩]):=by
 have hco:=h.fb.co (q.g.n+m:Nat);have e1:atF q.g.us m=p:=by unfold atF;rw[Int.toNat_natCast,hp];rfl
 have hby:=rpl_fb (j:=m) (c:=cof g.ts (q.g.n+m:Nat)) hpf hv.1 hv.2;have hJ':FB (4*B+8) (q.g.n+J:Nat) (rplS p m (loV ls m) (hiV ls m) (cof g.ts (q.g.n+m:Nat))).by_:=hby.up (lR_ _) (by omega);have hrc:=rpl_c (p:=p) (j:=m) hv.1 hv.2 hco;have hg:bkB B (J-(m+1))≤bkB B J:=bkB_mono B (by omega);refine⟨?_,fun x hx=> ?_,by rw[List.length_append,List.length_singleton];have:=h.len;omega,fun x hx=> ?_,fun x hx=> ?_,fun κ ξ=> ?_,fun i hi=> ?_,fun h0=>by omega⟩
 ·have:=h.fb.substW (v:=(q.g.n+m:Nat)) hJ';rw[show J-m=(J-(m+1))+1 by omega];exact this
 ·rcases List.mem_append.1 hx with hx|hx
  ·exact h.mu x hx
  ·rw[List.mem_singleton.1 hx];exact hrc.1.mono (by omega)
 ·rcases List.mem_append.1 hx with hx|hx
  ·exact h.nn x hx
  ·rw[List.mem_singleton.1 hx];exact hrc.2
 ·rcases List.mem_append.1 hx with hx|hx
  ·exact h.rows x hx
  ·rw[List.mem_singleton.1 hx];exact rpl_row hm
 ·have e2:=rpl_ph (κ:=κ) (ξ:=ξ) (q:=q) (c:=cof g.ts (q.g.n+m:Nat)) hl hm;rw[e1]at e2;rw[wsum_append,h.eq,ph_subst];simp only[wsum];generalize (rplS p m (loV ls m) (hiV ls m) (cof g.ts (q.g.n+m:Nat)))=x at *
  rw[←e2];simp only[pX];grind
 ·rw[cof_subst];have hz:cof (rplS p m (loV ls m) (hiV ls m) (cof g.ts (q.g.n+m:Nat))).by_.ts (q.g.n+i:Nat)=0:=hby.ts.cof_ge (by omega);rw[hz];split
  ·grind
  ·rename_i hne;rw[h.z i (by omega)];grind
theorem LX.ren0s {P:Program}{F:FuncId}{args:List V}{j k n:Nat}{t:TypeId}{v:V}(hk:∀key∈keysV v,key=j)(hc:LX P F args [] fun v' H=>v'=v∧H=[(j,.arr t k n)]):LX P F args [] fun v' H=>v'=renV (fun _=>0) v∧H=[(0,.arr t k n)]:=by
 obtain⟨_,_,⟨rfl,rfl⟩,hc⟩:=hc;refine⟨_,_,⟨rfl,rfl⟩,fun γ M w rs hr ha=> ?_⟩;refine cM (hc γ M w rs hr ha) ?_;rintro e w' ⟨r,γ',M',h1,h2,h3,h4⟩
 have hl0:∀key e',look [(0,Ent.arr t k n)] key=some e'→key=0∧e'= .arr t k n:=fun key e' h=>by
  simp only[look]at h;split at h
  ·injection h with h;exact⟨by omega,h.symm⟩
  ·cases h
 have hlj:look [(j,Ent.arr t k n)] j=some (.arr t k n):=by simp[look]
 have hl00:look [(0,Ent.arr t k n)] 0=some (.arr t k n):=rfl
 have ho:∀key b i,Owns (fun _=>γ' j) (look [(0,Ent.arr t k n)]) key b i→Owns γ' (look [(j,Ent.arr t k n)]) j b i:=fun key b i h=>by
  unfold Owns at h
  cases h5:look [(0,Ent.arr t k n)] key with
  |none=>rw[h5]at h;exact h.elim
  |some e'=>
   obtain⟨rfl,rfl⟩:=hl0 key e' h5;rw[h5]at h;simp only[Owns,hlj];exact h
 refine⟨r,fun _=>γ' j,M',h1,⟨fun key e' h=> ?_,fun key b i h=>h2.own j b i (ho key b i h),fun k1 k2 b l1 l2 _ _=> ?_,h2.u32,h2.dom,h2.glb⟩,?_,⟨h4.os,h4.tape,h4.output,h4.size,h4.fx,h4.other,h4.keep,fun key b i h hb=>h4.new j b i (ho key b i h) hb,fun key e h=>by simp[look]at h⟩⟩
 ·obtain⟨rfl,rfl⟩:=hl0 key e' h;exact h2.ent j _ hlj
 ·cases h5:look [(0,Ent.arr t k n)] k1 with
  |none=>rw[h5]at l1;cases l1
  |some e1=>
   cases h6:look [(0,Ent.arr t k n)] k2 with
   |none=>rw[h6]at l2;cases l2
   |some e2=>rw[(hl0 _ _ h5).1,(hl0 _ _ h6).1]
 ·refine h3.ren fun key hkk=> ?_;obtain rfl:=hk key hkk;refine⟨rfl,?_,?_,?_,?_,?_⟩
  ·intro h;rw[hlj]at h;cases h
  ·intro h;rw[hlj]at h;cases h
  ·intro _;rfl
  ·intro e k n he;rw[hl00]at he;rw[hlj];exact he
  ·intro e k n he;rw[hl00]at he;cases he
theorem pl_back5 {q:Qu}{ls:List Lm}{J B:Nat}{f:Af}(hs:SpOk (S0 q ls))(hq:QuB q)(h:LsI ls J)(hv:LsV ls J B)(hJ:J<q.g.us.length)(hf:FB 5 (q.g.n+J:Nat) f)(hB:B≤165000):
  LX Tryz.prog 224 [.agg (S0 q ls).A,.agg f.A] [] fun v H=>∃g l l',(BkI q ls J B f 0 g l∧Col l l' (bkB B J+2*B+1))∧v= .tup [.g g.A,.s (.own 5 7 (l'.map Mu.D)),.s (.d (.lit (.bool true)))]∧H=[(5,.arr 195 7 (l'.map Mu.D).length)]:=by
 have hn3:=hq.g.n2;have hu4:=hq.g.u1;have hg3:=bkB_le B (m:=J) (by omega);refine LX_run (m:=0) (n0:=0) mix Tryz.func224 rfl rfl rfl rfl ?_;conv=>whnf
 refine .c (lx_quvalid hs.q) ?_;conv=>whnf
 refine .c (lx_gvars hs.q.g) ?_;conv=>whnf
 refine .c (lx_lvalid ((hf.up (n':=((q.g.n+q.g.us.length:Nat):Int)) (lR_ _) (by omega)).ok (by omega) (by omega) (by omega))) ?_;conv=>whnf
 refine .mk (by kernel_rfl) ?_;conv=>whnf
 have hw0:IntKind.i64.wrap (((q.g.us.map Af.D).length:Int)-1)=((q.g.us.length:Nat):Int)-1:=by rw[List.length_map,wr64 (by omega) (by omega)]
 rw[hw0]
 refine .mk (Nat×Af×List Mu) (fun(m,g,l)=>⟨[(9,vl (.int .i64 ((m:Int)-1))),(8,.a (.own 4 7 (l.map Mu.D))),(7,.a (.ptr 3 0)),(4,.a (.ptr 2 0)),(3,.a (.ptr 1 0)),(2,.a (.ptr 0 0))],
  [(0,.box 43 (S0 q ls).A),(1,.box 36 g.A),(2,.box 36 [.d (.lit (.slice none 0 0)),.d (.lit (.bool false)),.d (.nat 0),.d (.nat 0)]),(3,.box 26 q.g.A),(4,.arr 195 7 (l.map Mu.D).length)],5⟩)
  (fun b=>b.1≤q.g.us.length∧BkI q ls J B f b.1 b.2.1 b.2.2) (fun b=>b.1) (q.g.us.length,f,[]) (Wk.trans (Wk.own 8 4 195 7 rfl rfl (zL_ _)) Wk.go) ⟨lR_ _,BkI.start hf (Nat.le_of_lt hJ)⟩ fun⟨m,g,l⟩ hb=> ?_
 obtain⟨hm,hI⟩:=hb;simp only at hm hI;have hll:=hI.len;have hgm:=bkB_mono B (show J-m≤J by omega);conv=>whnf
 refine bs (fun h1=> ?_) (fun h1=> ?_)
 rotate_left
 ·conv=>whnf
  have e:m=0:=by have:=of_decide_eq_false h1;omega
  subst e;obtain⟨l',hc,cc⟩:=pl_collect (l:=l) (K:=bkB B J+2*B+1) (by omega) hI.mu (by omega) hI.nn;refine Cn.l [] cc ?_;conv=>whnf
  exact⟨_,_,⟨g,l,l',⟨hI,hc⟩,rfl,rfl⟩,vR_ _,rfl,⟨⟨_,rfl,wke_refl _,rfl⟩,trivial⟩,rfl⟩
 ·conv=>whnf
  have h1':1≤m:=by have:=of_decide_eq_true h1;omega
  obtain⟨m,rfl⟩:∃k,m=k+1:=⟨m-1,by omega⟩;have hw:IntKind.i64.wrap ((q.g.n:Int)+(m:Int))=((q.g.n+m:Nat):Int):=by rw[wr64 (by omega) (by omega)];omega
  have hj:((m+1:Nat):Int)-1=(m:Int):=by omega
  have hwj:IntKind.i64.wrap ((m:Int)-1)=(m:Int)-1:=wr64 (by omega) (by omega);have hco:=hI.fb.co ((q.g.n+m:Nat):Int);have cz:Sz (cof g.ts (q.g.n+m:Nat)):=hco.mono (by omega);rw[hj,hw];refine .c (pl_coef hI.fb (by omega) (by omega)) ?_;conv=>whnf
  refine .c (lx_rsign (.c cz)) ?_;conv=>whnf
  by_cases h0:cof g.ts (q.g.n+m:Nat)=0
  ·refine bT (by rw[h0];rfl) ?_;conv=>whnf
   rw[hwj];exact⟨(m,g,l),Wk.go,⟨by simp only;omega,hI.skip h0⟩,by simp only;omega⟩
  ·refine bF (sgn_ne h0) ?_;conv=>whnf
   have hmJ:m<J:=by
    rcases Nat.lt_or_ge m J with h1|h1
    ·exact h1
    ·exact absurd (hI.fb.ts.cof_ge (by omega)) h0
   obtain⟨p,hp⟩:=at_some (l:=q.g.us) (i:=m) (by omega);have hpf:FB 5 (q.g.n+m:Nat) p:=hq.g.us m p hp;have hI':=hI.next hmJ h hp hpf (hv m hmJ);have hby:=rpl_fb (j:=m) (c:=cof g.ts (q.g.n+m:Nat)) hpf (hv m hmJ).1 (hv m hmJ).2;refine .c (pl_replace hs h hmJ (Nat.le_of_lt hJ) hp (hpf.up (lR_ _) (by omega)) (hv m hmJ) hco (by omega) (by omega)) ?_;conv=>whnf
   have hpb:FB 5 (q.g.n+J:Nat) p:=hpf.up (lR_ _) (by omega);generalize hx:rplS p m (loV ls m) (hiV ls m) (cof g.ts (q.g.n+m:Nat))=x at *
   have hxb:FB (4*B+8) (q.g.n+J:Nat) x.by_:=hby.up (lR_ _) (by omega);have hgm2:=bkB_mono B (show J-(m+1)≤2 by omega);have hg2:bkB B 2≤12*B+47:=by simp only[bkB];omega
   refine .c (pl_subst hI.fb hxb (by omega) (by omega) (by omega)) ?_;conv=>whnf
   refine .mk ((l++[(⟨x.r,x.c⟩:Mu)]).map Mu.D) rfl (by rw[List.map_append];rfl) (by simp;omega) ?_;conv=>whnf
   rw[hwj];exact⟨(m,_,l++[⟨x.r,x.c⟩]),Wk.go,⟨by simp only;omega,hI'⟩,by simp only;omega⟩
theorem pl_back {q:Qu}{ls:List Lm}{J B:Nat}{f:Af}(hs:SpOk (S0 q ls))(hq:QuB q)(h:LsI ls J)(hv:LsV ls J B)(hJ:J<q.g.us.length)(hf:FB 5 (q.g.n+J:Nat) f)(hB:B≤165000):
  ∃g l l',BkI q ls J B f 0 g l∧Col l l' (bkB B J+2*B+1)∧LX Tryz.prog 224 [.agg (S0 q ls).A,.agg f.A] [] fun v H=>v= .tup [.g g.A,.s (.own 0 7 (l'.map Mu.D)),.s (.d (.lit (.bool true)))]∧H=oH l':=by
 obtain⟨v,H,⟨g,l,l',⟨h1,h2⟩,rfl,rfl⟩,hc⟩:=pl_back5 hs hq h hv hJ hf hB;exact⟨g,l,l',h1,h2,LX.ren0s (v:= .tup [.g g.A,.s (.own 5 7 (l'.map Mu.D)),.s (.d (.lit (.bool true)))]) (by intro key hk;simp[keysV,keysW,keysA]at hk;exact hk) ⟨_,_,⟨rfl,rfl⟩,hc⟩⟩
def bB (J:Nat):Nat:=if J=0 then 0 else if J=1 then 80 else if J=2 then 2100 else 165000
def bV (J:Nat):Nat:=if J=0 then 80 else if J=1 then 2100 else if J=2 then 165000 else 34000000
theorem bB_le (J:Nat):bB J≤165000:=by unfold bB;repeat' split
                                      all_goals omega
theorem bV_le {i J:Nat}(h:i<J)(hJ:J≤3):bV i≤bB J:=by
 obtain rfl|rfl|rfl:J=1∨J=2∨J=3:=by omega
 ·obtain rfl:i=0:=by omega
  decide
 ·obtain rfl|rfl:i=0∨i=1:=by omega
  all_goals decide
 ·obtain rfl|rfl|rfl:i=0∨i=1∨i=2:=by omega
  all_goals decide
theorem w_f1 {J:Nat}(hJ:J≤3):5+(3+J)*(5+bB J+12)+6≤bV J:=by
 obtain rfl|rfl|rfl|rfl:J=0∨J=1∨J=2∨J=3:=by omega
 all_goals decide
theorem w_f2 {J:Nat}(hJ:J≤3):bkB (bB J) J+3*(bkB (bB J) J+bB J+12)+6≤bV J:=by
 obtain rfl|rfl|rfl|rfl:J=0∨J=1∨J=2∨J=3:=by omega
 all_goals decide
theorem w_f3 {J:Nat}(hJ:J≤3):15*(4*bB J+17+14*(5+3*bB J+1+1)+1)≤900000000:=by
 have:=bB_le J;omega
theorem w_f4 {J:Nat}(hJ:J≤3):7*(4*bB J+17+6*(3*(bkB (bB J) J+3*bB J+2)+1)+1)≤900000000:=by
 obtain rfl|rfl|rfl|rfl:J=0∨J=1∨J=2∨J=3:=by omega
 all_goals decide
structure Hyp (q:Qu)(ls:List Lm)(J:Nat):Prop where
 sp:SpOk (S0 q ls)
 qb:QuB q
 li:LsI ls J
 lv:LsV ls J (bB J)
 jl:J<q.g.us.length
structure LowOk (q:Qu)(ls:List Lm)(J:Nat)(f:Af)(x:Rat)(l:List Mu):Prop where
 sm:∃K,SmOk (S0 q ls) l (bB J) K
 eq:∀(κ:Rat) (ξ:Int→Rat),wsum (pR κ ξ q ls) l=ph κ ξ f-κ*x
 b:∃k,k+6≤bV J∧Bt k x
 rows:∀m∈l,RwJ q ls J m.r
 same:J=0→x=bxV q ls f f.ts.length
theorem bnd_rows {q:Qu}{ls:List Lm}{J:Nat}{x:Int}{up:Bool}(h0:0≤x)(h1:x<q.g.n+J):∀m∈(bndB q ls x up).2,RwJ q ls J m.r:=by
 intro m hm;unfold bndB at hm
 by_cases hx:x<q.g.n
 ·rw[if_pos hx]at hm;unfold inB at hm;split at hm
  ·rw[List.mem_singleton.1 hm];exact .hi x h0 hx
  ·rw[List.mem_singleton.1 hm];exact .lo x h0 hx
 ·rw[if_neg hx]at hm;obtain⟨j,hj⟩:∃j:Nat,x-q.g.n=j:=⟨(x-q.g.n).toNat,by omega⟩;have e:(x-(q.g.n:Int)).toNat=j:=by omega
  have hjJ:j<J:=by omega
  rw[e]at hm;have two:∀{a b:Mu},m∈[a,b]→m=a∨m=b:=fun h=>by simpa using h
  split at hm
  ·unfold highB at hm;split at hm
   ·rename_i c;rw[List.mem_singleton.1 hm];exact .offEq j hjJ c
   ·rename_i c1;split at hm
    ·rename_i c2;rcases two hm with rfl|rfl
     ·exact .onEq j hjJ c2
     ·exact .up j hjJ
    ·rename_i c2;rcases two hm with rfl|rfl
     ·exact .up j hjJ
     ·exact .tri j hjJ (by grind) (by grind)
  ·unfold lowB at hm;split at hm
   ·rcases two hm with rfl|rfl
    ·exact .above j hjJ
    ·exact .low j hjJ
   ·rw[List.mem_singleton.1 hm];exact .zero j hjJ
theorem bxM_rows {q:Qu}{ls:List Lm}{J k:Nat}{f:Af}(hf:FB k (q.g.n+J:Nat) f)(i:Nat):∀m∈bxM q ls f i,RwJ q ls J m.r:=by
 intro m hm;obtain⟨t,ht,hm⟩:=List.mem_flatMap.1 hm;obtain⟨a,ha,rfl⟩:=List.mem_map.1 hm;obtain⟨t1,t2,_,_⟩:=hf.tm t (List.mem_of_mem_take ht);exact bnd_rows t1 (by omega) a ha
theorem Hyp.sm {q:Qu}{ls:List Lm}{J K:Nat}{l:List Mu}(h:Hyp q ls J)(hc:CanL l)(hr:∀m∈l,RwJ q ls J m.r)(hm:MuB K l)(hn:l.length≤1000)(hb:(l.length+1)*(4*bB J+17+K+1)≤900000000):SmOk (S0 q ls) l (bB J) K:=
 have hu:=h.qb.g.u1
 ⟨hc,fun m hmm=>⟨(hr m hmm).ok h.li (Nat.le_of_lt h.jl) (by omega),(hr m hmm).bits h.li h.lv⟩,hm,hn,hb⟩
theorem low_box {q:Qu}{ls:List Lm}{J:Nat}{f:Af}(h:Hyp q ls J)(hf:FB 5 (q.g.n+J:Nat) f):
  ∃x l,LowOk q ls J f x l∧LV Tryz.prog 197 [.agg [],.agg (S0 q ls).A,.agg f.A] (.tup [.g (can x).A,.s (.d (musD l)),.s (.d (.lit (.bool true)))]):=by
 have hn3:=h.qb.g.n2;have hu4:=h.qb.g.u1;have hJ:=h.jl;have hB:=bB_le J;have hlen:=hf.ts.len (by omega);have hfl:f.ts.length≤3+J:=by omega
 obtain⟨l',hc,cc⟩:=pl_blower h.sp h.qb h.li h.lv h.jl hf (by omega) (by omega);have hbl:=(bxM_ok h.qb h.lv hf f.ts.length (lR_ _)).2.1;have hll:=hc.len
 have hrow:∀m∈l',RwJ q ls J m.r:=fun m hm=>by
  obtain⟨y,hy,e⟩:=hc.rows m hm;rw[e];exact bxM_rows hf _ y hy
 have hk:(bxM q ls f f.ts.length).length*(5+3*bB J+1+1)≤14*(5+3*bB J+1+1):=Nat.mul_le_mul_right _ (by omega);have hbig:=w_f3 (J:=J) (by omega);have hm15:(l'.length+1)*(4*bB J+17+14*(5+3*bB J+1+1)+1)≤15*(4*bB J+17+14*(5+3*bB J+1+1)+1):=Nat.mul_le_mul_right _ (by omega);have f1:=w_f1 (J:=J) (by omega);have hv:f.ts.length*(5+bB J+12)≤(3+J)*(5+bB J+12):=Nat.mul_le_mul_right _ (by omega)
 exact⟨_,l',⟨⟨_,h.sm hc.can hrow (hc.mu.up hk) (by omega) (tL_ hm15 hbig)⟩,fun κ ξ=>by rw[hc.sum];exact bx_ph h.li hf,
  ⟨5+(3+J)*(5+bB J+12),f1,(bxV_ok h.qb h.lv hf _ (lR_ _)).mono (by omega)⟩,hrow,fun _=>rfl⟩,cc⟩
theorem low_sym {q:Qu}{ls:List Lm}{J:Nat}{f:Af}(h:Hyp q ls J)(hf:FB 5 (q.g.n+J:Nat) f):
  ∃x l,LowOk q ls J f x l∧LV Tryz.prog 222 [.agg [],.agg (S0 q ls).A,.agg f.A] (.tup [.g (can x).A,.s (.d (musD l)),.s (.d (.lit (.bool true)))]):=by
 have hn3:=h.qb.g.n2;have hu4:=h.qb.g.u1;have hJ:=h.jl;have hB:=bB_le J;have f2:=w_f2 (J:=J) (by omega);have f4:=w_f4 (J:=J) (by omega);have hG:=bkB_le (bB J) (m:=J) (by omega);obtain⟨g,l,lb,hI,hC,cb'⟩:=pl_back h.sp h.qb h.li h.lv h.jl hf hB;have hg:FB (bkB (bB J) J) (q.g.n+J:Nat) g:=hI.fb
 have hin:∀t∈g.ts,t.v<q.g.n:=fun t ht=>by
  obtain⟨t1,t2,t3,_⟩:=hg.tm t ht;rcases Int.lt_or_le t.v q.g.n with h1|h1
  ·exact h1
  ·exfalso;have hz:=hI.z (t.v-q.g.n).toNat (zL_ _);rw[show((q.g.n+(t.v-q.g.n).toNat:Nat):Int)=t.v by omega,(hg.ts.cof_mem t ht).1]at hz;exact t3 hz
 have hgn:FB (bkB (bB J) J) (q.g.n+(0:Nat):Nat) g:=by
  refine⟨?_,hg.co,hg.c⟩;have:∀(ts:List Tm) (lo:Int),TsOk (q.g.n+J:Nat) lo ts→(∀t∈ts,t.v<q.g.n)→TsOk (q.g.n+0:Nat) lo ts:=by
   intro ts
   induction ts with
   |nil=>intros;trivial
   |cons t ts ih=>intro lo hk hi;exact⟨hk.1,by have:=hi t (by simp);omega,hk.2.2.1,ih _ hk.2.2.2 fun u hu=>hi u (by simp[hu])⟩
  exact this g.ts 0 hg.ts hin
 have hgl:=hgn.ts.len (by omega);have hgl3:g.ts.length≤3:=by omega
 obtain⟨lx,hX,cx⟩:=pl_blower h.sp h.qb h.li h.lv h.jl hg (by omega) (by omega);have hbl:=(bxM_ok h.qb h.lv hg g.ts.length (lR_ _)).2.2.1 hin;have hxl:=hX.len;have hcl:=hC.len;have hil:=hI.len;have k1:MuB (3*(bkB (bB J) J+3*bB J+2)) lb:=hC.mu.up (Nat.mul_le_mul (by omega) (by omega));have k2:MuB (3*(bkB (bB J) J+3*bB J+2)) lx:=hX.mu.up (Nat.mul_le_mul (by omega) (by omega))
 have kk:MuB (3*(bkB (bB J) J+3*bB J+2)) (lb++lx):=fun m hm=>by
  rcases List.mem_append.1 hm with hm|hm
  ·exact k1 m hm
  ·exact k2 m hm
 have nn:∀m∈lb++lx,0≤m.c:=fun m hm=>by
  rcases List.mem_append.1 hm with hm|hm
  ·exact Rat.le_of_lt (hC.can.pos m hm)
  ·exact Rat.le_of_lt (hX.can.pos m hm)
 have hal:(lb++lx).length≤6:=by rw[List.length_append];omega
 obtain⟨l',hc,cc⟩:=pl_collect (l:=lb++lx) (by omega) kk (by omega) nn;have hll:=hc.len
 have hrow:∀m∈l',RwJ q ls J m.r:=fun m hm=>by
  obtain⟨y,hy,e⟩:=hc.rows m hm;rw[e];rcases List.mem_append.1 hy with hy|hy
  ·obtain⟨z,hz,e⟩:=hC.rows y hy;rw[e];exact hI.rows z hz
  ·obtain⟨z,hz,e⟩:=hX.rows y hy;rw[e];exact bxM_rows hg _ z hz
 have hk:(lb++lx).length*(3*(bkB (bB J) J+3*bB J+2)+1)≤6*(3*(bkB (bB J) J+3*bB J+2)+1):=Nat.mul_le_mul_right _ hal;have hm7:(l'.length+1)*(4*bB J+17+6*(3*(bkB (bB J) J+3*bB J+2)+1)+1)≤7*(4*bB J+17+6*(3*(bkB (bB J) J+3*bB J+2)+1)+1):=Nat.mul_le_mul_right _ (by omega);have hv:g.ts.length*(bkB (bB J) J+bB J+12)≤3*(bkB (bB J) J+bB J+12):=Nat.mul_le_mul_right _ hgl3
 refine⟨bxV q ls g g.ts.length,l',⟨⟨_,h.sm hc.can hrow (hc.mu.up hk) (by omega) (tL_ hm7 f4)⟩,fun κ ξ=>by
   rw[hc.sum,wsum_append,hC.sum,hX.sum,hI.eq,bx_ph h.li hg];grind,
  ⟨_,f2,(bxV_ok h.qb h.lv hg _ (lR_ _)).mono (by omega)⟩,hrow,fun h0=>by rw[hI.same h0]⟩,?_⟩
 refine LX_run (m:=0) (n0:=0) mix Tryz.func222 rfl rfl rfl rfl ?_;conv=>whnf
 refine Cn.l [] cb' ?_;conv=>whnf
 refine .c (cx) ?_;conv=>whnf
 refine .mk ((lb++lx).map Mu.D) rfl (by rw[List.map_append]) (by simp only[List.length_map];omega) ?_;conv=>whnf
 refine Cn.l [] cc ?_;conv=>whnf
 exact .s ⟨rfl,rfl⟩
abbrev dBox:Value:= .iface 111 (.agg #[])
abbrev dSym:Value:= .iface 113 (.agg #[])
abbrev dTwo:Value:= .agg #[dBox,dSym]
theorem meth_box:Meth Tryz.prog 111 (.agg #[]) "Lower" 197 (.agg #[]):=fun w=>by rfl
theorem meth_sym:Meth Tryz.prog 113 (.agg #[]) "Lower" 222 (.agg #[]):=fun w=>by rfl
theorem meth_two:Meth Tryz.prog 152 dTwo "Lower" 235 dTwo:=fun w=>by rfl
theorem bV_top (J:Nat):bV J≤34000000:=by
 unfold bV
 repeat' split
 all_goals omega
theorem LowOk.sz {q:Qu}{ls:List Lm}{J:Nat}{f:Af}{x:Rat}{l:List Mu}(h:LowOk q ls J f x l):Sz x:=by
 obtain⟨k,hk,hb⟩:=h.b;have:=bV_top J;exact hb.mono (by omega)
theorem low_two {q:Qu}{ls:List Lm}{J:Nat}{f:Af}(h:Hyp q ls J)(hf:FB 5 (q.g.n+J:Nat) f):
  ∃x l,LowOk q ls J f x l∧LV Tryz.prog 235 [.agg [.d (.lit dBox),.d (.lit dSym)],.agg (S0 q ls).A,.agg f.A] (.tup [.g (can x).A,.s (.d (musD l)),.s (.d (.lit (.bool true)))]):=by
 obtain⟨x,l,hx,cx⟩:=low_box h hf;obtain⟨y,m,hy,cy⟩:=low_sym h hf
 by_cases hc:x<y
 ·refine⟨y,m,hy,?_⟩;refine LX_run (m:=0) (n0:=0) mix Tryz.func235 rfl rfl rfl rfl ?_;conv=>whnf
  refine .mk 197 (.agg #[]) meth_box ?_;conv=>whnf
  refine .c (cx) ?_;conv=>whnf
  refine .mk 222 (.agg #[]) meth_sym ?_;conv=>whnf
  refine .c (cy) ?_;conv=>whnf
  refine .c (lx_rcmp (.c hy.sz) (.c hx.sz)) ?_;conv=>whnf
  refine bT (by rw[cmp_gt];exact decide_eq_true hc) ?_;conv=>whnf
  exact .q ⟨rfl,rfl⟩
 ·refine⟨x,l,hx,?_⟩;refine LX_run (m:=0) (n0:=0) mix Tryz.func235 rfl rfl rfl rfl ?_;conv=>whnf
  refine .mk 197 (.agg #[]) meth_box ?_;conv=>whnf
  refine .c (cx) ?_;conv=>whnf
  refine .mk 222 (.agg #[]) meth_sym ?_;conv=>whnf
  refine .c (cy) ?_;conv=>whnf
  refine .c (lx_rcmp (.c hy.sz) (.c hx.sz)) ?_;conv=>whnf
  refine bF (by rw[cmp_gt];exact decide_eq_false hc) ?_;conv=>whnf
  exact .q ⟨rfl,rfl⟩
structure Dom (d:Value):Prop where
 low:∃t v F r,d= .iface t v∧Meth Tryz.prog t v "Lower" F r∧entT Tryz.prog F=true∧∀(q:Qu) (ls:List Lm) (J:Nat) (f:Af),Hyp q ls J→FB 5 (q.g.n+J:Nat) f→
  ∃x l,LowOk q ls J f x l∧LV Tryz.prog F [cst r,.agg (S0 q ls).A,.agg f.A] (.tup [.g (can x).A,.s (.d (musD l)),.s (.d (.lit (.bool true)))])
abbrev domV (z:Nat):Value:=if z=0 then dBox else if z=1 then dSym else .iface 152 dTwo
theorem dom_ok {z:Nat}(hz:z≤2):Dom (domV z):=by
 obtain rfl|rfl|rfl:z=0∨z=1∨z=2:=by omega
 ·exact⟨_,_,_,_,rfl,meth_box,rfl,fun q ls J f h hf=>low_box h hf⟩
 ·exact⟨_,_,_,_,rfl,meth_sym,rfl,fun q ls J f h hf=>low_sym h hf⟩
 ·exact⟨_,_,_,_,rfl,meth_two,rfl,fun q ls J f h hf=>low_two h hf⟩
theorem pl_both:LV Tryz.prog 48 [vl dBox,vl dSym] (vl (.iface 152 dTwo)):=by
 refine LX_run (m:=0) (n0:=0) mix Tryz.func48 rfl rfl rfl rfl ?_;conv=>whnf
 exact .q ⟨rfl,rfl⟩
theorem pl_get {z:Nat}(hz:z≤2):LV Tryz.prog 21 [vl (.int .i64 (z:Nat))] (.tup [.s (.d (.lit (domV z))),.s (.d (.lit (.bool true)))]):=by
 obtain rfl|rfl|rfl:z=0∨z=1∨z=2:=by omega
 ·refine LX_run (m:=0) (n0:=0) mix Tryz.func21 rfl rfl rfl rfl ?_;conv=>whnf
  exact .q ⟨rfl,rfl⟩
 ·refine LX_run (m:=0) (n0:=0) mix Tryz.func21 rfl rfl rfl rfl ?_;conv=>whnf
  exact .q ⟨rfl,rfl⟩
 ·refine LX_run (m:=0) (n0:=0) mix Tryz.func21 rfl rfl rfl rfl ?_;conv=>whnf
  refine .c (pl_both) ?_;conv=>whnf
  exact .q ⟨rfl,rfl⟩
abbrev dyA (b:Bool)(m:Nat)(e:Int):List A:=[.d (.lit (.bool b)),.d (.nat m),.d (.lit (.int .i64 e))]
def dyN (m:Nat)(e:Int):Nat:=if 0≤e then m*2^e.toNat else m
def dyD (e:Int):Nat:=if 0≤e then 1 else 2^(-e).toNat
def dyQ (b:Bool)(m:Nat)(e:Int):Rat:=mkRat (iv b (dyN m e)) (dyD e)
theorem dyD_pos (e:Int):0<dyD e:=by unfold dyD;split;exact Nat.one_pos;exact Nat.two_pow_pos _
theorem pl_dyRat {b:Bool}{m:Nat}{e:Int}(hm:m≤16)(he: -1048576≤e∧e≤1048576):LV Tryz.prog 89 [.agg (dyA b m e)] (ratV (dyQ b m e)):=by
 have hl:(limbs m).length≤100000000:=nat_sz (k:=4) (by omega) (by decide);have hs:∀n:Nat,n≤16→∀k:Nat,k≤1048576→(limbs (n*2^k)).length≤100000000:=fun n hn k hk=>nat_sz (k:=4+k) (by rw[Nat.pow_add];exact Nat.mul_le_mul_right _ (by omega)) (by omega)
 by_cases h0:0≤e
 ·obtain⟨k,rfl⟩:∃k:Nat,e=k:=⟨e.toNat,by omega⟩;have eq:rv b (val (limbs (m*2^k))) (val (limbs 0))=dyQ b m k:=by
   rw[val_limbs,val_limbs,dyQ,dyN,dyD,if_pos h0,if_pos h0,rv];rfl
  cases b
  all_goals refine LX_run (m:=0) (n0:=0) mix Tryz.func89 rfl rfl rfl rfl ?_
            conv=>whnf
  all_goals refine .c (pl_shl (m:=k) (by omega) (by omega)) ?_
            conv=>whnf
  all_goals refine .c (lx_rcanon (.raw eq (hs m hm k (by omega)) (by rw[limbs_zero];simp))) ?_
            conv=>whnf
  all_goals refine .mk (by kernel_rfl) ?_
            conv=>whnf
  all_goals exact .q ⟨rfl,rfl⟩
 ·obtain⟨k,rfl⟩:∃k:Nat,e= -(k:Int):=⟨(-e).toNat,by omega⟩;have hw:IntKind.i64.wrap (0- -(k:Int))=(k:Int):=by rw[wr64 (by omega) (by omega)];omega
  have eq:rv b (val (limbs m)) (val (limbs (1*2^k)))=dyQ b m (-(k:Int)):=by
   rw[val_limbs,val_limbs,dyQ,dyN,dyD,if_neg h0,if_neg h0,rv,un,if_neg (by have:=Nat.two_pow_pos k;omega),Int.neg_neg,Int.toNat_natCast,Nat.one_mul]
  cases b
  all_goals refine LX_run (m:=0) (n0:=0) mix Tryz.func89 rfl rfl rfl rfl ?_
            conv=>whnf
  all_goals refine bF (decide_eq_false (by omega)) ?_
            conv=>whnf
  all_goals refine .c (pl_nof (x:=1) (by decide)) ?_
            conv=>whnf
  all_goals rw[hw]
  all_goals refine .c (pl_shl (n:=1) (m:=k) (by rw[limbs_one];decide) (by omega)) ?_
            conv=>whnf
  all_goals refine .c (lx_rcanon (.raw eq hl (hs 1 (by decide) k (by omega)))) ?_
            conv=>whnf
  all_goals refine .mk (by kernel_rfl) ?_
            conv=>whnf
  all_goals exact .q ⟨rfl,rfl⟩
structure DyOf (b:Bool)(q:Nat)(e:Int)(b':Bool)(m:Nat)(e':Int):Prop where
 ml:m≤16
 el: -1048576≤e'∧e'≤1048576
 ql:dyQ b' m e'=dyQ b q e
theorem iv_mulL (b:Bool)(k n:Nat):iv b (k*n)=(k:Int)*iv b n:=by
 unfold iv;split
 ·rw[Int.natCast_mul,Int.mul_neg]
 ·rw[Int.natCast_mul]
theorem dyQ_shift (b:Bool)(m z:Nat)(e:Int):dyQ b m (e+z)=dyQ b (m*2^z) e:=by
 unfold dyQ dyN dyD
 by_cases h1:0≤e
 ·rw[if_pos h1,if_pos h1,if_pos (by omega),if_pos (by omega),show(e+z).toNat=z+e.toNat by omega,Nat.pow_add,Nat.mul_assoc]
 ·by_cases h2:0≤e+z
  ·rw[if_pos h2,if_pos h2,if_neg h1,if_neg h1];have e1:m*2^z=2^(-e).toNat*(m*2^(e+z).toNat):=by
    rw[Nat.mul_left_comm,←Nat.pow_add,show(-e).toNat+(e+z).toNat=z by omega]
   have:= @Rat.mkRat_mul_left (iv b (m*2^(e+z).toNat)) 1 (2^(-e).toNat) (Nat.ne_of_gt (Nat.two_pow_pos _));rw[Nat.mul_one]at this;rw[e1,iv_mulL b (2^(-e).toNat) (m*2^(e+z).toNat)];exact this.symm
  ·rw[if_neg h2,if_neg h2,if_neg h1,if_neg h1];have:= @Rat.mkRat_mul_left (iv b m) (2^(-(e+z)).toNat) (2^z) (Nat.ne_of_gt (Nat.two_pow_pos _));rw[Nat.mul_comm m,iv_mulL b (2^z) m,show(-e).toNat=z+(-(e+z)).toNat by omega,Nat.pow_add];exact this.symm
theorem dyQ_zero (b:Bool)(e:Int):dyQ b 0 e=0:=by
 unfold dyQ dyN;have:iv b (if 0≤e then 0*2^e.toNat else 0)=0:=by split<;>cases b<;>simp[iv]
 rw[this];exact Rat.zero_mkRat _
theorem pl_normal {b:Bool}{q:Nat}{e:Int}(hq:q≤16)(he: -1048000≤e∧e≤1048000):
  ∃b' m e',DyOf b q e b' m e'∧LV Tryz.prog 152 [vl (.bool b),.a (.d (.nat q)),vl (.int .i64 e)] (.tup [.g (dyA b' m e'),.s (.d (.lit (.bool true)))]):=by
 have cm:LV Tryz.prog 144 [.a (.d (.nat q))] (.a (.d (.nat q))):=by
  have:=lx_nmake (xs:=limbs q)
  rwa [val_limbs]at this
 rcases eP_ q with h0|h0
 ·have he:(((limbs q).length:Int)==0)=true:=by rw[h0,limbs_zero];rfl
  refine⟨false,0,0,⟨by omega,by omega,by rw[dyQ_zero,h0,dyQ_zero]⟩,?_⟩
  cases b
  all_goals refine LX_run (m:=0) (n0:=0) mix Tryz.func152 rfl rfl rfl rfl ?_
            conv=>whnf
  all_goals refine .c (cm) ?_
            conv=>whnf
  all_goals refine bT (he) ?_
            conv=>whnf
  all_goals exact .q ⟨rfl,rfl⟩
 ·obtain⟨z,hz,hz4,cz⟩:=pl_zeros h0 hq;have hw:IntKind.i64.wrap (e+(z:Int))=e+z:=wr64 (by omega) (by omega);have hmq:q/2^z≤q:=Nat.div_le_self _ _;refine⟨b,q/2^z,e+z,⟨by omega,by omega,by rw[dyQ_shift,Nat.div_mul_cancel hz]⟩,?_⟩;have hne:(((limbs q).length:Int)==0)=false:=by
   have:=sz_pos h0;unfold sz at this;exact beq_eq_false_iff_ne.2 (by omega)
  cases b
  all_goals refine LX_run (m:=0) (n0:=0) mix Tryz.func152 rfl rfl rfl rfl ?_
            conv=>whnf
  all_goals refine .c (cm) ?_
            conv=>whnf
  all_goals refine bF (hne) ?_
            conv=>whnf
  all_goals refine .c (cz) ?_
            conv=>whnf
  all_goals rw[hw]
  all_goals refine bF (decide_eq_false (by omega)) ?_
            conv=>whnf
  all_goals refine bF (decide_eq_false (by omega)) ?_
            conv=>whnf
  all_goals refine .c (pl_shr (m:=z) (tL_ (nat_sz (k:=4) (by omega) (by decide)) (by decide)) (by omega)) ?_
            conv=>whnf
  all_goals exact .q ⟨rfl,rfl⟩
theorem blen_lt (n:Nat):n<2^blen n:=by
 unfold blen;split
 ·rename_i h;rw[h];decide
 ·exact Nat.lt_log2_self
theorem blen_ge {n:Nat}(h:0<n):2^(blen n-1)≤n∧1≤blen n:=by
 unfold blen;rw[if_neg (by omega)];exact⟨by rw[Nat.add_sub_cancel];exact Nat.log2_self_le (by omega),by omega⟩
theorem blen_le {n k:Nat}(h:n≤2^k):blen n≤k+1:=by
 rcases eP_ n with h0|h0
 ·rw[h0];exact zL_ _
 ·have:=(blen_ge h0).1;have:=(Nat.pow_le_pow_iff_right (by decide:1<2)).1 (tL_ this h);omega
structure SzOk (N D:Nat)(k:Int):Prop where
 lo:(blen N:Int)-blen D-1≤k
 hi:k≤(blen N:Int)-blen D
 l6: -1000000≤k
 h6:k<1000000
theorem pl_size {N D K:Nat}(hN:N≤2^K)(hD:D≤2^K)(hK:K≤40000000):∃(k:Int) (ok:Bool),(ok=true→SzOk N D k)∧LV Tryz.prog 150 [.a (.d (.nat N)),.a (.d (.nat D))] (.tup [.s (.d (.lit (.int .i64 k))),.s (.d (.lit (.bool ok)))]):=by
 suffices hh:LX Tryz.prog 150 [.a (.d (.nat N)),.a (.d (.nat D))] [] fun v H=>∃(k:Int) (ok:Bool),(ok=true→SzOk N D k)∧v= .tup [.s (.d (.lit (.int .i64 k))),.s (.d (.lit (.bool ok)))]∧H=[] by
  obtain⟨v,H',⟨k,ok,h1,rfl,rfl⟩,hc⟩:=hh;exact⟨k,ok,h1,_,_,⟨rfl,rfl⟩,hc⟩
 have lN:(limbs N).length≤200000000:=tL_ (nat_sz hN (by omega)) (by decide);have lD:(limbs D).length≤200000000:=tL_ (nat_sz hD (by omega)) (by decide);have bN:=blen_le hN;have bD:=blen_le hD;have hw:IntKind.i64.wrap ((blen N:Int)-(blen D:Int))=(blen N:Int)-blen D:=wr64 (by omega) (by omega);obtain⟨k,hk⟩:∃k:Int,k=(blen N:Int)-blen D:=⟨_,rfl⟩;have hw1:IntKind.i64.wrap (k-1)=k-1:=wr64 (by omega) (by omega)
 have fin:∀(H:List (Nat×Ent)) (k':Int),(k'=k∨k'=k-1)→∀ok:Bool,(ok=true→ -1000000≤k'∧k'<1000000)→Rt 0 H (V.tup [.s (.d (.lit (.int .i64 k'))),.s (.d (.lit (.bool ok)))]) fun v H=>∃(k:Int) (ok:Bool),(ok=true→SzOk N D k)∧v= .tup [.s (.d (.lit (.int .i64 k))),.s (.d (.lit (.bool ok)))]∧H=[]:=
  fun H k' hk' ok h=> .q ⟨k',ok,fun e=>⟨by omega,by omega,(h e).1,(h e).2⟩,rfl,rfl⟩
 refine LX_run (m:=0) (n0:=0) mix Tryz.func150 rfl rfl rfl rfl ?_;conv=>whnf
 refine .c (pl_nbits lN) ?_;conv=>whnf
 refine .c (pl_nbits lD) ?_;conv=>whnf
 rw[hw,←hk];refine bs (fun h1=> ?_) (fun h1=> ?_)
 ·conv=>whnf
  exact .q ⟨0,false,(fun e=>by cases e),rfl,rfl⟩
 ·conv=>whnf
  refine bs (fun h2=> ?_) (fun h2=> ?_)
  ·conv=>whnf
   exact .q ⟨0,false,(fun e=>by cases e),rfl,rfl⟩
  ·conv=>whnf
   have h1':=of_decide_eq_false h1;have h2':=of_decide_eq_false h2;refine bs (fun h3=> ?_) (fun h3=> ?_)
   ·conv=>whnf
    have h3':=of_decide_eq_true h3;obtain⟨m,hm⟩:∃m:Nat,k=m:=⟨k.toNat,by omega⟩;obtain⟨c,cc⟩:=pl_ncmp (a:=N) (b:=D*2^m);have cs:LV Tryz.prog 123 [.a (.d (.nat D)),vl (.int .i64 k)] (.a (.d (.nat (D*2^m)))):=by rw[hm];exact pl_shl lD (by omega)
    refine .c (cs) ?_;conv=>whnf
    refine .c (cc) ?_;conv=>whnf
    refine bs (fun h4=> ?_) (fun h4=> ?_)
    ·conv=>whnf
     rw[hw1];refine bs (fun h5=> ?_) (fun h5=> ?_)
     ·conv=>whnf
      refine bs (fun h6=> ?_) (fun h6=> ?_)
      all_goals conv=>whnf
      all_goals exact fin _ _ (.inr rfl) _ (fun e=>by first|(cases e;done)|(have a:=of_decide_eq_true h5;have b:=of_decide_eq_true h6;omega))
     ·conv=>whnf
      exact fin _ _ (.inr rfl) _ (fun e=>by cases e)
    ·conv=>whnf
     refine bs (fun h5=> ?_) (fun h5=> ?_)
     ·conv=>whnf
      refine bs (fun h6=> ?_) (fun h6=> ?_)
      all_goals conv=>whnf
      all_goals exact fin _ _ (.inl rfl) _ (fun e=>by first|(cases e;done)|(have a:=of_decide_eq_true h5;have b:=of_decide_eq_true h6;omega))
     ·conv=>whnf
      exact fin _ _ (.inl rfl) _ (fun e=>by cases e)
   ·conv=>whnf
    have h3':=of_decide_eq_false h3;obtain⟨m,hm⟩:∃m:Nat,k= -(m:Int):=⟨(-k).toNat,by omega⟩;have hwn:IntKind.i64.wrap (0-k)=(m:Int):=by rw[wr64 (by omega) (by omega)];omega
    obtain⟨c,cc⟩:=pl_ncmp (a:=N*2^m) (b:=D);rw[hwn];refine .c (pl_shl (m:=m) lN (by omega)) ?_;conv=>whnf
    refine .c (cc) ?_;conv=>whnf
    refine bs (fun h4=> ?_) (fun h4=> ?_)
    ·conv=>whnf
     rw[hw1];refine bs (fun h5=> ?_) (fun h5=> ?_)
     ·conv=>whnf
      refine bs (fun h6=> ?_) (fun h6=> ?_)
      all_goals conv=>whnf
      all_goals exact fin _ _ (.inr rfl) _ (fun e=>by first|(cases e;done)|(have a:=of_decide_eq_true h5;have b:=of_decide_eq_true h6;omega))
     ·conv=>whnf
      exact fin _ _ (.inr rfl) _ (fun e=>by cases e)
    ·conv=>whnf
     refine bs (fun h5=> ?_) (fun h5=> ?_)
     ·conv=>whnf
      refine bs (fun h6=> ?_) (fun h6=> ?_)
      all_goals conv=>whnf
      all_goals exact fin _ _ (.inl rfl) _ (fun e=>by first|(cases e;done)|(have a:=of_decide_eq_true h5;have b:=of_decide_eq_true h6;omega))
     ·conv=>whnf
      exact fin _ _ (.inl rfl) _ (fun e=>by cases e)
theorem mk_le {p r:Int}{a c:Nat}(ha:0<a)(hc:0<c)(h:p*c≤r*a):mkRat p a≤mkRat r c:=by
 have e1:mkRat p a*(a:Rat)=p:=by
  rw[Rat.mkRat_eq_div,Rat.div_def,Rat.mul_assoc,Rat.inv_mul_cancel _ (by exact_mod_cast Nat.ne_of_gt ha),Rat.mul_one]
 have e2:mkRat r c*(c:Rat)=r:=by
  rw[Rat.mkRat_eq_div,Rat.div_def,Rat.mul_assoc,Rat.inv_mul_cancel _ (by exact_mod_cast Nat.ne_of_gt hc),Rat.mul_one]
 have h':(p:Rat)*(c:Rat)≤(r:Rat)*(a:Rat):=by exact_mod_cast h
 have pa:(0:Rat)<(a:Rat):=by exact_mod_cast ha
 have pc:(0:Rat)<(c:Rat):=by exact_mod_cast hc
 generalize mkRat p a=u at *
 generalize mkRat r c=v at *
 rw[←e1,←e2]at h';have h2:u*((a:Rat)*c)≤v*((a:Rat)*c):=by grind
 exact Rat.le_of_mul_le_mul_right h2 (Rat.mul_pos pa pc)
def dyY (e:Int):Nat:=if 0≤e then 2^e.toNat else 1
theorem dyN_eq (q:Nat)(e:Int):dyN q e=q*dyY e:=by unfold dyN dyY;split<;>simp
theorem rnd_lt {N D:Nat}{e:Int}(hN:0<N)(hD:0<D)(he:(blen N:Int)-blen D-3≤e):N*dyD e<16*(D*dyY e):=by
 have h1:=blen_lt N;obtain⟨h2,h3⟩:=blen_ge hD;unfold dyD dyY;split
 ·rename_i h0;have h4:2^(blen N)≤2^(4+(blen D-1)+e.toNat):=Nat.pow_le_pow_right (by decide) (by omega);rw[Nat.pow_add,Nat.pow_add]at h4;have h5:2^(blen D-1)*2^e.toNat≤D*2^e.toNat:=Nat.mul_le_mul_right _ h2;rw[Nat.mul_assoc]at h4;omega
 ·rename_i h0;have h4:2^(blen N+(-e).toNat)≤2^(4+(blen D-1)):=Nat.pow_le_pow_right (by decide) (by omega);rw[Nat.pow_add,Nat.pow_add]at h4;have h5:N*2^(-e).toNat<2^blen N*2^(-e).toNat:=Nat.mul_lt_mul_of_pos_right h1 (Nat.two_pow_pos _);omega
structure RndOk (K:Nat)(x:Rat)(away:Bool)(y:Rat):Prop where
 b:Bt (K+6) y
 dn:away=decide (x<0)→y≤x
 up:away=decide (0<x)→x≤y
theorem iv_abs' (b:Bool)(n:Nat):(iv b n).natAbs=n:=by unfold iv;split<;>omega
theorem rnd_ok {x:Rat}{K q:Nat}{e:Int}{away:Bool}(hx:Bt K x)(hq:q≤16)(he: -(K:Int)-3≤e∧e≤K)(h0:x≠0)
  (h:if away=true then x.num.natAbs*dyD e≤q*(x.den*dyY e)else q*(x.den*dyY e)≤x.num.natAbs*dyD e):RndOk K x away (dyQ (decide (x<0)) q e):=by
 have hd:=dyD_pos e;have hx1:x=mkRat x.num x.den:=(Rat.mkRat_self x).symm;have hden:=x.den_pos;have bnd:Bt (K+6) (dyQ (decide (x<0)) q e):=by
  refine bt_mk hd ?_ ?_
  ·rw[iv_abs',dyN_eq];have:q*dyY e≤2^4*2^K:=Nat.mul_le_mul (by omega) (by unfold dyY;split;exact Nat.pow_le_pow_right (by decide) (by omega);exact Nat.one_le_two_pow);rw[←Nat.pow_add]at this;exact tL_ this (Nat.pow_le_pow_right (by decide) (by omega))
  ·unfold dyD;split
   ·exact Nat.one_le_two_pow
   ·exact Nat.pow_le_pow_right (by decide) (by omega)
 have hn:x<0↔x.num<0:=by rw[←Rat.not_le,←Rat.num_nonneg];omega
 have hz:x.num≠0:=fun hz=>h0 (by rw[hx1,hz];exact Rat.zero_mkRat _);have hp:0<x↔0<x.num:=by
  constructor
  ·intro h;have:¬x<0:=by grind
   rw[hn]at this;omega
  ·intro h;have:¬x<0:=by rw[hn];omega
   grind
 have e1:(dyN q e:Int)*(x.den:Int)=((q*(x.den*dyY e):Nat):Int):=by rw[dyN_eq];push_cast;grind
 have e2:(x.num.natAbs:Int)*(dyD e:Int)=((x.num.natAbs*dyD e:Nat):Int):=by push_cast;rfl
 refine⟨bnd,fun ha=> ?_,fun ha=> ?_⟩
 ·subst ha;conv=>rhs;rw[hx1]
  by_cases hneg:x<0
  ·rw[decide_eq_true hneg]at h ⊢;rw[if_pos rfl]at h;have hnn:=hn.1 hneg;refine mk_le hd hden ?_;rw[show iv true (dyN q e)= -(dyN q e:Int)from rfl,Int.neg_mul,e1,show x.num= -(x.num.natAbs:Int) by omega,Int.neg_mul,e2];omega
  ·rw[decide_eq_false hneg]at h ⊢;rw[if_neg (by decide)]at h;have hnn:0≤x.num:=by have:=mt hn.2 hneg;omega
   refine mk_le hd hden ?_;rw[show iv false (dyN q e)=(dyN q e:Int)from rfl,e1];conv=>rhs;rw[show x.num=(x.num.natAbs:Int) by omega]
   rw[e2];omega
 ·subst ha;conv=>lhs;rw[hx1]
  by_cases hpos:0<x
  ·rw[decide_eq_true hpos]at h;rw[if_pos rfl]at h;have hneg:¬x<0:=by grind
   rw[decide_eq_false hneg];have hnn:=hp.1 hpos;refine mk_le hden hd ?_;rw[show iv false (dyN q e)=(dyN q e:Int)from rfl,e1];conv=>lhs;rw[show x.num=(x.num.natAbs:Int) by omega]
   rw[e2];omega
  ·rw[decide_eq_false hpos]at h;rw[if_neg (by decide)]at h;have hneg:x<0:=by
    have:¬0<x.num:=mt hp.2 hpos;exact hn.2 (by omega)
   rw[decide_eq_true hneg];have hnn:=hn.1 hneg;refine mk_le hden hd ?_;rw[show iv true (dyN q e)= -(dyN q e:Int)from rfl,Int.neg_mul,e1];conv=>lhs;rw[show x.num= -(x.num.natAbs:Int) by omega,Int.neg_mul,e2]
   omega
theorem pl_dround {x:Rat}{K n:Nat}{away:Bool}(hx:Bt K x)(hK:K≤40000000)(h0:x≠0)(h1:1≤n)(h3:n≤3):
  ∃(b:Bool) (m:Nat) (e er:Int),(er=0→m≤16∧(-1048576≤e∧e≤1048576)∧RndOk K x away (dyQ b m e))∧(er=0∨er=2)∧LV Tryz.prog 122 [ratV x,vl (.int .i64 (n:Nat)),vl (.bool away)] (.tup [.g (dyA b m e),.s (.d (.lit (.int .i64 er)))]):=by
 suffices hh:LX Tryz.prog 122 [ratV x,vl (.int .i64 (n:Nat)),vl (.bool away)] [] fun v H=>∃(b:Bool) (m:Nat) (e er:Int),(er=0→m≤16∧(-1048576≤e∧e≤1048576)∧RndOk K x away (dyQ b m e))∧(er=0∨er=2)∧v= .tup [.g (dyA b m e),.s (.d (.lit (.int .i64 er)))]∧H=[] by
  obtain⟨v,H',⟨b,m,e,er,h1,h2,rfl,rfl⟩,hc⟩:=hh;exact⟨b,m,e,er,h1,h2,_,_,⟨rfl,rfl⟩,hc⟩
 have hDp:=x.den_pos;have hNp:0<x.num.natAbs:=by
  rcases eP_ x.num.natAbs with h|h
  ·exfalso;apply h0;rw[←Rat.mkRat_self x,Int.natAbs_eq_zero.1 h];exact Rat.zero_mkRat _
  ·exact h
 have lN:(limbs x.num.natAbs).length≤200000000:=tL_ (nat_sz hx.1 (by omega)) (by decide);have lD:(limbs x.den).length≤200000000:=tL_ (nat_sz hx.2 (by omega)) (by decide);have bN:=blen_le hx.1;have bD:=blen_le hx.2;have gN:=(blen_ge hNp).2;have gD:=(blen_ge hDp).2;obtain⟨k,ok,hk,cs⟩:=pl_size hx.1 hx.2 hK;rcases hneg:decide (x<0)with _|_
 ·obtain⟨z,hz,cz⟩:=pl_isign (b:=false) (n:=x.num.natAbs) lN hNp;have cn:=pl_rnum (.c (hx.mono (by omega):Sz x));rw[hneg]at cn;refine LX_run (m:=0) (n0:=0) mix Tryz.func122 rfl rfl rfl rfl ?_;conv=>whnf
  refine bF (decide_eq_false (by omega)) ?_;conv=>whnf
  refine bF (decide_eq_false (by omega)) ?_;conv=>whnf
  refine .c (cn) ?_;conv=>whnf
  refine .c (pl_rden (.c (hx.mono (by omega):Sz x))) ?_;conv=>whnf
  refine .mk (by kernel_rfl) ?_;conv=>whnf
  refine .c (cz) ?_;conv=>whnf
  refine bF (by simpa using hz) ?_;conv=>whnf
  refine .c (cs) ?_;conv=>whnf
  cases ok
  ·conv=>whnf
   exact .q ⟨false,0,0,2,(fun h=>by omega),.inr rfl,rfl,rfl⟩
  ·obtain⟨k1,k2,k3,k4⟩:=hk rfl;have hw:IntKind.i64.wrap (IntKind.i64.wrap (k-(n:Int))+1)=k-n+1:=by rw[wr64 (x:=k-n) (by omega) (by omega),wr64 (by omega) (by omega)]
   obtain⟨e,he⟩:∃e:Int,e=k-n+1:=⟨_,rfl⟩;have he3:(blen x.num.natAbs:Int)-blen x.den-3≤e:=by omega
   conv=>whnf
   rw[hw,←he];refine bs (fun h5=> ?_) (fun h5=> ?_)
   ·have h5':=of_decide_eq_true h5;obtain⟨m,hm⟩:∃m:Nat,e=m:=⟨e.toNat,by omega⟩;have EX:x.num.natAbs*dyD e=x.num.natAbs:=by rw[dyD,if_pos h5',Nat.mul_one]
    have EY:x.den*dyY e=x.den*2^m:=by rw[dyY,if_pos h5',hm,Int.toNat_natCast]
    have csh:LV Tryz.prog 123 [.a (.d (.nat x.den)),vl (.int .i64 e)] (.a (.d (.nat (x.den*2^m)))):=by rw[hm];exact pl_shl lD (by omega)
    conv=>whnf
    refine .c (csh) ?_;conv=>whnf
    have hlt:=rnd_lt hNp hDp he3;rw[EX,EY]at hlt;have hla:(limbs (x.num.natAbs)).length≤200000000:=lN;have hbb:0<x.den*2^m:=Nat.mul_pos hDp (Nat.two_pow_pos _);have hq:(x.num.natAbs)/(x.den*2^m)≤15:=by have:=Nat.div_lt_of_lt_mul (show x.num.natAbs<(x.den*2^m)*16 by omega);omega
    have hqs:(limbs ((x.num.natAbs)/(x.den*2^m))).length≤200000000:=tL_ (nat_sz (k:=4) (by omega) (by decide)) (by decide);have hdm:=Nat.div_add_mod (x.num.natAbs) (x.den*2^m);have hml:=Nat.mod_lt (x.num.natAbs) hbb;have R0:(x.num.natAbs)/(x.den*2^m)*(x.den*dyY e)≤x.num.natAbs*dyD e:=by rw[EX,EY];exact Nat.div_mul_le_self _ _
    have R1:x.num.natAbs*dyD e≤((x.num.natAbs)/(x.den*2^m)+1)*(x.den*dyY e):=by rw[EX,EY,Nat.add_mul,Nat.one_mul,Nat.mul_comm ((x.num.natAbs)/(x.den*2^m)) (x.den*2^m)];omega
    have R2:(x.num.natAbs) % (x.den*2^m)=0→x.num.natAbs*dyD e≤(x.num.natAbs)/(x.den*2^m)*(x.den*dyY e):=fun h=>by rw[EX,EY,Nat.mul_comm ((x.num.natAbs)/(x.den*2^m)) (x.den*2^m)];omega
    generalize hQ:(x.num.natAbs)/(x.den*2^m)=Q at *
    generalize hR:(x.num.natAbs) % (x.den*2^m)=R at *
    have cd:=pl_ndiv (a:=x.num.natAbs) (b:=x.den*2^m) hla hbb;rw[hQ,hR]at cd;refine .c (cd) ?_;conv=>whnf
    cases away
    ·conv=>whnf
     obtain⟨b',m',e',hd,cn⟩:=pl_normal (b:=false) (q:=Q) (e:=e) (by omega) (by omega);refine .c (cn) ?_;conv=>whnf
     exact .q ⟨b',m',e',0,fun _=>⟨hd.ml,hd.el,by rw[hd.ql];have rk:=rnd_ok (away:=false) hx (show Q≤16 by omega) (show -(K:Int)-3≤e∧e≤K by omega) h0 (by rw[if_neg (by decide)];exact R0);rw[hneg]at rk;exact rk⟩,.inl rfl,rfl,rfl⟩
    ·conv=>whnf
     refine bs (fun hr=> ?_) (fun hr=> ?_)
     ·conv=>whnf
      refine .c (pl_nof (x:=1) (by decide)) ?_;conv=>whnf
      refine .c (pl_nadd (a:=Q) (b:=1) hqs (by rw[limbs_one];decide)) ?_;conv=>whnf
      obtain⟨b',m',e',hd,cn⟩:=pl_normal (b:=false) (q:=Q+1) (e:=e) (by omega) (by omega);refine .c (cn) ?_;conv=>whnf
      exact .q ⟨b',m',e',0,fun _=>⟨hd.ml,hd.el,by rw[hd.ql];have rk:=rnd_ok (away:=true) hx (show Q+1≤16 by omega) (show -(K:Int)-3≤e∧e≤K by omega) h0 (by rw[if_pos rfl];exact R1);rw[hneg]at rk;exact rk⟩,.inl rfl,rfl,rfl⟩
     ·conv=>whnf
      have hr0:R=0:=by
       rcases eP_ R with h|h
       ·exact h
       ·have h1:=sz_pos h;unfold sz at h1;have h2:=of_decide_eq_false hr;omega
      obtain⟨b',m',e',hd,cn⟩:=pl_normal (b:=false) (q:=Q) (e:=e) (by omega) (by omega);refine .c (cn) ?_;conv=>whnf
      exact .q ⟨b',m',e',0,fun _=>⟨hd.ml,hd.el,by rw[hd.ql];have rk:=rnd_ok (away:=true) hx (show Q≤16 by omega) (show -(K:Int)-3≤e∧e≤K by omega) h0 (by rw[if_pos rfl];exact R2 hr0);rw[hneg]at rk;exact rk⟩,.inl rfl,rfl,rfl⟩
   ·have h5':=of_decide_eq_false h5;obtain⟨m,hm⟩:∃m:Nat,e= -(m:Int):=⟨(-e).toNat,by omega⟩;have EX:x.num.natAbs*dyD e=x.num.natAbs*2^m:=by rw[dyD,if_neg h5',hm,Int.neg_neg,Int.toNat_natCast]
    have EY:x.den*dyY e=x.den:=by rw[dyY,if_neg h5',Nat.mul_one]
    have hwn:IntKind.i64.wrap (0-e)=(m:Int):=by rw[wr64 (by omega) (by omega)];omega
    conv=>whnf
    rw[hwn];refine .c (pl_shl (m:=m) lN (by omega)) ?_;conv=>whnf
    have hlt:=rnd_lt hNp hDp he3;rw[EX,EY]at hlt;have hla:(limbs (x.num.natAbs*2^m)).length≤200000000:=tL_ (nat_sz (k:=K+m) (by rw[Nat.pow_add];exact Nat.mul_le_mul_right _ hx.1) (by omega)) (by decide);have hbb:0<x.den:=hDp;have hq:(x.num.natAbs*2^m)/(x.den)≤15:=by have:=Nat.div_lt_of_lt_mul (show x.num.natAbs*2^m<(x.den)*16 by omega);omega
    have hqs:(limbs ((x.num.natAbs*2^m)/(x.den))).length≤200000000:=tL_ (nat_sz (k:=4) (by omega) (by decide)) (by decide);have hdm:=Nat.div_add_mod (x.num.natAbs*2^m) (x.den);have hml:=Nat.mod_lt (x.num.natAbs*2^m) hbb;have R0:(x.num.natAbs*2^m)/(x.den)*(x.den*dyY e)≤x.num.natAbs*dyD e:=by rw[EX,EY];exact Nat.div_mul_le_self _ _
    have R1:x.num.natAbs*dyD e≤((x.num.natAbs*2^m)/(x.den)+1)*(x.den*dyY e):=by rw[EX,EY,Nat.add_mul,Nat.one_mul,Nat.mul_comm ((x.num.natAbs*2^m)/(x.den)) (x.den)];omega
    have R2:(x.num.natAbs*2^m) % (x.den)=0→x.num.natAbs*dyD e≤(x.num.natAbs*2^m)/(x.den)*(x.den*dyY e):=fun h=>by rw[EX,EY,Nat.mul_comm ((x.num.natAbs*2^m)/(x.den)) (x.den)];omega
    generalize hQ:(x.num.natAbs*2^m)/(x.den)=Q at *
    generalize hR:(x.num.natAbs*2^m) % (x.den)=R at *
    have cd:=pl_ndiv (a:=x.num.natAbs*2^m) (b:=x.den) hla hbb;rw[hQ,hR]at cd;refine .c (cd) ?_;conv=>whnf
    cases away
    ·conv=>whnf
     obtain⟨b',m',e',hd,cn⟩:=pl_normal (b:=false) (q:=Q) (e:=e) (by omega) (by omega);refine .c (cn) ?_;conv=>whnf
     exact .q ⟨b',m',e',0,fun _=>⟨hd.ml,hd.el,by rw[hd.ql];have rk:=rnd_ok (away:=false) hx (show Q≤16 by omega) (show -(K:Int)-3≤e∧e≤K by omega) h0 (by rw[if_neg (by decide)];exact R0);rw[hneg]at rk;exact rk⟩,.inl rfl,rfl,rfl⟩
    ·conv=>whnf
     refine bs (fun hr=> ?_) (fun hr=> ?_)
     ·conv=>whnf
      refine .c (pl_nof (x:=1) (by decide)) ?_;conv=>whnf
      refine .c (pl_nadd (a:=Q) (b:=1) hqs (by rw[limbs_one];decide)) ?_;conv=>whnf
      obtain⟨b',m',e',hd,cn⟩:=pl_normal (b:=false) (q:=Q+1) (e:=e) (by omega) (by omega);refine .c (cn) ?_;conv=>whnf
      exact .q ⟨b',m',e',0,fun _=>⟨hd.ml,hd.el,by rw[hd.ql];have rk:=rnd_ok (away:=true) hx (show Q+1≤16 by omega) (show -(K:Int)-3≤e∧e≤K by omega) h0 (by rw[if_pos rfl];exact R1);rw[hneg]at rk;exact rk⟩,.inl rfl,rfl,rfl⟩
     ·conv=>whnf
      have hr0:R=0:=by
       rcases eP_ R with h|h
       ·exact h
       ·have h1:=sz_pos h;unfold sz at h1;have h2:=of_decide_eq_false hr;omega
      obtain⟨b',m',e',hd,cn⟩:=pl_normal (b:=false) (q:=Q) (e:=e) (by omega) (by omega);refine .c (cn) ?_;conv=>whnf
      exact .q ⟨b',m',e',0,fun _=>⟨hd.ml,hd.el,by rw[hd.ql];have rk:=rnd_ok (away:=true) hx (show Q≤16 by omega) (show -(K:Int)-3≤e∧e≤K by omega) h0 (by rw[if_pos rfl];exact R2 hr0);rw[hneg]at rk;exact rk⟩,.inl rfl,rfl,rfl⟩
 ·obtain⟨z,hz,cz⟩:=pl_isign (b:=true) (n:=x.num.natAbs) lN hNp;have cn:=pl_rnum (.c (hx.mono (by omega):Sz x));rw[hneg]at cn;refine LX_run (m:=0) (n0:=0) mix Tryz.func122 rfl rfl rfl rfl ?_;conv=>whnf
  refine bF (decide_eq_false (by omega)) ?_;conv=>whnf
  refine bF (decide_eq_false (by omega)) ?_;conv=>whnf
  refine .c (cn) ?_;conv=>whnf
  refine .c (pl_rden (.c (hx.mono (by omega):Sz x))) ?_;conv=>whnf
  refine .mk (by kernel_rfl) ?_;conv=>whnf
  refine .c (cz) ?_;conv=>whnf
  refine bF (by simpa using hz) ?_;conv=>whnf
  refine .c (cs) ?_;conv=>whnf
  cases ok
  ·conv=>whnf
   exact .q ⟨false,0,0,2,(fun h=>by omega),.inr rfl,rfl,rfl⟩
  ·obtain⟨k1,k2,k3,k4⟩:=hk rfl;have hw:IntKind.i64.wrap (IntKind.i64.wrap (k-(n:Int))+1)=k-n+1:=by rw[wr64 (x:=k-n) (by omega) (by omega),wr64 (by omega) (by omega)]
   obtain⟨e,he⟩:∃e:Int,e=k-n+1:=⟨_,rfl⟩;have he3:(blen x.num.natAbs:Int)-blen x.den-3≤e:=by omega
   conv=>whnf
   rw[hw,←he];refine bs (fun h5=> ?_) (fun h5=> ?_)
   ·have h5':=of_decide_eq_true h5;obtain⟨m,hm⟩:∃m:Nat,e=m:=⟨e.toNat,by omega⟩;have EX:x.num.natAbs*dyD e=x.num.natAbs:=by rw[dyD,if_pos h5',Nat.mul_one]
    have EY:x.den*dyY e=x.den*2^m:=by rw[dyY,if_pos h5',hm,Int.toNat_natCast]
    have csh:LV Tryz.prog 123 [.a (.d (.nat x.den)),vl (.int .i64 e)] (.a (.d (.nat (x.den*2^m)))):=by rw[hm];exact pl_shl lD (by omega)
    conv=>whnf
    refine .c (csh) ?_;conv=>whnf
    have hlt:=rnd_lt hNp hDp he3;rw[EX,EY]at hlt;have hla:(limbs (x.num.natAbs)).length≤200000000:=lN;have hbb:0<x.den*2^m:=Nat.mul_pos hDp (Nat.two_pow_pos _);have hq:(x.num.natAbs)/(x.den*2^m)≤15:=by have:=Nat.div_lt_of_lt_mul (show x.num.natAbs<(x.den*2^m)*16 by omega);omega
    have hqs:(limbs ((x.num.natAbs)/(x.den*2^m))).length≤200000000:=tL_ (nat_sz (k:=4) (by omega) (by decide)) (by decide);have hdm:=Nat.div_add_mod (x.num.natAbs) (x.den*2^m);have hml:=Nat.mod_lt (x.num.natAbs) hbb;have R0:(x.num.natAbs)/(x.den*2^m)*(x.den*dyY e)≤x.num.natAbs*dyD e:=by rw[EX,EY];exact Nat.div_mul_le_self _ _
    have R1:x.num.natAbs*dyD e≤((x.num.natAbs)/(x.den*2^m)+1)*(x.den*dyY e):=by rw[EX,EY,Nat.add_mul,Nat.one_mul,Nat.mul_comm ((x.num.natAbs)/(x.den*2^m)) (x.den*2^m)];omega
    have R2:(x.num.natAbs) % (x.den*2^m)=0→x.num.natAbs*dyD e≤(x.num.natAbs)/(x.den*2^m)*(x.den*dyY e):=fun h=>by rw[EX,EY,Nat.mul_comm ((x.num.natAbs)/(x.den*2^m)) (x.den*2^m)];omega
    generalize hQ:(x.num.natAbs)/(x.den*2^m)=Q at *
    generalize hR:(x.num.natAbs) % (x.den*2^m)=R at *
    have cd:=pl_ndiv (a:=x.num.natAbs) (b:=x.den*2^m) hla hbb;rw[hQ,hR]at cd;refine .c (cd) ?_;conv=>whnf
    cases away
    ·conv=>whnf
     obtain⟨b',m',e',hd,cn⟩:=pl_normal (b:=true) (q:=Q) (e:=e) (by omega) (by omega);refine .c (cn) ?_;conv=>whnf
     exact .q ⟨b',m',e',0,fun _=>⟨hd.ml,hd.el,by rw[hd.ql];have rk:=rnd_ok (away:=false) hx (show Q≤16 by omega) (show -(K:Int)-3≤e∧e≤K by omega) h0 (by rw[if_neg (by decide)];exact R0);rw[hneg]at rk;exact rk⟩,.inl rfl,rfl,rfl⟩
    ·conv=>whnf
     refine bs (fun hr=> ?_) (fun hr=> ?_)
     ·conv=>whnf
      refine .c (pl_nof (x:=1) (by decide)) ?_;conv=>whnf
      refine .c (pl_nadd (a:=Q) (b:=1) hqs (by rw[limbs_one];decide)) ?_;conv=>whnf
      obtain⟨b',m',e',hd,cn⟩:=pl_normal (b:=true) (q:=Q+1) (e:=e) (by omega) (by omega);refine .c (cn) ?_;conv=>whnf
      exact .q ⟨b',m',e',0,fun _=>⟨hd.ml,hd.el,by rw[hd.ql];have rk:=rnd_ok (away:=true) hx (show Q+1≤16 by omega) (show -(K:Int)-3≤e∧e≤K by omega) h0 (by rw[if_pos rfl];exact R1);rw[hneg]at rk;exact rk⟩,.inl rfl,rfl,rfl⟩
     ·conv=>whnf
      have hr0:R=0:=by
       rcases eP_ R with h|h
       ·exact h
       ·have h1:=sz_pos h;unfold sz at h1;have h2:=of_decide_eq_false hr;omega
      obtain⟨b',m',e',hd,cn⟩:=pl_normal (b:=true) (q:=Q) (e:=e) (by omega) (by omega);refine .c (cn) ?_;conv=>whnf
      exact .q ⟨b',m',e',0,fun _=>⟨hd.ml,hd.el,by rw[hd.ql];have rk:=rnd_ok (away:=true) hx (show Q≤16 by omega) (show -(K:Int)-3≤e∧e≤K by omega) h0 (by rw[if_pos rfl];exact R2 hr0);rw[hneg]at rk;exact rk⟩,.inl rfl,rfl,rfl⟩
   ·have h5':=of_decide_eq_false h5;obtain⟨m,hm⟩:∃m:Nat,e= -(m:Int):=⟨(-e).toNat,by omega⟩;have EX:x.num.natAbs*dyD e=x.num.natAbs*2^m:=by rw[dyD,if_neg h5',hm,Int.neg_neg,Int.toNat_natCast]
    have EY:x.den*dyY e=x.den:=by rw[dyY,if_neg h5',Nat.mul_one]
    have hwn:IntKind.i64.wrap (0-e)=(m:Int):=by rw[wr64 (by omega) (by omega)];omega
    conv=>whnf
    rw[hwn];refine .c (pl_shl (m:=m) lN (by omega)) ?_;conv=>whnf
    have hlt:=rnd_lt hNp hDp he3;rw[EX,EY]at hlt;have hla:(limbs (x.num.natAbs*2^m)).length≤200000000:=tL_ (nat_sz (k:=K+m) (by rw[Nat.pow_add];exact Nat.mul_le_mul_right _ hx.1) (by omega)) (by decide);have hbb:0<x.den:=hDp;have hq:(x.num.natAbs*2^m)/(x.den)≤15:=by have:=Nat.div_lt_of_lt_mul (show x.num.natAbs*2^m<(x.den)*16 by omega);omega
    have hqs:(limbs ((x.num.natAbs*2^m)/(x.den))).length≤200000000:=tL_ (nat_sz (k:=4) (by omega) (by decide)) (by decide);have hdm:=Nat.div_add_mod (x.num.natAbs*2^m) (x.den);have hml:=Nat.mod_lt (x.num.natAbs*2^m) hbb;have R0:(x.num.natAbs*2^m)/(x.den)*(x.den*dyY e)≤x.num.natAbs*dyD e:=by rw[EX,EY];exact Nat.div_mul_le_self _ _
    have R1:x.num.natAbs*dyD e≤((x.num.natAbs*2^m)/(x.den)+1)*(x.den*dyY e):=by rw[EX,EY,Nat.add_mul,Nat.one_mul,Nat.mul_comm ((x.num.natAbs*2^m)/(x.den)) (x.den)];omega
    have R2:(x.num.natAbs*2^m) % (x.den)=0→x.num.natAbs*dyD e≤(x.num.natAbs*2^m)/(x.den)*(x.den*dyY e):=fun h=>by rw[EX,EY,Nat.mul_comm ((x.num.natAbs*2^m)/(x.den)) (x.den)];omega
    generalize hQ:(x.num.natAbs*2^m)/(x.den)=Q at *
    generalize hR:(x.num.natAbs*2^m) % (x.den)=R at *
    have cd:=pl_ndiv (a:=x.num.natAbs*2^m) (b:=x.den) hla hbb;rw[hQ,hR]at cd;refine .c (cd) ?_;conv=>whnf
    cases away
    ·conv=>whnf
     obtain⟨b',m',e',hd,cn⟩:=pl_normal (b:=true) (q:=Q) (e:=e) (by omega) (by omega);refine .c (cn) ?_;conv=>whnf
     exact .q ⟨b',m',e',0,fun _=>⟨hd.ml,hd.el,by rw[hd.ql];have rk:=rnd_ok (away:=false) hx (show Q≤16 by omega) (show -(K:Int)-3≤e∧e≤K by omega) h0 (by rw[if_neg (by decide)];exact R0);rw[hneg]at rk;exact rk⟩,.inl rfl,rfl,rfl⟩
    ·conv=>whnf
     refine bs (fun hr=> ?_) (fun hr=> ?_)
     ·conv=>whnf
      refine .c (pl_nof (x:=1) (by decide)) ?_;conv=>whnf
      refine .c (pl_nadd (a:=Q) (b:=1) hqs (by rw[limbs_one];decide)) ?_;conv=>whnf
      obtain⟨b',m',e',hd,cn⟩:=pl_normal (b:=true) (q:=Q+1) (e:=e) (by omega) (by omega);refine .c (cn) ?_;conv=>whnf
      exact .q ⟨b',m',e',0,fun _=>⟨hd.ml,hd.el,by rw[hd.ql];have rk:=rnd_ok (away:=true) hx (show Q+1≤16 by omega) (show -(K:Int)-3≤e∧e≤K by omega) h0 (by rw[if_pos rfl];exact R1);rw[hneg]at rk;exact rk⟩,.inl rfl,rfl,rfl⟩
     ·conv=>whnf
      have hr0:R=0:=by
       rcases eP_ R with h|h
       ·exact h
       ·have h1:=sz_pos h;unfold sz at h1;have h2:=of_decide_eq_false hr;omega
      obtain⟨b',m',e',hd,cn⟩:=pl_normal (b:=true) (q:=Q) (e:=e) (by omega) (by omega);refine .c (cn) ?_;conv=>whnf
      exact .q ⟨b',m',e',0,fun _=>⟨hd.ml,hd.el,by rw[hd.ql];have rk:=rnd_ok (away:=true) hx (show Q≤16 by omega) (show -(K:Int)-3≤e∧e≤K by omega) h0 (by rw[if_pos rfl];exact R2 hr0);rw[hneg]at rk;exact rk⟩,.inl rfl,rfl,rfl⟩
theorem pl_dround0 {n:Nat}{away:Bool}(h1:1≤n)(h3:n≤3):LV Tryz.prog 122 [ratV 0,vl (.int .i64 (n:Nat)),vl (.bool away)] (.tup [.g (dyA false 0 0),.s (.d (.lit (.int .i64 0)))]):=by
 have cb:LV Tryz.prog 140 [.a (.d (.nat (0:Rat).num.natAbs))] (vl (.int .i64 0)):=pl_nbits (n:=(0:Rat).num.natAbs) (by show(limbs 0).length≤_;rw[limbs_zero];decide);have cs:LV Tryz.prog 113 [.agg [.d (.lit (.bool (decide ((0:Rat)<0)))),.d (.nat (0:Rat).num.natAbs)]] (vl (.int .i64 0)):=by
  rw[show decide ((0:Rat)<0)=false by decide];refine LX_run (m:=0) (n0:=0) mix Tryz.func113 rfl rfl rfl rfl ?_;conv=>whnf
  refine .c (cb) ?_;conv=>whnf
  exact .q ⟨rfl,rfl⟩
 cases away
 all_goals refine LX_run (m:=0) (n0:=0) mix Tryz.func122 rfl rfl rfl rfl ?_
           conv=>whnf
 all_goals refine bF (decide_eq_false (by omega)) ?_
           conv=>whnf
 all_goals refine bF (decide_eq_false (by omega)) ?_
           conv=>whnf
 all_goals refine .c (pl_rnum (.c sz0)) ?_
           conv=>whnf
 all_goals refine .c (pl_rden (.c sz0)) ?_
           conv=>whnf
 all_goals refine .mk (by kernel_rfl) ?_
           conv=>whnf
 all_goals refine .c (cs) ?_
           conv=>whnf
 all_goals exact .q ⟨rfl,rfl⟩
theorem pl_side {x:Rat}{K n:Nat}{away:Bool}(hx:Bt K x)(hK:K≤40000000)(h1:1≤n)(h3:n≤3):
  ∃(b:Bool) (m:Nat) (e er:Int),(er=0→m≤16∧(-1048576≤e∧e≤1048576)∧RndOk K x away (dyQ b m e))∧(er=0∨er=2)∧LV Tryz.prog 122 [ratV x,vl (.int .i64 (n:Nat)),vl (.bool away)] (.tup [.g (dyA b m e),.s (.d (.lit (.int .i64 er)))]):=by
 by_cases h0:x=0
 ·subst h0;exact⟨false,0,0,0,fun _=>⟨by omega,by omega,by rw[dyQ_zero];exact⟨bt0 _,fun _=>Rat.le_refl,fun _=>Rat.le_refl⟩⟩,.inl rfl,pl_dround0 h1 h3⟩
 ·exact pl_dround hx hK h0 h1 h3
theorem pl_down {x:Rat}{K n:Nat}(hx:Bt K x)(hK:K≤40000000)(h1:1≤n)(h3:n≤3):
  ∃(b:Bool) (m:Nat) (e er:Int),(er=0→m≤16∧(-1048576≤e∧e≤1048576)∧Bt (K+6) (dyQ b m e)∧dyQ b m e≤x)∧(er=0∨er=2)∧LV Tryz.prog 87 [ratV x,vl (.int .i64 (n:Nat))] (.tup [.g (dyA b m e),.s (.d (.lit (.int .i64 er)))]):=by
 obtain⟨b,m,e,er,k1,k2,c⟩:=pl_side (away:=decide (x<0)) hx hK h1 h3;refine⟨b,m,e,er,fun h=>let ⟨a,b,c⟩:=k1 h;⟨a,b,c.b,c.dn rfl⟩,k2,?_⟩;have c:LV Tryz.prog 122 [.agg [.d (.lit (.bool (decide (x<0)))),.d (.lm (limbs x.num.natAbs)),.d (.lm (limbs (dn x)))],vl (.int .i64 (n:Nat)),vl (.bool (decide (x<0)))] (.tup [.g (dyA b m e),.s (.d (.lit (.int .i64 er)))]):=c;refine LX_run (m:=0) (n0:=0) mix Tryz.func87 rfl rfl rfl rfl ?_;conv=>whnf
 refine .c (lx_rsign (.c (hx.mono (by omega):Sz x))) ?_;conv=>whnf
 rw[sg_lt];rcases hd:decide (x<0)with _|_
 all_goals rw[hd]at c
 all_goals conv=>whnf
 all_goals refine .c (c) ?_
           conv=>whnf
 all_goals refine .mk (by kernel_rfl) ?_
           conv=>whnf
 all_goals exact .q ⟨rfl,rfl⟩
theorem pl_up {x:Rat}{K n:Nat}(hx:Bt K x)(hK:K≤40000000)(h1:1≤n)(h3:n≤3):
  ∃(b:Bool) (m:Nat) (e er:Int),(er=0→m≤16∧(-1048576≤e∧e≤1048576)∧Bt (K+6) (dyQ b m e)∧x≤dyQ b m e)∧(er=0∨er=2)∧LV Tryz.prog 88 [ratV x,vl (.int .i64 (n:Nat))] (.tup [.g (dyA b m e),.s (.d (.lit (.int .i64 er)))]):=by
 obtain⟨b,m,e,er,k1,k2,c⟩:=pl_side (away:=decide (0<x)) hx hK h1 h3;refine⟨b,m,e,er,fun h=>let ⟨a,b,c⟩:=k1 h;⟨a,b,c.b,c.up rfl⟩,k2,?_⟩;refine LX_run (m:=0) (n0:=0) mix Tryz.func88 rfl rfl rfl rfl ?_;conv=>whnf
 refine .c (lx_rsign (.c (hx.mono (by omega):Sz x))) ?_;conv=>whnf
 rw[sg_gt];rcases hd:decide (0<x)with _|_
 all_goals rw[hd]at c
 all_goals conv=>whnf
 all_goals refine .c (c) ?_
           conv=>whnf
 all_goals refine .mk (by kernel_rfl) ?_
           conv=>whnf
 all_goals exact .q ⟨rfl,rfl⟩
theorem pl_round {x:Rat}{K n:Nat}{up:Bool}(hx:Bt K x)(hK:K≤40000000)(hn:n≤3):
  ∃y,(Bt (K+6) y∧(up=false→y≤x)∧(up=true→x≤y)∧(n=0→y=x))∧LV Tryz.prog 55 [ratV x,vl (.bool up),vl (.int .i64 (n:Nat))] (ratV y):=by
 rcases eP_ n with h0|h0
 ·refine⟨x,⟨hx.mono (by omega),fun _=>Rat.le_refl,fun _=>Rat.le_refl,fun _=>rfl⟩,?_⟩;have e0:((n:Int)==0)=true:=by rw[h0];rfl
  cases up
  all_goals refine LX_run (m:=0) (n0:=0) mix Tryz.func55 rfl rfl rfl rfl ?_
            conv=>whnf
  all_goals refine bT (e0) ?_
            conv=>whnf
  all_goals exact .q ⟨rfl,rfl⟩
 ·have e0:((n:Int)==0)=false:=beq_eq_false_iff_ne.2 (by omega)
  cases up
  ·obtain⟨b,m,e,er,k1,k2,c⟩:=pl_down hx hK h0 hn;rcases k2 with rfl|rfl
   ·obtain⟨a1,a2,a3,a4⟩:=k1 rfl;refine⟨dyQ b m e,⟨a3,fun _=>a4,fun h=>(by cases h),fun h=>by omega⟩,?_⟩;refine LX_run (m:=0) (n0:=0) mix Tryz.func55 rfl rfl rfl rfl ?_;conv=>whnf
    refine bF (e0) ?_;conv=>whnf
    refine .c (c) ?_;conv=>whnf
    refine .c (pl_dyRat a1 a2) ?_;conv=>whnf
    exact .q ⟨rfl,rfl⟩
   ·refine⟨x,⟨hx.mono (by omega),fun _=>Rat.le_refl,fun _=>Rat.le_refl,fun _=>rfl⟩,?_⟩;refine LX_run (m:=0) (n0:=0) mix Tryz.func55 rfl rfl rfl rfl ?_;conv=>whnf
    refine bF (e0) ?_;conv=>whnf
    refine .c (c) ?_;conv=>whnf
    exact .q ⟨rfl,rfl⟩
  ·obtain⟨b,m,e,er,k1,k2,c⟩:=pl_up hx hK h0 hn;rcases k2 with rfl|rfl
   ·obtain⟨a1,a2,a3,a4⟩:=k1 rfl;refine⟨dyQ b m e,⟨a3,fun h=>(by cases h),fun _=>a4,fun h=>by omega⟩,?_⟩;refine LX_run (m:=0) (n0:=0) mix Tryz.func55 rfl rfl rfl rfl ?_;conv=>whnf
    refine bF (e0) ?_;conv=>whnf
    refine .c (c) ?_;conv=>whnf
    refine .c (pl_dyRat a1 a2) ?_;conv=>whnf
    exact .q ⟨rfl,rfl⟩
   ·refine⟨x,⟨hx.mono (by omega),fun _=>Rat.le_refl,fun _=>Rat.le_refl,fun _=>rfl⟩,?_⟩;refine LX_run (m:=0) (n0:=0) mix Tryz.func55 rfl rfl rfl rfl ?_;conv=>whnf
    refine bF (e0) ?_;conv=>whnf
    refine .c (c) ?_;conv=>whnf
    exact .q ⟨rfl,rfl⟩
section
variable {P:Program} {F:FuncId} {vs gs:List V} {H:List (Nat×Ent)} {n:Nat} {K:V→List (Nat×Ent)→List Nat→Nat→Prop} {v:V} {R:V→Prop}
def okFK (ks:List Nat)(n:Nat)(gs:List V)(H H1:List (Nat×Ent)):Bool:=
 decide ks.Nodup&&ks.all (fun k=>Nat.blt k n)&&(gs.flatMap keysV).all (fun k=>ks.contains k)&&H1.all (fun p=>(Nat.blt p.1 ks.length||(look H (back ks n p.1)).isNone))
theorem Cn.lK {Hs H1:List (Nat×Ent)}(ks:List Nat)(hc:LX P F ((vs.map stripV).map (renV fun k=>ks.idxOf k)) Hs fun v' H'=>v'=v∧H'=H1)
  (hk:fX (renV (back ks n) v) fun v=>fHs (H1.map fun p=>(back ks n p.1,renE (back ks n) p.2)) fun sets=>K v sets (ks++H1.map fun p=>back ks n p.1) (n+H1.length)) (he:entT P F=true:=by rfl)
  (hl:lendKF ks (look H) 0 ks=some Hs:=by rfl) (hok:okFK ks n (vs.map stripV) H H1=true:=by rfl):Cn P F vs H n K:=by
 unfold okFK at hok;simp only[Bool.and_eq_true,Bool.or_eq_true,decide_eq_true_eq,List.all_eq_true,Nat.blt_eq,List.contains_eq_mem]at hok;obtain⟨⟨⟨o1,o2⟩,o3⟩,o4⟩:=hok;refine .lendK ks _ Hs _ he hc (strips_ok vs) o1 o2 hl o3 fun v' H1' hR=> ?_;obtain⟨rfl,rfl⟩:=hR;exact⟨fun p hp hle=>(o4 p hp).elim (fun h=>absurd h (by omega)) fun h=>by simpa using h,hk⟩
end
theorem cst_keys (r:Value):keysV (cst r)=[]:=by
 cases r with
 |agg cs=>
  show(cs.toList.map fun c=>A.d (.lit c)).flatMap keysA=[];simp[keysA]
 |_=>rfl
structure LmD (q:Qu)(ls:List Lm)(j:Nat)(up:Bool)(v:Rat)(l:List Mu):Prop where
 jl:j<q.g.us.length
 x:∃x,(∀(κ:Rat) (ξ:Int→Rat),wsum (pR κ ξ q ls) l=ph κ ξ (if up=true then scaleS (atF q.g.us j) m1 else atF q.g.us j)-κ*x)∧(if up=true then -x≤v else v≤x)
 rows:∀m∈l,RwJ q ls j m.r
 sm:∃K,SmOk (S0 q ls) l (bB j) K
 b:Bt (bV j) v
theorem LmD.dv {q:Qu}{ls:List Lm}{j:Nat}{up:Bool}{v:Rat}{l:List Mu}(h:LmD q ls j up v l):∃K,DvL (S0 q ls) j up v l (bB j) K:=by
 obtain⟨K,hs⟩:=h.sm;obtain⟨x,hx,hv⟩:=h.x;have hb:=bV_top j
 have key:∀(κ:Rat) (ξ:Int→Rat),ph κ ξ (fL (atF q.g.us j) up v)-wsum (pR κ ξ q ls) l=κ*(if up=true then v+x else x-v):=fun κ ξ=>by
  rw[hx,fL]
  cases up
  ·simp only[Bool.false_eq_true,if_false,ph_sub,ph_num];grind
  ·simp only[if_true,ph_scale,ph_sub,ph_num,m1,m1_r];grind
 refine⟨K,hs,h.jl,h.b.mono (by omega),fun w=> ?_,?_⟩
 ·have:=key 0 (fun u=>if u=w then 1 else 0);rw[←cof_ph]at this;have e:(fun r=>cof (frm (S0 q ls) r).ts w)=pR 0 (fun u=>if u=w then 1 else 0) q ls:=by funext r;rw[cof_ph]
  show cof _ w=wsum (fun r=>cof (frm (S0 q ls) r).ts w) l;rw[e];grind
 ·have:=key 1 (fun _=>0);rw[←c_ph]at this;have e:(fun r=>(frm (S0 q ls) r).c)=pR 1 (fun _=>0) q ls:=by funext r;rw[c_ph]
  show 0≤_-wsum (fun r=>(frm (S0 q ls) r).c) l;rw[e,this]
  cases up
  ·simp only[Bool.false_eq_true,if_false]at hv ⊢;grind
  ·simp only[if_true]at hv ⊢;grind
theorem best_none {ls:List Lm}{u:Int}:∀i,(∀(k:Nat) m,k<i→ls[k]? =some m→m.u≠u)→bestTo ls u i=(0,0)
 |0,_=>rfl
 |i+1,h=>by
  have ih:=best_none i fun k m hk hm=>h k m (by omega) hm
  cases hm:ls[i]? with
  |none=>rw[bestTo,hm];exact ih
  |some m=>rw[bestTo_succ hm,ih,bstep,if_neg (h i m (by omega) hm)]
theorem LsI.uJ {ls:List Lm}{J:Nat}(h:LsI ls J):∀(k:Nat) m,k<2*J→ls[k]? =some m→m.u≠J:=fun k m hk hm=>by
 rcases Nat.mod_two_eq_zero_or_one k with h4|h4
 ·obtain⟨v,l,e⟩:=h.lo (k/2) (by omega);rw[show 2*(k/2)=k by omega,hm]at e;injection e with e;subst e;show((k/2:Nat):Int)≠J;omega
 ·obtain⟨v,l,e⟩:=h.hi (k/2) (by omega);rw[show 2*(k/2)+1=k by omega,hm]at e;injection e with e;subst e;show((k/2:Nat):Int)≠J;omega
structure RunI (q:Qu)(ls:List Lm)(J:Nat)(up:Bool):Prop where
 hyp:Hyp q ls J
 len:ls.length=2*J+cond up 1 0
 last:up=true→∃v l,ls[2*J]? =some (mkL J false v l)
theorem RunI.best0 {q:Qu}{ls:List Lm}{J:Nat}{up:Bool}(h:RunI q ls J up):(if up=true then(bestS (S0 q ls) J).2 else(bestS (S0 q ls) J).1)=0:=by
 have hl:=h.len
 cases up
 ·simp only[cond,Nat.add_zero]at hl;rw[if_neg (by decide)];show(bestTo ls J ls.length).1=0;rw[hl,best_none _ h.hyp.li.uJ]
 ·simp only[cond]at hl;rw[if_pos rfl];show(bestTo ls J ls.length).2=0;obtain⟨v,l,e⟩:=h.last rfl;rw[hl,bestTo_succ e,best_none _ h.hyp.li.uJ,bstep];simp[mkL]
abbrev stA (q:Qu)(ls:List Lm):List A:=q.A++[.d (dcsD []),.own 5 6 (ls.map Lm.D)]
abbrev stH (q:Qu)(p:Af)(d:Value)(ls:List Lm)(J n:Nat):List (Nat×Ent):=
 [(0,.box 36 p.A),(1,.box 68 [.d (.lit d)]),(2,.box 43 (stA q ls)),(3,.box 3 [.d (.lit (.int .i64 (J:Nat)))]),(4,.box 3 [.d (.lit (.int .i64 (n:Nat)))]),(5,.arr 62 6 (ls.map Lm.D).length)]
theorem pl_step {q:Qu}{ls:List Lm}{J n:Nat}{up:Bool}{d:Value}{p:Af}(h:RunI q ls J up)(hd:Dom d)(hn:n≤3)(hp:q.g.us[J]? =some p):
  ∃v l,(LmD q ls J up v l∧(n=0→J=0→v=if up=true then -(bxV q ls (scaleS p m1) (scaleS p m1).ts.length)else bxV q ls p p.ts.length))∧LX Tryz.prog 51 [vl (.bool up),.a (.ptr 0 0),.a (.ptr 1 0),.a (.ptr 2 0),.a (.ptr 3 0),.a (.ptr 4 0)] (stH q p d ls J n) fun v' H=>v'= .tup []∧H=stH q p d (ls++[mkL J up v l]) J n:=by
 have hu4:=h.hyp.qb.g.u1;have hJ:=h.hyp.jl;have hn3:=h.hyp.qb.g.n2;have hpf:FB 5 (q.g.n+J:Nat) p:=h.hyp.qb.g.us J p hp;have e1:atF q.g.us J=p:=by unfold atF;rw[Int.toNat_natCast,hp];rfl
 have hb:=bV_top J;obtain⟨t,dv,F,r,rfl,hm,hent,hlow⟩:=hd.low
 cases up
 ·obtain⟨x,l,hx,cx⟩:=hlow q ls J p h.hyp hpf;obtain⟨k,hk,hbx⟩:=hx.b;obtain⟨y,⟨y1,y2,y3,y4⟩,cy⟩:=pl_round (up:=false) hbx (by omega) hn;refine⟨y,l,⟨⟨hJ,⟨x,fun κ ξ=>by rw[if_neg (by decide),e1];exact hx.eq κ ξ,by rw[if_neg (by decide)];exact y2 rfl⟩,hx.rows,hx.sm,y1.mono (by omega)⟩,fun h0 hj=>by rw[if_neg (by decide),y4 h0,hx.same hj]⟩,?_⟩;have hb0:=h.best0;rw[if_neg (by decide)]at hb0;have hll:=h.len;simp only[cond]at hll;refine LX_run (m:=6) (n0:=6) mix Tryz.func51 rfl rfl rfl rfl ?_;conv=>whnf
  refine .mk F r hm ?_;rw[fVs_eq];refine Cn.as cx hent ⟨vR_ _,stripV_ok _,stripV_ok _,trivial⟩ (by rw[List.flatMap_cons,cst_keys];rfl) rfl ?_;conv=>whnf
  refine .c (lx_best h.hyp.sp) ?_;conv=>whnf
  refine .c (cy) ?_;conv=>whnf
  rw[hb0];conv=>whnf
  refine .mk (by kernel_rfl) ?_;conv=>whnf
  refine .mk ((ls++[mkL J false y l]).map Lm.D) rfl (by rw[List.map_append];rfl) (by simp;omega) ?_;conv=>whnf
  exact⟨_,_,⟨rfl,rfl⟩,vR_ _,rfl,⟨⟨_,rfl,wke_refl _,rfl⟩,⟨_,rfl,wke_refl _,rfl⟩,⟨_,rfl,wke_refl _,rfl⟩,⟨_,rfl,wke_refl _,rfl⟩,⟨_,rfl,wke_refl _,rfl⟩,⟨_,rfl,wke_refl _,rfl⟩,trivial⟩,rfl⟩
 ·have hps:=hpf.scale m1_b;obtain⟨x,l,hx,cx⟩:=hlow q ls J (scaleS p m1) h.hyp (hps.up (by omega) (Int.le_refl _));obtain⟨k,hk,hbx⟩:=hx.b;obtain⟨y,⟨y1,y2,y3,y4⟩,cy⟩:=pl_round (up:=true) hbx.neg (by omega) hn;refine⟨y,l,⟨⟨hJ,⟨x,fun κ ξ=>by rw[if_pos rfl,e1];exact hx.eq κ ξ,by rw[if_pos rfl];exact y3 rfl⟩,hx.rows,hx.sm,y1.mono (by omega)⟩,fun h0 hj=>by rw[if_pos rfl,y4 h0,hx.same hj]⟩,?_⟩;have hb0:=h.best0;rw[if_pos rfl]at hb0;have hll:=h.len;simp only[cond]at hll;refine LX_run (m:=6) (n0:=6) mix Tryz.func51 rfl rfl rfl rfl ?_;conv=>whnf
  refine .c (lx_rofm) ?_;conv=>whnf
  refine .c (pl_scale hpf m1_b (by omega) (by omega) (by omega)) ?_;conv=>whnf
  refine .mk (by kernel_rfl) ?_;conv=>whnf
  refine .mk F r hm ?_;rw[fVs_eq];refine Cn.as cx hent ⟨vR_ _,stripV_ok _,stripV_ok _,trivial⟩ (by rw[List.flatMap_cons,cst_keys];rfl) rfl ?_;conv=>whnf
  refine .c (lx_best h.hyp.sp) ?_;conv=>whnf
  refine .c (lx_rneg (.c hx.sz)) ?_;conv=>whnf
  refine .c (cy) ?_;conv=>whnf
  rw[hb0];conv=>whnf
  refine .mk (by kernel_rfl) ?_;conv=>whnf
  refine .mk ((ls++[mkL J true y l]).map Lm.D) rfl (by rw[List.map_append];rfl) (by simp;omega) ?_;conv=>whnf
  exact⟨_,_,⟨rfl,rfl⟩,vR_ _,rfl,⟨⟨_,rfl,wke_refl _,rfl⟩,⟨_,rfl,wke_refl _,rfl⟩,⟨_,rfl,wke_refl _,rfl⟩,⟨_,rfl,wke_refl _,rfl⟩,⟨_,rfl,wke_refl _,rfl⟩,⟨_,rfl,wke_refl _,rfl⟩,trivial⟩,rfl⟩
structure RunS (q:Qu)(ls:List Lm)(J:Nat)(up:Bool):Prop where
 len:ls.length=2*J+cond up 1 0
 ds:∀(i:Nat) m,ls[i]? =some m→∃j b v l,i=2*j+cond b 1 0∧m=mkL j b v l∧LmD q (ls.take i) j b v l
theorem RunS.li {q:Qu}{ls:List Lm}{J:Nat}{up:Bool}(h:RunS q ls J up):LsI ls J:=by
 have hl:=h.len;have hup:cond up 1 0≤1:=by cases up<;>decide
 refine⟨by omega,by omega,fun j hj=> ?_,fun j hj=> ?_,fun m hm=> ?_⟩
 ·obtain⟨m,hm⟩:=at_some (l:=ls) (i:=2*j) (by omega);obtain⟨j',b,v,l,e1,e2,_⟩:=h.ds _ m hm;have hb:b=false:=by cases b<;>simp only[cond]at e1<;>first|rfl|omega
  subst hb;simp only[cond]at e1;rw[show j'=j by omega]at e2;exact⟨v,l,by rw[hm,e2]⟩
 ·obtain⟨m,hm⟩:=at_some (l:=ls) (i:=2*j+1) (by omega);obtain⟨j',b,v,l,e1,e2,_⟩:=h.ds _ m hm;have hb:b=true:=by cases b<;>simp only[cond]at e1<;>first|rfl|omega
  subst hb;simp only[cond]at e1;rw[show j'=j by omega]at e2;exact⟨v,l,by rw[hm,e2]⟩
 ·obtain⟨j',b,v,l,e1,e2,_⟩:=h.ds _ m hm;rw[e2];show(j':Int)=J
  cases b<;>simp only[cond]at e1<;>omega
theorem RunS.val {q:Qu}{ls:List Lm}{J:Nat}{up:Bool}(h:RunS q ls J up):∀m∈ls,∃j v,j<q.g.us.length∧m.u=j∧m.v=can v∧Bt (bV j) v:=fun m hm=>by
 obtain⟨i,hi⟩:=List.mem_iff_getElem?.1 hm;obtain⟨j,b,v,l,e1,rfl,hd⟩:=h.ds i m hi;exact⟨j,v,hd.jl,rfl,rfl,hd.b⟩
theorem RunS.sp {q:Qu}{ls:List Lm}{J:Nat}{up:Bool}(h:RunS q ls J up)(hq:QuB q)(hJ:J≤q.g.us.length):SpOk (S0 q ls):=by
 have hl:=h.len;have hu:=hq.g.u1;have hup:cond up 1 0≤1:=by cases up<;>decide
 refine⟨hq.ok,by simp,fun d hd=>(by cases hd),(show ls.length≤1000000 by omega),fun m hm=> ?_,fun x hx=>(hq.r.sl x hx).mono (by decide),fun x hx=>(hq.r.sh x hx).mono (by decide),fun d hd=>(by cases hd),fun m hm=> ?_⟩
 ·obtain⟨j,v,_,_,e,hb⟩:=h.val m hm;have:=bV_top j;rw[e];exact Sz.sm (hb.mono (by omega))
 ·obtain⟨j,v,_,_,e,hb⟩:=h.val m hm;have:=bV_top j;rw[e,can_q];exact hb.mono (by omega)
theorem RunS.lv {q:Qu}{ls:List Lm}{J:Nat}{up:Bool}(h:RunS q ls J up)(hJ:J≤3):LsV ls J (bB J):=by
 have hli:=h.li;intro j hj;obtain⟨l,e⟩:=hli.loA hj;obtain⟨l',e'⟩:=hli.hiA hj
 have key:∀(i:Nat) b v l,ls[i]? =some (mkL j b v l)→Bt (bB J) v:=fun i b v l hi=>by
  obtain⟨j',b',v',l',e1,e2,hd⟩:=h.ds i _ hi;simp only[mkL,Lm.mk.injEq]at e2;obtain⟨e3,e4,e5,_⟩:=e2;have ej:j'=j:=by omega
  have ev:v=v':=by
   have:=congrArg Rw.q e5
   rwa [can_q,can_q]at this
  rw[ev];subst ej;exact hd.b.mono (bV_le hj hJ)
 exact⟨key _ _ _ _ e,key _ _ _ _ e'⟩
theorem RunS.hyp {q:Qu}{ls:List Lm}{J:Nat}{up:Bool}(h:RunS q ls J up)(hq:QuB q)(hJ:J<q.g.us.length):Hyp q ls J:=
 have hu:=hq.g.u1
 ⟨h.sp hq (Nat.le_of_lt hJ),hq,h.li,h.lv (by omega),hJ⟩
theorem RunS.run {q:Qu}{ls:List Lm}{J:Nat}{up:Bool}(h:RunS q ls J up)(hq:QuB q)(hJ:J<q.g.us.length):RunI q ls J up:=by
 refine⟨h.hyp hq hJ,h.len,fun hup=> ?_⟩;subst hup;have hl:=h.len;simp only[cond]at hl;obtain⟨m,hm⟩:=at_some (l:=ls) (i:=2*J) (by omega);obtain⟨j',b,v,l,e1,e2,_⟩:=h.ds _ m hm;have hb:b=false:=by cases b<;>simp only[cond]at e1<;>first|rfl|omega
 subst hb;simp only[cond]at e1;rw[show j'=J by omega]at e2;exact⟨v,l,by rw[hm,e2]⟩
theorem RunS.snoc {q:Qu}{ls:List Lm}{J:Nat}{up:Bool}{v:Rat}{l:List Mu}(h:RunS q ls J up)(hd:LmD q ls J up v l):RunS q (ls++[mkL J up v l]) (cond up (J+1) J) (!up):=by
 have hl:=h.len;refine⟨by rw[List.length_append,List.length_singleton,hl];cases up<;>simp only[cond,Bool.not_true,Bool.not_false]<;>omega,fun i m hm=> ?_⟩;rcases Nat.lt_or_ge i ls.length with h1|h1
 ·rw[List.getElem?_append_left h1]at hm;rw[List.take_append_of_le_length (Nat.le_of_lt h1)];exact h.ds i m hm
 ·rw[List.getElem?_append_right h1]at hm;have hi:i=ls.length:=by
   have:=(List.getElem?_eq_some_iff.1 hm).1;simp at this;omega
  subst hi;rw[Nat.sub_self]at hm;injection hm with hm;rw[List.take_append_of_le_length (lR_ _),List.take_length];exact⟨J,up,v,l,hl,hm.symm,hd⟩
theorem RunS.nil {q:Qu}:RunS q [] 0 false:=⟨rfl,fun i m h=>by simp at h⟩
def RunE (q:Qu)(ls:List Lm):Prop:=∀p,q.g.us[0]? =some p→(∃ls' l,ls[0]? =some (mkL 0 false (bxV q ls' p p.ts.length) l))∧∃ls' l,ls[1]? =some (mkL 0 true (-(bxV q ls' (scaleS p m1) (scaleS p m1).ts.length)) l)
theorem pl_run {q:Qu}{n:Nat}{d:Value}(hq:QuB q)(hd:Dom d)(hn:n≤3):
  ∃ls,(RunS q ls q.g.us.length false∧(n=0→RunE q ls))∧LV Tryz.prog 22 [vl d,.agg (S0 q []).A,vl (.int .i64 (n:Nat))] (.tup [.g (S0 q ls).A,.s (.d (.lit (.int .i64 0)))]):=by
 suffices hh:LX Tryz.prog 22 [vl d,.agg (S0 q []).A,vl (.int .i64 (n:Nat))] [] fun v H=>∃ls,(RunS q ls q.g.us.length false∧(n=0→RunE q ls))∧v= .tup [.g (S0 q ls).A,.s (.d (.lit (.int .i64 0)))]∧H=[] by
  obtain⟨v,H',⟨ls,h1,rfl,rfl⟩,hc⟩:=hh;exact⟨ls,h1,_,_,⟨rfl,rfl⟩,hc⟩
 have hu4:=hq.g.u1;obtain⟨t,dv,F,r,hdv,hm,hent,hlow⟩:=hd.low;rw[hdv]at hd ⊢;refine LX_run (m:=0) (n0:=0) mix Tryz.func22 rfl rfl rfl rfl ?_;conv=>whnf
 refine .c (lx_quvalid hq.ok) ?_;conv=>whnf
 refine bF (decide_eq_false (by omega)) ?_;conv=>whnf
 refine Cn.l [] (lx_cloneD (l:=[]) (by decide)) ?_;conv=>whnf
 refine Cn.l [] (lx_cloneL (l:=[]) (by decide)) ?_;conv=>whnf
 refine .mk (by kernel_rfl) ?_;conv=>whnf
 refine .mk (Nat×List Lm) (fun(j,ls)=>⟨[(41,vl (.int .i64 (j:Nat))),(40,vl (.int .i64 (q.g.us.map Af.D).length)),(39,.a (.d (afsD q.g.us))),(6,.a (.ptr 3 0)),(5,.a (.ptr 2 0)),(4,.a (.ptr 1 0)),(3,.a (.ptr 0 0))],
  [(0,.box 68 [.d (.lit (.iface t dv))]),(1,.box 43 (stA q ls)),(2,.box 3 [.d (.lit (.int .i64 (n:Nat)))]),(3,.box 43 [.d (.lit (.int .i64 0)),.d (.lit (.slice none 0 0)),.d (.lit (.slice none 0 0)),.d (.lit (.slice none 0 0)),.d (.lit (.slice none 0 0)),.d (.lit (.slice none 0 0)),.d (.lit (.slice none 0 0)),.d (.lit (.bool false)),.d (.nat 0),.d (.nat 0),.d (.lit (.slice none 0 0)),.d (.lit (.slice none 0 0))]),(5,.arr 62 6 (ls.map Lm.D).length)],6⟩)
  (fun b=>b.1≤q.g.us.length∧RunS q b.2 b.1 false∧(n=0→1≤b.1→RunE q b.2)) (fun b=>q.g.us.length-b.1) (0,[])
  (Wk.go (h2:=⟨⟨_,rfl,wke_refl _,rfl⟩,⟨_,rfl,⟨_,rfl,aR_ _,aR_ _,aR_ _,aR_ _,aR_ _,aR_ _,aR_ _,aR_ _,aR_ _,aR_ _,WkA.own,aR_ _,trivial⟩,rfl⟩,⟨_,rfl,wke_refl _,rfl⟩,⟨_,rfl,wke_refl _,rfl⟩,⟨_,rfl,wke_refl _,rfl⟩,trivial⟩))
  ⟨zL_ _,RunS.nil,fun _ h=>by omega⟩ fun⟨j,ls⟩ hb=> ?_
 obtain⟨hj,hR,hE⟩:=hb;simp only at hj hR hE;conv=>whnf
 refine bs (fun h1=> ?_) (fun h1=> ?_)
 ·conv=>whnf
  have h1':j<q.g.us.length:=by simpa using h1
  obtain⟨p,hp⟩:=at_some h1';obtain⟨v,l,⟨hv,hx⟩,c1⟩:=pl_step (hR.run hq h1') hd hn hp;have hR1:=hR.snoc hv;simp only[cond,Bool.not_false]at hR1;obtain⟨v2,l2,⟨hv2,hx2⟩,c2⟩:=pl_step (hR1.run hq h1') hd hn hp;have hR2:=hR1.snoc hv2;simp only[cond,Bool.not_true]at hR2;refine .mk (j) (p.D) (rfl) (at_map hp) ?_;conv=>whnf
  conv=>whnf
  refine Cn.lK [7,0,1,6,2,5] c1 ?_;conv=>whnf
  refine Cn.lK [7,0,1,6,2,5] c2 ?_;conv=>whnf
  refine⟨(j+1,ls++[mkL j false v l]++[mkL j true v2 l2]),Wk.go,⟨h1',hR2,fun h0 _=> ?_⟩,by simp only;omega⟩;rcases eP_ j with h3|h3
  ·subst h3;have hl0:=hR.len;simp only[cond]at hl0;obtain rfl:ls=[]:=List.eq_nil_of_length_eq_zero (by omega);intro p' hp';rw[hp]at hp';injection hp' with hp';subst hp';have e1:=hx h0 rfl;have e2:=hx2 h0 rfl;rw[if_neg (by decide)]at e1;rw[if_pos rfl]at e2;exact⟨⟨_,l,by rw[←e1];rfl⟩,⟨_,l2,by rw[←e2];rfl⟩⟩
  ·have hl0:=hR.len;simp only[cond]at hl0;intro p' hp';obtain⟨⟨a1,a2,a3⟩,⟨b1,b2,b3⟩⟩:=hE h0 h3 p' hp';exact⟨⟨a1,a2,by rw[List.append_assoc,List.getElem?_append_left (by omega)];exact a3⟩,⟨b1,b2,by rw[List.append_assoc,List.getElem?_append_left (by omega)];exact b3⟩⟩
 ·conv=>whnf
  have e:j=q.g.us.length:=by simp at h1;omega
  subst e
  have hE':n=0→RunE q ls:=fun h0=>by
   rcases eP_ q.g.us.length with h|h
   ·intro p hp;have:=at_lt hp;omega
   ·exact hE h0 h
  exact .s ⟨ls,⟨hR,hE'⟩,rfl,rfl⟩
theorem RunS.take {q:Qu}{ls:List Lm}{J:Nat}{up:Bool}(h:RunS q ls J up){j:Nat}{b:Bool}(hi:2*j+cond b 1 0≤ls.length):RunS q (ls.take (2*j+cond b 1 0)) j b:=by
 refine⟨by rw[List.length_take];omega,fun i m hm=> ?_⟩;have hlt:=(List.getElem?_eq_some_iff.1 hm).1;rw[List.length_take]at hlt;rw[List.getElem?_take,if_pos (by omega)]at hm;rw[List.take_take,Nat.min_eq_left (by omega)];exact h.ds i m hm
theorem wsum_nn {φ:Ro→Rat}:∀{l:List Mu},(∀m∈l,0≤m.c∧0≤φ m.r)→0≤wsum φ l
 |[],_=>Rat.le_refl
 |m::l,h=>by
  rw[wsum];obtain⟨h1,h2⟩:=h m (by simp);exact Rat.add_nonneg (Rat.mul_nonneg h1 h2) (wsum_nn fun x hx=>h x (by simp[hx]))
structure PtOk (q:Qu)(X:Int→Rat):Prop where
 lo:∀x:Int,0≤x→x<q.g.n→atQ q.r.lo x≤X x
 hi:∀x:Int,0≤x→x<q.g.n→X x≤atQ q.r.hi x
 un:∀j,j<q.g.us.length→pX X q j=if 0≤pP 1 X q j then pP 1 X q j else 0
def LmAt (q:Qu)(X:Int→Rat)(j:Nat)(b:Bool)(v:Rat):Prop:=if b=true then pP 1 X q j≤v else v≤pP 1 X q j
theorem row_nn {q:Qu}{ls:List Lm}{J:Nat}{X:Int→Rat}{r:Ro}(hX:PtOk q X)(hl:LsI ls J)(hJ:J≤q.g.us.length)(hb:∀j,j<J→loV ls j≤pP 1 X q j∧pP 1 X q j≤hiV ls j)(hr:RwJ q ls J r):0≤pR 1 X q ls r:=by
 cases hr with
 |lo x h0 h1=>rw[pR_lo];have:=hX.lo x h0 h1;grind
 |hi x h0 h1=>rw[pR_hi];have:=hX.hi x h0 h1;grind
 |zero j hj=>rw[pR_zero,hX.un j (by omega)];split<;>grind
 |above j hj=>rw[pR_above,hX.un j (by omega)];split<;>grind
 |onEq j hj h2=>rw[pR_onEq,hX.un j (by omega)];have:=hb j hj;split<;>grind
 |offEq j hj h2=>rw[pR_offEq,hX.un j (by omega)];have:=hb j hj;split<;>grind
 |low j hj=>rw[pR_low hl hj];have:=hb j hj;grind
 |up j hj=>rw[pR_up hl hj];have:=hb j hj;grind
 |tri j hj h2 h3=>
  rw[pR_tri hl hj,hX.un j (by omega)];obtain⟨a1,a2⟩:=hb j hj;generalize loV ls j=lo at *
  generalize hiV ls j=hi at *
  generalize pP 1 X q j=p at *
  split
  ·have:0≤(-lo)*(hi-p):=Rat.mul_nonneg (by grind) (by grind);grind
  ·have:0≤(p-lo)*hi:=Rat.mul_nonneg (by grind) (by grind);grind
theorem lm_at {q:Qu}{ls:List Lm}{J:Nat}{up:Bool}{X:Int→Rat}(hX:PtOk q X)(h:RunS q ls J up):∀(i:Nat) (j:Nat) (b:Bool) (v:Rat) (l:List Mu),ls[i]? =some (mkL j b v l)→i=2*j+cond b 1 0→LmAt q X j b v:=by
 intro i
 induction i using Nat.strongRecOn with
 |ind i ih=>
  intro j b v l hm hi;obtain⟨j',b',v',l',e1,e2,hd⟩:=h.ds i _ hm;simp only[mkL,Lm.mk.injEq]at e2;obtain⟨e3,e4,e5,_⟩:=e2;have ej:j'=j:=by omega
  have ev:v'=v:=by
   have:=congrArg Rw.q e5;rw[can_q,can_q]at this;exact this.symm
  subst ej e4 ev;have hlt:=at_lt hm;have hT:=h.take (j:=j') (b:=b) (by omega);rw[←hi]at hT;have hli:=hT.li
  have hbb:∀k,k<j'→loV (ls.take i) k≤pP 1 X q k∧pP 1 X q k≤hiV (ls.take i) k:=fun k hk=>by
   obtain⟨l1,h1⟩:=hli.loA hk;obtain⟨l2,h2⟩:=hli.hiA hk;have hc:cond b 1 0≤1:=by cases b<;>decide
   rw[List.getElem?_take,if_pos (by omega)]at h1;rw[List.getElem?_take,if_pos (by omega)]at h2;have a1:=ih (2*k) (by omega) k false _ l1 h1 (by simp);have a2:=ih (2*k+1) (by omega) k true _ l2 h2 (by simp);exact⟨by simpa [LmAt]using a1,by simpa [LmAt]using a2⟩
  obtain⟨K,hs⟩:=hd.sm;have hnn:0≤wsum (pR 1 X q (ls.take i)) l':=wsum_nn fun m hmm=>⟨Rat.le_of_lt (hs.can.pos m hmm),row_nn hX hli (Nat.le_of_lt hd.jl) hbb (hd.rows m hmm)⟩;obtain⟨x,hx,hv⟩:=hd.x;rw[hx]at hnn;unfold LmAt
  cases b
  ·simp only[Bool.false_eq_true,if_false]at hnn hv ⊢;show v'≤pP 1 X q j';grind
  ·simp only[if_true,ph_scale,m1,m1_r]at hnn hv ⊢;show pP 1 X q j'≤v';simp only[pP];grind
theorem run_at {q:Qu}{ls:List Lm}{J:Nat}{up:Bool}{X:Int→Rat}(hX:PtOk q X)(h:RunS q ls J up){j:Nat}(hj:j<J):loV ls j≤pP 1 X q j∧pP 1 X q j≤hiV ls j:=by
 obtain⟨l1,h1⟩:=h.li.loA hj;obtain⟨l2,h2⟩:=h.li.hiA hj;have a1:=lm_at hX h (2*j) j false _ l1 h1 (by simp);have a2:=lm_at hX h (2*j+1) j true _ l2 h2 (by simp);exact⟨by simpa [LmAt]using a1,by simpa [LmAt]using a2⟩
def rwS (q:Qu)(p:List Int):List Af:=boxR q.r q.g.n++q.r.rs++pcS q.g p q.g.us.length q.g.us.length
theorem rwS_FB {q:Qu}(hq:QuB q){p:List Int}:∀f∈rwS q p,FB 2000000 (q.g.n:Nat) f:=fun f hf=>by
 rcases List.mem_append.1 hf with hf|hf
 ·rcases List.mem_append.1 hf with hf|hf
  ·obtain⟨j,h1,h2⟩:=boxR_mem.1 hf;exact(boxP_FB hq.r h1 f h2).up (by omega) (Int.le_refl _)
  ·exact(hq.r.rs f hf).up (by omega) (Int.le_refl _)
 ·obtain⟨j,h1,rfl⟩:=List.mem_map.1 hf;have:=pre_FB hq.g (p:=p) (List.mem_range.1 h1);rw[pcE];split
  ·exact(this.scale m1_b).up (by omega) (Int.le_refl _)
  ·exact this.up (by omega) (Int.le_refl _)
theorem vl_pre {g:Gr}{p:List Int}{j:Nat}:∀J,j≤J→∀v:Nat,v<g.n+j→(vlS g p J)[v]? =(vlS g p j)[v]?
 |0,h,v,hv=>by obtain rfl:j=0:=by omega
               rfl
 |J+1,h,v,hv=>by
  rcases Nat.lt_or_ge j (J+1)with h1|h1
  ·rw[vlS,List.getElem?_append_left (by rw[vl_len];omega)];exact vl_pre J (by omega) v hv
  ·obtain rfl:j=J+1:=by omega
   rfl
def ptX (q:Qu)(p:List Int)(X:Int→Rat)(v:Int):Rat:=ph 1 X (atF (vlS q.g p q.g.us.length) v)
theorem ptX_at {q:Qu}{p:List Int}{X:Int→Rat}{j:Nat}(hj:j≤q.g.us.length)(v:Int)(h0:0≤v)(h1:v<(q.g.n+j:Nat)):ptX q p X v=ph 1 X (atF (vlS q.g p j) v):=by
 unfold ptX atF;rw[vl_pre q.g.us.length hj v.toNat (by omega)]
theorem ptX_in {q:Qu}{p:List Int}{X:Int→Rat}(v:Int)(h0:0≤v)(h1:v<(q.g.n:Nat)):ptX q p X v=X v:=by
 rw[ptX_at (j:=0) (zL_ _) v h0 (by omega)];have:(vlS q.g p 0)[v.toNat]? =some (varS v):=by
  show(V0 q.g.n)[v.toNat]? =_;unfold V0;rw[List.getElem?_map,List.getElem?_range (by omega),Option.map_some,Int.toNat_of_nonneg h0]
 unfold atF;rw[this];exact ph_var
theorem ptX_pre {q:Qu}{p:List Int}{X:Int→Rat}(hq:QuB q){j:Nat}(hj:j<q.g.us.length):ph 1 (ptX q p X) (atF q.g.us (j:Nat))=ph 1 X (preS q.g p j):=by
 obtain⟨f,hf⟩:=at_some (l:=q.g.us) (i:=j) hj;have hf5:=hq.g.us j f hf;rw[preS,ph_ins,atF_nat hf];exact ph_cong (fun v h0 h1=>ptX_at (by omega) v h0 h1) hf5
theorem ptX_out {q:Qu}{p:List Int}{X:Int→Rat}{j:Nat}(hj:j<q.g.us.length):ptX q p X ((q.g.n+j:Nat):Int)=if p[j]? =some 2 then 0 else ph 1 X (preS q.g p j):=by
 rw[ptX_at (j:=j+1) (by omega) _ (by omega) (by omega)];have:(vlS q.g p (j+1))[q.g.n+j]? =some (if p[j]? =some 2 then numS 0 else preS q.g p j):=by
  rw[vlS,List.getElem?_append_right (by rw[vl_len];omega),vl_len,Nat.sub_self];rfl
 rw[atF_nat this];split
 ·rw[ph_num];grind
 ·rfl
theorem pt_ok {q:Qu}{p:List Int}{X:Int→Rat}(hq:QuB q)(hX:∀f∈rwS q p,0≤ph 1 X f):PtOk q (ptX q p X):=by
 have hb:∀j:Nat,j<q.g.n→∀f∈boxP q.r j,0≤ph 1 X f:=fun j hj f hf=>hX f (List.mem_append_left _ (List.mem_append_left _ (boxR_mem.2 ⟨j,hj,hf⟩)));refine⟨fun x h0 h1=> ?_,fun x h0 h1=> ?_,fun j hj=> ?_⟩
 ·rw[ptX_in x h0 h1];have:=hb x.toNat (by omega) _ (List.mem_cons_self ..);rw[ph_sub,ph_var,ph_num,Int.toNat_of_nonneg h0]at this;grind
 ·rw[ptX_in x h0 h1];have:=hb x.toNat (by omega) _ (List.mem_cons_of_mem _ (List.mem_cons_self ..));rw[ph_sub,ph_var,ph_num,Int.toNat_of_nonneg h0]at this;grind
 ·have hrow:=hX (pcE q.g p q.g.us.length j) (List.mem_append_right _ (List.mem_map.2 ⟨j,List.mem_range.2 hj,rfl⟩));show ptX q p X ((q.g.n+j:Nat):Int)=if 0≤ph 1 (ptX q p X) (atF q.g.us (j:Nat))then ph 1 (ptX q p X) (atF q.g.us (j:Nat))else 0
  rw[ptX_out hj,ptX_pre hq hj];rw[pcE]at hrow
  by_cases h2:p[j]? =some 2
  ·rw[if_pos ⟨hj,h2⟩,ph_scale,show m1= -1 from m1_r]at hrow;rw[if_pos h2];split<;>grind
  ·rw[if_neg (fun h=>h2 h.2)]at hrow;rw[if_neg h2,if_pos hrow]
theorem pt_goal {q:Qu}{p:List Int}{X:Int→Rat}(hq:QuB q):ph 1 (ptX q p X) q.goal=ph 1 X (insS q.goal (vlS q.g p q.g.us.length)):=by
 rw[ph_ins];exact ph_cong (fun v h0 h1=>ptX_at (lR_ _) v h0 h1) hq.goal
theorem goal_FB {q:Qu}(hq:QuB q){p:List Int}:FB 2000000 (q.g.n:Nat) (insS q.goal (vlS q.g p q.g.us.length)):=by
 have hn:=hq.g.n2;have hu:=hq.g.u1;have hl:=hq.goal.ts.len (by omega);have ih:=vl_FB hq.g (p:=p) q.g.us.length (lR_ _);have hB:=uBi_le q.g.us.length (by omega);have:=insI_FB hq.goal (fun v h1 h2=>ih _ (atF_mem h1 (by rw[vl_len];exact h2))) q.goal.ts.length (lR_ _);rw[insI_all]at this;refine this.up ?_ (Int.le_refl _);have:q.goal.ts.length*(uBi q.g.us.length+6)≤8*(100000+6):=Nat.mul_le_mul (by omega) (by omega);omega
def DecAt (q:Qu)(v:Rat):Prop:=∃X:Int→Rat,PtOk q X∧ph 1 X q.goal=v
theorem pl_decide {q:Qu}(hq:QuB q):∃(st:Int) (v:Rat),(st=1→DecAt q v)∧Bt 70 v∧LV Tryz.prog 9 [.agg q.A] (.tup [.s (.d (.lit (.int .i64 st))),.g (can v).A]):=by
 suffices hh:LX Tryz.prog 9 [.agg q.A] [] fun V H=>∃(st:Int) (v:Rat),((st=1→DecAt q v)∧Bt 70 v)∧V= .tup [.s (.d (.lit (.int .i64 st))),.g (can v).A]∧H=[] by
  obtain⟨_,_,⟨st,v,⟨h1,h2⟩,rfl,rfl⟩,hc⟩:=hh;exact⟨st,v,h1,h2,_,_,⟨rfl,rfl⟩,hc⟩
 have n1:=hq.g.n1;have n2:=hq.g.n2;have u1:=hq.g.u1;have rl:=hq.r.rl;obtain⟨ps,hps,hpl,cA⟩:=pl_All q.g.us.length (by omega);have hp2:2^q.g.us.length≤2^4:=Nat.pow_le_pow_right (by omega) u1;have hwl:((q.g.us.map Af.D).length:Int)=(q.g.us.length:Nat):=by simp
 have ret0:∀(H:List (Nat×Ent)),Rt 0 H (V.tup [.s (.d (.lit (.int .i64 0))),.g [.d (.lit (.bool false)),.d (.lm (limbs 0)),.d (.lm (limbs 0))]]) fun V H=>∃(st:Int) (v:Rat),((st=1→DecAt q v)∧Bt 70 v)∧V= .tup [.s (.d (.lit (.int .i64 st))),.g (can v).A]∧H=[]:=fun H=>
  .q ⟨0,0,⟨fun h=>absurd h (by decide),bt0 _⟩,by rw[can0],rfl⟩
 refine LX_run (m:=0) (n0:=0) mix Tryz.func9 rfl rfl rfl rfl ?_;conv=>whnf
 rw[hwl];refine .c (cA) ?_;conv=>whnf
 refine .mk (Nat×Int×Rat) (fun(i,z,v)=>⟨[(7,vl (.int .i64 (i:Nat))),(6,.a (.d (psD ps))),(5,.a (.ptr 2 0)),(4,vl (.int .i64 z)),(3,.a (.ptr 1 0)),(1,.a (.ptr 0 0))],[(0,.box 38 q.A),(1,.box 34 (can 0).A),(2,.box 34 (can v).A)],3⟩)
  (fun b=>b.1≤ps.length∧(b.2.1=1→DecAt q b.2.2)∧Bt 70 b.2.2) (fun b=>ps.length-b.1) (0,2,0) (by rw[can0];exact Wk.go) ⟨zL_ _,fun h=>absurd h (by decide),bt0 _⟩ fun⟨i,z,v⟩ hb=> ?_
 obtain⟨hi,hz,hv⟩:=hb;simp only at hi hz hv;conv=>whnf
 refine bs (fun h1=> ?_) (fun h1=> ?_)
 ·conv=>whnf
  have h1':i<ps.length:=by simpa using h1
  obtain⟨p,hp⟩:=at_some h1';have hpo:=hps p (mG_ hp);refine .mk (i) ([intsD p]) (rfl) (ps_at hp) ?_;conv=>whnf
  conv=>whnf
  refine .c (pl_forms hq.g hpo) ?_;conv=>whnf
  refine .mk (by kernel_rfl) ?_;conv=>whnf
  refine .mk (i) ([intsD p]) (rfl) (ps_at hp) ?_;conv=>whnf
  conv=>whnf
  refine .c (pl_piece hq.g hpo) ?_;conv=>whnf
  refine .mk (by kernel_rfl) ?_;conv=>whnf
  have hlr:(rwS q p).length≤100:=by unfold rwS;rw[List.length_append,List.length_append,boxR_len,pc_len];omega
  refine .l [] (pl_Box hq.r n2) ?_;conv=>whnf
  refine .mk (afR (rwS q p)) rfl (by rw[rwS,afR,List.map_append]) (by rw[List.length_map];omega) ?_;conv=>whnf
  have hvf:=vl_FB hq.g (p:=p) q.g.us.length (lR_ _);have hB:=uBi_le q.g.us.length (by omega);refine .c (pz_insert (vs:=vlS q.g p q.g.us.length) hq.goal (by rw[vl_len];omega) (by omega) (by omega) hvf (by omega) (by omega) (by omega)) ?_;conv=>whnf
  refine .mk (by kernel_rfl) ?_;conv=>whnf
  obtain⟨st,u,hst,hu,cL⟩:=pl_leastX (n:=q.g.n) (k:=2000000) (rows:=rwS q p) (obj:=insS q.goal (vlS q.g p q.g.us.length)) (fun f hf=>(rwS_FB hq f hf).up (lR_ _) (by omega)) ((goal_FB hq).up (lR_ _) (by omega)) (by omega) (by omega) (by omega);refine .c (cL) ?_;conv=>whnf
  have hdu:st=1→DecAt q u:=fun e=>by
   obtain⟨X,hX,hXg⟩:=hst e;exact⟨ptX q p X,pt_ok hq hX,by rw[pt_goal hq,hXg]⟩
  have hus:Sz u:=hu.mono (by decide);have hvs:Sz v:=hv.mono (by decide);refine bs (fun h2=> ?_) (fun h2=> ?_)
  ·conv=>whnf
   exact ret0 _
  ·conv=>whnf
   refine bs (fun h3=> ?_) (fun h3=> ?_)
   ·conv=>whnf
    exact ret0 _
   ·conv=>whnf
    refine bs (fun h4=> ?_) (fun h4=> ?_)
    ·have h4':st=1:=by simpa using h4
     conv=>whnf
     refine bs (fun h5=> ?_) (fun h5=> ?_)
     ·conv=>whnf
      refine .mk (by kernel_rfl) ?_;conv=>whnf
      exact⟨(i+1,st,u),Wk.go,⟨h1',hdu,hu⟩,by simp only;omega⟩
     ·conv=>whnf
      refine .c (lx_zcmp (.c hus) (.c hvs)) ?_;conv=>whnf
      refine bs (fun h6=> ?_) (fun h6=> ?_)
      ·conv=>whnf
       refine .mk (by kernel_rfl) ?_;conv=>whnf
       exact⟨(i+1,st,u),Wk.go,⟨h1',hdu,hu⟩,by simp only;omega⟩
      ·conv=>whnf
       exact⟨(i+1,z,v),Wk.go,⟨h1',hz,hv⟩,by simp only;omega⟩
    ·conv=>whnf
     exact⟨(i+1,z,v),Wk.go,⟨h1',hz,hv⟩,by simp only;omega⟩
 ·conv=>whnf
  refine .mk (by kernel_rfl) ?_;conv=>whnf
  exact .q ⟨z,v,⟨hz,hv⟩,rfl,rfl⟩
theorem SpOk.take {q:Qu}{ls:List Lm}(h:SpOk (S0 q ls))(i:Nat):SpOk (S0 q (ls.take i)):=
 ⟨h.q,h.pl,h.pn,tL_ (List.length_take_le' _ _) h.ll,fun m hm=>h.ln m (List.mem_of_mem_take hm),h.rlo,h.rhi,h.pb,fun m hm=>h.lb m (List.mem_of_mem_take hm)⟩
theorem pl_dscope {q:Qu}{ls:List Lm}{J:Nat}{up:Bool}(hq:QuB q)(hR:RunS q ls J up)(hJ:J≤q.g.us.length):LV Tryz.prog 7 [.agg (S0 q ls).A] (vl (.bool true)):=
 pl_scope (hR.sp hq hJ) fun i m hm=>by
  obtain⟨j,b,v,l,e1,rfl,hd⟩:=hR.ds i m hm;obtain⟨K,hv⟩:=hd.dv;exact pl_dlemma ((hR.sp hq hJ).take i) hq hv
theorem pl_trun {q:Qu}{z n:Nat}(hq:QuB q)(hz:z≤2)(hn:n≤3):
  ∃ls,(RunS q ls q.g.us.length false∧(n=0→RunE q ls))∧LV Tryz.prog 6 [vl (.int .i64 (z:Nat)),.agg (S0 q []).A,vl (.int .i64 (n:Nat))] (.tup [.g (S0 q ls).A,.s (.d (.lit (.bool true)))]):=by
 obtain⟨ls,h,c⟩:=pl_run hq (dom_ok hz) hn;refine⟨ls,h,?_⟩;obtain⟨t,dv,_,_,hdv,_⟩:=(dom_ok hz).low;have cg:=pl_get hz;rw[hdv]at cg c;refine LX_run (m:=0) (n0:=0) mix Tryz.func6 rfl rfl rfl rfl ?_;conv=>whnf
 refine .c (cg) ?_;conv=>whnf
 refine .c (c) ?_;conv=>whnf
 exact .q ⟨rfl,rfl⟩
theorem pl_best {q:Qu}{ls:List Lm}{J j:Nat}(hs:SpOk (S0 q ls))(h:LsI ls J)(hj:j<J)(hJ:J≤1000):LV Tryz.prog 8 [.agg (S0 q ls).A,vl (.int .i64 j)] (.tup [.g (can (loV ls j)).A,.g (can (hiV ls j)).A,.s (.d (.lit (.bool true)))]):=by
 obtain⟨l,e⟩:=h.loA hj;obtain⟨l',e'⟩:=h.hiA hj;have cb:=lx_zbest (u:=(j:Int)) hs;rw[h.bestS hj]at cb;refine LX_run (m:=0) (n0:=0) mix Tryz.func8 rfl rfl rfl rfl ?_;conv=>whnf
 refine .c (cb) ?_;conv=>whnf
 refine .mk (2*j) ((mkL j false (loV ls j) l).D) (by rw[wr64 (by omega) (by omega)];omega) (at_map e) ?_;conv=>whnf
 conv=>whnf
 refine .mk (2*j+1) ((mkL j true (hiV ls j) l').D) (by rw[wr64 (by omega) (by omega)];omega) (at_map e') ?_;conv=>whnf
 conv=>whnf
 refine .mk (by kernel_rfl) ?_;conv=>whnf
 exact .q ⟨rfl,rfl⟩
def p0:Af:=subS (varS 0) (numS q1)
def qu0:Qu:=⟨⟨1,[p0],[varS 1]⟩,⟨[0],[((3:Int):Rat)],[]⟩,varS 1⟩
theorem p0_b:FB 5 (1+(0:Nat):Nat) p0:=((FB.var (n:=1) (by decide) (by decide)).sub (FB.num q1_b)).up (by omega) (Int.le_refl _)
theorem p0_eq:p0=⟨[⟨0,1⟩],-1⟩:=by
 refine Af.ext' (n:=1) (n':=1) p0_b.ts ⟨by decide,by decide,by decide,trivial⟩ (fun w=> ?_) ?_
 ·rw[p0,cof_sub];simp only[varS,numS,cof];show(if(0:Int)=w then q1 else 0)+0-0=(if(0:Int)=w then 1 else 0)+0;rw[q1_r];grind
 ·rw[p0,c_sub];show(0:Rat)-q1= -1;rw[q1_r];grind
theorem p0s_eq:scaleS p0 m1=⟨[⟨0,-1⟩],1⟩:=by
 refine Af.ext' (n:=1) (n':=1) (p0_b.scale m1_b).ts ⟨by decide,by decide,by grind,trivial⟩ (fun w=> ?_) ?_
 ·rw[scaleS,cof_scale,p0_eq];simp only[cof,m1,m1_r];grind
 ·rw[scaleS,p0_eq,m1,m1_r];show(-1:Rat)* -1=1;grind
theorem v1_b:FB 5 (1+[p0].length:Nat) (varS 1):=(FB.var (n:=2) (by decide) (by decide)).up (by omega) (Int.le_refl _)
theorem qu0_b:QuB qu0:=by
 refine⟨⟨by decide,by decide,by decide,by decide,by decide,fun j f h=> ?_,fun f hf=> ?_⟩,?_,v1_b⟩
 ·have:=at_lt h;obtain rfl:j=0:=by simpa [qu0]using this
  injection h with h;subst h;exact p0_b
 ·rw[List.mem_singleton.1 hf];exact v1_b
 ·refine⟨rfl,rfl,by decide,fun q hq=> ?_,fun q hq=> ?_,fun i a b ha hb=> ?_,fun f hf=>(by cases hf)⟩
  ·rw[List.mem_singleton.1 hq];exact bt0 _
  ·rw[List.mem_singleton.1 hq];exact(Bt.int (k:=2) (by decide)).mono (by decide)
  ·have:=at_lt ha;obtain rfl:i=0:=by simpa [qu0]using this
   injection ha with ha;injection hb with hb;subst ha hb;decide
theorem bx0 (ls:List Lm):bxV qu0 ls p0 p0.ts.length= -1∧bxV qu0 ls (scaleS p0 m1) (scaleS p0 m1).ts.length= -2:=by
 rw[p0s_eq,p0_eq];constructor
 ·show(-1:Rat)+1*(tmB qu0 ls ⟨0,1⟩).1= -1;have:(tmB qu0 ls ⟨0,1⟩).1=0:=by
   unfold tmB bndB inB;rw[if_pos (by decide),if_neg (by simp;grind)];rfl
  rw[this];grind
 ·show(1:Rat)+ -1*(tmB qu0 ls ⟨0,-1⟩).1= -2;have:(tmB qu0 ls ⟨0,-1⟩).1=((3:Int):Rat):=by
   unfold tmB bndB inB;rw[if_pos (by decide),if_pos (decide_eq_true (by grind))];rfl
  rw[this,show((3:Int):Rat)=3 from rfl];grind
theorem pl_same {q:Rat}{k:Nat}(h:Bt k q)(hk:k≤3000000000):LV Tryz.prog 17 [ratV q,ratV q] (vl (.bool true)):=by
 have:=lx_zsame (c:=decide (q<0)) (xs:=limbs q.num.natAbs) (ys:=limbs (dn q)) h hk
 rwa [vB_can]at this
theorem rat0D:(can (0:Rat)).D=[.lit (.bool false),.lm (limbs 0),.lm (limbs 0)]:=by
 show [D.lit (.bool (decide ((0:Rat)<0))),D.lm (limbs (0:Rat).num.natAbs),D.lm (limbs (dn 0))]=_;rw[show decide ((0:Rat)<0)=false by decide];rfl
theorem pl_awake:LV Tryz.prog 4 [] (vl (.bool true)):=by
 obtain⟨ls,⟨hR,hE⟩,cr⟩:=pl_trun (z:=2) (n:=0) qu0_b (by decide) (by decide);obtain⟨⟨l1,m1',e1⟩,⟨l2,m2,e2⟩⟩:=hE rfl p0 rfl;rw[(bx0 l1).1]at e1;rw[(bx0 l2).2]at e2;rw[show(-1:Rat)=m1 from m1_r.symm]at e1;rw[show(- -2:Rat)=((2:Int):Rat) by rw[show((2:Int):Rat)=2 from rfl];grind]at e2;have hl:=hR.len;have hl2:ls.length=2:=hl;have hs:=hR.sp qu0_b (lR_ _);have cd:=pl_dscope qu0_b hR (lR_ _);have hph:phaseS (S0 qu0 ls) 0=0:=by
  have hb:bestS (S0 qu0 ls) 0=(1,2):=hR.li.bestS (J:=1) (j:=0) (by decide);unfold phaseS;rw[hb];have v1:(vAt ls 1)= -1:=by
   unfold vAt atL;rw[show((1:Int)-1).toNat=0 from rfl,e1];exact(can_q _).trans m1_r
  have v2:(vAt ls 2)=2:=by
   unfold vAt atL;rw[show((2:Int)-1).toNat=1 from rfl,e2];exact can_q _
  unfold onS offS;rw[show(S0 qu0 ls).ls=ls from rfl,v1,v2,sg_ge,sg_le,decide_eq_false (show ¬(0:Rat)≤ -1 by grind),decide_eq_false (show ¬(2:Rat)≤0 by grind)];rfl
 have cp:=lx_phase (u:=0) hs;rw[hph]at cp;refine LX_run (m:=0) (n0:=0) mix Tryz.func4 rfl rfl rfl rfl ?_;conv=>whnf
 refine .c (lx_zvar) ?_;conv=>whnf
 refine .c (lx_zofp) ?_;conv=>whnf
 refine .c (lx_num q1_z) ?_;conv=>whnf
 refine .c (lx_sub (FB.var (n:=1) (v:=0) (by decide) (by decide)) (FB.num q1_b) (by decide) (by decide) (by decide)) ?_;conv=>whnf
 refine .c (lx_zvar) ?_;conv=>whnf
 refine .mk (by kernel_rfl) ?_;conv=>whnf
 refine .c (lx_zof (z:=3) (by decide) (by decide)) ?_;conv=>whnf
 refine .c (lx_zvar) ?_;conv=>whnf
 refine .mk (by kernel_rfl) ?_;conv=>whnf
 refine Cn.as cr rfl ⟨vR_ _,WkV.agg ⟨aR_ _,WkA.own,WkA.own,(by show WkA _ (.d (.sl 3 [(can 0).D]));rw[rat0D];exact WkA.own),WkA.own,aR_ _,aR_ _,aR_ _,aR_ _,aR_ _,WkA.nil,WkA.nil,trivial⟩,vR_ _,trivial⟩ rfl rfl ?_;conv=>whnf
 refine bT (by rw[List.length_map];show((ls.length:Int)==2)=true;rw[hl2];rfl) ?_;conv=>whnf
 refine .mk (0) ((mkL 0 false m1 m1').D) (rfl) (at_map e1) ?_;conv=>whnf
 conv=>whnf
 refine .c (lx_zofm) ?_;conv=>whnf
 refine .c (pl_same m1_b (by decide)) ?_;conv=>whnf
 refine .mk (1) ((mkL 0 true ((2:Int):Rat) m2).D) (rfl) (at_map e2) ?_;conv=>whnf
 conv=>whnf
 refine .c (lx_zof (z:=2) (by decide) (by decide)) ?_;conv=>whnf
 refine .c (pl_same (q:=((2:Int):Rat)) (Bt.int (k:=2) (by decide)) (by decide)) ?_;conv=>whnf
 refine .c (cd) ?_;conv=>whnf
 refine .c (cp) ?_;conv=>whnf
 refine .mk (by kernel_rfl) ?_;conv=>whnf
 exact .q ⟨rfl,rfl⟩
theorem RunS.szs {q:Qu}{ls:List Lm}{J:Nat}{up:Bool}(h:RunS q ls J up){j:Nat}(hj:j<J):Sz (loV ls j)∧Sz (hiV ls j):=by
 have hli:=h.li;obtain⟨l,e⟩:=hli.loA hj;obtain⟨l',e'⟩:=hli.hiA hj
 have key:∀(i:Nat) b v l,ls[i]? =some (mkL j b v l)→Sz v:=fun i b v l hi=>by
  obtain⟨j',b',v',l',e1,e2,hd⟩:=h.ds i _ hi;simp only[mkL,Lm.mk.injEq]at e2;obtain⟨e3,e4,e5,_⟩:=e2;have ej:j'=j:=by omega
  have ev:v=v':=by
   have:=congrArg Rw.q e5
   rwa [can_q,can_q]at this
  rw[ev];have:=bV_top j';exact hd.b.mono (by omega)
 exact⟨key _ _ _ _ e,key _ _ _ _ e'⟩
theorem PtOk.goal {q:Qu}{f:Af}{X:Int→Rat}(h:PtOk ⟨q.g,q.r,f⟩ X):PtOk q X:=⟨h.lo,h.hi,h.un⟩
theorem pl_whole {raw:List Nat}{b:Nat}(hr:raw.length≤1099511627776)(hr2:∀x∈raw,x<256)(hb:b<256):LV Tryz.prog 3 [.a (.d (bysD raw)),vl (.int .u8 (b:Nat))] (vl (.bool true)):=by
 refine LX_run (m:=0) (n0:=0) mix Tryz.func3 rfl rfl rfl rfl ?_;conv=>whnf
 refine .c (pl_awake) ?_;conv=>whnf
 refine bs (fun h0=> ?_) (fun h0=> ?_)
 ·conv=>whnf
  exact .q ⟨rfl,rfl⟩
 have h0':raw.length≤400:=by have:=of_decide_eq_false h0;simp at this;omega
 obtain⟨q,hq,ci⟩:=lx_instance ⟨by omega,hr2⟩;have n1:=hq.g.n1;have n2:=hq.g.n2;have u1:=hq.g.u1;conv=>whnf
 refine .c (ci) ?_;conv=>whnf
 have ez:IntKind.i64.wrap ((b:Int).tmod 3)=((b % 3:Nat):Int):=by
  rw[Int.tmod_eq_emod_of_nonneg (by omega),wr64 (by omega) (by omega)];omega
 have e8:IntKind.u8.wrap ((b:Int).tdiv 3)=((b/3:Nat):Int):=by
  rw[Int.tdiv_eq_ediv_of_nonneg (by omega)];show((b:Int)/3) % 256=_;omega
 have en:IntKind.i64.wrap ((IntKind.u8.wrap ((b:Int).tdiv 3)).tmod 4)=((b/3 % 4:Nat):Int):=by
  rw[e8,Int.tmod_eq_emod_of_nonneg (by omega),wr64 (by omega) (by omega)];omega
 rw[ez,en];obtain⟨ls,⟨hR,_⟩,cr⟩:=pl_trun (z:=b % 3) (n:=b/3 % 4) hq (by omega) (by omega);refine Cn.as cr rfl ⟨vR_ _,WkV.agg ⟨aR_ _,aR_ _,aR_ _,aR_ _,aR_ _,aR_ _,aR_ _,aR_ _,aR_ _,aR_ _,WkA.nil,WkA.nil,trivial⟩,vR_ _,trivial⟩ rfl rfl ?_;conv=>whnf
 refine .c (pl_dscope hq hR (lR_ _)) ?_;conv=>whnf
 refine .mk Nat (fun j=>⟨[(8,vl (.int .i64 (j:Nat))),(6,.a (.ptr 1 0)),(5,.a (.ptr 0 0))],[(0,.box 38 q.A),(1,.box 43 (S0 q ls).A)],2⟩) (fun j=>j≤q.g.us.length) (fun j=>q.g.us.length-j) 0 Wk.go (zL_ _) fun j hj=> ?_;conv=>whnf
 refine bs (fun h1=> ?_) (fun h1=> ?_)
 ·conv=>whnf
  have h1':j<q.g.us.length:=by simpa using h1
  obtain⟨f,hf⟩:=at_some h1';have hf5:=hq.g.us j f hf;have hfb:FB 5 (q.g.n+q.g.us.length:Nat) f:=hf5.up (lR_ _) (by omega);have hfm:FB 5 (q.g.n+q.g.us.length:Nat) (scaleS f m1):=(hfb.scale m1_b).up (by omega) (Int.le_refl _);obtain⟨hlo,hhi⟩:=hR.szs h1';refine .c (pl_best (hR.sp hq (lR_ _)) hR.li h1' (by omega)) ?_;conv=>whnf
  refine .mk (j) (f.D) (rfl) (at_map hf) ?_;conv=>whnf
  conv=>whnf
  obtain⟨s1,v1,hs1,hv1,c1⟩:=pl_decide (q:=⟨q.g,q.r,f⟩) ⟨hq.g,hq.r,hfb⟩;obtain⟨s2,v2,hs2,hv2,c2⟩:=pl_decide (q:=⟨q.g,q.r,scaleS f m1⟩) ⟨hq.g,hq.r,hfm⟩;have hz1:Sz v1:=hv1.mono (by decide);have hz2:Sz v2:=hv2.mono (by decide);refine .c (c1) ?_;conv=>whnf
  refine .c (lx_zofm) ?_;conv=>whnf
  refine .c (lx_scale hfb m1_b (by omega) (by omega) (by omega)) ?_;conv=>whnf
  refine .c (c2) ?_;conv=>whnf
  refine .mk (by kernel_rfl) ?_;conv=>whnf
  refine bs (fun h2=> ?_) (fun h2=> ?_)
  ·conv=>whnf
   exact⟨j+1,Wk.go,h1',by omega⟩
  ·conv=>whnf
   have h2':s1=1:=by simpa using h2
   refine bs (fun h3=> ?_) (fun h3=> ?_)
   ·conv=>whnf
    exact⟨j+1,Wk.go,h1',by omega⟩
   ·conv=>whnf
    have h3':s2=1:=by simpa using h3
    obtain⟨X,hX,hXv⟩:=hs1 h2';obtain⟨Y,hY,hYv⟩:=hs2 h3';have k1:=(run_at (PtOk.goal hX) hR h1').1;have k2:=(run_at (PtOk.goal hY) hR h1').2;rw[pP,atF_nat hf]at k1 k2;have hXv':ph 1 X f=v1:=hXv;have hYv':ph 1 Y (scaleS f m1)=v2:=hYv;rw[ph_scale,show m1= -1 from m1_r]at hYv';rw[hXv']at k1;have k3: -v2≤hiV ls j:=by grind
    refine .c (lx_zcmp (.c hlo) (.c hz1)) ?_;conv=>whnf
    rw[cmp_gt];refine bF (decide_eq_false (Rat.not_lt.2 k1)) ?_;conv=>whnf
    refine .c (lx_zneg (.c hz2)) ?_;conv=>whnf
    refine .c (lx_zcmp (.c (hv2.neg.mono (by decide))) (.c hhi)) ?_;conv=>whnf
    rw[cmp_gt];refine bF (decide_eq_false (Rat.not_lt.2 k3)) ?_;conv=>whnf
    refine .mk (by kernel_rfl) ?_;conv=>whnf
    exact⟨j+1,Wk.go,h1',by omega⟩
 ·conv=>whnf
  exact .q ⟨rfl,rfl⟩
open Go.ChangeShapes Go.WideShapes
abbrev M0:MS:=fun _ _=>False
def γ0:Gh:=fun _=>undef
theorem rel0 {M:MS}{w:World}(h:Glb M w):Rel γ0 (look []) M0 w:=
 ⟨fun key e he=>absurd he (by simp[look]),fun key b i ho=>by simp[Owns,look]at ho,fun k1 k2 b l1=>by simp[look,live]at l1,fun b i n h=>h.elim,fun b i h=>h.elim,h.fx fun b i v k=>⟨fun h=>h,k.2⟩⟩
theorem lv_at {P:Program}{F:FuncId}{args:List V}{v:V}(h:LV P F args v){w:World}{rs:List Value}(hG:Glb M0 w)(ha:All2 (RdV γ0 (look []) M0 w) args rs):
  Calls P F rs.toArray w fun e w'=>∃r,e= .returned r∧Below w.heap.size w w'∧∃γ' M',RdV γ' (look []) M' w' v r:=by
 obtain⟨v',H',⟨rfl,rfl⟩,hc⟩:=h;refine cM (hc γ0 M0 w rs (rel0 hG) ha) ?_;rintro e w' ⟨r,γ',M',h1,h2,h3,h4⟩;exact⟨r,h1,⟨h4.os,h4.tape,h4.output,h4.size,fun k hk=>h4.other k hk fun key i ho=>by simp[Owns,look]at ho⟩,γ',M',h3⟩
theorem lv_lit {P:Program}{F:FuncId}{args:List V}{u:Value}(h:LV P F args (vl u)){w:World}{rs:List Value}(hG:Glb M0 w)(ha:All2 (RdV γ0 (look []) M0 w) args rs):
  Calls P F rs.toArray w fun e w'=>e= .returned u∧Below w.heap.size w w':=by
 refine cM (lv_at h hG ha) ?_;rintro e w' ⟨r,rfl,h1,γ',M',h2⟩;exact⟨by rw[show r=u from lit_inv h2],h1⟩
theorem wfu8 {n:Int}(h:(Lit.int .u8 n).wf=true):0≤n∧n<256:=by
 simp[Lit.wf,IntKind.min,IntKind.max,IntKind.signed,IntKind.bits]at h;omega
abbrev dbT:List Int:=[0,1,28,2,29,14,24,3,30,22,20,15,25,17,4,8,31,27,13,23,21,19,16,7,26,12,18,6,11,5,10,9]
theorem gTab:Tryz.prog.globalNamed "math/bits.deBruijn32tab" =some 0:=by kernel_rfl
theorem glb_of_laid {W:World}(h:laidMetH Tryz.prog [("math/bits.deBruijn32tab",Rows.laid_math_bits_deBruijn32tab)] W):Glb M0 W:=by
 rw[MakeChecks.laidMetH_plain _ _ _ (by kernel_rfl)]at h;have hT:=Lib.tabIs_of_head (k:= .u8) (zs:=dbT) (rest:=[]) (W:=W) gTab (t:=223) (by kernel_rfl) Tryz.underlying223 Tryz.underlying5 (by kernel_rfl) (by kernel_rfl) h;intro g row hg j d hd;unfold GT at hg;split at hg
 ·injection hg with hg;subst hg;have hd':(dbT.map fun z=>D.lit (.int .u8 z))[j]? =some d:=hd;rw[List.getElem?_map]at hd'
  cases hz:dbT[j]? with
  |none=>rw[hz]at hd';cases hd'
  |some z=>
   rw[hz]at hd';injection hd' with hd';subst hd';have hj:j<32:=at_lt hz;have:=hT.cell gTab j hj;rw[show dbT.getD j 0=z by rw[List.getD_eq_getElem?_getD,hz];rfl]at this;exact⟨_,⟨fun h=>h,this⟩,.lit _⟩
 ·cases hg
def Bys (w:World)(v:Value)(n:Nat):Prop:=n≤1000000→∃raw,RdD M0 w (bysD raw) v∧raw.length=n∧RawOk raw
theorem bys_of_read {H:Type}{enc:TypeId×Value→H}{w:World}{base:Nat}{held:Bool}{fuel:Nat}{c:Value}{y:DataW H×List MemPlace}
  (h:DataW.trod enc Tryz.prog w base (fun _=>true) held fuel 22 [c]=some y):∃a n k,c= .slice a n k∧Bys w (.slice a n k) n:=by
 rcases open_ints Tryz.underlying22 Tryz.underlying5 (by kernel_rfl) h with⟨hcs,_⟩|⟨x,l,c',zs,hcs,_,hl,hm,hz,_,hcell,hwz⟩
 ·injection hcs with h1 _;subst h1;refine⟨_,_,_,rfl,fun hn=>⟨[],?_,rfl,⟨zL_ _,fun b h=>by cases h⟩⟩⟩;exact nil_ok 1
 ·injection hcs with h1 _;subst h1;refine⟨_,_,_,rfl,fun hn=> ?_⟩;have hzl:l≤zs.length:=by simp at hz;omega
  have hlen:((zs.take l).map Int.toNat).length=l:=by simp;omega
  refine⟨(zs.take l).map Int.toNat,?_,hlen,⟨by omega,fun b hb=> ?_⟩⟩
  ·have hrow:∀(i:Nat) (row:List D),(((zs.take l).map Int.toNat).map fun b=>[D.lit (.int .u8 (b:Nat))])[i]? =some row→i<l∧row=[.lit (.int .u8 (zs.getD i 0))]:=fun i row hi=>by
    rw[List.getElem?_map,List.getElem?_map]at hi
    cases hj:(zs.take l)[i]? with
    |none=>rw[hj]at hi;cases hi
    |some z=>
     rw[hj]at hi;injection hi with hi;have hlt:=at_lt hj;have hil:i<l:=by simp at hlt;omega
     have hz2:zs[i]? =some z:=by rw[List.getElem?_take]at hj;split at hj<;>simp_all
     have hw:=wfu8 (hwz z (mG_ hz2));rw[show zs.getD i 0=z by rw[List.getD_eq_getElem?_getD,hz2];rfl,←hi];exact⟨hil,by simp;omega⟩
   have hx0:0<l→x.spot=none:=fun h0=>by
    have c0:=hcell 0 (by omega);rw[show x.add 0=x by rfl]at c0;unfold World.cell? at c0;split at c0
    ·split at c0
     ·cases c0
     ·next h=>simpa using h
    ·cases c0
   have:=RdD.sl (M:=M0) (w:=w) 1 (((zs.take l).map Int.toNat).map fun b=>[D.lit (.int .u8 (b:Nat))]) (some x) c' (fun i _=> .int .u8 (zs.getD i 0)) (by simp;omega) (by simp;omega) (fun h0=> ?_) (fun i row hi=> ?_) (fun _ _=>rfl) (fun i row j d hi hj=> ?_)
   ·rw[List.length_map,hlen]at this;exact this
   ·have h0':0<l:=by simp at h0;omega
    obtain⟨bl,off,spot⟩:=x;have hs:=hx0 h0';simp only at hs;subst hs;refine⟨bl,off,rfl,fun i row j d hi hj=> ?_⟩;obtain⟨h1,rfl⟩:=hrow i row hi;obtain rfl:j=0:=by
     rcases j with _|j
     ·rfl
     ·simp at hj
    have:=hcell i (by omega);rw[Addr.add_lit]at this;exact⟨fun h=>h,by rw[Nat.mul_one,Nat.add_zero];exact this⟩
   ·rw[(hrow i row hi).2];rfl
   ·obtain⟨h1,rfl⟩:=hrow i row hi;obtain rfl:j=0:=by
     rcases j with _|j
     ·rfl
     ·simp at hj
    injection hj with hj;subst hj;exact .lit _
  ·obtain⟨z,h1,rfl⟩:=List.mem_map.1 hb;have:=wfu8 (hwz z (List.mem_of_mem_take h1));omega
theorem open_Bys {H:Type}{enc:TypeId×Value→H}{w:World}{base:Nat}{held:Bool}{r:Reach}{b0:Nat}{v:Value}{d:DataW H}{p:List MemPlace}
  (hv:Value.okWide Tryz.prog w r b0 22 v) (h:DataW.Trod enc Tryz.prog w base (fun _=>true) held 22 v d p):∃a n c,v= .slice a n c∧Bys w (.slice a n c) n:=by
 obtain⟨a,n,c,rfl⟩:=okWide_slice Tryz.underlying22 hv;obtain⟨m,hm⟩:=h;exact bys_of_read (c:= .slice a n c) hm
end Go.Proofs.YtcnebhohjghngaaGreatDoor.Lf
