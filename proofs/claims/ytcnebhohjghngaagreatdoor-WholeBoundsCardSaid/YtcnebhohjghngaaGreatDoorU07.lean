/- Texts LmD LkA LkB LoA LoB LoC LoD LoE LoF LmE LmF LmG LmH LmI LnA LoG of this proof, in this order. -/
import Derived.Test.YtcnebhohjghngaaGreatDoorU06
import Derived.Test.YtcnebhohjghngaaGreatDoorU01
set_option linter.unusedVariables false
set_option linter.unusedSimpArgs false
set_option maxRecDepth 100000
set_option maxHeartbeats 4000000
namespace Go.Proofs.YtcnebhohjghngaaGreatDoor.Lf
open Go.RowKit Nt
def cmpI (x y:Int):Int:=if x<y then -1 else if x>y then 1 else 0
def orS:List Int→Int
 |[]=>0
 |x::xs=>if x≠0 then x else orS xs
def cmpR (a b:Ro):Int:=orS [cmpI a.k b.k,cmpI a.i b.i,cmpI a.l b.l,cmpI a.h b.h]
theorem cmpI_0 {x y:Int}:cmpI x y=0↔x=y:=by unfold cmpI;split<;>(try split)<;>omega
theorem cmpI_lt {x y:Int}:cmpI x y<0↔x<y:=by unfold cmpI;split<;>(try split)<;>omega
theorem cmpI_anti (x y:Int):cmpI y x= -cmpI x y:=by
 unfold cmpI
 repeat' split
 all_goals omega
theorem cmpR_0 {a b:Ro}:cmpR a b=0↔a=b:=by
 obtain⟨a1,a2,a3,a4⟩:=a;obtain⟨b1,b2,b3,b4⟩:=b;have e1:= @cmpI_0 a1 b1;have e2:= @cmpI_0 a2 b2;have e3:= @cmpI_0 a3 b3;have e4:= @cmpI_0 a4 b4;simp only[cmpR,orS,Ro.mk.injEq]
 repeat' split
 all_goals (simp only[ne_eq]at *;grind)
theorem cmpR_anti (a b:Ro):cmpR b a= -cmpR a b:=by
 simp only[cmpR,orS,cmpI_anti a.k b.k,cmpI_anti a.i b.i,cmpI_anti a.l b.l,cmpI_anti a.h b.h]
 repeat' split
 all_goals omega
theorem cmpR_lt {a b:Ro}:cmpR a b<0↔a.k<b.k∨(a.k=b.k∧(a.i<b.i∨(a.i=b.i∧(a.l<b.l∨(a.l=b.l∧a.h<b.h))))):=by
 have e1:= @cmpI_0 a.k b.k;have e2:= @cmpI_0 a.i b.i;have e3:= @cmpI_0 a.l b.l;have f1:= @cmpI_lt a.k b.k;have f2:= @cmpI_lt a.i b.i;have f3:= @cmpI_lt a.l b.l;have f4:= @cmpI_lt a.h b.h;simp only[cmpR,orS]
 repeat' split
 all_goals (simp only[ne_eq]at *;omega)
theorem cmpR_trans {a b c:Ro}(h:cmpR a b≤0)(k:cmpR b c≤0):cmpR a c≤0:=by
 have n1:∀x y:Ro,cmpR x y≤0↔¬cmpR y x<0:=fun x y=>by rw[cmpR_anti x y];omega
 rw[n1,cmpR_lt]at *
 omega
theorem pl_nan {x:Int}:LV Tryz.prog 181 [vl (.int .i64 x)] (vl (.bool false)):=by
 refine LX_run (m:=0) (n0:=0) mix Tryz.func181 rfl rfl rfl rfl ?_;conv=>whnf
 refine bF (by simp) ?_;conv=>whnf
 exact .q ⟨rfl,rfl⟩
theorem pl_cmp {x y:Int}:LV Tryz.prog 171 [vl (.int .i64 x),vl (.int .i64 y)] (vl (.int .i64 (cmpI x y))):=by
 refine LX_run (m:=0) (n0:=0) mix Tryz.func171 rfl rfl rfl rfl ?_;conv=>whnf
 refine .c (pl_nan) ?_;conv=>whnf
 refine .c (pl_nan) ?_;conv=>whnf
 repeat' first|(refine bs (fun h=> ?_) (fun h=> ?_)<;>conv=>whnf)|(refine Nc.mk (by kernel_rfl) ?_;conv=>whnf)
 all_goals exact .q ⟨by first|(simp_all [cmpI];done)|(simp_all [cmpI];intros;omega)|((simp[cmpI];repeat' split)<;>first|(simp_all;done)|(simp_all;intros;omega)),rfl⟩
abbrev intsD (xs:List Int):D:= .sl 1 (xs.map fun x=>[.lit (.int .i64 x)])
theorem orS_at:∀{xs:List Int} {i:Nat} {x:Int},(∀j y,j<i→xs[j]? =some y→y=0)→xs[i]? =some x→x≠0→orS xs=x
 |[],i,x,_,h,_=>by simp at h
 |z::xs,0,x,_,h,hx=>by simp at h;subst h;rw[orS,if_pos hx]
 |z::xs,i+1,x,ha,h,hx=>by
  have:=ha 0 z (by omega) rfl;rw[orS,if_neg (by omega)];exact orS_at (i:=i) (fun j y hj hy=>ha (j+1) y (by omega) (by simpa using hy)) (by simpa using h) hx
theorem orS_0:∀{xs:List Int},(∀(j:Nat) y,xs[j]? =some y→y=0)→orS xs=0
 |[],_=>rfl
 |z::xs,h=>by
  rw[orS,if_neg (by have:=h 0 z rfl;omega)];exact orS_0 fun j y hy=>h (j+1) y (by simpa using hy)
theorem pl_or {xs:List Int}(hl:xs.length≤1000):LV Tryz.prog 170 [.a (.d (intsD xs))] (vl (.int .i64 (orS xs))):=by
 refine LX_run (m:=0) (n0:=0) mix Tryz.func170 rfl rfl rfl rfl ?_;conv=>whnf
 refine .mk Nat (fun i=>⟨[(8,vl (.int .i64 i)),(7,vl (.int .i64 (xs.map fun x=>[D.lit (.int .i64 x)]).length)),(6,.a (.d (intsD xs))),(3,vl (.int .i64 0))],[],0⟩) (fun i=>i≤xs.length∧∀j y,j<i→xs[j]? =some y→y=0) (fun i=>xs.length-i) 0 Wk.go ⟨zL_ _,by intro j y h;omega⟩ fun i hi=> ?_;obtain⟨hi,hall⟩:=hi;conv=>whnf
 refine bs (fun h1=> ?_) (fun h1=> ?_)
 ·conv=>whnf
  have h1':i<xs.length:=by simpa using h1
  obtain⟨x,hx⟩:=at_some h1';refine .mk (i) ([D.lit (.int .i64 x)]) (rfl) (at_map (f:=fun x=>[D.lit (.int .i64 x)]) hx) ?_;conv=>whnf
  conv=>whnf
  refine bs (fun h2=> ?_) (fun h2=> ?_)
  ·conv=>whnf
   exact .q ⟨by rw[orS_at hall hx (by simpa using h2)],rfl⟩
  ·conv=>whnf
   refine⟨i+1,Wk.go,⟨h1',fun j y hj hy=> ?_⟩,by omega⟩;rcases Nat.lt_succ_iff_lt_or_eq.1 hj with h3|h3
   ·exact hall j y h3 hy
   ·subst h3;rw[hx]at hy;injection hy with hy;rw[←hy];simpa using h2
 ·conv=>whnf
  exact .q ⟨by rw[orS_0 fun j y hy=>hall j y (by have:=at_lt hy;simp at h1;omega) hy],rfl⟩
theorem pl_compare {a b:Ro}:LV Tryz.prog 154 [.agg a.A,.agg b.A] (vl (.int .i64 (cmpR a b))):=by
 refine LX_run (m:=0) (n0:=0) mix Tryz.func154 rfl rfl rfl rfl ?_;conv=>whnf
 refine .c (pl_cmp) ?_;conv=>whnf
 refine .c (pl_cmp) ?_;conv=>whnf
 refine .c (pl_cmp) ?_;conv=>whnf
 refine .c (pl_cmp) ?_;conv=>whnf
 refine .c (pl_or (xs:=[cmpI a.k b.k,cmpI a.i b.i,cmpI a.l b.l,cmpI a.h b.h]) (by simp)) ?_;conv=>whnf
 refine .mk (by kernel_rfl) ?_;conv=>whnf
 exact .q ⟨rfl,rfl⟩
structure CanL (l:List Mu):Prop where
 pos:∀m∈l,0<m.c
 up:∀(i:Nat) a b,l[i]? =some a→l[i+1]? =some b→cmpR a.r b.r<0
theorem pl_canon {l:List Mu}{K:Nat}(h:CanL l)(hl:MuB K l)(hk:K≤3000000000)(hn:l.length≤1000000):LV Tryz.prog 128 [.a (.d (musD l))] (vl (.bool true)):=by
 refine LX_run (m:=0) (n0:=0) mix Tryz.func128 rfl rfl rfl rfl ?_;conv=>whnf
 refine .mk Nat (fun i=>⟨[(7,vl (.int .i64 (i:Nat))),(6,vl (.int .i64 (l.map Mu.D).length)),(5,.a (.d (musD l))),(0,.a (.d (musD l)))],[],0⟩) (fun i=>i≤l.length) (fun i=>l.length-i) 0 Wk.go (zL_ _) fun i hi=> ?_;conv=>whnf
 conv=>whnf
 refine bs (fun h1=> ?_) (fun h1=> ?_)
 ·conv=>whnf
  have h1':i<l.length:=by simpa using h1
  obtain⟨m,hm⟩:=at_some h1';have hmm:=mG_ hm;have mz:Sz m.c:=(hl m hmm).mono hk;refine .mk (i) (m.D) (rfl) (at_map hm) ?_;conv=>whnf
  conv=>whnf
  refine .c (lx_rsign (.c mz)) ?_;conv=>whnf
  refine bF (by have:= @sg_gt m.c;rw[decide_eq_true (h.pos m hmm)]at this;simpa using this) ?_;conv=>whnf
  refine .c (lx_okc mz) ?_;conv=>whnf
  refine bs (fun h2=> ?_) (fun h2=> ?_)
  ·conv=>whnf
   have h2':0<i:=by simpa using h2
   obtain⟨p,hp⟩:=at_some (l:=l) (i:=i-1) (by omega);refine .mk (i-1) (p.D) (by rw[wr64 (by omega) (by omega)];omega) (at_map hp) ?_;conv=>whnf
   conv=>whnf
   refine .c (pl_compare (a:=p.r) (b:=m.r)) ?_;conv=>whnf
   refine bF (decide_eq_false (by have:=h.up (i-1) p m hp (by rw[show i-1+1=i by omega];exact hm);omega)) ?_;conv=>whnf
   refine .mk (by kernel_rfl) ?_;conv=>whnf
   exact⟨i+1,Wk.go,h1',by omega⟩
  ·conv=>whnf
   refine .mk (by kernel_rfl) ?_;conv=>whnf
   exact⟨i+1,Wk.go,h1',by omega⟩
 ·conv=>whnf
  exact .q ⟨rfl,rfl⟩
def sumTo (s:Sp)(l:List Mu)(i:Nat):Af:=(l.take i).foldl (fun a m=>addS a (scaleS (frm s m.r) m.c)) (numS 0)
def sumS (s:Sp)(l:List Mu):Af:=sumTo s l l.length
theorem sumTo_succ {s:Sp}{l:List Mu}{i:Nat}{m:Mu}(h:l[i]? =some m):sumTo s l (i+1)=addS (sumTo s l i) (scaleS (frm s m.r) m.c):=by
 unfold sumTo;rw[take_snoc h,List.foldl_append];rfl
theorem fold_cof (s:Sp)(w:Int):∀(l:List Mu) (a:Af),cof (l.foldl (fun a m=>addS a (scaleS (frm s m.r) m.c)) a).ts w=cof a.ts w+wsum (fun r=>cof (frm s r).ts w) l
 |[],a=>by simp[wsum,Rat.add_zero]
 |m::l,a=>by
  rw[List.foldl_cons,fold_cof s w l,addS,cof_fold,scaleS,cof_scale,wsum];grind
theorem fold_c (s:Sp):∀(l:List Mu) (a:Af),(l.foldl (fun a m=>addS a (scaleS (frm s m.r) m.c)) a).c=a.c+wsum (fun r=>(frm s r).c) l
 |[],a=>by simp[wsum,Rat.add_zero]
 |m::l,a=>by
  rw[List.foldl_cons,fold_c s l,addS,scaleS,wsum];grind
theorem sumS_cof (s:Sp)(l:List Mu)(w:Int):cof (sumS s l).ts w=wsum (fun r=>cof (frm s r).ts w) l:=by
 rw[sumS,sumTo,List.take_length,fold_cof];exact Rat.zero_add _
theorem sumS_c (s:Sp)(l:List Mu):(sumS s l).c=wsum (fun r=>(frm s r).c) l:=by
 rw[sumS,sumTo,List.take_length,fold_c];exact Rat.zero_add _
theorem frm_b {s:Sp}{B:Nat}{r:Ro}(hq:QuB s.q)(hr:RoA s r)(hl:Bt B (lmV s r.l r.i false))(hu:Bt B (lmV s r.h r.i true)):FB (4*B+17) (s.q.g.n+s.q.g.us.length:Nat) (frm s r):=by
 unfold frm;rcases hr with⟨h1,h2,h3,_,_⟩|h
 ·have hv:=FB.var (n:=((s.q.g.n+s.q.g.us.length:Nat):Int)) (v:=r.i) h2 (by omega);have hlo:=hq.r.lo;have hhi:=hq.r.hi;rw[if_pos h1,frmI];have hx:=atQ_some (l:=s.q.r.lo) h2 (by omega);have hy:=atQ_some (l:=s.q.r.hi) h2 (by omega);split
  ·exact(hv.sub (FB.num (hq.r.sl _ (mG_ hx)))).up (by omega) (Int.le_refl _)
  ·exact((FB.num (hq.r.sh _ (mG_ hy))).sub hv).up (by omega) (Int.le_refl _)
 ·have hk:=h.nk;have i0:=h.i0;have i1:=h.i1;have hp:=atF_some (l:=s.q.g.us) i0 i1;rw[if_neg (by omega)];exact(frmW_b (n:=((s.q.g.n+s.q.g.us.length:Nat):Int)) r.k (by omega) (by omega) ((hq.g.us _ _ hp).up (lR_ _) (by omega)) hl hu).up (by omega) (Int.le_refl _)
structure SmOk (s:Sp)(l:List Mu)(B K:Nat):Prop where
 can:CanL l
 rows:∀m∈l,RoA s m.r∧Bt B (lmV s m.r.l m.r.i false)∧Bt B (lmV s m.r.h m.r.i true)
 mu:MuB K l
 n:l.length≤1000
 big:(l.length+1)*(4*B+17+K+1)≤900000000
theorem sumTo_b {s:Sp}{l:List Mu}{B K:Nat}(hq:QuB s.q)(h:SmOk s l B K):∀i,i≤l.length→FB (i*(4*B+17+K+1)) (s.q.g.n+s.q.g.us.length:Nat) (sumTo s l i)
 |0,_=>by rw[Nat.zero_mul];exact FB.num (bt0 0)
 |i+1,hi=>by
  obtain⟨m,hm⟩:=at_some (l:=l) (i:=i) (by omega);have hmm:=mG_ hm;obtain⟨r1,r2,r3⟩:=h.rows m hmm;rw[sumTo_succ hm,Nat.add_mul,Nat.one_mul];exact((sumTo_b hq h i (by omega)).add ((frm_b hq r1 r2 r3).scale (h.mu m hmm))).up (by omega) (Int.le_refl _)
theorem pl_sum {s:Sp}{l:List Mu}{B K:Nat}(hs:SpOk s)(hq:QuB s.q)(h:SmOk s l B K):LV Tryz.prog 98 [.agg s.A,.a (.d (musD l))] (.tup [.g (sumS s l).A,.s (.d (.lit (.int .i64 0)))]):=by
 have hn:=h.n;have hbig:=h.big;have hn2:=hs.q.g.n2;have hu1:=hs.q.g.u1;have h1K:4*B+17+K+1≤(l.length+1)*(4*B+17+K+1):=Nat.le_mul_of_pos_left _ (by omega);refine LX_run (m:=0) (n0:=0) mix Tryz.func98 rfl rfl rfl rfl ?_;conv=>whnf
 refine .c (pl_canon h.can h.mu (by omega) (by omega)) ?_;conv=>whnf
 refine .mk Nat (fun i=>⟨[(17,vl (.int .i64 (i:Nat))),(16,vl (.int .i64 (l.map Mu.D).length)),(15,.a (.d (musD l))),(6,.a (.ptr 2 0)),(4,.a (.ptr 1 0)),(2,.a (.ptr 0 0))],[(0,.box 43 s.A),(1,.box 36 [.d (.lit (.slice none 0 0)),.d (.lit (.bool false)),.d (.nat 0),.d (.nat 0)]),(2,.box 36 (sumTo s l i).A)],3⟩)
  (fun i=>i≤l.length) (fun i=>l.length-i) 0 (Wk.of (by repeat' first|exact trivial|exact vR_ _|refine⟨⟨_,rfl,?_,rfl⟩,?_⟩) (by refine⟨⟨_,rfl,wke_refl _,rfl⟩,⟨_,rfl,wke_refl _,rfl⟩,⟨_,rfl,⟨_,rfl,?_⟩,rfl⟩,trivial⟩;show All2 WkA _ (numS 0).A;rw[numS0_A];exact⟨WkA.nil,aR_ _,aR_ _,aR_ _,trivial⟩) rfl) (zL_ _) fun i hi=> ?_
 conv=>whnf
 refine bs (fun h1=> ?_) (fun h1=> ?_)
 ·conv=>whnf
  have h1':i<l.length:=by simpa using h1
  obtain⟨m,hm⟩:=at_some h1';have hmm:=mG_ hm;obtain⟨r1,r2,r3⟩:=h.rows m hmm;have hf:=frm_b hq r1 r2 r3;have hib:(i+1)*(4*B+17+K+1)≤(l.length+1)*(4*B+17+K+1):=Nat.mul_le_mul_right _ (by omega);rw[Nat.add_mul,Nat.one_mul]at hib;refine .mk (i) (m.D) (rfl) (at_map hm) ?_;conv=>whnf
  conv=>whnf
  refine .c (pl_form (r:=m.r) hs hq r1 r2 r3 (by omega)) ?_;conv=>whnf
  refine .c (pl_scale hf (h.mu m hmm) (by omega) (by omega) (by omega)) ?_;conv=>whnf
  refine .c (pl_add (sumTo_b hq h i hi) (hf.scale (h.mu m hmm)) (by omega) (by omega) (by omega)) ?_;conv=>whnf
  refine .mk (by kernel_rfl) ?_;conv=>whnf
  exact⟨i+1,by rw[sumTo_succ hm];exact Wk.go,h1',by omega⟩
 ·conv=>whnf
  have e:i=l.length:=by simp at h1;omega
  subst e;exact .q ⟨rfl,rfl⟩
theorem cof_sub (f g:Af)(w:Int):cof (subS f g).ts w=cof f.ts w-cof g.ts w:=by
 rw[subS,addS,cof_fold,scaleS,cof_scale];show _+_*((-1:Int):Rat)=_;grind
theorem c_sub (f g:Af):(subS f g).c=f.c-g.c:=by
 show f.c+g.c*((-1:Int):Rat)=_;grind
theorem FB.zero {k:Nat}{n:Int}{f:Af}(h:FB k n f)(hz:∀w,cof f.ts w=0):f=numS f.c:=
 Af.ext' (n:=n) (n':=n) h.ts trivial (fun w=>(hz w).trans rfl) rfl
theorem AfOk.le {f:Af}{n n':Int}(h:AfOk f n)(hn:n≤n'):AfOk f n':=⟨fun i t ht=>let q:=h.lo i t ht;⟨q.1,Int.lt_of_lt_of_le q.2.1 hn,q.2.2⟩,h.up,h.c,h.len⟩
theorem pl_proves {s:Sp}{f:Af}{l:List Mu}{B K k:Nat}(hs:SpOk s)(hq:QuB s.q)(hf:FB k (s.q.g.n+s.q.g.us.length:Nat) f)(hk:k≤90000000)(h:SmOk s l B K)(hc:∀w,cof f.ts w=wsum (fun r=>cof (frm s r).ts w) l)(hv:0≤f.c-wsum (fun r=>(frm s r).c) l):
  LV Tryz.prog 64 [.agg s.A,.agg f.A,.a (.d (musD l))] (vl (.bool true)):=by
 have hn2:=hs.q.g.n2;have hu1:=hs.q.g.u1;have hbig:=h.big;rw[Nat.add_mul,Nat.one_mul]at hbig;have hsb:=sumTo_b hq h l.length (lR_ _);have hd:=hf.sub hsb;have e:subS f (sumS s l)=numS (f.c-wsum (fun r=>(frm s r).c) l):=by
  rw[←sumS_c,←c_sub]
  exact FB.zero hd fun w=>by
   show cof (subS f (sumS s l)).ts w=0;rw[cof_sub,sumS_cof,hc];grind
 have hdz:Sz (f.c-wsum (fun r=>(frm s r).c) l):=by
  have:=hd.c;rw[show(subS f (sumTo s l l.length))=numS (f.c-wsum (fun r=>(frm s r).c) l)from e]at this;exact this.mono (by omega)
 have cs:=pl_sub hf hsb (by omega) (by omega) (by omega);rw[show(subS f (sumTo s l l.length))=numS (f.c-wsum (fun r=>(frm s r).c) l)from e]at cs;refine LX_run (m:=0) (n0:=0) mix Tryz.func64 rfl rfl rfl rfl ?_;conv=>whnf
 refine .c (pl_sum hs hq h) ?_;conv=>whnf
 refine .c (lx_lvalid (n:=9223372036854775807) ((hf.ok (by omega) (by omega) (by omega)).le (by omega))) ?_;conv=>whnf
 refine .c (cs) ?_;conv=>whnf
 refine .c (lx_rsign (.c hdz)) ?_;conv=>whnf
 refine bT (by have:= @sg_lt (f.c-wsum (fun r=>(frm s r).c) l);rw[decide_eq_false (Rat.not_lt.2 hv)]at this;simpa [numS]using this) ?_;conv=>whnf
 exact .q ⟨rfl,rfl⟩
def mkL (j:Nat)(up:Bool)(v:Rat)(l:List Mu):Lm:=⟨j,up,can v,l.map Mu.D⟩
def fL (p:Af)(up:Bool)(v:Rat):Af:=if up=true then scaleS (subS p (numS v)) m1 else subS p (numS v)
theorem numA_wk (q:Rat):WkV (.agg (.d (.lit (.slice none 0 0))::(can q).A)) (.agg (numS q).A):=WkV.agg ⟨WkA.nil,aR_ _,aR_ _,aR_ _,trivial⟩
structure DvL (s:Sp)(j:Nat)(up:Bool)(v:Rat)(l:List Mu)(B K:Nat):Prop where
 sm:SmOk s l B K
 jl:j<s.q.g.us.length
 bv:Bt 80000000 v
 cof:∀w,cof (fL (atF s.q.g.us j) up v).ts w=wsum (fun r=>cof (frm s r).ts w) l
 val:0≤(fL (atF s.q.g.us j) up v).c-wsum (fun r=>(frm s r).c) l
theorem pl_dlemma {s:Sp}{j:Nat}{up:Bool}{v:Rat}{l:List Mu}{B K:Nat}(hs:SpOk s)(hq:QuB s.q)(h:DvL s j up v l B K):
  LV Tryz.prog 27 [.agg s.A,.agg (mkL j up v l).A] (vl (.bool true)):=by
 have hn2:=hs.q.g.n2;have hu1:=hs.q.g.u1;have hj:=h.jl;have hp:=atF_some (l:=s.q.g.us) (i:=(j:Int)) (by omega) (by omega);obtain⟨h1,_,h3,h4,h5⟩:=h;have hpf:FB 5 (s.q.g.n+s.q.g.us.length:Nat) (atF s.q.g.us j):=(hq.g.us _ _ hp).up (lR_ _) (by omega);generalize atF s.q.g.us j=p at *
 have vz:Sz v:=h3.mono (by decide);have f1:=hpf.sub (FB.num h3);show LV Tryz.prog _ [.agg s.A,.agg [.d (.lit (.int .i64 j)),.d (.lit (.bool up)),.d (.lit (.bool (can v).b)),.d (.lm (can v).n),.d (.lm (can v).d),.d (musD l)]] _;unfold fL at h4 h5
 cases up
 all_goals refine LX_run (m:=0) (n0:=0) mix Tryz.func27 rfl rfl rfl rfl ?_
           conv=>whnf
 all_goals refine bF (decide_eq_false (by rw[List.length_map];omega)) ?_
           conv=>whnf
 all_goals refine .c (lx_okc vz) ?_
           conv=>whnf
 all_goals refine .c (lx_quvalid hs.q) ?_
           conv=>whnf
 all_goals refine .mk (j) (p.D) (rfl) (at_map (by simpa using hp)) ?_
           conv=>whnf
 all_goals conv=>whnf
 all_goals refine Cn.as (pl_sub hpf (FB.num h3) (by omega) (by omega) (by omega)) rfl ⟨vR_ _,numA_wk v,trivial⟩ rfl rfl ?_
 all_goals conv=>whnf
 all_goals refine .mk (by kernel_rfl) ?_
           conv=>whnf
 ·rw[if_neg (by simp)]at h4 h5;refine .c (pl_proves hs hq f1 (by omega) h1 h4 h5) ?_;conv=>whnf
  exact .q ⟨rfl,rfl⟩
 ·rw[if_pos rfl]at h4 h5;refine .c (lx_rofm) ?_;conv=>whnf
  refine .c (pl_scale f1 m1_b (by omega) (by omega) (by omega)) ?_;conv=>whnf
  refine .mk (by kernel_rfl) ?_;conv=>whnf
  refine .c (pl_proves hs hq (f1.scale m1_b) (by omega) h1 h4 h5) ?_;conv=>whnf
  exact .q ⟨rfl,rfl⟩
theorem pl_cf0 {s:Sp}:LX Tryz.prog 24 [.a (.d (.sl 5 [])),.a (.fn (.func 25) [] [.ptr 0 0])] [(0,.box 43 s.A)] fun v H=>v=vl (.bool false)∧H=[(0,.box 43 s.A)]:=by
 have ix:LX Tryz.prog 60 [.a (.d (.sl 5 [])),.a (.fn (.func 25) [] [.ptr 0 0])] [(0,.box 43 s.A)] fun v H=>v=vl (.int .i64 (-1))∧H=[(0,.box 43 s.A)]:=by
  refine LX_run (m:=1) (n0:=1) mix Tryz.func60 rfl rfl rfl rfl ?_;conv=>whnf
  refine .mk Unit (fun _=>⟨[(8,vl (.int .i64 0)),(7,vl (.int .i64 0)),(1,.a (.fn (.func 25) [] [.ptr 0 0])),(0,.a (.d (.sl 5 [])))],[(0,.box 43 s.A)],1⟩) (fun _=>True) (fun _=>0) () Wk.go trivial fun _ _=> ?_;conv=>whnf
  exact⟨_,_,⟨rfl,rfl⟩,vR_ _,rfl,⟨⟨_,rfl,wke_refl _,rfl⟩,trivial⟩,rfl⟩
 refine LX_run (m:=1) (n0:=1) mix Tryz.func24 rfl rfl rfl rfl ?_;conv=>whnf
 refine .l [0] (ix) ?_;conv=>whnf
 exact⟨_,_,⟨rfl,rfl⟩,vR_ _,rfl,⟨⟨_,rfl,wke_refl _,rfl⟩,trivial⟩,rfl⟩
theorem pl_scope {q:Qu}{ls:List Lm}(hs:SpOk ⟨q,[],ls⟩)(h:∀(i:Nat) m,ls[i]? =some m→LV Tryz.prog 27 [.agg (Sp.A ⟨q,[],ls.take i⟩),.agg m.A] (vl (.bool true))):LV Tryz.prog 7 [.agg (Sp.A ⟨q,[],ls⟩)] (vl (.bool true)):=by
 have hl:ls.length≤1000000:=hs.ll;refine LX_run (m:=0) (n0:=0) mix Tryz.func7 rfl rfl rfl rfl ?_;conv=>whnf
 refine .c (lx_quvalid hs.q) ?_;conv=>whnf
 refine .l [0] (pl_cf0) ?_;conv=>whnf
 refine .mk Nat (fun i=>⟨[(18,vl (.int .i64 (i:Nat))),(17,vl (.int .i64 (ls.map Lm.D).length)),(16,.a (.d (lmsD ls))),(1,.a (.ptr 0 0))],[(0,.box 43 (Sp.A ⟨q,[],ls⟩))],1⟩) (fun i=>i≤ls.length) (fun i=>ls.length-i) 0 Wk.go (zL_ _) fun i hi=> ?_;conv=>whnf
 conv=>whnf
 refine bs (fun h1=> ?_) (fun h1=> ?_)
 ·conv=>whnf
  have h1':i<ls.length:=by simpa using h1
  obtain⟨m,hm⟩:=at_some h1';refine .mk (i) (m.D) (rfl) (at_map hm) ?_;conv=>whnf
  conv=>whnf
  refine .mk 0 i ((ls.take i).map Lm.D) rfl rfl (zL_ _) (by simp;omega) (by simp[List.map_take]) ?_;conv=>whnf
  refine .c (h i m hm) ?_;conv=>whnf
  refine .mk (by kernel_rfl) ?_;conv=>whnf
  exact⟨i+1,Wk.go,h1',by omega⟩
 ·conv=>whnf
  exact .q ⟨rfl,rfl⟩
end Go.Proofs.YtcnebhohjghngaaGreatDoor.Lf
namespace Go.Proofs.YtcnebhohjghngaaGreatDoor.Koh
def sm (f:Nat→Rat):Nat→Rat
 |0=>0
 |n+1=>sm f n+f n
theorem sm_congr {f g:Nat→Rat}:∀{n:Nat},(∀i,i<n→f i=g i)→sm f n=sm g n
 |0,_=>rfl
 |n+1,h=>by simp only[sm];rw[sm_congr fun i hi=>h i (by omega),h n (by omega)]
theorem sm_lin {f g:Nat→Rat}{a b:Rat}:∀(n:Nat),sm (fun i=>a*f i+b*g i) n=a*sm f n+b*sm g n
 |0=>by simp only[sm];grind
 |n+1=>by simp only[sm];rw[sm_lin n];grind
theorem sm_zero {f:Nat→Rat}{n:Nat}(h:∀i,i<n→f i=0):sm f n=0:=by
 induction n with
 |zero=>rfl
 |succ n ih=>simp only[sm];rw[ih fun i hi=>h i (by omega),h n (by omega)];grind
def cnt (p:Nat→Bool):Nat→Nat
 |0=>0
 |n+1=>cnt p n+(if p n=true then 1 else 0)
theorem cnt_le {p q:Nat→Bool}:∀{n:Nat},(∀i,i<n→p i=true→q i=true)→cnt p n≤cnt q n
 |0,_=>lR_ _
 |n+1,h=>by
  have h1:=cnt_le (n:=n) fun i hi=>h i (by omega);have h2:=h n (by omega);simp only[cnt];split
  ·rename_i h3;rw[if_pos (h2 h3)];omega
  ·omega
theorem cnt_lt {p q:Nat→Bool}{j:Nat}:∀{n:Nat},(∀i,i<n→p i=true→q i=true)→j<n→p j=false→q j=true→cnt p n<cnt q n
 |0,_,h,_,_=>by omega
 |n+1,h,hj,h1,h2=>by
  have hh:=h n (by omega);rcases Nat.lt_or_ge j n with h3|h3
  ·have:=cnt_lt (n:=n) (fun i hi=>h i (by omega)) h3 h1 h2;simp only[cnt];split
   ·rename_i h4;rw[if_pos (hh h4)];omega
   ·omega
  ·obtain rfl:j=n:=by omega
   have:=cnt_le (n:=j) fun i hi=>h i (by omega);simp only[cnt];rw[if_neg (by rw[h1];exact Bool.false_ne_true),if_pos h2];omega
section
variable (m:Nat) (A:Nat→Nat→Rat)
def col (u:Nat→Rat)(c:Nat):Rat:=sm (fun i=>u i*A i c) m
structure Cn (S:List Nat)(u:Nat→Rat):Prop where
 pos:∀i,0≤u i
 out:∀i,m≤i→u i=0
 eq:∀c,c∈S→col m A u c=0
def nz (u:Nat→Rat)(i:Nat):Bool:=decide (u i≠0)
def card (u:Nat→Rat):Nat:=cnt (nz u) m
structure El (S:List Nat)(u:Nat→Rat):Prop where
 cn:Cn m A S u
 ne:∃i,u i≠0
 min:∀w,Cn m A S w→(∀i,u i=0→w i=0)→(∃i,w i≠0)→∀i,w i=0→u i=0
variable {m A}
theorem col_lin {u w:Nat→Rat}{a b:Rat}{c:Nat}:col m A (fun i=>a*u i+b*w i) c=a*col m A u c+b*col m A w c:=by
 unfold col;rw[←sm_lin];exact sm_congr fun i _=>by grind
theorem nz_t {u:Nat→Rat}{i:Nat}:nz u i=true↔u i≠0:=by simp[nz]
theorem nz_f {u:Nat→Rat}{i:Nat}:nz u i=false↔u i=0:=by simp[nz]
theorem lt_of_ne {S:List Nat}{u:Nat→Rat}(h:Cn m A S u){i:Nat}(hi:u i≠0):i<m:=by
 rcases Nat.lt_or_ge i m with h1|h1
 ·exact h1
 ·exact absurd (h.out i h1) hi
theorem ratio {u w:Nat→Rat}(hu:∀i,0≤u i)(hsub:∀i,u i=0→w i=0):∀(n:Nat),(∃i,i<n∧0<w i)→∃l j,0<l∧j<n∧0<w j∧u j=l*w j∧∀i,i<n→0≤u i-l*w i
 |0,⟨i,hi,_⟩=>by omega
 |n+1,⟨i,hi,hw⟩=>by
  have hpos:∀k,0<w k→0<u k:=fun k hk=>by
   have h1:=hu k;have h2:u k≠0:=fun e=>by have:=hsub k e;grind
   grind
  have own:∀(hk:0<w n),0<u n/w n∧u n=u n/w n*w n:=fun hk=>by
   have h1:=hpos n hk;refine⟨?_,?_⟩
   ·rw[Rat.div_def];exact Rat.mul_pos h1 (Rat.inv_pos.2 hk)
   ·rw[Rat.div_mul_cancel (by grind)]
  by_cases hex:∃i,i<n∧0<w i
  ·obtain⟨l,j,k1,k2,k3,k4,k5⟩:=ratio hu hsub n hex
   by_cases hn:0≤u n-l*w n
   ·exact⟨l,j,k1,by omega,k3,k4,fun i hi=>by
     rcases Nat.lt_or_ge i n with h|h
     ·exact k5 i h
     ·obtain rfl:i=n:=by omega
      exact hn⟩
   ·have hwn:0<w n:=by
     have h1:=hu n;rcases Decidable.em (0<w n)with h|h
     ·exact h
     ·exfalso;have h2:w n≤0:=by grind
      have h3:0≤l* -w n:=Rat.mul_nonneg (by grind) (by grind);grind
    obtain⟨o1,o2⟩:=own hwn;generalize u n/w n=l' at *
    have hll:l'<l:=by
     rcases Decidable.em (l'<l)with h|h
     ·exact h
     ·exfalso;have h3:0≤(l'-l)*w n:=Rat.mul_nonneg (by grind) (by grind);grind
    refine⟨l',n,o1,by omega,hwn,o2,fun i hi=> ?_⟩;rcases Nat.lt_or_ge i n with h|h
    ·have h5:=k5 i h;have h6:=hu i;rcases Decidable.em (0<w i)with h7|h7
     ·have h8:0≤(l-l')*w i:=Rat.mul_nonneg (by grind) (by grind);grind
     ·have h8:0≤l'* -w i:=Rat.mul_nonneg (by grind) (by grind);grind
    ·obtain rfl:i=n:=by omega
     grind
  ·have hin:i=n:=by
    rcases Nat.lt_or_ge i n with h|h
    ·exact absurd ⟨i,h,hw⟩ hex
    ·omega
   subst hin;obtain⟨o1,o2⟩:=own hw;generalize u i/w i=l' at *
   refine⟨l',i,o1,by omega,hw,o2,fun k hk=> ?_⟩;rcases Nat.lt_or_ge k i with h|h
   ·have h7:¬0<w k:=fun h7=>hex ⟨k,h,h7⟩;have h6:=hu k;have h8:0≤l'* -w k:=Rat.mul_nonneg (by grind) (by grind);grind
   ·obtain rfl:k=i:=by omega
    grind
theorem Cn.less {S:List Nat}{u w:Nat→Rat}(hu:Cn m A S u)(hw:∀c,c∈S→col m A w c=0)(hsub:∀i,u i=0→w i=0)(hp:∃i,0<w i):
  ∃l j,0<l∧0<w j∧u j=l*w j∧Cn m A S (fun i=>1*u i+ -l*w i):=by
 have hb:∃i,i<m∧0<w i:=by
  obtain⟨i,hi⟩:=hp;refine⟨i,lt_of_ne hu (i:=i) fun e=> ?_,hi⟩;have:=hsub i e;grind
 obtain⟨l,j,h1,h2,h3,h4,h5⟩:=ratio hu.pos hsub m hb;refine⟨l,j,h1,h3,h4,fun i=> ?_,fun i hi=> ?_,fun c hc=> ?_⟩
 ·rcases Nat.lt_or_ge i m with h|h
  ·have:=h5 i h;grind
  ·have e1:=hu.out i h;have e2:=hsub i e1;rw[e1,e2];grind
 ·have e1:=hu.out i hi;have e2:=hsub i e1;rw[e1,e2];grind
 ·rw[col_lin,hu.eq c hc,hw c hc];grind
theorem Cn.has {S:List Nat}{w:Nat→Rat}(h:Cn m A S w)(hn:∃i,w i≠0):∃i,0<w i:=by
 obtain⟨i,hi⟩:=hn;exact⟨i,by have:=h.pos i;grind⟩
theorem Cn.comb {S:List Nat}{u w:Nat→Rat}{a b:Rat}(hu:Cn m A S u)(hw:Cn m A S w)(ha:0≤a)(hb:0≤b):Cn m A S (fun i=>a*u i+b*w i):=
 ⟨fun i=>by have:=Rat.mul_nonneg ha (hu.pos i);have:=Rat.mul_nonneg hb (hw.pos i);grind,fun i hi=>by rw[hu.out i hi,hw.out i hi];grind,fun c hc=>by rw[col_lin,hu.eq c hc,hw.eq c hc];grind⟩
theorem el_below {S:List Nat}:∀(n:Nat) (u:Nat→Rat),card m u=n→Cn m A S u→(∃i,u i≠0)→∃w,El m A S w∧∀i,u i=0→w i=0:=by
 intro n
 induction n using Nat.strongRecOn with
 |_ n ih=>
  intro u hn hu hne
  by_cases he:El m A S u
  ·exact⟨u,he,fun i h=>h⟩
  ·have:∃w,Cn m A S w∧(∀i,u i=0→w i=0)∧(∃i,w i≠0)∧∃i,w i=0∧u i≠0:=by
    apply Classical.byContradiction;intro hc;refine he ⟨hu,hne,fun w h1 h2 h3 i h4=> ?_⟩;apply Classical.byContradiction;intro h5;exact hc ⟨w,h1,h2,h3,i,h4,h5⟩
   obtain⟨w,h1,h2,h3,i,h4,h5⟩:=this;have hlt:card m w<n:=by
    rw[←hn];exact cnt_lt (fun k _ hk=>nz_t.2 fun e=>nz_t.1 hk (h2 k e)) (lt_of_ne hu h5) (nz_f.2 h4) (nz_t.2 h5)
   obtain⟨x,x1,x2⟩:=ih _ hlt w rfl h1 h3;exact⟨x,x1,fun k hk=>x2 k (h2 k hk)⟩
theorem el_all {S:List Nat}(φ:(Nat→Rat)→Rat)(hφ:∀(u w:Nat→Rat) (a b:Rat),φ (fun i=>a*u i+b*w i)=a*φ u+b*φ w)(h0:∀u,(∀i,u i=0)→φ u=0):
  ∀(n:Nat) (u:Nat→Rat),card m u=n→Cn m A S u→(∀w,El m A S w→(∀i,u i=0→w i=0)→0≤φ w)→0≤φ u:=by
 intro n
 induction n using Nat.strongRecOn with
 |_ n ih=>
  intro u hn hu hel
  by_cases hne:∃i,u i≠0
  ·obtain⟨w,w1,w2⟩:=el_below _ u rfl hu hne;obtain⟨l,j,l1,l2,l3,l4⟩:=hu.less w1.cn.eq w2 (w1.cn.has w1.ne);have hlt:card m (fun i=>1*u i+ -l*w i)<n:=by
    rw[←hn];refine cnt_lt (j:=j) (fun k _ hk=>nz_t.2 fun e=>nz_t.1 hk ?_) (lt_of_ne w1.cn (by grind)) (nz_f.2 ?_) (nz_t.2 ?_)
    ·show 1*u k+ -l*w k=0;rw[e,w2 k e];grind
    ·show 1*u j+ -l*w j=0;rw[l3];grind
    ·intro e;have:=w2 j e;grind
   have h1:=ih _ hlt _ rfl l4 fun x hx hxs=>hel x hx fun k hk=>hxs k (by
    show 1*u k+ -l*w k=0;rw[hk,w2 k hk];grind)
   rw[hφ]at h1;have h2:=Rat.mul_nonneg (Rat.le_of_lt l1) (hel w w1 w2);grind
  ·rw[h0 u fun i=>Classical.byContradiction fun h=>hne ⟨i,h⟩];exact Rat.le_refl
theorem El.prop {S:List Nat}{u w:Nat→Rat}(hu:El m A S u)(hw:Cn m A S w)(hne:∃i,w i≠0)(hs:∀i,u i=0→w i=0):∃l,0<l∧∀i,w i=l*u i:=by
 have hs':=hu.min w hw hs hne;obtain⟨l,j,l1,l2,l3,l4⟩:=hw.less hu.cn.eq hs' (hu.cn.has hu.ne);refine⟨l,l1,fun i=> ?_⟩;apply Classical.byContradiction;intro hi
 have h1:=hu.min _ l4 (fun k hk=>by
  show 1*w k+ -l*u k=0;rw[hk,hs k hk];grind) ⟨i,by
  show 1*w i+ -l*u i≠0;intro e;apply hi;grind⟩ j (by
  show 1*w j+ -l*u j=0;rw[l3];grind)
 grind
theorem El.scale {S:List Nat}{u w:Nat→Rat}{l:Rat}(hu:El m A S u)(hl:0<l)(hw:∀i,w i=l*u i):El m A S w:=by
 have hz:∀i,w i=0↔u i=0:=fun i=>by
  rw[hw i];constructor
  ·intro h;rcases Rat.mul_eq_zero.1 h with h|h
   ·grind
   ·exact h
  ·intro h;rw[h];grind
 have he:w=fun i=>l*u i+0*u i:=funext fun i=>by rw[hw i];grind
 refine⟨by rw[he];exact hu.cn.comb hu.cn (Rat.le_of_lt hl) Rat.le_refl,?_,fun x h1 h2 h3 i h4=>(hz i).2 (hu.min x h1 (fun k hk=>h2 k ((hz k).2 hk)) h3 i h4)⟩;obtain⟨i,hi⟩:=hu.ne;exact⟨i,fun e=>hi ((hz i).1 e)⟩
theorem el_step {S:List Nat}{v:Nat}{u:Nat→Rat}(hu:El m A (v::S) u):El m A S u∨∃w1 w2 l,El m A S w1∧El m A S w2∧0<col m A w1 v∧col m A w2 v<0∧0<l∧∀i,u i=l*(-(col m A w2 v)*w1 i+col m A w1 v*w2 i):=by
 by_cases he:El m A S u
 ·exact .inl he
 right
 have huS:Cn m A S u:=⟨hu.cn.pos,hu.cn.out,fun c hc=>hu.cn.eq c (List.mem_cons_of_mem _ hc)⟩;have hlin:∀(s:Rat) (u w:Nat→Rat) (a b:Rat),s*col m A (fun i=>a*u i+b*w i) v=a*(s*col m A u v)+b*(s*col m A w v):=fun s u w a b=>by rw[col_lin];grind
 have hzero:∀(s:Rat) (u:Nat→Rat),(∀i,u i=0)→s*col m A u v=0:=fun s u h=>by
  have:col m A u v=0:=sm_zero fun i _=>by rw[h i];grind
  rw[this];grind
 -- one with a non-zero column
 have hsome:∃w,El m A S w∧(∀i,u i=0→w i=0)∧col m A w v≠0:=by
  apply Classical.byContradiction;intro hc;obtain⟨w,w1,w2⟩:=el_below _ u rfl huS hu.ne;have hv:col m A w v=0:=Classical.byContradiction fun h=>hc ⟨w,w1,w2,h⟩
  have hwv:Cn m A (v::S) w:=⟨w1.cn.pos,w1.cn.out,fun c hc=>by
   rcases List.mem_cons.1 hc with rfl|hc
   ·exact hv
   ·exact w1.cn.eq c hc⟩
  have hs:=hu.min w hwv w2 w1.ne;obtain⟨l,l1,l2⟩:=w1.prop huS hu.ne hs;exact he (w1.scale l1 l2)
 -- of each sign
 have hsign:∀(s:Rat) (w:Nat→Rat),El m A S w→(∀i,u i=0→w i=0)→0<s*col m A w v→∃x,El m A S x∧(∀i,u i=0→x i=0)∧s*col m A x v<0:=by
  intro s w w1 w2 hpos;apply Classical.byContradiction;intro hc;obtain⟨l,j,l1,l2,l3,l4⟩:=huS.less w1.cn.eq w2 (w1.cn.has w1.ne)
  have h1:=el_all (S:=S) (fun x=>s*col m A x v) (hlin s) (hzero s) _ _ rfl l4 fun x hx hxs=>by
   have hxu:∀i,u i=0→x i=0:=fun k hk=>hxs k (by
    show 1*u k+ -l*w k=0;rw[hk,w2 k hk];grind)
   rcases(Rat.le_total:0≤s*col m A x v∨s*col m A x v≤0)with h|h
   ·exact h
   ·rcases Decidable.em (s*col m A x v=0)with h2|h2
    ·rw[h2];exact Rat.le_refl
    ·exact absurd ⟨x,hx,hxu,by grind⟩ hc
  have h2:col m A (fun i=>1*u i+ -l*w i) v= -l*col m A w v:=by
   rw[col_lin,hu.cn.eq v (List.mem_cons_self ..)];grind
  have h1':0≤s*(-l*col m A w v):=by rw[←h2];exact h1
  have h3:0<l*(s*col m A w v):=Rat.mul_pos l1 hpos;grind
 have hboth:∃w1 w2,El m A S w1∧El m A S w2∧(∀i,u i=0→w1 i=0)∧(∀i,u i=0→w2 i=0)∧0<col m A w1 v∧col m A w2 v<0:=by
  obtain⟨w,w1,w2,w3⟩:=hsome;rcases(Rat.le_total:0≤col m A w v∨col m A w v≤0)with h|h
  ·obtain⟨x,x1,x2,x3⟩:=hsign 1 w w1 w2 (by grind);exact⟨w,x,w1,x1,w2,x2,by grind,by grind⟩
  ·obtain⟨x,x1,x2,x3⟩:=hsign (-1) w w1 w2 (by grind);exact⟨x,w,x1,w1,x2,w2,by grind,by grind⟩
 obtain⟨w1,w2,e1,e2,s1,s2,p1,p2⟩:=hboth;have hz:Cn m A S (fun i=> -(col m A w2 v)*w1 i+col m A w1 v*w2 i):=e1.cn.comb e2.cn (by grind) (by grind)
 have hzv:Cn m A (v::S) (fun i=> -(col m A w2 v)*w1 i+col m A w1 v*w2 i):=⟨hz.pos,hz.out,fun c hc=>by
  rcases List.mem_cons.1 hc with rfl|hc
  ·rw[col_lin];grind
  ·exact hz.eq c hc⟩
 have hzn:∃i,-(col m A w2 v)*w1 i+col m A w1 v*w2 i≠0:=by
  obtain⟨i,hi⟩:=e1.cn.has e1.ne;refine⟨i,?_⟩;have h1:=Rat.mul_pos (show 0< -(col m A w2 v) by grind) hi;have h2:=Rat.mul_nonneg (Rat.le_of_lt p1) (e2.cn.pos i);grind
 obtain⟨l,l1,l2⟩:=hu.prop hzv hzn fun i hi=>by rw[s1 i hi,s2 i hi];grind
 refine⟨w1,w2,l⁻¹,e1,e2,p1,p2,Rat.inv_pos.2 l1,fun i=> ?_⟩;have:=l2 i;rw[this,←Rat.mul_assoc,Rat.inv_mul_cancel l (by grind)];grind
theorem perm_sum {l l':List Rat}(h:l.Perm l'):l.sum=l'.sum:=by
 induction h with
 |nil=>rfl
 |cons x _ ih=>simp only[List.sum_cons];rw[ih]
 |swap x y l=>simp only[List.sum_cons];grind
 |trans _ _ h1 h2=>rw[h1,h2]
theorem homog:∀(S:List Nat) (A:Nat→Nat→Rat) (I:List Nat),I.Nodup→S.length<I.length→∃w:Nat→Rat,(∃i,w i≠0)∧(∀i,i∉I→w i=0)∧∀c,c∈S→(I.map fun i=>w i*A i c).sum=0
 |[],A,[],_,h=>by simp at h
 |[],A,p::I,hn,_=>⟨fun i=>if i=p then 1 else 0,⟨p,by simp⟩,fun i hi=>by
   show(if i=p then(1:Rat)else 0)=0;rw[if_neg];intro e;exact hi (by simp[e]),fun c hc=>by cases hc⟩
 |c::S,A,I,hn,hl=>by
  by_cases hp:∃p,p∈I∧A p c≠0
  ·obtain⟨p,hpI,hpc⟩:=hp;have hn':=hn.erase p;have hl':(I.erase p).length=I.length-1:=List.length_erase_of_mem hpI;obtain⟨w,⟨i0,h0⟩,h1,h2⟩:=homog S (fun i d=>A i d-A i c/A p c*A p d) (I.erase p) hn' (by simp at hl;omega);have hwp:w p=0:=h1 p (hn.not_mem_erase);obtain⟨sg,hsg⟩:∃sg,sg=((I.erase p).map fun i=>w i*(A i c/A p c)).sum:=⟨_,rfl⟩
   have hsum:∀(f:Nat→Rat),(I.map f).sum=f p+((I.erase p).map f).sum:=fun f=>by
    have:=(List.perm_cons_erase hpI).map f;rw[perm_sum this];simp
   have hrest:∀(d:Nat),((I.erase p).map fun i=>(if i=p then -sg else w i)*A i d).sum=((I.erase p).map fun i=>w i*A i d).sum:=fun d=>by
    congr 1
    refine List.map_congr_left fun i hi=> ?_;rw[if_neg];intro e;subst e;exact(hn.not_mem_erase) hi
   refine⟨fun i=>if i=p then -sg else w i,⟨i0,?_⟩,fun i hi=> ?_,fun d hd=> ?_⟩
   ·have:i0≠p:=fun e=>h0 (by rw[e];exact hwp);show(if i0=p then -sg else w i0)≠0;rw[if_neg this];exact h0
   ·have h5:i≠p:=fun e=>hi (by rw[e];exact hpI);show(if i=p then -sg else w i)=0;rw[if_neg h5];exact h1 i fun h=>hi (List.mem_of_mem_erase h)
   ·rw[hsum];show(if p=p then -sg else w p)*A p d+_=0;rw[if_pos rfl,hrest]
    have hlin:∀(J:List Nat) (f g:Nat→Rat) (k:Rat),(J.map fun i=>f i-k*g i).sum=(J.map f).sum-k*(J.map g).sum:=fun J f g k=>by
     induction J with
     |nil=>simp;grind
     |cons x J ih=>simp only[List.map_cons,List.sum_cons];rw[ih];grind
    rcases List.mem_cons.1 hd with rfl|hd
    ·have e:((I.erase p).map fun i=>w i*(A i d/A p d)).sum*A p d=((I.erase p).map fun i=>w i*A i d).sum:=by
      generalize I.erase p=J
      induction J with
      |nil=>simp
      |cons x J ih=>
       simp only[List.map_cons,List.sum_cons];rw[Rat.add_mul,ih];have:A x d/A p d*A p d=A x d:=Rat.div_mul_cancel hpc;rw[Rat.mul_assoc,this]
     rw[hsg];grind
    ·have h3:=h2 d hd;have e:((I.erase p).map fun i=>w i*(A i d-A i c/A p c*A p d)).sum=((I.erase p).map fun i=>w i*A i d).sum-A p d*((I.erase p).map fun i=>w i*(A i c/A p c)).sum:=by
      rw[←hlin]
      congr 1
      exact List.map_congr_left fun i _=>by grind
     rw[e,←hsg]at h3;grind
  ·obtain⟨w,h0,h1,h2⟩:=homog S A I hn (by simp at hl;omega);refine⟨w,h0,h1,fun d hd=> ?_⟩;rcases List.mem_cons.1 hd with rfl|hd
   ·have:∀(J:List Nat),(∀i,i∈J→i∈I)→(J.map fun i=>w i*A i d).sum=0:=fun J hJ=>by
     induction J with
     |nil=>rfl
     |cons x J ih=>
      simp only[List.map_cons,List.sum_cons];rw[ih fun i hi=>hJ i (List.mem_cons_of_mem _ hi)];have:A x d=0:=Classical.byContradiction fun h=>hp ⟨x,hJ x (List.mem_cons_self ..),h⟩;rw[this];grind
    exact this I fun i h=>h
   ·exact h2 d hd
def places (u:Nat→Rat):Nat→List Nat
 |0=>[]
 |n+1=>if nz u n=true then n::places u n else places u n
theorem places_len {u:Nat→Rat}:∀n,(places u n).length=cnt (nz u) n
 |0=>rfl
 |n+1=>by simp only[places,cnt];split<;>simp[places_len n]
theorem places_mem {u:Nat→Rat}{i:Nat}:∀{n},i∈places u n↔i<n∧u i≠0
 |0=>by simp[places]
 |n+1=>by
  simp only[places];split
  ·rename_i h;rw[List.mem_cons,places_mem (n:=n)];constructor
   ·rintro(rfl|⟨h1,h2⟩)
    ·exact⟨by omega,nz_t.1 h⟩
    ·exact⟨by omega,h2⟩
   ·rintro⟨h1,h2⟩;rcases Nat.lt_succ_iff_lt_or_eq.1 h1 with h3|h3
    ·exact .inr ⟨h3,h2⟩
    ·exact .inl h3
  ·rename_i h;rw[places_mem (n:=n)];constructor
   ·rintro⟨h1,h2⟩;exact⟨by omega,h2⟩
   ·rintro⟨h1,h2⟩;refine⟨?_,h2⟩;rcases Nat.lt_succ_iff_lt_or_eq.1 h1 with h3|h3
    ·exact h3
    ·exact absurd (nz_t.2 (h3▸h2)) h
theorem places_nodup {u:Nat→Rat}:∀n,(places u n).Nodup
 |0=>List.nodup_nil
 |n+1=>by
  simp only[places];split
  ·refine List.nodup_cons.2 ⟨fun h=> ?_,places_nodup n⟩;have:=(places_mem.1 h).1;omega
  ·exact places_nodup n
theorem sm_list {f:Nat→Rat}{I:List Nat}(hn:I.Nodup):∀{n:Nat},(∀i,i∈I→i<n)→(∀i,i∉I→f i=0)→sm f n=(I.map f).sum:=by
 induction I generalizing f with
 |nil=>intro n _ h;rw[sm_zero fun i _=>h i (by simp)];rfl
 |cons p I ih=>
  intro n h1 h2;have hp:p∉I:=(List.nodup_cons.1 hn).1;have h3:sm f n=f p+sm (fun i=>if i=p then 0 else f i) n:=by
   have hpn:=h1 p (List.mem_cons_self ..);clear ih h1 h2 hn
   induction n with
   |zero=>omega
   |succ n ihn=>
    simp only[sm];rcases Nat.lt_succ_iff_lt_or_eq.1 hpn with h|h
    ·rw[ihn h,if_neg (by omega)];grind
    ·subst h;rw[if_pos rfl,sm_congr (g:=fun i=>if i=p then 0 else f i) fun i hi=>by rw[if_neg (by omega)]];grind
  rw[h3,ih (List.nodup_cons.1 hn).2 (fun i hi=>h1 i (List.mem_cons_of_mem _ hi)) fun i hi=> ?_]
  ·rw[List.map_cons,List.sum_cons]
   congr 1
   congr 1
   refine List.map_congr_left fun i hi=> ?_;rw[if_neg];intro e;subst e;exact hp hi
  ·show(if i=p then(0:Rat)else f i)=0;split
   ·rfl
   ·rename_i h;exact h2 i fun hh=>by rcases List.mem_cons.1 hh with hh|hh<;>contradiction
theorem El.few {S:List Nat}{u:Nat→Rat}(hu:El m A S u):card m u≤S.length+1:=by
 apply Classical.byContradiction;intro hc;obtain⟨i0,hi0⟩:=hu.ne;have hm0:=lt_of_ne hu.cn hi0;have hmem:i0∈places u m:=places_mem.2 ⟨hm0,hi0⟩;have hl:((places u m).erase i0).length=(places u m).length-1:=List.length_erase_of_mem hmem;have hpl:=places_len (u:=u) m;have hnd:=(places_nodup (u:=u) m).erase i0;obtain⟨w,hne,hout,heq⟩:=homog S A ((places u m).erase i0) hnd (by unfold card at hc;omega)
 have hcol:∀c,c∈S→col m A w c=0:=fun c h=>by
  unfold col;rw[sm_list hnd (fun i hi=>(places_mem.1 (List.mem_of_mem_erase hi)).1) (fun i hi=>by rw[hout i hi];grind)];exact heq c h
 have hsub:∀i,u i=0→w i=0:=fun i hi=>hout i fun h=>(places_mem.1 (List.mem_of_mem_erase h)).2 hi;have hw0:w i0=0:=hout i0 (places_nodup m).not_mem_erase
 have key:∀x:Nat→Rat,(∀c,c∈S→col m A x c=0)→(∀i,u i=0→x i=0)→x i0=0→(∃i,0<x i)→False:=fun x x1 x2 x3 x4=>by
  obtain⟨l,j,l1,l2,l3,l4⟩:=hu.cn.less x1 x2 x4
  have:=hu.min _ l4 (fun k hk=>by
   show 1*u k+ -l*x k=0;rw[hk,x2 k hk];grind) ⟨i0,by
   show 1*u i0+ -l*x i0≠0;rw[x3];grind⟩ j (by
   show 1*u j+ -l*x j=0;rw[l3];grind)
  have h2:=x2 j this;grind
 obtain⟨i,hi⟩:=hne;rcases(Rat.le_total:0≤w i∨w i≤0)with h|h
 ·exact key w hcol hsub hw0 ⟨i,by grind⟩
 ·have hneg:∀c,col m A (fun i=>0*w i+ -1*w i) c= -(col m A w c):=fun c=>by rw[col_lin];grind
  refine key (fun i=>0*w i+ -1*w i) (fun c hc=>by rw[hneg,hcol c hc];grind) (fun k hk=> ?_) ?_ ⟨i,?_⟩
  ·show 0*w k+ -1*w k=0;rw[hsub k hk];grind
  ·show 0*w i0+ -1*w i0=0;rw[hw0];grind
  ·show 0<0*w i+ -1*w i;grind
end
abbrev Rw1:=(Nat→Rat)×Rat
def cmb (a b:Rat)(r r':Rw1):Rw1:=(fun c=>a*r.1 c+b*r'.1 c,a*r.2+b*r'.2)
inductive Cone (R:List Rw1):Rw1→Prop
 |mem (r:Rw1) (h:r∈R):Cone R r
 |comb (a b:Rat) (r r':Rw1) (h:Cone R r) (k:Cone R r') (ha:0≤a) (hb:0≤b):Cone R (cmb a b r r')
def fmStep (c:Nat)(R:List Rw1):List Rw1:=
 (R.filter fun r=>decide (r.1 c=0))++R.flatMap fun p=>R.flatMap fun q=>if 0<p.1 c∧q.1 c<0 then [cmb (-q.1 c) (p.1 c) p q]else []
theorem fm_mem {c:Nat}{R:List Rw1}{r:Rw1}(h:r∈fmStep c R):Cone R r∧r.1 c=0:=by
 rcases List.mem_append.1 h with h|h
 ·obtain⟨h1,h2⟩:=List.mem_filter.1 h;exact⟨.mem r h1,of_decide_eq_true h2⟩
 ·obtain⟨p,hp,h⟩:=List.mem_flatMap.1 h;obtain⟨q,hq,h⟩:=List.mem_flatMap.1 h;split at h
  ·rename_i hc;rw[List.mem_singleton.1 h];refine⟨.comb _ _ p q (.mem p hp) (.mem q hq) (by grind) (by grind),?_⟩;show -q.1 c*p.1 c+p.1 c*q.1 c=0;grind
  ·cases h
theorem cone_trans {c:Nat}{R:List Rw1}{r:Rw1}(h:Cone (fmStep c R) r):Cone R r∧r.1 c=0:=by
 induction h with
 |mem r h=>exact fm_mem h
 |comb a b r r' _ _ ha hb ih1 ih2=>
  refine⟨.comb a b r r' ih1.1 ih2.1 ha hb,?_⟩;show a*r.1 c+b*r'.1 c=0;rw[ih1.2,ih2.2];grind
theorem upper (L:List Rat):∃y:Rat,(∀l∈L,l≤y)∧(L=[]∨y∈L):=by
 induction L with
 |nil=>exact⟨0,fun l h=>(by cases h),.inl rfl⟩
 |cons a L ih=>
  obtain⟨y,h1,h2⟩:=ih;rcases h2 with rfl|h2
  ·exact⟨a,fun l h=>by rw[List.mem_singleton.1 h];exact Rat.le_refl,.inr (by simp)⟩
  ·rcases(Rat.le_total:a≤y∨y≤a)with h|h
   ·exact⟨y,fun l hl=>by
     rcases List.mem_cons.1 hl with rfl|hl
     ·exact h
     ·exact h1 l hl,.inr (by simp[h2])⟩
   ·exact⟨a,fun l hl=>by
     rcases List.mem_cons.1 hl with rfl|hl
     ·exact Rat.le_refl
     ·exact Rat.le_trans (h1 l hl) h,.inr (by simp)⟩
theorem lower (L:List Rat):∃y:Rat,∀l∈L,y≤l:=by
 obtain⟨y,h,_⟩:=upper (L.map fun l=> -l);refine⟨-y,fun l hl=> ?_⟩;have:=h (-l) (List.mem_map.2 ⟨l,hl,rfl⟩);grind
theorem between {L U:List Rat}(h:∀l∈L,∀u∈U,l≤u):∃y:Rat,(∀l∈L,l≤y)∧∀u∈U,y≤u:=by
 obtain⟨y,h1,h2⟩:=upper L;rcases h2 with rfl|h2
 ·obtain⟨z,hz⟩:=lower U;exact⟨z,fun l h=>(by cases h),hz⟩
 ·exact⟨y,h1,h y h2⟩
def ev1 (S:List Nat)(x:Nat→Rat)(r:Rw1):Rat:=(S.map fun c=>r.1 c*x c).sum+r.2
theorem sum_map_lin {S:List Nat}{f g:Nat→Rat}{a b:Rat}:(S.map fun c=>a*f c+b*g c).sum=a*(S.map f).sum+b*(S.map g).sum:=by
 induction S with
 |nil=>simp;grind
 |cons c S ih=>simp only[List.map_cons,List.sum_cons];rw[ih];grind
theorem ev1_cmb {S:List Nat}{x:Nat→Rat}{a b:Rat}{r r':Rw1}:ev1 S x (cmb a b r r')=a*ev1 S x r+b*ev1 S x r':=by
 unfold ev1 cmb;have:(S.map fun c=>(a*r.1 c+b*r'.1 c)*x c).sum=a*(S.map fun c=>r.1 c*x c).sum+b*(S.map fun c=>r'.1 c*x c).sum:=by
  rw[←sum_map_lin]
  congr 1
  exact List.map_congr_left fun c _=>by grind
 simp only[this];grind
theorem farkas:∀(S:List Nat) (R:List Rw1),S.Nodup→(∀r,Cone R r→(∀c,c∈S→r.1 c=0)→0≤r.2)→∃x:Nat→Rat,∀r∈R,0≤ev1 S x r
 |[],R,_,h=>⟨fun _=>0,fun r hr=>by
   have:=h r (.mem r hr) fun c hc=>by cases hc
   show 0≤(0:Rat)+r.2;grind⟩
 |c::S,R,hn,h=>by
  obtain⟨hc,hn'⟩:=List.nodup_cons.1 hn
  obtain⟨x,hx⟩:=farkas S (fmStep c R) hn' fun r hr hz=>by
   obtain⟨h1,h2⟩:=cone_trans hr
   exact h r h1 fun d hd=>by
    rcases List.mem_cons.1 hd with rfl|hd
    ·exact h2
    ·exact hz d hd
  obtain⟨y,hl,hu⟩:=between (L:=(R.filter fun r=>decide (0<r.1 c)).map fun p=> -(ev1 S x p)/p.1 c) (U:=(R.filter fun r=>decide (r.1 c<0)).map fun q=>ev1 S x q/ -(q.1 c)) (by
   intro l hl u hu;obtain⟨p,hp,rfl⟩:=List.mem_map.1 hl;obtain⟨q,hq,rfl⟩:=List.mem_map.1 hu;obtain⟨p1,p2⟩:=List.mem_filter.1 hp;obtain⟨q1,q2⟩:=List.mem_filter.1 hq;have p2:=of_decide_eq_true p2;have q2:=of_decide_eq_true q2;have hmem:cmb (-q.1 c) (p.1 c) p q∈fmStep c R:=List.mem_append.2 (.inr (List.mem_flatMap.2 ⟨p,p1,List.mem_flatMap.2 ⟨q,q1,by rw[if_pos ⟨p2,q2⟩];simp⟩⟩));have h1:=hx _ hmem;rw[ev1_cmb]at h1;have hp0:p.1 c≠0:=by grind
   have hq0: -(q.1 c)≠0:=by grind
   have e1: -(ev1 S x p)/p.1 c*p.1 c= -(ev1 S x p):=Rat.div_mul_cancel hp0;have e2:ev1 S x q/ -(q.1 c)* -(q.1 c)=ev1 S x q:=Rat.div_mul_cancel hq0;generalize -(ev1 S x p)/p.1 c=l at *
   generalize ev1 S x q/ -(q.1 c)=u at *
   rcases(Rat.le_total:l≤u∨u≤l)with h|h
   ·exact h
   ·rcases Decidable.em (l=u)with h5|h5
    ·rw[h5];exact Rat.le_refl
    ·have h2:=Rat.mul_pos (Rat.mul_pos (show 0<l-u by grind) p2) (show 0< -(q.1 c) by grind);have h3:(l-u)*p.1 c* -(q.1 c)=(l*p.1 c)* -(q.1 c)-(u* -(q.1 c))*p.1 c:=by grind
     rw[h3,e1,e2]at h2;grind)
  refine⟨fun d=>if d=c then y else x d,fun r hr=> ?_⟩;have hrest:ev1 (c::S) (fun d=>if d=c then y else x d) r=r.1 c*y+ev1 S x r:=by
   unfold ev1;simp only[List.map_cons,List.sum_cons,if_pos]
   have:(S.map fun d=>r.1 d*if d=c then y else x d)=S.map fun d=>r.1 d*x d:=List.map_congr_left fun d hd=>by
    rw[if_neg];intro e;subst e;exact hc hd
   rw[this];grind
  rw[hrest];rcases Decidable.em (r.1 c=0)with h0|h0
  ·have h1:=hx r (List.mem_append.2 (.inl (List.mem_filter.2 ⟨hr,decide_eq_true h0⟩)));rw[h0];grind
  ·rcases Decidable.em (0<r.1 c)with hp|hp
   ·have h1:=hl _ (List.mem_map.2 ⟨r,List.mem_filter.2 ⟨hr,decide_eq_true hp⟩,rfl⟩);have e1: -(ev1 S x r)/r.1 c*r.1 c= -(ev1 S x r):=Rat.div_mul_cancel h0;generalize -(ev1 S x r)/r.1 c=l at *
    have h2:=Rat.mul_nonneg (show 0≤y-l by grind) (Rat.le_of_lt hp);grind
   ·have hq:r.1 c<0:=by grind
    have h1:=hu _ (List.mem_map.2 ⟨r,List.mem_filter.2 ⟨hr,decide_eq_true hq⟩,rfl⟩);have e1:ev1 S x r/ -(r.1 c)* -(r.1 c)=ev1 S x r:=Rat.div_mul_cancel (by grind);generalize ev1 S x r/ -(r.1 c)=l at *
    have h2:=Rat.mul_nonneg (show 0≤l-y by grind) (show 0≤ -(r.1 c) by grind);grind
section
variable {m:Nat} {A:Nat→Nat→Rat}
abbrev En:=(Nat→Rat)×Nat
def Rep (m:Nat)(A:Nat→Nat→Rat)(S:List Nat)(L:List En):Prop:=∀u,El m A S u→∃e,e∈L∧(∃k,0<k∧∀c,e.1 c=k*col m A u c)∧∀i,e.2.testBit i=nz u i
theorem rep0 {L:List En}(h:∀i,i<m→∃e,e∈L∧(∃k,0<k∧∀c,e.1 c=k*A i c)∧∀j,e.2.testBit j=decide (j=i)):Rep m A [] L:=by
 intro u hu;obtain⟨p,hp⟩:=hu.ne;have hpm:=lt_of_ne hu.cn hp;have hcn:Cn m A [] (fun i=>if i=p then 1 else 0):=⟨fun i=>by split<;>grind,fun i hi=>by rw[if_neg (by omega)],fun c hc=>by cases hc⟩;obtain⟨l,l1,l2⟩:=hu.prop hcn ⟨p,by simp⟩ fun i hi=>by rw[if_neg];intro e;subst e;exact hp hi
 obtain⟨e,e1,⟨k,k1,k2⟩,e3⟩:=h p hpm;have hup:l*u p=1:=by rw[←l2 p,if_pos rfl]
 have huo:∀i,i≠p→u i=0:=fun i hi=>by
  have:=l2 i;rw[if_neg hi]at this;rcases Rat.mul_eq_zero.1 this.symm with h|h
  ·grind
  ·exact h
 have hcol:∀c,A p c=l*col m A u c:=fun c=>by
  have h1:sm (fun i=>u i*A i c) m=([p].map fun i=>u i*A i c).sum:=sm_list (by simp) (fun i hi=>by rw[List.mem_singleton.1 hi];exact hpm) fun i hi=>by rw[huo i (by simpa using hi)];grind
  have h2:col m A u c=u p*A p c:=by unfold col;rw[h1];simp only[List.map_cons,List.map_nil,List.sum_cons,List.sum_nil];grind
  rw[h2,←Rat.mul_assoc,hup];grind
 refine⟨e,e1,⟨k*l,Rat.mul_pos k1 l1,fun c=>by rw[k2,hcol];grind⟩,fun i=> ?_⟩;rw[e3 i];rcases Decidable.em (i=p)with h|h
 ·subst h;rw[decide_eq_true rfl];exact(nz_t.2 hp).symm
 ·rw[decide_eq_false h];exact(nz_f.2 (huo i h)).symm
theorem cnt_congr {p q:Nat→Bool}:∀{n:Nat},(∀i,i<n→p i=q i)→cnt p n=cnt q n
 |0,_=>rfl
 |n+1,h=>by simp only[cnt];rw[cnt_congr fun i hi=>h i (by omega),h n (by omega)]
theorem cnt_out {p:Nat→Bool}{m:Nat}:∀{n:Nat},m≤n→(∀i,m≤i→p i=false)→cnt p n=cnt p m
 |0,h,_=>by rw[show m=0 by omega]
 |n+1,h,k=>by
  rcases Nat.lt_or_ge n m with h1|h1
  ·rw[show m=n+1 by omega]
  ·simp only[cnt];rw[cnt_out h1 k,k n h1];rfl
theorem rep_step {S:List Nat}{v:Nat}{L L':List En}(hr:Rep m A S L)(hm:m≤64)
  (hz:∀e,e∈L→e.1 v=0→∃e',e'∈L'∧(∃k,0<k∧∀c,e'.1 c=k*e.1 c)∧e'.2=e.2)
  (hp:∀e1 e2,e1∈L→e2∈L→0<e1.1 v→e2.1 v<0→cnt (fun i=>(e1.2 ||| e2.2).testBit i) 64≤S.length+2→∃e',e'∈L'∧(∃k,0<k∧∀c,e'.1 c=k*(-(e2.1 v)*e1.1 c+e1.1 v*e2.1 c))∧e'.2=e1.2 ||| e2.2):Rep m A (v::S) L':=by
 intro u hu;rcases el_step hu with h|⟨w1,w2,l,h1,h2,p1,p2,l1,hl⟩
 ·obtain⟨e,e1,⟨k,k1,k2⟩,e3⟩:=hr u h;obtain⟨e',f1,⟨k',f2,f3⟩,f4⟩:=hz e e1 (by rw[k2,hu.cn.eq v (List.mem_cons_self ..)];grind);exact⟨e',f1,⟨k'*k,Rat.mul_pos f2 k1,fun c=>by rw[f3,k2];grind⟩,fun i=>by rw[f4];exact e3 i⟩
 ·obtain⟨e1,m1,⟨k1,a1,b1⟩,t1⟩:=hr w1 h1;obtain⟨e2,m2,⟨k2,a2,b2⟩,t2⟩:=hr w2 h2
  have hbit:∀i,(e1.2 ||| e2.2).testBit i=nz u i:=fun i=>by
   rw[Nat.testBit_or,t1,t2];have n1:=h1.cn.pos i;have n2:=h2.cn.pos i;have hui:=hl i
   cases g1:nz w1 i with
   |true=>
    have:=nz_t.1 g1;have h3:=Rat.mul_pos (show 0< -(col m A w2 v) by grind) (show 0<w1 i by grind);have h4:=Rat.mul_nonneg (Rat.le_of_lt p1) n2;have h5:=Rat.mul_pos l1 (show 0< -(col m A w2 v)*w1 i+col m A w1 v*w2 i by grind);rw[←hui]at h5;exact(nz_t.2 (by grind)).symm
   |false=>
    have z1:=nz_f.1 g1
    cases g2:nz w2 i with
    |true=>
     have:=nz_t.1 g2;have h4:=Rat.mul_pos p1 (show 0<w2 i by grind);have h5:=Rat.mul_pos l1 (show 0< -(col m A w2 v)*w1 i+col m A w1 v*w2 i by rw[z1];grind);rw[←hui]at h5;exact(nz_t.2 (by grind)).symm
    |false=>
     have z2:=nz_f.1 g2;exact(nz_f.2 (by rw[hui,z1,z2];grind)).symm
  have hcard:cnt (fun i=>(e1.2 ||| e2.2).testBit i) 64≤S.length+2:=by
   rw[cnt_congr fun i _=>hbit i,cnt_out hm fun i hi=>nz_f.2 (hu.cn.out i hi)];exact hu.few
  obtain⟨e',f1,⟨k',f2,f3⟩,f4⟩:=hp e1 e2 m1 m2 (by rw[b1];exact Rat.mul_pos a1 p1) (by rw[b2];have:=Rat.mul_pos a2 (show 0< -(col m A w2 v) by grind);grind) hcard
  have hcu:∀c,col m A u c=l*(-(col m A w2 v)*col m A w1 c+col m A w1 v*col m A w2 c):=fun c=>by
   have e:u=fun i=>(l* -(col m A w2 v))*w1 i+(l*col m A w1 v)*w2 i:=funext fun i=>by rw[hl i];grind
   have:col m A u c=col m A (fun i=>(l* -(col m A w2 v))*w1 i+(l*col m A w1 v)*w2 i) c:=by rw[←e]
   rw[this,col_lin];grind
  refine⟨e',f1,⟨k'*(k1*k2)*l⁻¹,Rat.mul_pos (Rat.mul_pos f2 (Rat.mul_pos a1 a2)) (Rat.inv_pos.2 l1),fun c=> ?_⟩,fun i=>by rw[f4];exact hbit i⟩;have hll:l⁻¹*l=1:=Rat.inv_mul_cancel l (by grind);rw[f3,b1,b2,b1,b2,hcu];grind
theorem rep_end {S:List Nat}{L:List En}{a b:Nat}{t:Rat}(hS:S.Nodup)(hr:Rep m A S L)(h:∀e,e∈L→0≤e.1 a*t+e.1 b):∃x:Nat→Rat,∀i,i<m→0≤(S.map fun c=>A i c*x c).sum+(A i a*t+A i b):=by
 have hall:∀u,Cn m A S u→0≤col m A u a*t+col m A u b:=fun u hu=>
  el_all (S:=S) (fun u=>col m A u a*t+col m A u b) (fun u w x y=>by simp only[col_lin];grind) (fun u hz=>by
   have e:∀c,col m A u c=0:=fun c=>sm_zero fun i _=>by rw[hz i];grind
   rw[e,e];grind) _ u rfl hu fun w hw _=>by
    obtain⟨e,e1,⟨k,k1,k2⟩,_⟩:=hr w hw;have h1:=h e e1;rw[k2,k2]at h1;rcases(Rat.le_total:0≤col m A w a*t+col m A w b∨col m A w a*t+col m A w b≤0)with h2|h2
    ·exact h2
    ·rcases Decidable.em (col m A w a*t+col m A w b=0)with h5|h5
     ·rw[h5];exact Rat.le_refl
     ·have:=Rat.mul_pos k1 (show 0< -(col m A w a*t+col m A w b) by grind);grind
 obtain⟨x,hx⟩:=farkas S ((List.range m).map fun i=>((A i,A i a*t+A i b):Rw1)) hS fun r hr hz=>by
  have:∃u,(∀i,0≤u i)∧(∀i,m≤i→u i=0)∧(∀c,r.1 c=col m A u c)∧r.2=col m A u a*t+col m A u b:=by
   clear hz
   induction hr with
   |mem r h=>
    obtain⟨i,hi,rfl⟩:=List.mem_map.1 h;have him:=List.mem_range.1 hi
    have hc:∀c,col m A (fun j=>if j=i then 1 else 0) c=A i c:=fun c=>by
     have h1:sm (fun j=>(if j=i then(1:Rat)else 0)*A j c) m=([i].map fun j=>(if j=i then(1:Rat)else 0)*A j c).sum:=sm_list (by simp) (fun j hj=>by rw[List.mem_singleton.1 hj];exact him) fun j hj=>by rw[if_neg (by simpa using hj)];grind
     unfold col;rw[h1];simp only[List.map_cons,List.map_nil,List.sum_cons,List.sum_nil,if_pos];grind
    exact⟨fun j=>if j=i then 1 else 0,fun j=>by show(0:Rat)≤if j=i then 1 else 0;split<;>grind,fun j hj=>by show(if j=i then(1:Rat)else 0)=0;rw[if_neg (by omega)],fun c=>(hc c).symm,by rw[hc,hc]⟩
   |comb p q r r' _ _ hp hq ih1 ih2=>
    obtain⟨u,u1,u2,u3,u4⟩:=ih1;obtain⟨w,w1,w2,w3,w4⟩:=ih2;refine⟨fun i=>p*u i+q*w i,fun i=>by have:=Rat.mul_nonneg hp (u1 i);have:=Rat.mul_nonneg hq (w1 i);grind,fun i hi=>by show p*u i+q*w i=0;rw[u2 i hi,w2 i hi];grind,fun c=> ?_,?_⟩
    ·show p*r.1 c+q*r'.1 c=_;rw[col_lin,u3,w3]
    ·show p*r.2+q*r'.2=_;rw[col_lin,col_lin,u4,w4];grind
  obtain⟨u,u1,u2,u3,u4⟩:=this;rw[u4];exact hall u ⟨u1,u2,fun c hc=>by rw[←u3];exact hz c hc⟩
 exact⟨x,fun i hi=>hx _ (List.mem_map.2 ⟨i,List.mem_range.2 hi,rfl⟩)⟩
end
end Go.Proofs.YtcnebhohjghngaaGreatDoor.Koh
namespace Go.Proofs.YtcnebhohjghngaaGreatDoor.Lf
open Go.RowKit Nt Koh
theorem pl_small {n:Nat}:∃(z:Int) (ok:Bool),(ok=true→z=n∧n≤1073741824)∧(0≤z∧z<4294967296)∧LV Tryz.prog 102 [.a (.d (.nat n))] (.tup [.s (.d (.lit (.int .i64 z))),.s (.d (.lit (.bool ok)))]):=by
 have hv:=val_limbs n;have hlm:=lims_limbs n
 suffices h:∃(z:Int) (ok:Bool),(ok=true→z=n∧n≤1073741824)∧(0≤z∧z<4294967296)∧LV Tryz.prog 102 [.a (.d (.sl 1 ((limbs n).map fun x=>[.lit (.int .u32 (x:Nat))])))] (.tup [.s (.d (.lit (.int .i64 z))),.s (.d (.lit (.bool ok)))]) by
  obtain⟨z,ok,h1,h2,h3⟩:=h;exact⟨z,ok,h1,h2,h3.wk ⟨wk_lm,trivial⟩⟩
 generalize limbs n=xs at *
 cases xs with
 |nil=>
  have h0:n=0:=hv.symm;refine⟨0,true,fun _=>⟨by omega,by omega⟩,by omega,?_⟩;refine LX_run (m:=0) (n0:=0) mix Tryz.func102 rfl rfl rfl rfl ?_;conv=>whnf
  exact .q ⟨rfl,rfl⟩
 |cons x rest=>
  have hx:x<4294967296:=hlm x (List.mem_cons_self ..);have hw:IntKind.i64.wrap (x:Int)=(x:Int):=wr64 (by omega) (by omega)
  cases rest with
  |nil=>
   have hn:n=x:=by rw[←hv];simp[val]
   by_cases h30:x≤1073741824
   ·refine⟨x,true,fun _=>⟨by omega,by omega⟩,by omega,?_⟩;refine LX_run (m:=0) (n0:=0) mix Tryz.func102 rfl rfl rfl rfl ?_;conv=>whnf
    refine .mk (0) ([.lit (.int .u32 (x:Nat))]) (rfl) (rfl) ?_;conv=>whnf
    conv=>whnf
    refine .mk (0) ([.lit (.int .u32 (x:Nat))]) (rfl) (rfl) ?_;conv=>whnf
    conv=>whnf
    refine bT (decide_eq_true (by omega)) ?_;conv=>whnf
    refine .mk (by kernel_rfl) ?_;conv=>whnf
    rw[hw];exact .q ⟨rfl,rfl⟩
   ·refine⟨x,false,(fun e=>by cases e),by omega,?_⟩;refine LX_run (m:=0) (n0:=0) mix Tryz.func102 rfl rfl rfl rfl ?_;conv=>whnf
    refine .mk (0) ([.lit (.int .u32 (x:Nat))]) (rfl) (rfl) ?_;conv=>whnf
    conv=>whnf
    refine .mk (0) ([.lit (.int .u32 (x:Nat))]) (rfl) (rfl) ?_;conv=>whnf
    conv=>whnf
    refine bF (decide_eq_false (by omega)) ?_;conv=>whnf
    refine .mk (by kernel_rfl) ?_;conv=>whnf
    rw[hw];exact .q ⟨rfl,rfl⟩
  |cons y rest=>
   refine⟨x,false,(fun e=>by cases e),by omega,?_⟩;refine LX_run (m:=0) (n0:=0) mix Tryz.func102 rfl rfl rfl rfl ?_;conv=>whnf
   refine .mk (0) ([.lit (.int .u32 (x:Nat))]) (rfl) (rfl) ?_;conv=>whnf
   conv=>whnf
   refine .mk (by kernel_rfl) ?_;conv=>whnf
   rw[hw];exact .q ⟨rfl,rfl⟩
theorem pl_gcd {a b:Nat}(ha:a<9223372036854775808)(hb:b<9223372036854775808):LV Tryz.prog 103 [vl (.int .i64 (a:Nat)),vl (.int .i64 (b:Nat))] (vl (.int .i64 (Nat.gcd a b:Nat))):=by
 refine LX_run (m:=0) (n0:=0) mix Tryz.func103 rfl rfl rfl rfl ?_;conv=>whnf
 refine .mk (Nat×Nat) (fun(x,y)=>⟨[(0,vl (.int .i64 (x:Nat))),(1,vl (.int .i64 (y:Nat)))],[],0⟩) (fun b'=>b'.1<9223372036854775808∧b'.2<9223372036854775808∧Nat.gcd b'.1 b'.2=Nat.gcd a b) (fun b'=>b'.2) (a,b) Wk.go ⟨ha,hb,rfl⟩ fun⟨x,y⟩ h=> ?_;obtain⟨h1,h2,h3⟩:=h;simp only at h1 h2 h3;conv=>whnf
 refine bs (fun h4=> ?_) (fun h4=> ?_)
 ·conv=>whnf
  have h4':y≠0:=fun e=>by rw[e]at h4;simp at h4
  refine .mk ((x % y:Nat):Int) ⟨by omega,rfl⟩ (by rw[Int.tmod_eq_emod_of_nonneg (by omega)];exact(Int.natCast_emod x y).symm) ?_;conv=>whnf
  refine .mk (by kernel_rfl) ?_;conv=>whnf
  exact⟨(y,x % y),Wk.go,⟨h2,Nat.lt_trans (Nat.mod_lt _ (by omega)) h2,by simp only;rw[←h3,Nat.gcd_comm y,←Nat.gcd_rec,Nat.gcd_comm]⟩,Nat.mod_lt _ (by omega)⟩
 ·conv=>whnf
  have h4':y=0:=by simpa using h4
  subst h4';exact .q ⟨by rw[←h3,Nat.gcd_zero_right],rfl⟩
theorem cnt_shift (p:Nat→Bool):∀n,cnt p (n+1)=(if p 0=true then 1 else 0)+cnt (fun i=>p (i+1)) n
 |0=>by simp[cnt]
 |n+1=>by rw[cnt,cnt_shift p n,cnt];split<;>split<;>omega
theorem cnt_half {x:Nat}(h:x<18446744073709551616):cnt (fun i=>x.testBit i) 64=x % 2+cnt (fun i=>(x/2).testBit i) 64:=by
 have h1:cnt (fun i=>(x/2).testBit i) 64=cnt (fun i=>(x/2).testBit i) 63:=by
  show cnt _ 63+_=_;have:(x/2).testBit 63=false:=Nat.testBit_lt_two_pow (by omega);rw[if_neg (by simp only[this];decide)];rfl
 rw[h1,cnt_shift];have e1:(if x.testBit 0=true then 1 else 0)=x % 2:=by
  simp only[Nat.testBit_zero];rcases Nat.mod_two_eq_zero_or_one x with h|h<;>simp[h]
 have e2:cnt (fun i=>x.testBit (i+1)) 63=cnt (fun i=>(x/2).testBit i) 63:=cnt_congr fun i _=>by rw[Nat.testBit_succ]
 rw[e1,e2]
theorem cnt_zero:∀n,cnt (fun i=>(0:Nat).testBit i) n=0
 |0=>rfl
 |n+1=>by rw[cnt,cnt_zero n];simp
theorem cnt_n (p:Nat→Bool):∀n,cnt p n≤n
 |0=>lR_ _
 |n+1=>by rw[cnt];have:=cnt_n p n;split<;>omega
theorem pl_bits {x:Nat}(hx:x<18446744073709551616):LV Tryz.prog 105 [vl (.int .u64 (x:Nat))] (vl (.int .i64 (cnt (fun i=>x.testBit i) 64:Nat))):=by
 have h64:=cnt_n (fun i=>x.testBit i) 64;refine LX_run (m:=0) (n0:=0) mix Tryz.func105 rfl rfl rfl rfl ?_;conv=>whnf
 refine .mk (Nat×Nat) (fun(y,s)=>⟨[(0,vl (.int .u64 (y:Nat))),(3,vl (.int .i64 (s:Nat)))],[],0⟩) (fun b=>b.1<18446744073709551616∧b.2+cnt (fun i=>b.1.testBit i) 64=cnt (fun i=>x.testBit i) 64) (fun b=>b.1) (x,0) Wk.go ⟨hx,by simp⟩ fun⟨y,s⟩ h=> ?_;obtain⟨h1,h2⟩:=h;simp only at h1 h2;conv=>whnf
 refine bs (fun h4=> ?_) (fun h4=> ?_)
 ·conv=>whnf
  have h4':0<y:=by have:=of_decide_eq_true h4;omega
  have hh:=cnt_half h1;have e1:((y:Int)).tmod 2=((y % 2:Nat):Int):=by rw[Int.tmod_eq_emod_of_nonneg (by omega)];exact(Int.natCast_emod y 2).symm
  have e2:((y:Int)).tdiv 2=((y/2:Nat):Int):=by rw[Int.tdiv_eq_ediv_of_nonneg (by omega)];exact(Int.natCast_ediv y 2).symm
  have w1:IntKind.i64.wrap ((y % 2:Nat):Int)=((y % 2:Nat):Int):=wr64 (by omega) (by omega);have w2:IntKind.i64.wrap ((s:Int)+((y % 2:Nat):Int))=((s+y % 2:Nat):Int):=by rw[wr64 (by omega) (by omega)];omega
  have w3:IntKind.u64.wrap ((y/2:Nat):Int)=((y/2:Nat):Int):=by
   show((y/2:Nat):Int) % 18446744073709551616=_;exact Int.emod_eq_of_lt (by omega) (by omega)
  exact⟨(y/2,s+y % 2),Wk.go (h1:=⟨⟨_,rfl,WkV.int (by rw[e2,w3]),rfl⟩,⟨_,rfl,WkV.int (by rw[e1,w1,w2]),rfl⟩,trivial⟩),⟨by simp only;omega,by simp only;rw[←h2,hh];omega⟩,by simp only;omega⟩
 ·conv=>whnf
  have h4':y=0:=by have:=of_decide_eq_false h4;omega
  subst h4';rw[cnt_zero]at h2;exact .q ⟨by rw[←h2];rfl,rfl⟩
structure Rl where
 c:List Int
 f:Nat
abbrev Rl.D (r:Rl):List D:=[intsD r.c,.lit (.int .u64 (r.f:Nat))]
abbrev rlsD (l:List Rl):D:= .sl 2 (l.map Rl.D)
structure RlOk (M:Nat)(r:Rl):Prop where
 len:r.c.length=M
 c:∀z∈r.c,-1073741824≤z∧z≤1073741824
 f:r.f<18446744073709551616
theorem int_at {xs:List Int}{i:Nat}{z:Int}(h:xs[i]? =some z):(xs.map fun x=>[D.lit (.int .i64 x)])[i]? =some [D.lit (.int .i64 z)]:=by rw[List.getElem?_map,h];rfl
abbrev intR (c:List Int):List (List D):=c.map fun z=>[D.lit (.int .i64 z)]
abbrev itH (c:List Int):List (Nat×Ent):=[(0,.tab 3 1 (intR c))]
structure RedOk (c c':List Int):Prop where
 ex:∃d:Nat,0<d∧c=c'.map fun z=>(d:Int)*z
 b:∀z∈c',-1073741824≤z∧z≤1073741824
def qz (d:Nat)(z:Int):Int:=if 1<d then z.tdiv d else z
def stR (d:Nat)(c:List Int)(j:Nat):List Int:=(c.take j).map (qz d)++c.drop j
theorem stR_len {d:Nat}{c:List Int}{j:Nat}(hj:j≤c.length):(stR d c j).length=c.length:=by
 simp[stR,Nat.min_eq_left hj];omega
theorem stR_at {d:Nat}{c:List Int}{j:Nat}(hj:j≤c.length):(stR d c j)[j]? =c[j]?:=by
 unfold stR;have hl:((c.take j).map (qz d)).length=j:=by simp[Nat.min_eq_left hj]
 rw[List.getElem?_append_right (by omega),hl,Nat.sub_self,List.getElem?_drop,Nat.add_zero]
theorem stR_set {d:Nat}{c:List Int}{j:Nat}{z:Int}(hz:c[j]? =some z):(stR d c j).set j (qz d z)=stR d c (j+1):=by
 have hj:=at_lt hz;unfold stR;have hl:((c.take j).map (qz d)).length=j:=by simp[Nat.min_eq_left (Nat.le_of_lt hj)]
 rw[List.set_append,if_neg (by omega),hl,Nat.sub_self,take_snoc hz,List.map_append,List.append_assoc]
 congr 1
 rw[List.drop_eq_getElem_cons hj];rfl
theorem stR_same {d:Nat}{c:List Int}{j:Nat}{z:Int}(hz:c[j]? =some z)(hd:¬1<d):stR d c j=stR d c (j+1):=by
 have hj:=at_lt hz;unfold stR;rw[take_snoc hz,List.map_append,List.append_assoc,List.drop_eq_getElem_cons hj];have:c[j]=z:=by
  have:=List.getElem?_eq_getElem hj;rw[hz]at this;injection this with this;exact this.symm
 simp[qz,if_neg hd,this]
theorem stR_at2 {d:Nat}{c:List Int}{j:Nat}{z:Int}(hz:c[j]? =some z):(stR d c (j+1))[j]? =some (qz d z):=by
 have hj:=at_lt hz;unfold stR;rw[List.getElem?_append_left (by simp;omega),List.getElem?_map,List.getElem?_take,if_pos (by omega),hz];rfl
theorem qz_b {d:Nat}{z:Int}{B:Int}(h1: -B≤z)(h2:z≤B): -B≤qz d z∧qz d z≤B:=by
 unfold qz;split
 ·rename_i hd;have h3:=Int.natAbs_tdiv z d;have h4:z.natAbs.div (d:Int).natAbs≤z.natAbs:=Nat.div_le_self _ _;rw[←h3]at h4;omega
 ·exact⟨h1,h2⟩
theorem pl_reduce {c:List Int}{m:Nat}(hm:c.length=m)(hb:∀z∈c,-4611686018427387904≤z∧z≤4611686018427387904)(hm2:m≤1000):
  LX Tryz.prog 104 [.a (.tab 0 m)] (itH c) fun v H=>∃(ok:Bool) (c':List Int),((ok=true→RedOk c c')∧c'.length=m)∧v=vl (.bool ok)∧H=itH c':=by
 refine LX_run (m:=1) (n0:=1) mix Tryz.func104 rfl rfl rfl rfl ?_;conv=>whnf
 refine .mk (Nat×Nat) (fun(i,d)=>⟨[(4,vl (.int .i64 (i:Nat))),(3,vl (.int .i64 (d:Nat))),(2,vl (.bool false)),(0,.a (.tab 0 m))],itH c,1⟩) (fun b=>b.1≤m∧b.2≤4611686018427387904∧∀(j:Nat) z,j<b.1→c[j]? =some z→(b.2:Int)∣z) (fun b=>m-b.1) (0,0) Wk.go ⟨zL_ _,by omega,fun j z h=>by omega⟩ fun⟨i,d⟩ hi=> ?_;obtain⟨hi,hd,hdv⟩:=hi;simp only at hi hd hdv;conv=>whnf
 refine bs (fun h1=> ?_) (fun h1=> ?_)
 ·conv=>whnf
  have h1':i<m:=by simpa using h1
  obtain⟨z,hz⟩:=at_some (l:=c) (i:=i) (by omega);have hzb:=hb z (mG_ hz);have hwn:IntKind.i64.wrap (0-z)= -z:=by rw[wr64 (by omega) (by omega)];omega
  refine .mk i rfl (by omega) ?_;conv=>whnf
  refine .mk i 0 [D.lit (.int .i64 z)] rfl (int_at hz) ?_;conv=>whnf
  refine .mk i rfl (by omega) ?_;conv=>whnf
  refine .mk i 0 [D.lit (.int .i64 z)] rfl (int_at hz) ?_;conv=>whnf
  rw[hwn];refine .mk ((z.natAbs:Nat):Int) (by split<;>omega) ?_;conv=>whnf
  refine .c (pl_gcd (a:=z.natAbs) (b:=d) (by omega) (by omega)) ?_;conv=>whnf
  refine .mk (by kernel_rfl) ?_;conv=>whnf
  refine⟨(i+1,Nat.gcd z.natAbs d),Wk.go,⟨h1',?_,fun j y hj hy=> ?_⟩,by simp only;omega⟩
  ·simp only;rcases eP_ z.natAbs with h0|h0
   ·rw[h0,Nat.gcd_zero_left];exact hd
   ·have:=Nat.le_of_dvd h0 (Nat.gcd_dvd_left z.natAbs d);omega
  ·simp only at hj ⊢;rcases Nat.lt_succ_iff_lt_or_eq.1 hj with h3|h3
   ·exact Int.dvd_trans (Int.natCast_dvd_natCast.2 (Nat.gcd_dvd_right _ _)) (hdv j y h3 hy)
   ·subst h3;rw[hz]at hy;injection hy with hy;subst hy;exact Int.ofNat_dvd_left.2 (Nat.gcd_dvd_left _ _)
 ·conv=>whnf
  have ei:i=m:=by have:=of_decide_eq_false h1;omega
  subst ei;refine .mk Nat (fun j=>⟨[(5,vl (.int .i64 (j:Nat))),(3,vl (.int .i64 (d:Nat))),(2,vl (.bool false)),(0,.a (.tab 0 i))],itH (stR d c j),1⟩) (fun j=>j≤i∧∀(k:Nat) z,k<j→c[k]? =some z→ -1073741824≤qz d z∧qz d z≤1073741824) (fun j=>i-j) 0 Wk.go ⟨zL_ _,fun k z h=>by omega⟩ fun j hj=> ?_;obtain⟨hj,hq⟩:=hj;have hsl:=stR_len (d:=d) (c:=c) (j:=j) (by omega);conv=>whnf
  refine bs (fun h2=> ?_) (fun h2=> ?_)
  ·conv=>whnf
   have h2':j<i:=by have:=of_decide_eq_true h2;omega
   obtain⟨z,hz⟩:=at_some (l:=c) (i:=j) (by omega);have hzb:=hb z (mG_ hz);have hqb:=qz_b (d:=d) hzb.1 hzb.2;have hza:(stR d c j)[j]? =some z:=by rw[stR_at (by omega),hz]
   have hsl2:=stR_len (d:=d) (c:=c) (j:=j+1) (by omega);have fin:∀(ok:Bool),(ok=true→False)→∃(ok':Bool) (c':List Int),((ok'=true→RedOk c c')∧c'.length=i)∧vl (.bool ok)=vl (.bool ok')∧itH (stR d c (j+1))=itH c':=fun ok h=>⟨ok,stR d c (j+1),⟨fun e=>(h e).elim,by omega⟩,rfl,rfl⟩
   have tail:qz d z≤1073741824→ -1073741824≤qz d z→(∀(k:Nat) y,k<j+1→c[k]? =some y→ -1073741824≤qz d y∧qz d y≤1073741824):=fun a b k y hk hy=>by
    rcases Nat.lt_succ_iff_lt_or_eq.1 hk with h3|h3
    ·exact hq k y h3 hy
    ·subst h3;rw[hz]at hy;injection hy with hy;subst hy;exact⟨b,a⟩
   refine bs (fun h3=> ?_) (fun h3=> ?_)
   ·have h3':1<d:=by have:=of_decide_eq_true h3;omega
    have hqe:qz d z=z.tdiv d:=by rw[qz,if_pos h3']
    conv=>whnf
    refine .mk j rfl (by omega) ?_;conv=>whnf
    refine .mk j 0 [D.lit (.int .i64 z)] rfl (int_at hza) ?_;conv=>whnf
    refine .mk (qz d z) ⟨by omega,rfl⟩ (by rw[←hqe,wr64 (by omega) (by omega)]) ?_;conv=>whnf
    refine .mk j rfl (by omega) ?_;conv=>whnf
    refine .mk j 0 [D.lit (.int .i64 z)] (intR (stR d c (j+1))) rfl (int_at hza) (lR_ 1) (by rw[←stR_set hz,intR,List.map_set];rfl) ?_;conv=>whnf
    refine .mk j rfl (by omega) ?_;conv=>whnf
    refine .mk j 0 [D.lit (.int .i64 (qz d z))] rfl (int_at (stR_at2 hz)) ?_;conv=>whnf
    refine bs (fun h4=> ?_) (fun h4=> ?_)
    ·conv=>whnf
     refine⟨_,_,fin false (fun e=>by cases e),vR_ _,rfl,⟨⟨_,rfl,wke_refl _,rfl⟩,trivial⟩,rfl⟩
    ·conv=>whnf
     refine .mk j rfl (by omega) ?_;conv=>whnf
     refine .mk j 0 [D.lit (.int .i64 (qz d z))] rfl (int_at (stR_at2 hz)) ?_;conv=>whnf
     refine bs (fun h5=> ?_) (fun h5=> ?_)
     ·conv=>whnf
      refine⟨_,_,fin false (fun e=>by cases e),vR_ _,rfl,⟨⟨_,rfl,wke_refl _,rfl⟩,trivial⟩,rfl⟩
     ·conv=>whnf
      have a4:=of_decide_eq_false h4;have a5:=of_decide_eq_false h5;exact⟨j+1,Wk.go,⟨h2',tail (by omega) (by omega)⟩,by omega⟩
   ·have h3':¬1<d:=by have:=of_decide_eq_false h3;omega
    have hqe:qz d z=z:=by rw[qz,if_neg h3']
    conv=>whnf
    refine .mk j rfl (by omega) ?_;conv=>whnf
    rw[stR_same hz h3'];refine .mk j 0 [D.lit (.int .i64 (qz d z))] rfl (int_at (stR_at2 hz)) ?_;conv=>whnf
    refine bs (fun h4=> ?_) (fun h4=> ?_)
    ·conv=>whnf
     refine⟨_,_,fin false (fun e=>by cases e),vR_ _,rfl,⟨⟨_,rfl,wke_refl _,rfl⟩,trivial⟩,rfl⟩
    ·conv=>whnf
     refine .mk j rfl (by omega) ?_;conv=>whnf
     refine .mk j 0 [D.lit (.int .i64 (qz d z))] rfl (int_at (stR_at2 hz)) ?_;conv=>whnf
     refine bs (fun h5=> ?_) (fun h5=> ?_)
     ·conv=>whnf
      refine⟨_,_,fin false (fun e=>by cases e),vR_ _,rfl,⟨⟨_,rfl,wke_refl _,rfl⟩,trivial⟩,rfl⟩
     ·conv=>whnf
      have a4:=of_decide_eq_false h4;have a5:=of_decide_eq_false h5;exact⟨j+1,Wk.go,⟨h2',tail (by omega) (by omega)⟩,by omega⟩
  ·conv=>whnf
   have ej:j=i:=by have:=of_decide_eq_false h2;omega
   subst ej;refine⟨_,_,⟨true,stR d c j,⟨fun _=>⟨⟨max d 1,by omega,?_⟩,fun y hy=> ?_⟩,by omega⟩,rfl,rfl⟩,vR_ _,rfl,⟨⟨_,rfl,wke_refl _,rfl⟩,trivial⟩,rfl⟩
   ·unfold stR;rw[List.drop_of_length_le (by omega),List.append_nil,List.take_of_length_le (by omega),List.map_map];conv=>lhs;rw[←List.map_id c]
    refine List.map_congr_left fun z hz=> ?_;obtain⟨k,hk⟩:=List.mem_iff_getElem?.1 hz;have hkl:=at_lt hk;have hdz:=hdv k z (by omega) hk;simp only[Function.comp,id,qz];split
    ·rename_i hd1;rw[show((max d 1:Nat):Int)=d by omega,Int.mul_tdiv_cancel' hdz]
    ·rename_i hd1;rcases eP_ d with h0|h0
     ·subst h0;obtain⟨y,hy⟩:=hdz;rw[hy];simp
     ·rw[show((max d 1:Nat):Int)=1 by omega,Int.one_mul]
   ·unfold stR at hy;rw[List.drop_of_length_le (by omega),List.append_nil,List.take_of_length_le (by omega)]at hy;obtain⟨z,hz,rfl⟩:=List.mem_map.1 hy;obtain⟨k,hk⟩:=List.mem_iff_getElem?.1 hz;exact hq k z (by have:=at_lt hk;omega) hk
theorem pz_coef {f:Af}{n v:Int}{k:Nat}(h:FB k n f)(h0:0≤n)(hn:n≤100000):LV Tryz.prog 101 [.agg f.A,vl (.int .i64 v)] (ratV (cof f.ts v)):=by
 have hlen:=h.ts.len h0;refine LX_run (m:=0) (n0:=0) mix Tryz.func101 rfl rfl rfl rfl ?_;conv=>whnf
 refine .mk Nat (fun i=>⟨[(5,vl (.int .i64 (i:Nat))),(4,.a (.ptr 1 0)),(2,.a (.ptr 0 0)),(1,vl (.int .i64 v))],[(0,.box 36 f.A),(1,.box 34 [.d (.lit (.bool false)),.d (.nat 0),.d (.nat 0)])],2⟩) (fun i=>i≤f.ts.length∧∀(j:Nat) t,j<i→f.ts[j]? =some t→t.v≠v) (fun i=>f.ts.length-i) 0 Wk.go ⟨zL_ _,fun j t h=>by omega⟩ fun i hb=> ?_;obtain⟨hi,hall⟩:=hb;conv=>whnf
 refine bs (fun h1=> ?_) (fun h1=> ?_)
 ·conv=>whnf
  have h1':i<f.ts.length:=by simpa using h1
  obtain⟨t,ht⟩:=at_some h1';refine .mk (i) (t.D) (rfl) (at_map ht) ?_;conv=>whnf
  conv=>whnf
  refine bs (fun h2=> ?_) (fun h2=> ?_)
  ·conv=>whnf
   have e2:t.v=v:=by simpa using h2
   refine .mk (i) (t.D) (rfl) (at_map ht) ?_;conv=>whnf
   conv=>whnf
   exact .q ⟨by rw[←e2,(h.ts.cof_mem t (mG_ ht)).1],rfl⟩
  ·conv=>whnf
   have e2:¬t.v=v:=by simpa using h2
   refine⟨i+1,Wk.go,⟨h1',fun j x hj hx=> ?_⟩,by omega⟩;rcases Nat.lt_succ_iff_lt_or_eq.1 hj with h3|h3
   ·exact hall j x h3 hx
   ·subst h3;rw[ht]at hx;injection hx with hx;rw[←hx];exact e2
 ·conv=>whnf
  have e:i=f.ts.length:=by simp at h1;omega
  have e0:cof f.ts v=0:=cof_none fun t ht=>by
   obtain⟨j,hj⟩:=List.mem_iff_getElem?.1 ht;exact hall j t (by rw[e];exact at_lt hj) hj
  exact .q ⟨by rw[e0];exact rat0V,rfl⟩
def dX (f:Af)(V j:Nat):Rat:=if j<V then cof f.ts j else f.c
structure DenOk (f:Af)(V:Nat)(c:List Int):Prop where
 len:c.length=V+1
 ex:∃K:Rat,0<K∧∀(j:Nat) z,c[j]? =some z→(z:Rat)=K*dX f V j
 b:∀z∈c,-1073741824≤z∧z≤1073741824
structure NdAt (f:Af)(V:Nat)(ns ds:List Int)(i:Nat):Prop where
 ln:ns.length=V+1
 ld:ds.length=V+1
 nd:∀(j:Nat) a b,j<i→ns[j]? =some a→ds[j]? =some b→ -1073741824≤a∧a≤1073741824∧1≤b∧b≤1073741824∧(dX f V j).num=a∧((dX f V j).den:Int)=b
theorem NdAt.next {f:Af}{V i:Nat}{ns ds:List Int}(h:NdAt f V ns ds i){a b:Int}(hi:i<V+1)(ha: -1073741824≤a∧a≤1073741824)(hb:1≤b∧b≤1073741824)(e1:(dX f V i).num=a)(e2:((dX f V i).den:Int)=b):NdAt f V (ns.set i a) (ds.set i b) (i+1):=by
 have l1:=h.ln;have l2:=h.ld;refine⟨by simp[l1],by simp[l2],fun j x y hj hx hy=> ?_⟩;rw[List.getElem?_set]at hx hy
 by_cases e:i=j
 ·subst e;rw[if_pos rfl,if_pos (by omega)]at hx hy;injection hx with hx;injection hy with hy;subst hx hy;exact⟨ha.1,ha.2,hb.1,hb.2,e1,e2⟩
 ·rw[if_neg e]at hx hy;exact h.nd j x y (by omega) hx hy
theorem rat_den (q:Rat):q*((q.den:Int):Rat)=(q.num:Rat):=by
 have:=Rat.mkRat_eq_div q.num q.den;rw[Rat.mkRat_self]at this;have h:((q.den:Nat):Rat)≠0:=by have:=q.den_pos;exact_mod_cast Nat.ne_of_gt this
 rw[show((q.den:Int):Rat)=((q.den:Nat):Rat)from rfl];refine(congrArg (· *((q.den:Nat):Rat)) this).trans ?_;show(q.num:Rat)/(q.den:Rat)*(q.den:Rat)=_;rw[Rat.div_def,Rat.mul_assoc,Rat.inv_mul_cancel _ h,Rat.mul_one]
theorem mul_bnd {a y:Int}(a1: -1073741824≤a)(a2:a≤1073741824)(y1:0≤y)(y2:y≤1073741824): -1152921504606846976≤a*y∧a*y≤1152921504606846976:=by
 have h1:a*y≤1073741824*y:=Int.mul_le_mul_of_nonneg_right a2 y1;have h2: -1073741824*y≤a*y:=Int.mul_le_mul_of_nonneg_right a1 y1;omega
theorem pl_dense {f:Af}{n:Int}{V k:Nat}(hf:FB k n f)(h0:0≤n)(hn:n≤100000)(hV:V≤900)(hk:k≤1000000000):
  LX Tryz.prog 67 [.agg f.A,vl (.int .i64 (V:Nat))] [] fun v H=>(∃c,DenOk f V c∧v= .tup [.s (.tab 2 (V+1)),.s (.d (.lit (.bool true)))]∧H=[(2,.tab 3 1 (intR c))])∨(∃c:List Int,v= .tup [.s (.tab 2 (V+1)),.s (.d (.lit (.bool false)))]∧H=[(2,.tab 3 1 (intR c))])∨v= .tup [.s (.d (.lit (.slice none 0 0))),.s (.d (.lit (.bool false)))]∧H=[]:=by
 have hw1:IntKind.i64.wrap ((V:Int)+1)=((V+1:Nat):Int):=by rw[wr64 (by omega) (by omega)];omega
 have fz:Sz f.c:=hf.c.mono (by omega);refine LX_run (m:=0) (n0:=1) mix Tryz.func67 rfl rfl rfl rfl ?_;conv=>whnf
 refine .mk (V+1) hw1 hw1 (by omega) ?_;conv=>whnf
 refine .mk (V+1) hw1 hw1 (by omega) ?_;conv=>whnf
 refine .mk (Nat×List Int×List Int) (fun(i,ns,ds)=>⟨[(8,vl (.int .i64 (i:Nat))),(7,.a (.tab 3 (V+1))),(6,.a (.tab 2 (V+1))),(2,.a (.ptr 1 0)),(1,vl (.int .i64 (V:Nat)))],
  [(1,.box 36 f.A),(2,.tab 3 1 (intR ns)),(3,.tab 3 1 (intR ds))],4⟩) (fun b=>b.1≤V+1∧NdAt f V b.2.1 b.2.2 b.1) (fun b=>V+1-b.1) (0,List.replicate (V+1) 0,List.replicate (V+1) 0)
  (by simp only[intR,List.map_replicate];exact Wk.go) ⟨zL_ _,by simp,by simp,fun j a b h=>by omega⟩ fun⟨i,ns,ds⟩ hi=> ?_
 obtain⟨hi,hN⟩:=hi;simp only at hi hN;have l1:=hN.ln;have l2:=hN.ld;conv=>whnf
 refine bs (fun h1=> ?_) (fun h1=> ?_)
 ·conv=>whnf
  have h1':i<V+1:=by have:=of_decide_eq_true h1;omega
  obtain⟨a0,ha0⟩:=at_some (l:=ns) (i:=i) (by omega);obtain⟨b0,hb0⟩:=at_some (l:=ds) (i:=i) (by omega);refine bs (fun h2=> ?_) (fun h2=> ?_)
  ·conv=>whnf
   have h2':i<V:=by have:=of_decide_eq_true h2;omega
   have ex:dX f V i=cof f.ts i:=by rw[dX,if_pos h2']
   have hx:Sz (cof f.ts i):=(hf.co i).mono (by omega);refine .c (pz_coef hf h0 hn) ?_;conv=>whnf
   obtain⟨z1,ok1,s1,r1,c1⟩:=pl_small (n:=(cof f.ts (i:Nat)).num.natAbs);obtain⟨z2,ok2,s2,r2,c2⟩:=pl_small (n:=dn (cof f.ts (i:Nat)))
   cases ok1
   ·cases ok2
    all_goals refine .c (c1) ?_
              conv=>whnf
    all_goals refine .c (c2) ?_
              conv=>whnf
    all_goals exact .q (.inr (.inr ⟨rfl,rfl⟩))
   ·cases ok2
    ·refine .c (c1) ?_;conv=>whnf
     refine .c (c2) ?_;conv=>whnf
     exact .q (.inr (.inr ⟨rfl,rfl⟩))
    ·obtain⟨e1,b1⟩:=s1 rfl;obtain⟨e2,b2⟩:=s2 rfl;have hdp:=(cof f.ts (i:Nat)).den_pos;have hb:(if(1:Int)>z2 then(1:Int)else z2)=((cof f.ts (i:Nat)).den:Int):=by
      rw[e2];unfold dn;split<;>split<;>omega
     have hden:1≤((cof f.ts (i:Nat)).den:Int)∧((cof f.ts (i:Nat)).den:Int)≤1073741824:=by
      unfold dn at b2;split at b2<;>omega
     have hn0:(cof f.ts (i:Nat))<0↔(cof f.ts (i:Nat)).num<0:=by rw[←Rat.not_le,←Rat.num_nonneg];omega
     refine .c (c1) ?_;conv=>whnf
     refine .c (c2) ?_;conv=>whnf
     refine bs (fun h3=> ?_) (fun h3=> ?_)
     ·have h3':=hn0.1 (of_decide_eq_true h3);have hwn:IntKind.i64.wrap (0-z1)=(cof f.ts (i:Nat)).num:=by rw[wr64 (by omega) (by omega)];omega
      conv=>whnf
      rw[hwn];refine .mk ((cof f.ts (i:Nat)).den:Int) hb.symm ?_;conv=>whnf
      refine .mk i rfl (by omega) ?_;conv=>whnf
      refine .mk i 0 [D.lit (.int .i64 a0)] (intR (ns.set i (cof f.ts (i:Nat)).num)) rfl (int_at ha0) (lR_ 1) (by rw[intR,List.map_set];rfl) ?_;conv=>whnf
      refine .mk i rfl (by omega) ?_;conv=>whnf
      refine .mk i 0 [D.lit (.int .i64 b0)] (intR (ds.set i ((cof f.ts (i:Nat)).den:Int))) rfl (int_at hb0) (lR_ 1) (by rw[intR,List.map_set];rfl) ?_;conv=>whnf
      exact⟨(i+1,ns.set i (cof f.ts (i:Nat)).num,ds.set i ((cof f.ts (i:Nat)).den:Int)),Wk.go,⟨h1',hN.next h1' (by omega) hden (by rw[ex]) (by rw[ex])⟩,by simp only;omega⟩
     ·have h3':¬(cof f.ts (i:Nat)).num<0:=fun h=>(of_decide_eq_false h3) (hn0.2 h);have hz1:z1=(cof f.ts (i:Nat)).num:=by omega
      conv=>whnf
      rw[hz1];refine .mk ((cof f.ts (i:Nat)).den:Int) hb.symm ?_;conv=>whnf
      refine .mk i rfl (by omega) ?_;conv=>whnf
      refine .mk i 0 [D.lit (.int .i64 a0)] (intR (ns.set i (cof f.ts (i:Nat)).num)) rfl (int_at ha0) (lR_ 1) (by rw[intR,List.map_set];rfl) ?_;conv=>whnf
      refine .mk i rfl (by omega) ?_;conv=>whnf
      refine .mk i 0 [D.lit (.int .i64 b0)] (intR (ds.set i ((cof f.ts (i:Nat)).den:Int))) rfl (int_at hb0) (lR_ 1) (by rw[intR,List.map_set];rfl) ?_;conv=>whnf
      exact⟨(i+1,ns.set i (cof f.ts (i:Nat)).num,ds.set i ((cof f.ts (i:Nat)).den:Int)),Wk.go,⟨h1',hN.next h1' (by omega) hden (by rw[ex]) (by rw[ex])⟩,by simp only;omega⟩
  ·conv=>whnf
   have h2':i=V:=by have:=of_decide_eq_false h2;omega
   have ex:dX f V i=f.c:=by rw[dX,if_neg (by omega)]
   obtain⟨z1,ok1,s1,r1,c1⟩:=pl_small (n:=f.c.num.natAbs);obtain⟨z2,ok2,s2,r2,c2⟩:=pl_small (n:=dn f.c)
   cases ok1
   ·cases ok2
    all_goals refine .c (c1) ?_
              conv=>whnf
    all_goals refine .c (c2) ?_
              conv=>whnf
    all_goals exact .q (.inr (.inr ⟨rfl,rfl⟩))
   ·cases ok2
    ·refine .c (c1) ?_;conv=>whnf
     refine .c (c2) ?_;conv=>whnf
     exact .q (.inr (.inr ⟨rfl,rfl⟩))
    ·obtain⟨e1,b1⟩:=s1 rfl;obtain⟨e2,b2⟩:=s2 rfl;have hdp:=f.c.den_pos;have hb:(if(1:Int)>z2 then(1:Int)else z2)=(f.c.den:Int):=by
      rw[e2];unfold dn;split<;>split<;>omega
     have hden:1≤(f.c.den:Int)∧(f.c.den:Int)≤1073741824:=by
      unfold dn at b2;split at b2<;>omega
     have hn0:f.c<0↔f.c.num<0:=by rw[←Rat.not_le,←Rat.num_nonneg];omega
     refine .c (c1) ?_;conv=>whnf
     refine .c (c2) ?_;conv=>whnf
     refine bs (fun h3=> ?_) (fun h3=> ?_)
     ·have h3':=hn0.1 (of_decide_eq_true h3);have hwn:IntKind.i64.wrap (0-z1)=f.c.num:=by rw[wr64 (by omega) (by omega)];omega
      conv=>whnf
      rw[hwn];refine .mk (f.c.den:Int) hb.symm ?_;conv=>whnf
      refine .mk i rfl (by omega) ?_;conv=>whnf
      refine .mk i 0 [D.lit (.int .i64 a0)] (intR (ns.set i f.c.num)) rfl (int_at ha0) (lR_ 1) (by rw[intR,List.map_set];rfl) ?_;conv=>whnf
      refine .mk i rfl (by omega) ?_;conv=>whnf
      refine .mk i 0 [D.lit (.int .i64 b0)] (intR (ds.set i (f.c.den:Int))) rfl (int_at hb0) (lR_ 1) (by rw[intR,List.map_set];rfl) ?_;conv=>whnf
      exact⟨(i+1,ns.set i f.c.num,ds.set i (f.c.den:Int)),Wk.go,⟨h1',hN.next h1' (by omega) hden (by rw[ex]) (by rw[ex])⟩,by simp only;omega⟩
     ·have h3':¬f.c.num<0:=fun h=>(of_decide_eq_false h3) (hn0.2 h);have hz1:z1=f.c.num:=by omega
      conv=>whnf
      rw[hz1];refine .mk (f.c.den:Int) hb.symm ?_;conv=>whnf
      refine .mk i rfl (by omega) ?_;conv=>whnf
      refine .mk i 0 [D.lit (.int .i64 a0)] (intR (ns.set i f.c.num)) rfl (int_at ha0) (lR_ 1) (by rw[intR,List.map_set];rfl) ?_;conv=>whnf
      refine .mk i rfl (by omega) ?_;conv=>whnf
      refine .mk i 0 [D.lit (.int .i64 b0)] (intR (ds.set i (f.c.den:Int))) rfl (int_at hb0) (lR_ 1) (by rw[intR,List.map_set];rfl) ?_;conv=>whnf
      exact⟨(i+1,ns.set i f.c.num,ds.set i (f.c.den:Int)),Wk.go,⟨h1',hN.next h1' (by omega) hden (by rw[ex]) (by rw[ex])⟩,by simp only;omega⟩
 ·conv=>whnf
  have hiV:i=V+1:=by have:=of_decide_eq_false h1;omega
  subst hiV
  refine .mk (Nat×Nat) (fun(q,all)=>⟨[(15,vl (.int .i64 (q:Nat))),(14,vl (.int .i64 (all:Nat))),(7,.a (.tab 3 (V+1))),(6,.a (.tab 2 (V+1))),(1,vl (.int .i64 (V:Nat)))],
   [(2,.tab 3 1 (intR ns)),(3,.tab 3 1 (intR ds))],4⟩) (fun b=>b.1≤V+1∧1≤b.2∧b.2≤1073741824∧∀(j:Nat) b',j<b.1→ds[j]? =some b'→b'∣(b.2:Int)) (fun b=>V+1-b.1) (0,1) Wk.go ⟨zL_ _,by omega,by omega,fun j b h=>by omega⟩ fun⟨q,all⟩ hq=> ?_
  obtain⟨hq,ha1,ha2,hdv⟩:=hq;simp only at hq ha1 ha2 hdv;conv=>whnf
  refine bs (fun h4=> ?_) (fun h4=> ?_)
  ·conv=>whnf
   have h4':q<V+1:=by have:=of_decide_eq_true h4;omega
   obtain⟨a,ha⟩:=at_some (l:=ns) (i:=q) (by omega);obtain⟨b,hb⟩:=at_some (l:=ds) (i:=q) (by omega);obtain⟨_,_,b1,b2,_,_⟩:=hN.nd q a b h4' ha hb;obtain⟨bn,rfl⟩:∃bn:Nat,b=bn:=⟨b.toNat,by omega⟩;have hg0:0<Nat.gcd all bn:=Nat.gcd_pos_of_pos_left _ (by omega);have hgl:all/Nat.gcd all bn≤all:=Nat.div_le_self _ _;have hgm:all/Nat.gcd all bn*Nat.gcd all bn=all:=Nat.div_mul_cancel (Nat.gcd_dvd_left all bn);have hgd:Nat.gcd all bn∣bn:=Nat.gcd_dvd_right all bn;have hpm:all/Nat.gcd all bn*bn≤1073741824*1073741824:=Nat.mul_le_mul (by omega) (by omega);have hp1:1≤all/Nat.gcd all bn:=by
    rcases eP_ (all/Nat.gcd all bn)with h|h
    ·rw[h]at hgm;omega
    ·exact h
   have hpp:1≤all/Nat.gcd all bn*bn:=Nat.mul_pos hp1 (by omega);have cg:=pl_gcd (a:=all) (b:=bn) (by omega) (by omega)
   have hdd:(all:Int)∣((all/Nat.gcd all bn*bn:Nat):Int):=Int.natCast_dvd_natCast.2 (by
    obtain⟨y,hy⟩:=hgd;have e:all/Nat.gcd all bn*bn=all/Nat.gcd all bn*(Nat.gcd all bn*y):=congrArg _ hy;exact⟨y,by rw[e,←Nat.mul_assoc,hgm]⟩)
   generalize Nat.gcd all bn=g at *
   have ht:IntKind.i64.wrap (((all:Int)).tdiv (g:Int))=((all/g:Nat):Int):=by
    rw[Int.tdiv_eq_ediv_of_nonneg (by omega),←Int.natCast_ediv,wr64 (by omega) (by omega)]
   generalize all/g=y at *
   have hm:IntKind.i64.wrap (((y:Nat):Int)*(bn:Int))=((y*bn:Nat):Int):=by
    rw[←Int.natCast_mul,wr64 (by omega) (by omega)]
   refine .mk q rfl (by omega) ?_;conv=>whnf
   refine .mk q 0 [D.lit (.int .i64 (bn:Nat))] rfl (int_at hb) ?_;conv=>whnf
   refine .c (cg) ?_;conv=>whnf
   refine .mk ((y:Nat):Int) ⟨by omega,rfl⟩ ht ?_;conv=>whnf
   refine .mk q rfl (by omega) ?_;conv=>whnf
   refine .mk q 0 [D.lit (.int .i64 (bn:Nat))] rfl (int_at hb) ?_;conv=>whnf
   refine .mk (by kernel_rfl) ?_;conv=>whnf
   rw[hm];refine bs (fun h5=> ?_) (fun h5=> ?_)
   ·conv=>whnf
    exact .q (.inr (.inr ⟨rfl,rfl⟩))
   ·conv=>whnf
    have h5':=of_decide_eq_false h5;refine⟨(q+1,y*bn),Wk.go,⟨h4',hpp,by simp only;omega,fun j b' hj hb'=> ?_⟩,by simp only;omega⟩;simp only at hj ⊢;rcases Nat.lt_succ_iff_lt_or_eq.1 hj with h3|h3
    ·exact Int.dvd_trans (hdv j b' h3 hb') hdd
    ·subst h3;rw[hb]at hb';injection hb' with hb';subst hb';exact Int.natCast_dvd_natCast.2 (Nat.dvd_mul_left _ _)
  ·conv=>whnf
   have hqV:q=V+1:=by have:=of_decide_eq_false h4;omega
   subst hqV
   refine .mk (Nat×List Int) (fun(q,ms)=>⟨[(16,vl (.int .i64 (q:Nat))),(14,vl (.int .i64 (all:Nat))),(7,.a (.tab 3 (V+1))),(6,.a (.tab 2 (V+1))),(1,vl (.int .i64 (V:Nat)))],
    [(2,.tab 3 1 (intR ms)),(3,.tab 3 1 (intR ds))],4⟩) (fun b=>b.1≤V+1∧b.2.length=V+1∧(∀(j:Nat) a b',j<b.1→ns[j]? =some a→ds[j]? =some b'→b.2[j]? =some (a*((all:Int)/b')))∧∀j,b.1≤j→b.2[j]? =ns[j]?) (fun b=>V+1-b.1) (0,ns) Wk.go ⟨zL_ _,l1,fun j a b h=>by omega,fun j _=>rfl⟩ fun⟨q,ms⟩ hq=> ?_
   obtain⟨hq,lm,hlo,hhi⟩:=hq;simp only at hq lm hlo hhi;conv=>whnf
   refine bs (fun h6=> ?_) (fun h6=> ?_)
   ·conv=>whnf
    have h6':q<V+1:=by have:=of_decide_eq_true h6;omega
    obtain⟨a,ha⟩:=at_some (l:=ns) (i:=q) (by omega);obtain⟨b,hb⟩:=at_some (l:=ds) (i:=q) (by omega);obtain⟨a1,a2,b1,b2,_,_⟩:=hN.nd q a b h6' ha hb;have ham:ms[q]? =some a:=by rw[hhi q (lR_ _),ha]
    have hq1:0≤(all:Int)/b∧(all:Int)/b≤1073741824:=⟨Int.ediv_nonneg (by omega) (by omega),Int.le_trans (Int.ediv_le_self _ (by omega)) (by omega)⟩;have ht:IntKind.i64.wrap (((all:Int)).tdiv b)=(all:Int)/b:=by
     rw[Int.tdiv_eq_ediv_of_nonneg (by omega),wr64 (by omega) (by omega)]
    generalize hy:(all:Int)/b=y at *
    have hpr: -1152921504606846976≤a*y∧a*y≤1152921504606846976:=mul_bnd a1 a2 hq1.1 hq1.2;have hm:IntKind.i64.wrap (a*y)=a*y:=wr64 (by omega) (by omega);refine .mk q rfl (by omega) ?_;conv=>whnf
    refine .mk q 0 [D.lit (.int .i64 a)] rfl (int_at ham) ?_;conv=>whnf
    refine .mk q rfl (by omega) ?_;conv=>whnf
    refine .mk q 0 [D.lit (.int .i64 b)] rfl (int_at hb) ?_;conv=>whnf
    refine .mk y ⟨by omega,rfl⟩ ht ?_;conv=>whnf
    refine .mk q rfl (by omega) ?_;conv=>whnf
    rw[hm];refine .mk q 0 [D.lit (.int .i64 a)] (intR (ms.set q (a*y))) rfl (int_at ham) (lR_ 1) (by rw[intR,List.map_set];rfl) ?_;conv=>whnf
    refine .mk (by kernel_rfl) ?_;conv=>whnf
    refine⟨(q+1,ms.set q (a*y)),Wk.go,⟨h6',by simp[lm],fun j a' b' hj ha' hb'=> ?_,fun j hj=> ?_⟩,by simp only;omega⟩
    ·simp only at hj ⊢;rw[List.getElem?_set]
     by_cases e:q=j
     ·subst e;rw[if_pos rfl,if_pos (by omega)];rw[ha]at ha';rw[hb]at hb';injection ha' with ha';injection hb' with hb';subst ha' hb';rw[hy]
     ·rw[if_neg e];exact hlo j a' b' (by omega) ha' hb'
    ·simp only at hj ⊢;rw[List.getElem?_set,if_neg (by omega)];exact hhi j (by omega)
   ·conv=>whnf
    have hqV:q=V+1:=by have:=of_decide_eq_false h6;omega
    subst hqV
    have hval:∀(j:Nat) z,ms[j]? =some z→∃a b,ns[j]? =some a∧ds[j]? =some b∧z=a*((all:Int)/b):=fun j z hz=>by
     have hj:=at_lt hz;obtain⟨a,ha⟩:=at_some (l:=ns) (i:=j) (by omega);obtain⟨b,hb⟩:=at_some (l:=ds) (i:=j) (by omega);have:=hlo j a b (by omega) ha hb;rw[hz]at this;injection this with this;exact⟨a,b,ha,hb,this⟩
    obtain⟨_,_,⟨ok,c',⟨hr1,hr2⟩,rfl,rfl⟩,cr⟩:=pl_reduce (c:=ms) (m:=V+1) lm (fun z hz=>by
     obtain⟨j,hj⟩:=List.mem_iff_getElem?.1 hz;obtain⟨a,b,ha,hb,rfl⟩:=hval j z hj;obtain⟨a1,a2,b1,b2,_,_⟩:=hN.nd j a b (by have:=at_lt ha;omega) ha hb;have hq1:0≤(all:Int)/b∧(all:Int)/b≤1073741824:=⟨Int.ediv_nonneg (by omega) (by omega),Int.le_trans (Int.ediv_le_self _ (by omega)) (by omega)⟩;have:=mul_bnd a1 a2 hq1.1 hq1.2;omega) (by omega)
    have cr':LX Tryz.prog 104 [.a (.tab 0 (V+1))] (itH ms) fun v H=>v=vl (.bool ok)∧H=itH c':=⟨_,_,⟨rfl,rfl⟩,cr⟩
    cases ok
    ·refine Cn.o [2] (cr') ?_;conv=>whnf
     exact⟨_,_,.inr (.inl ⟨c',rfl,rfl⟩),vR_ _,rfl,⟨⟨_,rfl,wke_refl _,rfl⟩,trivial⟩,rfl⟩
    ·refine Cn.o [2] (cr') ?_;conv=>whnf
     have hro:=hr1 rfl;refine⟨_,_,.inl ⟨c',⟨hr2,?_,hro.b⟩,rfl,rfl⟩,vR_ _,rfl,⟨⟨_,rfl,wke_refl _,rfl⟩,trivial⟩,rfl⟩;obtain⟨d,hd0,hd⟩:=hro.ex;have hd0':(0:Rat)<(d:Rat):=by exact_mod_cast hd0
     have ha0:(0:Rat)<(all:Rat):=by exact_mod_cast ha1
     refine⟨(all:Rat)*(d:Rat)⁻¹,Rat.mul_pos ha0 (Rat.inv_pos.2 hd0'),fun j z hz=> ?_⟩;have hj:=at_lt hz;have hmz:ms[j]? =some ((d:Int)*z):=by rw[hd,List.getElem?_map,hz];rfl
     obtain⟨a,b,ha,hb,e⟩:=hval j _ hmz;obtain⟨_,_,b1,b2,e1,e2⟩:=hN.nd j a b (by omega) ha hb;have hbd:=hdv j b (by omega) hb;have e3:(d:Int)*z*b=a*(all:Int):=by rw[e,Int.mul_assoc,Int.ediv_mul_cancel hbd]
     have e4:(d:Rat)*(z:Rat)*(b:Rat)=(a:Rat)*(all:Rat):=by exact_mod_cast e3
     have e5:dX f V j*(b:Rat)=(a:Rat):=by
      rw[←e2,←e1];exact rat_den (dX f V j)
     have hb0:(0:Rat)<(b:Rat):=by exact_mod_cast (by omega:(0:Int)<b)
     have e6:=Rat.inv_mul_cancel (d:Rat) (by grind);generalize (d:Rat)⁻¹=di at *
     generalize dX f V j=X at *
     have e7:((z:Rat)-(all:Rat)*di*X)*(b:Rat)=0:=by
      have:(z:Rat)*(b:Rat)=di*((d:Rat)*(z:Rat)*(b:Rat)):=by grind
      grind
     rcases Rat.mul_eq_zero.1 e7 with h|h
     ·grind
     ·grind
theorem LX.ren0t {P:Program}{F:FuncId}{args:List Lf.V}{j k:Nat}{t:TypeId}{rows:List (List D)}{v:Lf.V}(hk:∀key∈keysV v,key=j)(hc:LX P F args [] fun v' H=>v'=v∧H=[(j,.tab t k rows)]):LX P F args [] fun v' H=>v'=renV (fun _=>0) v∧H=[(0,.tab t k rows)]:=by
 obtain⟨_,_,⟨rfl,rfl⟩,hc⟩:=hc;refine⟨_,_,⟨rfl,rfl⟩,fun γ M w rs hr ha=> ?_⟩;refine cM (hc γ M w rs hr ha) ?_;rintro e w' ⟨r,γ',M',h1,h2,h3,h4⟩
 have hl0:∀key e',look [(0,Ent.tab t k rows)] key=some e'→key=0∧e'= .tab t k rows:=fun key e' h=>by
  simp only[look]at h;split at h
  ·injection h with h;exact⟨by omega,h.symm⟩
  ·cases h
 have hlj:look [(j,Ent.tab t k rows)] j=some (.tab t k rows):=by simp[look]
 have hl00:look [(0,Ent.tab t k rows)] 0=some (.tab t k rows):=rfl
 have ho:∀key b i,Owns (fun _=>γ' j) (look [(0,Ent.tab t k rows)]) key b i→Owns γ' (look [(j,Ent.tab t k rows)]) j b i:=fun key b i h=>by
  unfold Owns at h
  cases h5:look [(0,Ent.tab t k rows)] key with
  |none=>rw[h5]at h;exact h.elim
  |some e'=>
   obtain⟨rfl,rfl⟩:=hl0 key e' h5;rw[h5]at h;simp only[Owns,hlj];exact h
 refine⟨r,fun _=>γ' j,M',h1,⟨fun key e' h=> ?_,fun key b i h=>h2.own j b i (ho key b i h),fun k1 k2 b l1 l2 _ _=> ?_,h2.u32,h2.dom,h2.glb⟩,?_,⟨h4.os,h4.tape,h4.output,h4.size,h4.fx,h4.other,h4.keep,fun key b i h hb=>h4.new j b i (ho key b i h) hb,fun key e h=>by simp[look]at h⟩⟩
 ·obtain⟨rfl,rfl⟩:=hl0 key e' h;exact h2.ent j _ hlj
 ·cases h5:look [(0,Ent.tab t k rows)] k1 with
  |none=>rw[h5]at l1;cases l1
  |some e1=>
   cases h6:look [(0,Ent.tab t k rows)] k2 with
   |none=>rw[h6]at l2;cases l2
   |some e2=>rw[(hl0 _ _ h5).1,(hl0 _ _ h6).1]
 ·refine h3.ren fun key hkk=> ?_;obtain rfl:=hk key hkk;refine⟨rfl,?_,?_,?_,?_,?_⟩
  ·intro _;rfl
  ·intro h;rw[hlj]at h;cases h
  ·intro _;rfl
  ·intro e k n he;rw[hl00]at he;cases he
  ·intro e k n he;rw[hl00]at he;injection he with he;injection he with a b c;subst a b c;exact⟨_,hlj,rfl⟩
def pv (v:Nat)(r:Rl):Int:=(r.c[v]?).getD 0
def upN (v:Nat)(L:List Rl):Nat:=(L.filter fun r=>decide (0<pv v r)).length
def dnN (v:Nat)(L:List Rl):Nat:=(L.filter fun r=>decide (pv v r<0)).length
theorem pv_at {v:Nat}{r:Rl}{z:Int}(h:r.c[v]? =some z):pv v r=z:=by unfold pv;rw[h];rfl
theorem upN_succ {v:Nat}{L:List Rl}{i:Nat}{r:Rl}(h:L[i]? =some r):upN v (L.take (i+1))=upN v (L.take i)+if 0<pv v r then 1 else 0:=by
 unfold upN;rw[take_snoc h,List.filter_append,List.length_append]
 by_cases e:0<pv v r<;>simp[e]
theorem dnN_succ {v:Nat}{L:List Rl}{i:Nat}{r:Rl}(h:L[i]? =some r):dnN v (L.take (i+1))=dnN v (L.take i)+if pv v r<0 then 1 else 0:=by
 unfold dnN;rw[take_snoc h,List.filter_append,List.length_append]
 by_cases e:pv v r<0<;>simp[e]
theorem upN_le (v:Nat)(L:List Rl):upN v L≤L.length:=List.length_filter_le _ _
theorem dnN_le (v:Nat)(L:List Rl):dnN v L≤L.length:=List.length_filter_le _ _
theorem pl_pairs2 {L:List Rl}{M v:Nat}(hL:∀r∈L,RlOk M r)(hv:v<M)(hl:L.length≤1000000):LV Tryz.prog 68 [.a (.d (rlsD L)),vl (.int .i64 (v:Nat))] (vl (.int .i64 (upN v L*dnN v L:Nat))):=by
 have hu:=upN_le v L;have hd:=dnN_le v L;have hprod:upN v L*dnN v L≤1000000*1000000:=Nat.mul_le_mul (by omega) (by omega);have hm:IntKind.i64.wrap ((upN v L:Int)*(dnN v L:Int))=((upN v L*dnN v L:Nat):Int):=by rw[←Int.natCast_mul,wr64 (by omega) (by omega)]
 refine LX_run (m:=0) (n0:=0) mix Tryz.func68 rfl rfl rfl rfl ?_;conv=>whnf
 refine .mk Nat (fun i=>⟨[(7,vl (.int .i64 (i:Nat))),(6,vl (.int .i64 (dnN v (L.take i):Nat))),(5,vl (.int .i64 (upN v (L.take i):Nat))),(1,vl (.int .i64 (v:Nat))),(0,.a (.d (rlsD L)))],[],0⟩) (fun i=>i≤L.length) (fun i=>L.length-i) 0 Wk.go (zL_ _) fun i hi=> ?_;have hui:=upN_le v (L.take i);have hdi:=dnN_le v (L.take i);rw[List.length_take]at hui hdi;conv=>whnf
 refine bs (fun h1=> ?_) (fun h1=> ?_)
 ·conv=>whnf
  have h1':i<L.length:=by simpa using h1
  obtain⟨r,hr⟩:=at_some h1';have ok:=hL r (mG_ hr);obtain⟨z,hz⟩:=at_some (l:=r.c) (i:=v) (by rw[ok.len];exact hv);have us:=upN_succ (v:=v) hr;have ds:=dnN_succ (v:=v) hr;rw[pv_at hz]at us ds;have w1:IntKind.i64.wrap ((upN v (L.take i):Int)+1)=((upN v (L.take i)+1:Nat):Int):=by rw[wr64 (by omega) (by omega)];omega
  have w2:IntKind.i64.wrap ((dnN v (L.take i):Int)+1)=((dnN v (L.take i)+1:Nat):Int):=by rw[wr64 (by omega) (by omega)];omega
  refine .mk (i) (r.D) (rfl) (at_map hr) ?_;conv=>whnf
  conv=>whnf
  refine .mk (v) ([D.lit (.int .i64 z)]) (rfl) (int_at hz) ?_;conv=>whnf
  conv=>whnf
  refine bs (fun h2=> ?_) (fun h2=> ?_)
  all_goals conv=>whnf
  all_goals refine .mk (i) (r.D) (rfl) (at_map hr) ?_
            conv=>whnf
  all_goals conv=>whnf
  all_goals refine .mk (v) ([D.lit (.int .i64 z)]) (rfl) (int_at hz) ?_
            conv=>whnf
  all_goals conv=>whnf
  all_goals refine bs (fun h3=> ?_) (fun h3=> ?_)
  all_goals conv=>whnf
  ·have a:=of_decide_eq_true h2;have b:=of_decide_eq_true h3;omega
  ·have a:=of_decide_eq_true h2;have b:=of_decide_eq_false h3;rw[if_pos a]at us;rw[if_neg b]at ds;rw[w1];exact⟨i+1,by rw[us,ds];exact Wk.go,h1',by omega⟩
  ·have a:=of_decide_eq_false h2;have b:=of_decide_eq_true h3;rw[if_neg a]at us;rw[if_pos b]at ds;rw[w2];exact⟨i+1,by rw[us,ds];exact Wk.go,h1',by omega⟩
  ·have a:=of_decide_eq_false h2;have b:=of_decide_eq_false h3;rw[if_neg a]at us;rw[if_neg b]at ds;exact⟨i+1,by rw[us,ds];exact Wk.go,h1',by omega⟩
 ·conv=>whnf
  have ei:i=L.length:=by simp at h1;omega
  subst ei;rw[List.take_length,hm];exact .q ⟨rfl,rfl⟩
structure Cmb (v:Nat)(r1 r2 r:Rl):Prop where
 f:r.f=r1.f ||| r2.f
 ex:∃d:Nat,0<d∧∀(n:Nat) a b z,r1.c[n]? =some a→r2.c[n]? =some b→r.c[n]? =some z→(d:Int)*z=a* -(pv v r2)+b*pv v r1
structure ElJ (L:List Rl)(M v k i0 j0:Nat)(o:List Rl):Prop where
 rows:∀r∈o,RlOk M r
 z:∀r∈L,pv v r=0→r∈o
 p:∀(i j:Nat) r1 r2,(i<i0∨i=i0∧j<j0)→L[i]? =some r1→L[j]? =some r2→0<pv v r1→pv v r2<0→cnt (fun b=>(r1.f ||| r2.f).testBit b) 64≤k+1→∃r∈o,Cmb v r1 r2 r
 len:o.length≤L.length+upN v (L.take i0)*dnN v L+if(∃r,L[i0]? =some r∧0<pv v r)then dnN v (L.take j0)else 0
structure ElOk (L:List Rl)(M v k:Nat)(o:List Rl):Prop where
 rows:∀r∈o,RlOk M r
 z:∀r∈L,pv v r=0→r∈o
 p:∀r1∈L,∀r2∈L,0<pv v r1→pv v r2<0→cnt (fun b=>(r1.f ||| r2.f).testBit b) 64≤k+1→∃r∈o,Cmb v r1 r2 r
 len:o.length≤L.length+upN v L*dnN v L
open Classical in
theorem ElJ.row {L:List Rl}{M v k i0:Nat}{o:List Rl}(h:ElJ L M v k i0 L.length o){r:Rl}(hr:L[i0]? =some r):ElJ L M v k (i0+1) 0 o:=by
 refine⟨h.rows,h.z,fun i j r1 r2 hij h1 h2=>h.p i j r1 r2 ?_ h1 h2,?_⟩
 ·have:=at_lt h2;rcases hij with hij|hij<;>omega
 ·have hl:=h.len;rw[upN_succ hr,List.take_length]at *
  have e0:dnN v (L.take 0)=0:=by simp[dnN]
  rw[e0]
  by_cases hp:0<pv v r
  ·rw[if_pos ⟨r,hr,hp⟩]at hl;rw[if_pos hp,Nat.add_mul,Nat.one_mul];split<;>omega
  ·rw[if_neg (fun⟨x,hx,hp'⟩=>by rw[hr]at hx;injection hx with hx;subst hx;exact hp hp')]at hl;rw[if_neg hp,Nat.add_zero];split<;>omega
theorem ElJ.skip {L:List Rl}{M v k i0 j0:Nat}{o:List Rl}(h:ElJ L M v k i0 j0 o){ri rj:Rl}(hi:L[i0]? =some ri)(hj:L[j0]? =some rj)(hs:pv v ri≤0∨0≤pv v rj∨k+1<cnt (fun b=>(ri.f ||| rj.f).testBit b) 64):ElJ L M v k i0 (j0+1) o:=by
 refine⟨h.rows,h.z,fun i j r1 r2 hij h1 h2 p1 p2 hc=> ?_,?_⟩
 ·rcases Decidable.em (i=i0∧j=j0)with⟨rfl,rfl⟩|hne
  ·rw[hi]at h1;rw[hj]at h2;injection h1 with h1;injection h2 with h2;subst h1 h2;omega
  ·exact h.p i j r1 r2 (by omega) h1 h2 p1 p2 hc
 ·have hl:=h.len;have:=dnN_succ (v:=v) hj;refine tL_ hl (Nat.add_le_add_left ?_ _);split<;>omega
theorem ElJ.add {L:List Rl}{M v k i0 j0:Nat}{o:List Rl}(h:ElJ L M v k i0 j0 o){ri rj r:Rl}(hi:L[i0]? =some ri)(hj:L[j0]? =some rj)(hp:0<pv v ri)(hn:pv v rj<0)(hr:RlOk M r)(hc:Cmb v ri rj r):ElJ L M v k i0 (j0+1) (o++[r]):=by
 refine⟨fun x hx=> ?_,fun x hx h0=>List.mem_append_left _ (h.z x hx h0),fun i j r1 r2 hij h1 h2 p1 p2 hcn=> ?_,?_⟩
 ·rcases List.mem_append.1 hx with hx|hx
  ·exact h.rows x hx
  ·rw[List.mem_singleton.1 hx];exact hr
 ·rcases Decidable.em (i=i0∧j=j0)with⟨rfl,rfl⟩|hne
  ·rw[hi]at h1;rw[hj]at h2;injection h1 with h1;injection h2 with h2;subst h1 h2;exact⟨r,by simp,hc⟩
  ·obtain⟨x,hx,hx2⟩:=h.p i j r1 r2 (by omega) h1 h2 p1 p2 hcn;exact⟨x,List.mem_append_left _ hx,hx2⟩
 ·have hl:=h.len;have:=dnN_succ (v:=v) hj;rw[if_pos hn]at this;rw[if_pos ⟨ri,hi,hp⟩]at hl ⊢;rw[List.length_append,List.length_singleton,this];omega
theorem ElJ.done {L:List Rl}{M v k:Nat}{o:List Rl}(h:ElJ L M v k L.length 0 o):ElOk L M v k o:=by
 refine⟨h.rows,h.z,fun r1 h1 r2 h2=> ?_,?_⟩
 ·obtain⟨i,hi⟩:=List.mem_iff_getElem?.1 h1;obtain⟨j,hj⟩:=List.mem_iff_getElem?.1 h2;exact h.p i j r1 r2 (.inl (at_lt hi)) hi hj
 ·have hl:=h.len;rw[List.take_length,if_neg (fun⟨x,hx,_⟩=>by have:=at_lt hx;omega)]at hl;exact hl
theorem or64 {a b:Nat}(ha:a<18446744073709551616)(hb:b<18446744073709551616):IntKind.u64.wrap ((BitVec.ofInt IntKind.u64.bits (a:Int) ||| BitVec.ofInt IntKind.u64.bits (b:Int)).toNat:Int)=((a ||| b:Nat):Int)∧(a ||| b)<18446744073709551616:=by
 have hlt:(a ||| b)<2^64:=Nat.or_lt_two_pow (by omega) (by omega);have e:(BitVec.ofInt IntKind.u64.bits (a:Int) ||| BitVec.ofInt IntKind.u64.bits (b:Int)).toNat=a ||| b:=by
  rw[BitVec.toNat_or];show(BitVec.ofInt 64 (a:Int)).toNat ||| (BitVec.ofInt 64 (b:Int)).toNat=_;rw[BitVec.ofInt_natCast,BitVec.ofInt_natCast,BitVec.toNat_ofNat,BitVec.toNat_ofNat,Nat.mod_eq_of_lt (by omega),Nat.mod_eq_of_lt (by omega)]
 refine⟨?_,by omega⟩;rw[e];show((a ||| b:Nat):Int) % 18446744073709551616=_;exact Int.emod_eq_of_lt (by omega) (by omega)
theorem set_nx {α:Type}{A:List α}{z x:α}{m i:Nat}(hA:A.length=i):(A++List.replicate (m+1) z).set i x=(A++[x])++List.replicate m z:=by
 rw[List.set_append,if_neg (by omega),show i-A.length=0 by omega,List.replicate_succ,sZ,List.append_assoc];rfl
def cmbL (v:Nat)(r1 r2:Rl):List Int:=List.zipWith (fun a b=>a* -(pv v r2)+b*pv v r1) r1.c r2.c
theorem cmb_at {v n:Nat}{r1 r2:Rl}{a b:Int}(h1:r1.c[n]? =some a)(h2:r2.c[n]? =some b):(cmbL v r1 r2)[n]? =some (a* -(pv v r2)+b*pv v r1):=by
 unfold cmbL;rw[List.getElem?_zipWith,h1,h2]
theorem mul30 {a y:Int}(a1: -1073741824≤a)(a2:a≤1073741824)(y1: -1073741824≤y)(y2:y≤1073741824): -1152921504606846976≤a*y∧a*y≤1152921504606846976:=by
 rcases Int.le_total 0 y with h|h
 ·exact mul_bnd a1 a2 h y2
 ·have:=mul_bnd a1 a2 (show 0≤ -y by omega) (by omega);rw[Int.mul_neg]at this;omega
theorem pl_elim {L:List Rl}{M v k:Nat}(hL:∀r∈L,RlOk M r)(hv:v<M)(hl:L.length≤100000)(hp:upN v L*dnN v L≤20000)(hM:M≤1000)(hk:k≤1000):
  LX Tryz.prog 69 [.a (.d (rlsD L)),vl (.int .i64 (v:Nat)),vl (.int .i64 (k:Nat))] [] fun V H=>(∃L',ElOk L M v k L'∧V= .tup [.s (.d (rlsD L')),.s (.d (.lit (.bool true)))]∧H=[])∨V= .tup [.s (.d (.lit (.slice none 0 0))),.s (.d (.lit (.bool false)))]∧H=[]:=by
 have hwk:IntKind.i64.wrap ((k:Int)+1)=((k+1:Nat):Int):=by rw[wr64 (by omega) (by omega)];omega
 have at_:∀(i:Nat) r,L[i]? =some r→∃z,r.c[v]? =some z∧pv v r=z∧ -1073741824≤z∧z≤1073741824:=fun i r hr=>by
  have ok:=hL r (mG_ hr);obtain⟨z,hz⟩:=at_some (l:=r.c) (i:=v) (by rw[ok.len];exact hv);exact⟨z,hz,pv_at hz,ok.c z (mG_ hz)⟩
 refine LX_run (m:=0) (n0:=1) mix Tryz.func69 rfl rfl rfl rfl ?_;conv=>whnf
 refine .mk (Nat×List Rl) (fun(i,o)=>⟨[(9,vl (.int .i64 (i:Nat))),(8,.a (.own 0 2 (o.map Rl.D))),(2,vl (.int .i64 (k:Nat))),(1,vl (.int .i64 (v:Nat))),(0,.a (.d (rlsD L)))],[(0,.arr 134 2 (o.map Rl.D).length)],1⟩)
  (fun b=>b.1≤L.length∧(∀r∈b.2,RlOk M r)∧(∀(j:Nat) r,j<b.1→L[j]? =some r→pv v r=0→r∈b.2)∧b.2.length≤b.1) (fun b=>L.length-b.1) (0,[]) (Wk.trans (Wk.own 8 0 134 2 rfl rfl (zL_ _)) Wk.go) ⟨zL_ _,fun r h=>(by cases h),fun j r h=>by omega,by simp⟩ fun⟨i,o⟩ hb=> ?_
 obtain⟨hi,hr,hz,hol⟩:=hb;simp only at hi hr hz hol;conv=>whnf
 refine bs (fun h1=> ?_) (fun h1=> ?_)
 ·conv=>whnf
  have h1':i<L.length:=by simpa using h1
  obtain⟨r,hri⟩:=at_some h1';obtain⟨z,hz1,hz2,_,_⟩:=at_ i r hri;have hrk:=hL r (mG_ hri);refine .mk (i) (r.D) (rfl) (at_map hri) ?_;conv=>whnf
  conv=>whnf
  refine .mk (v) ([D.lit (.int .i64 z)]) (rfl) (int_at hz1) ?_;conv=>whnf
  conv=>whnf
  refine bs (fun h2=> ?_) (fun h2=> ?_)
  ·conv=>whnf
   refine .mk (i) (r.D) (rfl) (at_map hri) ?_;conv=>whnf
   conv=>whnf
   refine .mk ((o++[r]).map Rl.D) rfl (by rw[List.map_append];rfl) (by simp;omega) ?_;conv=>whnf
   refine⟨(i+1,o++[r]),Wk.go,⟨h1',fun x hx=> ?_,fun j x hj hx h0=> ?_,by simp;omega⟩,by simp only;omega⟩
   ·rcases List.mem_append.1 hx with hx|hx
    ·exact hr x hx
    ·rw[List.mem_singleton.1 hx];exact hrk
   ·rcases Nat.lt_succ_iff_lt_or_eq.1 hj with h3|h3
    ·exact List.mem_append_left _ (hz j x h3 hx h0)
    ·subst h3;rw[hri]at hx;injection hx with hx;subst hx;simp
  ·conv=>whnf
   have h2':z≠0:=by simpa using h2
   refine⟨(i+1,o),Wk.go,⟨h1',hr,fun j x hj hx h0=> ?_,by simp only;omega⟩,by simp only;omega⟩;rcases Nat.lt_succ_iff_lt_or_eq.1 hj with h3|h3
   ·exact hz j x h3 hx h0
   ·subst h3;rw[hri]at hx;injection hx with hx;subst hx;omega
 ·conv=>whnf
  have ei:i=L.length:=by simp at h1;omega
  subst ei;have e0:dnN v (L.take 0)=0:=by simp[dnN]
  have u0:upN v (L.take 0)=0:=by simp[upN]
  have hstart:ElJ L M v k 0 0 o:=⟨hr,fun r hrm h0=>by
    obtain⟨j,hj⟩:=List.mem_iff_getElem?.1 hrm;exact hz j r (at_lt hj) hj h0,fun i j r1 r2 hij=>by omega,by rw[u0,e0];split<;>omega⟩
  refine .mk (Nat×List Rl) (fun(i,o)=>⟨[(10,vl (.int .i64 (i:Nat))),(8,.a (.own 0 2 (o.map Rl.D))),(2,vl (.int .i64 (k:Nat))),(1,vl (.int .i64 (v:Nat))),(0,.a (.d (rlsD L)))],[(0,.arr 134 2 (o.map Rl.D).length)],1⟩)
   (fun b=>b.1≤L.length∧ElJ L M v k b.1 0 b.2) (fun b=>L.length-b.1) (0,o) Wk.go ⟨zL_ _,hstart⟩ fun⟨i,o⟩ hb=> ?_
  obtain⟨hi,hE⟩:=hb;simp only at hi hE;conv=>whnf
  refine bs (fun h2=> ?_) (fun h2=> ?_)
  ·conv=>whnf
   have h2':i<L.length:=by simpa using h2
   obtain⟨ri,hri⟩:=at_some h2';obtain⟨zi,hzi,hpi,zi1,zi2⟩:=at_ i ri hri;have oki:=hL ri (mG_ hri);refine .mk (Nat×List Rl) (fun(j,o)=>⟨[(11,vl (.int .i64 (j:Nat))),(10,vl (.int .i64 (i:Nat))),(8,.a (.own 0 2 (o.map Rl.D))),(2,vl (.int .i64 (k:Nat))),(1,vl (.int .i64 (v:Nat))),(0,.a (.d (rlsD L)))],[(0,.arr 134 2 (o.map Rl.D).length)],1⟩)
    (fun b=>b.1≤L.length∧ElJ L M v k i b.1 b.2) (fun b=>L.length-b.1) (0,o) Wk.go ⟨zL_ _,hE⟩ fun⟨j,o⟩ hb=> ?_
   obtain⟨hj,hE⟩:=hb;simp only at hj hE;conv=>whnf
   refine bs (fun h3=> ?_) (fun h3=> ?_)
   ·conv=>whnf
    have h3':j<L.length:=by simpa using h3
    obtain⟨rj,hrj⟩:=at_some h3';obtain⟨zj,hzj,hpj,zj1,zj2⟩:=at_ j rj hrj;have okj:=hL rj (mG_ hrj);obtain⟨or1,or2⟩:=or64 oki.f okj.f;refine .mk (i) (ri.D) (rfl) (at_map hri) ?_;conv=>whnf
    conv=>whnf
    refine .mk (v) ([D.lit (.int .i64 zi)]) (rfl) (int_at hzi) ?_;conv=>whnf
    conv=>whnf
    refine bs (fun h4=> ?_) (fun h4=> ?_)
    ·conv=>whnf
     refine .mk (by kernel_rfl) ?_;conv=>whnf
     have h4':=of_decide_eq_true h4;exact⟨(j+1,o),Wk.go,⟨h3',hE.skip hri hrj (.inl (by omega))⟩,by simp only;omega⟩
    ·conv=>whnf
     have h4':=of_decide_eq_false h4;refine .mk (j) (rj.D) (rfl) (at_map hrj) ?_;conv=>whnf
     conv=>whnf
     refine .mk (v) ([D.lit (.int .i64 zj)]) (rfl) (int_at hzj) ?_;conv=>whnf
     conv=>whnf
     refine bs (fun h5=> ?_) (fun h5=> ?_)
     ·conv=>whnf
      refine .mk (by kernel_rfl) ?_;conv=>whnf
      have h5':=of_decide_eq_true h5;exact⟨(j+1,o),Wk.go,⟨h3',hE.skip hri hrj (.inr (.inl (by omega)))⟩,by simp only;omega⟩
     ·conv=>whnf
      have h5':=of_decide_eq_false h5;refine .mk (i) (ri.D) (rfl) (at_map hri) ?_;conv=>whnf
      conv=>whnf
      refine .mk (j) (rj.D) (rfl) (at_map hrj) ?_;conv=>whnf
      conv=>whnf
      rw[or1];refine .c (pl_bits or2) ?_;conv=>whnf
      rw[hwk];refine bs (fun h6=> ?_) (fun h6=> ?_)
      ·conv=>whnf
       refine .mk (by kernel_rfl) ?_;conv=>whnf
       have h6':=of_decide_eq_true h6;exact⟨(j+1,o),Wk.go,⟨h3',hE.skip hri hrj (.inr (.inr (by omega)))⟩,by simp only;omega⟩
      ·conv=>whnf
       refine .mk (by kernel_rfl) ?_;conv=>whnf
       have h6':=of_decide_eq_false h6;have hlc:(cmbL v ri rj).length=M:=by unfold cmbL;rw[List.length_zipWith,oki.len,okj.len,Nat.min_self]
       have hlm:((intR ri.c).length:Int)=(M:Int):=by rw[List.length_map,oki.len]
       have hol:=hE.len;have hup:=upN_le v L;have hdp:=dnN_le v L;have hob:o.length≤300000:=by
        have h7:upN v (L.take i)≤upN v L:=by
         unfold upN;exact((List.take_sublist i L).filter _).length_le
        have h8:upN v (L.take i)*dnN v L≤upN v L*dnN v L:=Nat.mul_le_mul_right _ h7;have h9:dnN v (L.take j)≤dnN v L:=by
         unfold dnN;exact((List.take_sublist j L).filter _).length_le
        split at hol<;>omega
       refine .mk (i) (ri.D) (rfl) (at_map hri) ?_;conv=>whnf
       conv=>whnf
       refine .mk M hlm hlm (by omega) ?_;conv=>whnf
       refine .mk Nat (fun n=>⟨[(13,vl (.int .i64 (n:Nat))),(12,.a (.tab 1 M)),(11,vl (.int .i64 (j:Nat))),(10,vl (.int .i64 (i:Nat))),(8,.a (.own 0 2 (o.map Rl.D))),(2,vl (.int .i64 (k:Nat))),(1,vl (.int .i64 (v:Nat))),(0,.a (.d (rlsD L)))],[(0,.arr 134 2 (o.map Rl.D).length),(1,.tab 3 1 (intR ((cmbL v ri rj).take n++List.replicate (M-n) 0)))],2⟩)
        (fun n=>n≤M) (fun n=>M-n) 0 (by simp only[List.take_zero,List.nil_append,Nat.sub_zero,intR,List.map_replicate];exact Wk.go) (zL_ _) fun n hn=> ?_
       conv=>whnf
       refine bs (fun h7=> ?_) (fun h7=> ?_)
       ·conv=>whnf
        have h7':n<M:=by have:=of_decide_eq_true h7;omega
        obtain⟨a,ha⟩:=at_some (l:=ri.c) (i:=n) (by rw[oki.len];exact h7');obtain⟨b,hb⟩:=at_some (l:=rj.c) (i:=n) (by rw[okj.len];exact h7');have hab:=oki.c a (mG_ ha);have hbb:=okj.c b (mG_ hb);have hcm:=cmb_at (v:=v) ha hb;rw[hpi,hpj]at hcm;have m1:=mul30 hab.1 hab.2 (show -1073741824≤ -zj by omega) (by omega);have m2:=mul30 hbb.1 hbb.2 zi1 zi2;have w1:IntKind.i64.wrap (0-zj)= -zj:=by rw[wr64 (by omega) (by omega)];omega
        have w2:IntKind.i64.wrap (a* -zj)=a* -zj:=wr64 (by omega) (by omega);have w3:IntKind.i64.wrap (b*zi)=b*zi:=wr64 (by omega) (by omega);have w4:IntKind.i64.wrap (a* -zj+b*zi)=a* -zj+b*zi:=wr64 (by omega) (by omega);have htl:((cmbL v ri rj).take n).length=n:=by rw[List.length_take];omega
        have hold:((cmbL v ri rj).take n++List.replicate (M-n) (0:Int))[n]? =some 0:=by
         rw[List.getElem?_append_right (by omega),htl,Nat.sub_self,List.getElem?_replicate,if_pos (by omega)]
        have hset:((cmbL v ri rj).take n++List.replicate (M-n) (0:Int)).set n (a* -zj+b*zi)=(cmbL v ri rj).take (n+1)++List.replicate (M-(n+1)) 0:=by
         rw[show M-n=(M-(n+1))+1 by omega,set_nx htl,take_snoc hcm]
        refine .mk (i) (ri.D) (rfl) (at_map hri) ?_;conv=>whnf
        conv=>whnf
        refine .mk (n) ([D.lit (.int .i64 a)]) (rfl) (int_at ha) ?_;conv=>whnf
        conv=>whnf
        refine .mk (j) (rj.D) (rfl) (at_map hrj) ?_;conv=>whnf
        conv=>whnf
        refine .mk (v) ([D.lit (.int .i64 zj)]) (rfl) (int_at hzj) ?_;conv=>whnf
        conv=>whnf
        refine .mk (j) (rj.D) (rfl) (at_map hrj) ?_;conv=>whnf
        conv=>whnf
        refine .mk (n) ([D.lit (.int .i64 b)]) (rfl) (int_at hb) ?_;conv=>whnf
        conv=>whnf
        refine .mk (i) (ri.D) (rfl) (at_map hri) ?_;conv=>whnf
        conv=>whnf
        refine .mk (v) ([D.lit (.int .i64 zi)]) (rfl) (int_at hzi) ?_;conv=>whnf
        conv=>whnf
        rw[w1,w2,w3,w4];refine .mk n rfl (by omega) ?_;conv=>whnf
        refine .mk n 0 [D.lit (.int .i64 0)] (intR ((cmbL v ri rj).take (n+1)++List.replicate (M-(n+1)) 0)) rfl (int_at hold) (lR_ 1) (by rw[←hset,intR,List.map_set];rfl) ?_;conv=>whnf
        refine .mk (by kernel_rfl) ?_;conv=>whnf
        exact⟨n+1,Wk.go,h7',by omega⟩
       ·conv=>whnf
        have en:n=M:=by have:=of_decide_eq_false h7;omega
        subst en;rw[Nat.sub_self,List.replicate_zero,List.append_nil,List.take_of_length_le (by omega)]
        have hat:∀(q:Nat) z,(cmbL v ri rj)[q]? =some z→∃a b,ri.c[q]? =some a∧rj.c[q]? =some b∧z=a* -(pv v rj)+b*pv v ri:=fun q z hq=>by
         have hql:=at_lt hq;obtain⟨a,ha⟩:=at_some (l:=ri.c) (i:=q) (by rw[oki.len];omega);obtain⟨b,hb⟩:=at_some (l:=rj.c) (i:=q) (by rw[okj.len];omega);have:=cmb_at (v:=v) ha hb;rw[hq]at this;injection this with this;exact⟨a,b,ha,hb,this⟩
        obtain⟨_,_,⟨ok,c',⟨hr1,hr2⟩,rfl,rfl⟩,cr⟩:=pl_reduce (c:=cmbL v ri rj) (m:=n) hlc (fun z hz=>by
         obtain⟨q,hq⟩:=List.mem_iff_getElem?.1 hz;obtain⟨a,b,ha,hb,rfl⟩:=hat q z hq;have hab:=oki.c a (mG_ ha);have hbb:=okj.c b (mG_ hb);have m1:=mul30 hab.1 hab.2 (show -1073741824≤ -(pv v rj) by omega) (by omega);have m2:=mul30 hbb.1 hbb.2 (show -1073741824≤pv v ri by omega) (by omega);omega) (by omega)
        have cr':LX Tryz.prog 104 [.a (.tab 0 n)] (itH (cmbL v ri rj)) fun v H=>v=vl (.bool ok)∧H=itH c':=⟨_,_,⟨rfl,rfl⟩,cr⟩
        cases ok
        ·refine Cn.o [1] (cr') ?_;conv=>whnf
         exact .q (.inr ⟨rfl,rfl⟩)
        ·refine Cn.o [1] (cr') ?_;conv=>whnf
         have hro:=hr1 rfl;obtain⟨d,hd0,hd⟩:=hro.ex;refine .mk (i) (ri.D) (rfl) (at_map hri) ?_;conv=>whnf
         conv=>whnf
         refine .mk (j) (rj.D) (rfl) (at_map hrj) ?_;conv=>whnf
         conv=>whnf
         refine .mk (by omega) ?_;conv=>whnf
         rw[or1];refine .mk ((o++[(⟨c',ri.f ||| rj.f⟩:Rl)]).map Rl.D) rfl (by rw[List.map_append];rfl) (by simp;omega) ?_;conv=>whnf
         refine .mk (by kernel_rfl) ?_;conv=>whnf
         refine⟨(j+1,o++[⟨c',ri.f ||| rj.f⟩]),Wk.go,⟨h3',hE.add hri hrj (by omega) (by omega) ⟨hr2,hro.b,or2⟩ ⟨rfl,d,hd0,fun q a b z ha hb hz=> ?_⟩⟩,by simp only;omega⟩;have hq:(cmbL v ri rj)[q]? =some ((d:Int)*z):=by rw[hd,List.getElem?_map,hz];rfl
         have:=cmb_at (v:=v) ha hb;rw[hq]at this;injection this
   ·conv=>whnf
    have ej:j=L.length:=by simp at h3;omega
    subst ej;exact⟨(i+1,o),Wk.go,⟨h2',hE.row hri⟩,by simp only;omega⟩
  ·conv=>whnf
   have ei:i=L.length:=by simp at h2;omega
   subst ei;exact .s (.inl ⟨o,hE.done,rfl,rfl⟩)
structure EnI (L:List Rl)(n i:Nat)(low high:Bool)(least most:Rat):Prop where
 il:i≤L.length
 bl:Bt 70 least
 bm:Bt 70 most
 rows:∀(j:Nat) r,j<i→L[j]? =some r→(pv n r=0→0≤pv (n+1) r)∧(0<pv n r→low=true∧0≤(pv n r:Rat)*least+(pv (n+1) r:Rat))∧(pv n r<0→high=true∧0≤(pv n r:Rat)*most+(pv (n+1) r:Rat))
theorem neg_nn {z:Int}(h:z<0):(0:Rat)≤ -(z:Rat):=by
 have:(z:Rat)<0:=by exact_mod_cast h
 grind
theorem mul_le' {a x y:Rat}(ha:0≤a)(h:x≤y):a*x≤a*y:=by
 have:=Rat.mul_nonneg ha (show 0≤y-x by grind);grind
theorem EnI.zero {L:List Rl}{n i:Nat}{low high:Bool}{least most:Rat}{r:Rl}(h:EnI L n i low high least most)(hr:L[i]? =some r)(h0:pv n r=0)(h1:0≤pv (n+1) r):EnI L n (i+1) low high least most:=by
 refine⟨at_lt hr,h.bl,h.bm,fun j x hj hx=> ?_⟩;rcases Nat.lt_succ_iff_lt_or_eq.1 hj with h3|h3
 ·exact h.rows j x h3 hx
 ·subst h3;rw[hr]at hx;injection hx with hx;subst hx;exact⟨fun _=>h1,fun h=>by omega,fun h=>by omega⟩
theorem EnI.pos {L:List Rl}{n i:Nat}{low high:Bool}{least most v:Rat}{r:Rl}(h:EnI L n i low high least most)(hr:L[i]? =some r)(h0:0<pv n r)(hb:Bt 70 v)(hge:low=true→least≤v)(hv:0≤(pv n r:Rat)*v+(pv (n+1) r:Rat)):EnI L n (i+1) true high v most:=by
 refine⟨at_lt hr,hb,h.bm,fun j x hj hx=> ?_⟩;rcases Nat.lt_succ_iff_lt_or_eq.1 hj with h3|h3
 ·obtain⟨q1,q2,q3⟩:=h.rows j x h3 hx;refine⟨q1,fun hp=>⟨rfl,?_⟩,q3⟩;obtain⟨a1,a2⟩:=q2 hp;have:=mul_le' (show(0:Rat)≤(pv n x:Rat) by exact_mod_cast Int.le_of_lt hp) (hge a1);grind
 ·subst h3;rw[hr]at hx;injection hx with hx;subst hx;exact⟨fun h=>by omega,fun _=>⟨rfl,hv⟩,fun h=>by omega⟩
theorem EnI.neg {L:List Rl}{n i:Nat}{low high:Bool}{least most v:Rat}{r:Rl}(h:EnI L n i low high least most)(hr:L[i]? =some r)(h0:pv n r<0)(hb:Bt 70 v)(hle:high=true→v≤most)(hv:0≤(pv n r:Rat)*v+(pv (n+1) r:Rat)):EnI L n (i+1) low true least v:=by
 refine⟨at_lt hr,h.bl,hb,fun j x hj hx=> ?_⟩;rcases Nat.lt_succ_iff_lt_or_eq.1 hj with h3|h3
 ·obtain⟨q1,q2,q3⟩:=h.rows j x h3 hx;refine⟨q1,q2,fun hp=>⟨rfl,?_⟩⟩;obtain⟨a1,a2⟩:=q3 hp;have:=mul_le' (neg_nn hp) (hle a1);grind
 ·subst h3;rw[hr]at hx;injection hx with hx;subst hx;exact⟨fun h=>by omega,fun h=>by omega,fun _=>⟨rfl,hv⟩⟩
def EndAt (L:List Rl)(n:Nat)(v:Rat):Prop:=∀r∈L,0≤(pv n r:Rat)*v+(pv (n+1) r:Rat)
theorem EnI.fin {L:List Rl}{n:Nat}{high:Bool}{least most:Rat}(h:EnI L n L.length true high least most)(hh:high=true→least≤most):EndAt L n least:=by
 intro r hr;obtain⟨j,hj⟩:=List.mem_iff_getElem?.1 hr;obtain⟨q1,q2,q3⟩:=h.rows j r (at_lt hj) hj;rcases Int.lt_trichotomy (pv n r) 0 with h0|h0|h0
 ·obtain⟨a1,a2⟩:=q3 h0;have:=mul_le' (neg_nn h0) (hh a1);grind
 ·have:=q1 h0;rw[h0];have h2:(0:Rat)≤(pv (n+1) r:Rat):=by exact_mod_cast this
  show 0≤((0:Int):Rat)*least+_;have:((0:Int):Rat)=0:=rfl;rw[this];grind
 ·exact(q2 h0).2
theorem frac_at {a c:Int}(ha:a≠0):(a:Rat)*(((-c:Int):Rat)/(a:Rat))+(c:Rat)=0:=by
 have h:(a:Rat)≠0:=by exact_mod_cast ha
 have:=Rat.mul_inv_cancel (a:Rat) h;rw[Rat.div_def];have e:((-c:Int):Rat)= -(c:Rat):=by rw[Rat.intCast_neg]
 rw[e];grind
theorem cmp_lq {a b:Rat}:cmpQ a b<0↔a<b:=by
 rw[←Rat.not_le,←cmpQ_ge];omega
theorem pl_ends {L:List Rl}{n:Nat}(hL:∀r∈L,RlOk (n+2) r)(hn:n≤1000)(hl:L.length≤1000000):
  ∃(st:Int) (v:Rat),(st=1→EndAt L n v)∧Bt 70 v∧LV Tryz.prog 70 [.a (.d (rlsD L)),vl (.int .i64 (n:Nat))] (.tup [.s (.d (.lit (.int .i64 st))),.g (can v).A]):=by
 suffices hh:LX Tryz.prog 70 [.a (.d (rlsD L)),vl (.int .i64 (n:Nat))] [] fun V H=>∃(st:Int) (v:Rat),((st=1→EndAt L n v)∧Bt 70 v)∧V= .tup [.s (.d (.lit (.int .i64 st))),.g (can v).A]∧H=[] by
  obtain⟨_,_,⟨st,v,⟨h1,h2⟩,rfl,rfl⟩,hc⟩:=hh;exact⟨st,v,h1,h2,_,_,⟨rfl,rfl⟩,hc⟩
 have hw1:IntKind.i64.wrap ((n:Int)+1)=((n+1:Nat):Int):=by rw[wr64 (by omega) (by omega)];omega
 have ret0:∀(H:List (Nat×Ent)) (st:Int),st≠1→Rt 0 H (V.tup [.s (.d (.lit (.int .i64 st))),.g [.d (.lit (.bool false)),.d (.lm (limbs 0)),.d (.lm (limbs 0))]]) fun V H=>∃(st:Int) (v:Rat),((st=1→EndAt L n v)∧Bt 70 v)∧V= .tup [.s (.d (.lit (.int .i64 st))),.g (can v).A]∧H=[]:=fun H st hst=>
  .q ⟨st,0,⟨fun h=>absurd h hst,bt0 _⟩,by rw[can0],rfl⟩
 refine LX_run (m:=0) (n0:=0) mix Tryz.func70 rfl rfl rfl rfl ?_;conv=>whnf
 refine .mk (Nat×Bool×Bool×Rat×Rat) (fun(i,low,high,least,most)=>⟨[(10,vl (.int .i64 (i:Nat))),(9,.a (.ptr 2 0)),(8,.a (.ptr 1 0)),(7,vl (.bool high)),(6,vl (.bool low)),(5,.a (.ptr 0 0)),(1,vl (.int .i64 (n:Nat))),(0,.a (.d (rlsD L)))],
  [(0,.box 34 [.d (.lit (.bool false)),.d (.nat 0),.d (.nat 0)]),(1,.box 34 (can least).A),(2,.box 34 (can most).A)],3⟩) (fun b=>EnI L n b.1 b.2.1 b.2.2.1 b.2.2.2.1 b.2.2.2.2) (fun b=>L.length-b.1) (0,false,false,0,0)
  (by show Wk 0 _ ⟨_,[_,(1,.box _ (can 0).A),(2,.box _ (can 0).A)],_⟩;rw[can0];exact Wk.go) ⟨zL_ _,bt0 _,bt0 _,fun j r h=>by omega⟩ fun⟨i,low,high,least,most⟩ hI=> ?_
 simp only at hI;have hi:=hI.il;have lz:Sz least:=hI.bl.mono (by decide);have mz:Sz most:=hI.bm.mono (by decide);conv=>whnf
 refine bs (fun h1=> ?_) (fun h1=> ?_)
 ·conv=>whnf
  have h1':i<L.length:=by simpa using h1
  obtain⟨r,hr⟩:=at_some h1';have ok:=hL r (mG_ hr);obtain⟨a,ha⟩:=at_some (l:=r.c) (i:=n) (by rw[ok.len];omega);obtain⟨c,hc⟩:=at_some (l:=r.c) (i:=n+1) (by rw[ok.len];omega);have pa:=pv_at ha;have pc:=pv_at hc;have ab:=ok.c a (mG_ ha);have cb:=ok.c c (mG_ hc);have wc:IntKind.i64.wrap (0-c)= -c:=by rw[wr64 (by omega) (by omega)];omega
  refine .mk (i) (r.D) (rfl) (at_map hr) ?_;conv=>whnf
  conv=>whnf
  refine .mk (n) ([D.lit (.int .i64 a)]) (rfl) (int_at ha) ?_;conv=>whnf
  conv=>whnf
  refine .mk (i) (r.D) (rfl) (at_map hr) ?_;conv=>whnf
  conv=>whnf
  rw[hw1];refine .mk (n+1) ([D.lit (.int .i64 c)]) (rfl) (int_at hc) ?_;conv=>whnf
  conv=>whnf
  refine .mk (by kernel_rfl) ?_;conv=>whnf
  refine bs (fun h2=> ?_) (fun h2=> ?_)
  ·have h2':a=0:=by simpa using h2
   conv=>whnf
   refine bs (fun h3=> ?_) (fun h3=> ?_)
   ·conv=>whnf
    exact ret0 _ 2 (by decide)
   ·conv=>whnf
    have h3':=of_decide_eq_false h3;exact⟨(i+1,low,high,least,most),Wk.go,hI.zero hr (by omega) (by omega),by simp only;omega⟩
  ·have h2':a≠0:=by simpa using h2
   have hfv:=frac_at (a:=a) (c:=c) h2';have hfb:Bt 70 (((-c:Int):Rat)/(a:Rat)):=((Bt.int (z:= -c) (k:=30) (by omega)).div (Bt.int (z:=a) (k:=30) (by omega)) (by exact_mod_cast h2')).mono (by decide);have cf:=lx_zfrac (y:= -c) (z:=a) (by omega) (by omega) (by omega) (by omega) h2';conv=>whnf
   rw[wc];refine .c (cf) ?_;conv=>whnf
   generalize (((-c:Int):Rat)/(a:Rat))=v at *
   have vz:Sz v:=hfb.mono (by decide);have hv:0≤(pv n r:Rat)*v+(pv (n+1) r:Rat):=by rw[pa,pc,hfv];exact Rat.le_refl
   refine bs (fun h3=> ?_) (fun h3=> ?_)
   ·have h3':=of_decide_eq_true h3
    cases low
    ·conv=>whnf
     exact⟨(i+1,true,high,v,most),Wk.go,hI.pos hr (by omega) hfb (fun e=>by cases e) hv,by simp only;omega⟩
    ·conv=>whnf
     refine .c (lx_zcmp (.c vz) (.c lz)) ?_;conv=>whnf
     rw[cmp_gt];refine bs (fun h4=> ?_) (fun h4=> ?_)
     ·conv=>whnf
      exact⟨(i+1,true,high,v,most),Wk.go,hI.pos hr (by omega) hfb (fun _=>Rat.le_of_lt (of_decide_eq_true h4)) hv,by simp only;omega⟩
     ·conv=>whnf
      have h4':=Rat.not_lt.1 (of_decide_eq_false h4);have hle:0≤(pv n r:Rat)*least+(pv (n+1) r:Rat):=by
       have:=mul_le' (show(0:Rat)≤(pv n r:Rat) by rw[pa];exact_mod_cast Int.le_of_lt h3') h4';grind
      exact⟨(i+1,true,high,least,most),Wk.go,hI.pos hr (by omega) hI.bl (fun _=>Rat.le_refl) hle,by simp only;omega⟩
   ·have h3':a<0:=by have:=of_decide_eq_false h3;omega
    cases high
    ·conv=>whnf
     exact⟨(i+1,low,true,least,v),Wk.go,hI.neg hr (by omega) hfb (fun e=>by cases e) hv,by simp only;omega⟩
    ·conv=>whnf
     refine .c (lx_zcmp (.c vz) (.c mz)) ?_;conv=>whnf
     refine bs (fun h4=> ?_) (fun h4=> ?_)
     ·conv=>whnf
      have h4':=cmp_lq.1 (of_decide_eq_true h4);exact⟨(i+1,low,true,least,v),Wk.go,hI.neg hr (by omega) hfb (fun _=>Rat.le_of_lt h4') hv,by simp only;omega⟩
     ·conv=>whnf
      have h4':=Rat.not_lt.1 (mt cmp_lq.2 (of_decide_eq_false h4));have hle:0≤(pv n r:Rat)*most+(pv (n+1) r:Rat):=by
       have:=mul_le' (neg_nn (z:=pv n r) (by omega)) h4';grind
      exact⟨(i+1,low,true,least,most),Wk.go,hI.neg hr (by omega) hI.bm (fun _=>Rat.le_refl) hle,by simp only;omega⟩
 ·have ei:i=L.length:=by simp at h1;omega
  subst ei
  cases low
  ·cases high
   all_goals conv=>whnf
   all_goals exact ret0 _ 3 (by decide)
  ·cases high
   ·conv=>whnf
    refine .mk (by kernel_rfl) ?_;conv=>whnf
    exact .q ⟨1,least,⟨fun _=>hI.fin (fun e=>by cases e),hI.bl⟩,rfl,rfl⟩
   ·conv=>whnf
    refine .c (lx_zcmp (.c mz) (.c lz)) ?_;conv=>whnf
    refine bs (fun h4=> ?_) (fun h4=> ?_)
    ·conv=>whnf
     exact ret0 _ 2 (by decide)
    ·conv=>whnf
     refine .mk (by kernel_rfl) ?_;conv=>whnf
     have h4':=Rat.not_lt.1 (mt cmp_lq.2 (of_decide_eq_false h4));exact .q ⟨1,least,⟨fun _=>hI.fin (fun _=>h4'),hI.bl⟩,rfl,rfl⟩
abbrev Mu.A (m:Mu):List A:=[.d (.lit (.int .i64 m.r.k)),.d (.lit (.int .i64 m.r.i)),.d (.lit (.int .i64 m.r.l)),.d (.lit (.int .i64 m.r.h)),.d (.lit (.bool (decide (m.c<0)))),.d (.lm (limbs m.c.num.natAbs)),.d (.lm (limbs (dn m.c)))]
theorem pl_less2 {a b:Mu}:LV Tryz.prog 212 [.agg a.A,.agg b.A] (vl (.int .i64 (cmpR a.r b.r))):=by
 refine LX_run (m:=0) (n0:=0) mix Tryz.func212 rfl rfl rfl rfl ?_;conv=>whnf
 refine .c (pl_compare (a:=a.r) (b:=b.r)) ?_;conv=>whnf
 exact .q ⟨rfl,rfl⟩
def Srt (l:List Mu)(i:Nat):Prop:=∀(p q:Nat) a b,p<q→q<i→l[p]? =some a→l[q]? =some b→cmpR a.r b.r≤0
def SrtX (l:List Mu)(i j:Nat):Prop:=∀(p q:Nat) a b,p<q→q≤i→q≠j→l[p]? =some a→l[q]? =some b→cmpR a.r b.r≤0
theorem Srt.x {l:List Mu}{i:Nat}(h:Srt l i):SrtX l i i:=fun p q a b hp hq hn h1 h2=>h p q a b hp (by omega) h1 h2
theorem SrtX.done {l:List Mu}{i j:Nat}(h:SrtX l i j)(hj:j=0∨∃a b,l[j-1]? =some a∧l[j]? =some b∧0<j∧¬cmpR b.r a.r<0):Srt l (i+1):=by
 intro p q a b hp hq h1 h2
 by_cases e:q=j
 ·subst e;rcases hj with hj|⟨x,y,hx,hy,h0,hc⟩
  ·omega
  ·rw[h2]at hy;injection hy with hy;subst hy;have hxb:cmpR x.r b.r≤0:=by rw[cmpR_anti];omega
   by_cases e2:p=q-1
   ·subst e2;rw[h1]at hx;injection hx with hx;subst hx;exact hxb
   ·exact cmpR_trans (h p (q-1) a x (by omega) (by omega) (by omega) h1 hx) hxb
 ·exact h p q a b hp (by omega) e h1 h2
def swp (l:List Mu)(j:Nat)(x y:Mu):List Mu:=(l.set j x).set (j-1) y
theorem swp_perm {l:List Mu}{j:Nat}{x y:Mu}(h0:0<j)(hx:l[j-1]? =some x)(hy:l[j]? =some y):(swp l j x y).Perm l:=by
 obtain⟨q1,q2⟩:=List.getElem?_eq_some_iff.1 hx;obtain⟨q3,q4⟩:=List.getElem?_eq_some_iff.1 hy;have:= @List.set_set_perm _ l j (j-1) q3 q1
 rwa [q2,q4]at this
theorem swp_at {l:List Mu}{j:Nat}{x y:Mu}(h0:0<j)(hj:j<l.length)(k:Nat):(swp l j x y)[k]? =if k=j-1 then some y else if k=j then some x else l[k]?:=by
 unfold swp;rw[List.getElem?_set,List.getElem?_set,List.length_set]
 repeat' split
 all_goals first|rfl|(exfalso;omega)
theorem SrtX.swap {l:List Mu}{i j:Nat}{x y:Mu}(h:SrtX l i j)(h0:0<j)(hji:j≤i)(hx:l[j-1]? =some x)(hy:l[j]? =some y)(hc:cmpR y.r x.r<0):SrtX (swp l j x y) i (j-1):=by
 have hjl:=(List.getElem?_eq_some_iff.1 hy).1;intro p q a b hp hq hn h1 h2;rw[swp_at h0 hjl]at h1 h2;rw[if_neg hn]at h2;split at h2
 ·rename_i e;subst e;injection h2 with h2;subst h2;split at h1
  ·injection h1 with h1;subst h1;omega
  ·rw[if_neg (by omega)]at h1;exact h p (q-1) a x (by omega) (by omega) (by omega) h1 hx
 ·rename_i e;split at h1
  ·injection h1 with h1;subst h1;exact h j q y b (by omega) hq e hy h2
  ·split at h1
   ·injection h1 with h1;subst h1;exact h (j-1) q x b (by omega) hq e hx h2
   ·exact h p q a b hp hq e h1 h2
abbrev mtH (l:List Mu):List (Nat×Ent):=[(0,.tab 195 7 (l.map Mu.D))]
theorem pl_insert {ms:List Mu}{n:Nat}(hn:ms.length=n)(h1:1≤n)(h2:n≤1000):LX Tryz.prog 218 [.a (.tab 0 n),vl (.int .i64 0),vl (.int .i64 n),.a (.fn (.func 212) [] [])] (mtH ms)
  fun v H=>∃l:List Mu,(l.Perm ms∧Srt l n)∧v= .tup []∧H=mtH l:=by
 refine LX_run (m:=1) (n0:=1) mix Tryz.func218 rfl rfl rfl rfl ?_;conv=>whnf
 refine .mk (Nat×List Mu) (fun(i,l)=>⟨[(8,vl (.int .i64 i)),(3,.a (.fn (.func 212) [] [])),(2,vl (.int .i64 n)),(1,vl (.int .i64 0)),(0,.a (.tab 0 n))],mtH l,1⟩) (fun b=>1≤b.1∧b.1≤n∧b.2.Perm ms∧Srt b.2 b.1) (fun b=>n-b.1) (1,ms) Wk.go ⟨lR_ _,h1,List.Perm.refl _,fun p q a b hp hq=>by omega⟩ fun⟨i,l⟩ hb=> ?_;obtain⟨hi0,hi,hp,hs⟩:=hb;simp only at hi0 hi hp hs;conv=>whnf
 refine bs (fun t1=> ?_) (fun t1=> ?_)
 ·conv=>whnf
  have t1':i<n:=by simpa using t1
  refine .mk (Nat×List Mu) (fun(j,l)=>⟨[(9,vl (.int .i64 j)),(8,vl (.int .i64 i)),(3,.a (.fn (.func 212) [] [])),(2,vl (.int .i64 n)),(1,vl (.int .i64 0)),(0,.a (.tab 0 n))],mtH l,1⟩) (fun b=>b.1≤i∧b.2.Perm ms∧SrtX b.2 i b.1) (fun b=>b.1) (i,l) Wk.go ⟨lR_ _,hp,hs.x⟩ fun⟨j,l⟩ hb=> ?_;obtain⟨hj,hp,hs⟩:=hb;simp only at hj hp hs;have hll:l.length=n:=by rw[hp.length_eq,hn]
  conv=>whnf
  refine bs (fun t2=> ?_) (fun t2=> ?_)
  ·conv=>whnf
   have t2':0<j:=by simpa using t2
   obtain⟨y,hy⟩:=at_some (l:=l) (i:=j) (by omega);obtain⟨x,hx⟩:=at_some (l:=l) (i:=j-1) (by omega);refine .mk j rfl (by omega) ?_;conv=>whnf
   refine .mk j 0 y.D rfl (at_map hy) ?_;conv=>whnf
   refine .mk (j-1) (by rw[wr64 (by omega) (by omega)];omega) (by omega) ?_;conv=>whnf
   refine .mk (j-1) 0 x.D rfl (at_map hx) ?_;conv=>whnf
   refine .c (pl_less2 (a:=y) (b:=x)) ?_;conv=>whnf
   refine bs (fun t3=> ?_) (fun t3=> ?_)
   ·conv=>whnf
    refine .mk (by kernel_rfl) ?_;conv=>whnf
    have t3':cmpR y.r x.r<0:=by simpa using t3
    have hw:IntKind.i64.wrap ((j:Int)-1)=((j-1:Nat):Int):=by rw[wr64 (by omega) (by omega)];omega
    refine .mk (j-1) hw (by omega) ?_;conv=>whnf
    refine .mk (j-1) 0 x.D rfl (at_map hx) ?_;conv=>whnf
    refine .mk j rfl (by omega) ?_;conv=>whnf
    refine .mk j 0 y.D rfl (at_map hy) ?_;conv=>whnf
    refine .mk j rfl (by omega) ?_;conv=>whnf
    refine .mk j 0 y.D ((l.set j x).map Mu.D) rfl (at_map hy) (lR_ 7) (by rw[List.map_set];rfl) ?_;conv=>whnf
    refine .mk (j-1) hw (by omega) ?_;conv=>whnf
    refine .mk (j-1) 0 x.D ((swp l j x y).map Mu.D) rfl (at_map (by rw[List.getElem?_set_ne (by omega)];exact hx)) (lR_ 7) (by rw[swp,List.map_set];rfl) ?_;conv=>whnf
    refine .mk (by kernel_rfl) ?_;conv=>whnf
    exact⟨(j-1,swp l j x y),Wk.go (h1:=by rw[hw];(repeat' first|exact trivial|exact vR_ _|refine⟨⟨_,rfl,?_,rfl⟩,?_⟩)),⟨by simp only;omega,(swp_perm t2' hx hy).trans hp,hs.swap t2' hj hx hy t3'⟩,by simp only;omega⟩
   ·conv=>whnf
    refine .mk (by kernel_rfl) ?_;conv=>whnf
    exact⟨(i+1,l),Wk.go,⟨by simp only;omega,t1',hp,hs.done (.inr ⟨x,y,hx,hy,t2',by simpa using t3⟩)⟩,by simp only;omega⟩
  ·conv=>whnf
   refine .mk (by kernel_rfl) ?_;conv=>whnf
   exact⟨(i+1,l),Wk.go,⟨by simp only;omega,t1',hp,hs.done (.inl (by simpa using t2))⟩,by simp only;omega⟩
 ·conv=>whnf
  have e:i=n:=by simp at t1;omega
  subst e;exact⟨_,_,⟨l,⟨hp,hs⟩,rfl,rfl⟩,vR_ _,rfl,⟨⟨_,rfl,wke_refl _,rfl⟩,trivial⟩,rfl⟩
theorem pl_stable {ms:List Mu}{n:Nat}(hn:ms.length=n)(h1:1≤n)(h2:n≤19):LX Tryz.prog 217 [.a (.tab 0 n),vl (.int .i64 n),.a (.fn (.func 212) [] [])] (mtH ms)
  fun v H=>∃l:List Mu,(l.Perm ms∧Srt l n)∧v= .tup []∧H=mtH l:=by
 obtain⟨v,H,⟨l,hl,rfl,rfl⟩,hc⟩:=pl_insert hn h1 (by omega);have c:LX Tryz.prog 218 [.a (.tab 0 n),vl (.int .i64 0),vl (.int .i64 n),.a (.fn (.func 212) [] [])] (mtH ms) fun v H=>v= .tup []∧H=mtH l:=⟨_,_,⟨rfl,rfl⟩,hc⟩;refine LX_run (m:=1) (n0:=1) mix Tryz.func217 rfl rfl rfl rfl ?_;conv=>whnf
 refine .mk Unit (fun _=>⟨[(8,vl (.int .i64 20)),(7,vl (.int .i64 0)),(6,vl (.int .i64 20)),(2,.a (.fn (.func 212) [] [])),(1,vl (.int .i64 n)),(0,.a (.tab 0 n))],mtH ms,1⟩) (fun _=>True) (fun _=>0) () Wk.go trivial fun _ _=> ?_;conv=>whnf
 refine bF (decide_eq_false (by omega)) ?_;conv=>whnf
 refine Cn.o [0] (c) ?_;conv=>whnf
 refine .mk Unit (fun _=>⟨[(6,vl (.int .i64 20)),(2,.a (.fn (.func 212) [] [])),(1,vl (.int .i64 n)),(0,.a (.tab 0 n))],mtH l,1⟩) (fun _=>True) (fun _=>0) () Wk.go trivial fun _ _=> ?_;conv=>whnf
 refine bF (decide_eq_false (by omega)) ?_;conv=>whnf
 exact⟨_,_,⟨l,hl,rfl,rfl⟩,vR_ _,rfl,⟨⟨_,rfl,wke_refl _,rfl⟩,trivial⟩,rfl⟩
theorem pl_sort {ms:List Mu}{n:Nat}(hn:ms.length=n)(h1:1≤n)(h2:n≤19):LX Tryz.prog 211 [.a (.tab 0 n),.a (.fn (.func 212) [] [])] (mtH ms)
  fun v H=>∃l:List Mu,(l.Perm ms∧Srt l n)∧v= .tup []∧H=mtH l:=by
 obtain⟨v,H,⟨l,hl,rfl,rfl⟩,hc⟩:=pl_stable hn h1 h2;have c:LX Tryz.prog 217 [.a (.tab 0 n),vl (.int .i64 n),.a (.fn (.func 212) [] [])] (mtH ms) fun v H=>v= .tup []∧H=mtH l:=⟨_,_,⟨rfl,rfl⟩,hc⟩;refine LX_run (m:=1) (n0:=1) mix Tryz.func211 rfl rfl rfl rfl ?_;conv=>whnf
 refine Cn.o [0] (c) ?_;conv=>whnf
 exact⟨_,_,⟨l,hl,rfl,rfl⟩,vR_ _,rfl,⟨⟨_,rfl,wke_refl _,rfl⟩,trivial⟩,rfl⟩
theorem pl_insert0:LV Tryz.prog 218 [.a (.d (.sl 7 [])),vl (.int .i64 0),vl (.int .i64 0),.a (.fn (.func 212) [] [])] (.tup []):=by
 refine LX_run (m:=0) (n0:=0) mix Tryz.func218 rfl rfl rfl rfl ?_;conv=>whnf
 refine .mk Unit (fun _=>⟨[(8,vl (.int .i64 1)),(2,vl (.int .i64 0))],[],0⟩) (fun _=>True) (fun _=>0) () Wk.go trivial fun _ _=> ?_;conv=>whnf
 exact .q ⟨rfl,rfl⟩
theorem pl_stable0:LV Tryz.prog 217 [.a (.d (.sl 7 [])),vl (.int .i64 0),.a (.fn (.func 212) [] [])] (.tup []):=by
 refine LX_run (m:=0) (n0:=0) mix Tryz.func217 rfl rfl rfl rfl ?_;conv=>whnf
 refine .mk Unit (fun _=>⟨[(8,vl (.int .i64 20)),(7,vl (.int .i64 0)),(6,vl (.int .i64 20)),(2,.a (.fn (.func 212) [] [])),(1,vl (.int .i64 0)),(0,.a (.d (.sl 7 [])))],[],0⟩) (fun _=>True) (fun _=>0) () Wk.go trivial fun _ _=> ?_;conv=>whnf
 refine .c (pl_insert0) ?_;conv=>whnf
 refine .mk Unit (fun _=>⟨[(6,vl (.int .i64 20)),(1,vl (.int .i64 0))],[],0⟩) (fun _=>True) (fun _=>0) () Wk.go trivial fun _ _=> ?_;conv=>whnf
 exact .q ⟨rfl,rfl⟩
theorem pl_sort0:LV Tryz.prog 211 [.a (.d (.sl 7 [])),.a (.fn (.func 212) [] [])] (.tup []):=by
 refine LX_run (m:=0) (n0:=0) mix Tryz.func211 rfl rfl rfl rfl ?_;conv=>whnf
 refine .c (pl_stable0) ?_;conv=>whnf
 exact .q ⟨rfl,rfl⟩
theorem pl_neg {m:Mu}{K:Nat}(hb:Bt K m.c)(hk:K≤3000000000)(h:0≤m.c):LV Tryz.prog 209 [.agg m.A] (vl (.bool false)):=by
 refine LX_run (m:=0) (n0:=0) mix Tryz.func209 rfl rfl rfl rfl ?_;conv=>whnf
 refine .c (lx_rsign (.c (hb.mono hk))) ?_;conv=>whnf
 refine bF (by rw[sg_lt];exact decide_eq_false (Rat.not_lt.2 h)) ?_;conv=>whnf
 exact .q ⟨rfl,rfl⟩
theorem pl_cfM {l:List Mu}{K:Nat}(hl:l.length≤1000000)(hb:MuB K l)(hk:K≤3000000000)(h:∀m∈l,0≤m.c):LV Tryz.prog 208 [.a (.d (musD l)),.a (.fn (.func 209) [] [])] (vl (.bool false)):=by
 have ix:LV Tryz.prog 216 [.a (.d (musD l)),.a (.fn (.func 209) [] [])] (vl (.int .i64 (-1))):=by
  refine LX_run (m:=0) (n0:=0) mix Tryz.func216 rfl rfl rfl rfl ?_;conv=>whnf
  refine .mk Nat (fun i=>⟨[(8,vl (.int .i64 (i:Nat))),(7,vl (.int .i64 (l.map Mu.D).length)),(1,.a (.fn (.func 209) [] [])),(0,.a (.d (musD l)))],[],0⟩) (fun i=>i≤l.length) (fun i=>l.length-i) 0 Wk.go (zL_ _) fun i hi=> ?_;conv=>whnf
  conv=>whnf
  refine bs (fun h1=> ?_) (fun h1=> ?_)
  ·conv=>whnf
   have h1':i<l.length:=by simpa using h1
   obtain⟨m,hm⟩:=at_some h1';have hmm:=mG_ hm;refine .mk (i) (m.D) (rfl) (at_map hm) ?_;conv=>whnf
   conv=>whnf
   refine .c (pl_neg (m:=m) (hb m hmm) hk (h m hmm)) ?_;conv=>whnf
   exact⟨i+1,Wk.go,h1',by omega⟩
  ·conv=>whnf
   exact .q ⟨rfl,rfl⟩
 refine LX_run (m:=0) (n0:=0) mix Tryz.func208 rfl rfl rfl rfl ?_;conv=>whnf
 refine .c (ix) ?_;conv=>whnf
 exact .q ⟨rfl,rfl⟩
theorem pl_cloneM {x:Mu}{xs:List Mu}(hl:(x::xs).length≤1000000):LX Tryz.prog 210 [.a (.d (musD (x::xs)))] [] fun v H=>v= .a (.tab 0 (xs.length+1))∧H=mtH (x::xs):=by
 have e:((x::xs).map Mu.D).length=xs.length+1:=by simp
 refine LX_run (m:=0) (n0:=0) mix Tryz.func210 rfl rfl rfl rfl ?_;conv=>whnf
 refine .full ?_;conv=>whnf
 refine .tab ((x::xs).map Mu.D) rfl (by simp at hl ⊢;omega) (fun row hr d hd=> ?_) ?_
 ·obtain⟨m,_,rfl⟩:=List.mem_map.1 hr;simp only[Mu.D,List.mem_cons,List.not_mem_nil,or_false]at hd;rcases hd with rfl|rfl|rfl|rfl|rfl|rfl|rfl<;>rfl
 rw[e];conv=>whnf
 exact⟨_,_,⟨rfl,rfl⟩,vR_ _,rfl,⟨⟨_,rfl,wke_refl _,rfl⟩,trivial⟩,rfl⟩
theorem pl_cloneM0:LX Tryz.prog 210 [.a (.d (.sl 7 []))] [] fun v H=>v= .a (.own 0 7 [])∧H=[(0,.arr 195 7 0)]:=by
 refine clone_nil (k:=7) (e:=195) ?_ fun a cap=> ?_
 ·intro cap;refine LX_run (m:=0) (n0:=0) mix Tryz.func210 rfl rfl rfl rfl ?_;conv=>whnf
  exact⟨_,_,⟨rfl,rfl⟩,vR_ _,rfl,trivial,rfl⟩
 ·refine LX_run (m:=0) (n0:=0) mix Tryz.func210 rfl rfl rfl rfl ?_;conv=>whnf
  refine .own ?_;conv=>whnf
  refine .mk [] rfl rfl (by decide) ?_;conv=>whnf
  exact⟨_,_,⟨rfl,rfl⟩,vR_ _,rfl,⟨⟨_,rfl,wke_refl _,rfl⟩,trivial⟩,rfl⟩
theorem wsum_perm (φ:Ro→Rat){a b:List Mu}(h:a.Perm b):wsum φ a=wsum φ b:=by
 induction h with
 |nil=>rfl
 |cons x _ ih=>rw[wsum,wsum,ih]
 |swap x y l=>simp only[wsum];grind
 |trans _ _ h1 h2=>rw[h1,h2]
theorem cmpR_lt_le {a b c:Ro}(h:cmpR a b<0)(k:cmpR b c≤0):cmpR a c<0:=by
 have n1:∀x y:Ro,cmpR x y≤0↔¬cmpR y x<0:=fun x y=>by rw[cmpR_anti x y];omega
 rw[n1]at k;rw[cmpR_lt]at *
 omega
theorem CanL.snoc {o:List Mu}{m:Mu}(h:CanL o)(hm:0<m.c)(hl:∀x∈o,cmpR x.r m.r<0):CanL (o++[m]):=by
 refine⟨fun x hx=> ?_,fun i a b ha hb=> ?_⟩
 ·rcases List.mem_append.1 hx with hx|hx
  ·exact h.pos x hx
  ·rw[List.mem_singleton.1 hx];exact hm
 ·have hlt:=(List.getElem?_eq_some_iff.1 hb).1;rw[List.length_append,List.length_singleton]at hlt;rw[List.getElem?_append_left (by omega)]at ha;rcases Nat.lt_or_ge (i+1) o.length with h1|h1
  ·rw[List.getElem?_append_left h1]at hb;exact h.up i a b ha hb
  ·rw[List.getElem?_append_right h1,show i+1-o.length=0 by omega]at hb;injection hb with hb;subst hb;exact hl a (mG_ ha)
structure ColI (ms:List Mu)(K i:Nat)(o:List Mu):Prop where
 le:i≤ms.length
 sum:∀φ,wsum φ o+wsum φ (ms.drop i)=wsum φ ms
 can:CanL o
 lt:∀m∈o,∀(k:Nat) x,i≤k→ms[k]? =some x→cmpR m.r x.r<0
 rows:∀m∈o,∃x∈ms,m.r=x.r
 mu:MuB (ms.length*(K+1)) o
 len:o.length≤i
structure ColJ (ms:List Mu)(K i:Nat)(r:Ro)(k:Nat)(c:Rat):Prop where
 ik:i≤k
 le:k≤ms.length
 same:∀(j:Nat) x,i≤j→j<k→ms[j]? =some x→x.r=r
 sum:∀φ,c*φ r+wsum φ (ms.drop k)=wsum φ (ms.drop i)
 pos:0≤c
 b:Bt ((k-i)*(K+1)) c
theorem ColJ.next {ms:List Mu}{K i k:Nat}{r:Ro}{c:Rat}{m:Mu}(h:ColJ ms K i r k c)(hm:ms[k]? =some m)(hr:m.r=r)(hp:0≤m.c)(hb:Bt K m.c):ColJ ms K i r (k+1) (c+m.c):=by
 obtain⟨h1,h2⟩:=List.getElem?_eq_some_iff.1 hm;have hik:=h.ik;refine⟨by omega,h1,fun j x hj hk hx=> ?_,fun φ=> ?_,Rat.add_nonneg h.pos hp,(h.b.add hb).mono (by rw[show k+1-i=(k-i)+1 by omega,Nat.add_mul];omega)⟩
 ·rcases Nat.lt_succ_iff_lt_or_eq.1 hk with h3|h3
  ·exact h.same j x hj h3 hx
  ·subst h3;rw[hm]at hx;injection hx with hx;rw[←hx];exact hr
 ·rw[←h.sum φ,List.drop_eq_getElem_cons h1,h2,wsum,hr];grind
theorem ColI.next {ms:List Mu}{K i k:Nat}{o:List Mu}{r:Ro}{c:Rat}(hs:Srt ms ms.length)(h:ColI ms K i o)(g:ColJ ms K i r k c)(hik:i<k)(hr:∃x,ms[i]? =some x∧x.r=r)(hne:∀x,ms[k]? =some x→x.r≠r):
  ColI ms K k (if 0<c then o++[⟨r,c⟩]else o):=by
 obtain⟨x0,hx0,hr0⟩:=hr;have hnew:∀(j:Nat) x,k≤j→ms[j]? =some x→cmpR r x.r<0:=by
  have h1:∀x,ms[k]? =some x→cmpR r x.r<0:=fun x hx=>by
   have h2:=hs i k x0 x hik (List.getElem?_eq_some_iff.1 hx).1 hx0 hx;rw[hr0]at h2;have h3:cmpR r x.r≠0:=fun e=>hne x hx (cmpR_0.1 e).symm;omega
  intro j x hj hx;rcases Nat.lt_or_ge k j with h4|h4
  ·obtain⟨y,hy⟩:=at_some (l:=ms) (i:=k) (by have:=(List.getElem?_eq_some_iff.1 hx).1;omega);exact cmpR_lt_le (h1 y hy) (hs k j y x h4 (List.getElem?_eq_some_iff.1 hx).1 hy hx)
  ·rw[show j=k by omega]at hx;exact h1 x hx
 have hold:∀m∈o,∀(j:Nat) x,k≤j→ms[j]? =some x→cmpR m.r x.r<0:=fun m hm j x hj hx=>h.lt m hm j x (by omega) hx;have hkl:=g.le;split
 ·rename_i hc;refine⟨g.le,fun φ=> ?_,h.can.snoc hc fun m hm=>by have:=h.lt m hm i x0 (lR_ _) hx0;rwa [hr0]at this,fun m hm=> ?_,fun m hm=> ?_,fun m hm=> ?_,by rw[List.length_append,List.length_singleton];have:=h.len;omega⟩
  ·rw[←h.sum φ,←g.sum φ,wsum_app];simp only;grind
  ·rcases List.mem_append.1 hm with hm|hm
   ·exact hold m hm
   ·rw[List.mem_singleton.1 hm];exact hnew
  ·rcases List.mem_append.1 hm with hm|hm
   ·exact h.rows m hm
   ·rw[List.mem_singleton.1 hm];exact⟨x0,mG_ hx0,hr0.symm⟩
  ·rcases List.mem_append.1 hm with hm|hm
   ·exact h.mu m hm
   ·rw[List.mem_singleton.1 hm];exact g.b.mono (Nat.mul_le_mul_right _ (by omega))
 ·rename_i hc;have e:c=0:=by have:=g.pos;grind
  refine⟨g.le,fun φ=> ?_,h.can,hold,h.rows,h.mu,by have:=h.len;omega⟩;rw[←h.sum φ,←g.sum φ,e];grind
structure Col (l l':List Mu)(K:Nat):Prop where
 can:CanL l'
 sum:∀φ,wsum φ l'=wsum φ l
 rows:∀m∈l',∃x∈l,m.r=x.r
 mu:MuB (l.length*(K+1)) l'
 len:l'.length≤l.length
abbrev oH (l:List Mu):List (Nat×Ent):=[(0,.arr 195 7 (l.map Mu.D).length)]
theorem pl_collect1 {x:Mu}{xs:List Mu}{K:Nat}(hl:xs.length+1≤19)(hb:MuB K (x::xs))(hk:K≤100000000)(hp:∀m∈x::xs,0≤m.c):
  LX Tryz.prog 204 [.a (.d (musD (x::xs)))] [] fun v H=>∃l',Col (x::xs) l' K∧v= .tup [.s (.own 0 7 (l'.map Mu.D)),.s (.d (.lit (.int .i64 0)))]∧H=oH l':=by
 obtain⟨v,H,⟨ms,⟨hperm,hsrt⟩,rfl,rfl⟩,hc⟩:=pl_sort (ms:=x::xs) (n:=xs.length+1) (by simp) (by omega) hl;have c:LX Tryz.prog 211 [.a (.tab 0 (xs.length+1)),.a (.fn (.func 212) [] [])] (mtH (x::xs)) fun v H=>v= .tup []∧H=mtH ms:=⟨_,_,⟨rfl,rfl⟩,hc⟩;have hml:ms.length=xs.length+1:=by rw[hperm.length_eq];simp
 have hmb:MuB K ms:=fun m hm=>hb m (hperm.mem_iff.1 hm);have hmp:∀m∈ms,0≤m.c:=fun m hm=>hp m (hperm.mem_iff.1 hm);rw[←hml]at hsrt
 have hfin:∀o,ColI ms K ms.length o→Col (x::xs) o K:=fun o h=>⟨h.can,fun φ=>by
  have:=h.sum φ;rw[List.drop_length,wsum,Rat.add_zero]at this;rw[this,wsum_perm φ hperm],fun m hm=>let ⟨y,h1,h2⟩:=h.rows m hm;⟨y,hperm.mem_iff.1 h1,h2⟩,by have:=h.mu;rwa [hperm.length_eq]at this,by have:=h.len;rwa [hperm.length_eq]at this⟩
 have hbig:ms.length*(K+1)+(K+1)≤3000000000:=by
  have:(ms.length+1)*(K+1)≤20*(K+1):=Nat.mul_le_mul_right _ (by omega);rw[Nat.add_mul,Nat.one_mul]at this;omega
 refine LX_run (m:=0) (n0:=1) mix Tryz.func204 rfl rfl rfl rfl ?_;conv=>whnf
 refine .c (pl_cfM (l:=x::xs) (by simp;omega) hb (by omega) hp) ?_;conv=>whnf
 refine Cn.l [] (pl_cloneM (x:=x) (xs:=xs) (by simp;omega)) ?_;conv=>whnf
 refine Cn.o [1] (c) ?_;conv=>whnf
 refine .mk (Nat×List Mu) (fun(i,o)=>⟨[(6,vl (.int .i64 i)),(5,.a (.own 0 7 (o.map Mu.D))),(4,.a (.d (musD ms)))],oH o,3⟩) (fun b=>ColI ms K b.1 b.2) (fun b=>ms.length-b.1) (0,[])
  (Wk.trans (Wk.freeze 4 1 (xs.length+1) rfl rfl (by omega)) (Wk.trans (Wk.own 5 0 195 7 rfl rfl (zL_ _)) Wk.go))
  ⟨zL_ _,fun φ=>by rw[wsum,Rat.zero_add];rfl,⟨fun m hm=>(by cases hm),fun i a b h=>by simp at h⟩,fun m hm=>(by cases hm),fun m hm=>(by cases hm),fun m hm=>(by cases hm),lR_ _⟩ fun⟨i,o⟩ hI=> ?_
 simp only at hI;have hil:=hI.le;have hol:=hI.len;conv=>whnf
 refine bs (fun h1=> ?_) (fun h1=> ?_)
 ·conv=>whnf
  have h1':i<ms.length:=by simpa using h1
  obtain⟨m0,hm0⟩:=at_some h1';refine .mk (i) (m0.D) (rfl) (at_map hm0) ?_;conv=>whnf
  conv=>whnf
  refine .mk (Nat×Rat) (fun(k,c)=>⟨[(6,vl (.int .i64 k)),(8,.a (.ptr 4 0)),(7,.a (.ptr 3 0)),(5,.a (.own 0 7 (o.map Mu.D))),(4,.a (.d (musD ms)))],[(3,.box 193 m0.r.A),(4,.box 34 (can c).A),(0,.arr 195 7 (o.map Mu.D).length)],5⟩) (fun b=>ColJ ms K i m0.r b.1 b.2) (fun b=>ms.length-b.1) (i,0)
   (by show Wk 0 _ ⟨_,[_,(4,.box _ (can 0).A),_],_⟩;rw[can0];exact Wk.go) ⟨lR_ _,hil,fun j x h1 h2=>by omega,fun φ=>by grind,Rat.le_refl,bt0 _⟩ fun⟨k,c⟩ hJ=> ?_
  simp only at hJ;have hik:=hJ.ik;have hkl:=hJ.le;have hcb:(k-i)*(K+1)≤ms.length*(K+1):=Nat.mul_le_mul_right _ (by omega);have cz:Sz c:=hJ.b.mono (by omega);conv=>whnf
  refine bs (fun h2=> ?_) (fun h2=> ?_)
  ·conv=>whnf
   have h2':k<ms.length:=by simpa using h2
   obtain⟨m,hm⟩:=at_some h2';have hmm:=mG_ hm;refine .mk (k) (m.D) (rfl) (at_map hm) ?_;conv=>whnf
   conv=>whnf
   refine .mk (by kernel_rfl) ?_;conv=>whnf
   refine bs (fun h3=> ?_) (fun h3=> ?_)
   ·conv=>whnf
    refine .mk (by kernel_rfl) ?_;conv=>whnf
    have e3:m.r=m0.r:=by
     obtain⟨⟨a,b,c,d⟩,x⟩:=m;obtain⟨⟨a',b',c',d'⟩,x'⟩:=m0;simpa using h3
    refine .mk (k) (m.D) (rfl) (at_map hm) ?_;conv=>whnf
    conv=>whnf
    refine .c (lx_radd (.c cz) (.c ((hmb m hmm).mono (by omega)))) ?_;conv=>whnf
    refine .mk (by kernel_rfl) ?_;conv=>whnf
    exact⟨(k+1,c+m.c),Wk.go,hJ.next hm e3 (hmp m hmm) (hmb m hmm),by simp only;omega⟩
   ·conv=>whnf
    refine .mk (by kernel_rfl) ?_;conv=>whnf
    have e3:¬m.r=m0.r:=by
     obtain⟨⟨a,b,c,d⟩,x⟩:=m;obtain⟨⟨a',b',c',d'⟩,x'⟩:=m0;intro h;simp at h;simp[h]at h3
    have hlt:i<k:=by
     rcases Nat.lt_or_ge i k with h|h
     ·exact h
     ·exfalso;rw[show k=i by omega]at hm;rw[hm0]at hm;injection hm with hm;exact e3 (by rw[hm])
    have hn:=hI.next hsrt hJ hlt ⟨m0,hm0,rfl⟩ (fun x hx=>by rw[hm]at hx;injection hx with hx;rw[←hx];exact e3);refine .c (lx_rsign (.c cz)) ?_;conv=>whnf
    refine bs (fun h4=> ?_) (fun h4=> ?_)
    ·conv=>whnf
     rw[sg_gt]at h4;rw[if_pos (of_decide_eq_true h4)]at hn;refine .mk ((o++[(⟨m0.r,c⟩:Mu)]).map Mu.D) rfl (by rw[List.map_append];rfl) (by simp;omega) ?_;conv=>whnf
     exact⟨(k,o++[⟨m0.r,c⟩]),Wk.go,hn,by simp only;omega⟩
    ·conv=>whnf
     rw[sg_gt]at h4;rw[if_neg (of_decide_eq_false h4)]at hn;exact⟨(k,o),Wk.go,hn,by simp only;omega⟩
  ·conv=>whnf
   refine .mk (by kernel_rfl) ?_;conv=>whnf
   have e:k=ms.length:=by simp at h2;omega
   have hn:=hI.next hsrt hJ (by omega) ⟨m0,hm0,rfl⟩ (fun x hx=>by have:=at_lt hx;omega);refine .c (lx_rsign (.c cz)) ?_;conv=>whnf
   refine bs (fun h4=> ?_) (fun h4=> ?_)
   ·conv=>whnf
    rw[sg_gt]at h4;rw[if_pos (of_decide_eq_true h4)]at hn;refine .mk ((o++[(⟨m0.r,c⟩:Mu)]).map Mu.D) rfl (by rw[List.map_append];rfl) (by simp;omega) ?_;conv=>whnf
    exact⟨(k,o++[⟨m0.r,c⟩]),Wk.go,hn,by simp only;omega⟩
   ·conv=>whnf
    rw[sg_gt]at h4;rw[if_neg (of_decide_eq_false h4)]at hn;exact⟨(k,o),Wk.go,hn,by simp only;omega⟩
 ·conv=>whnf
  have e:i=ms.length:=by simp at h1;omega
  subst e;exact⟨_,_,⟨o,hfin o hI,rfl,rfl⟩,vR_ _,rfl,⟨⟨_,rfl,wke_refl _,rfl⟩,trivial⟩,rfl⟩
theorem pl_collect0 {K:Nat}:LX Tryz.prog 204 [.a (.d (musD []))] [] fun v H=>∃l',Col [] l' K∧v= .tup [.s (.own 0 7 (l'.map Mu.D)),.s (.d (.lit (.int .i64 0)))]∧H=oH l':=by
 refine LX_run (m:=0) (n0:=1) mix Tryz.func204 rfl rfl rfl rfl ?_;conv=>whnf
 refine .c (pl_cfM (l:=[]) (K:=0) (by simp) (fun m hm=>(by cases hm)) (by omega) (fun m hm=>(by cases hm))) ?_;conv=>whnf
 refine Cn.l [] pl_cloneM0 ?_;conv=>whnf
 refine .c (pl_sort0) ?_;conv=>whnf
 refine .mk Unit (fun _=>⟨[(6,vl (.int .i64 0)),(5,.a (.own 0 7 [])),(4,.a (.d (.sl 7 [])))],oH [],3⟩) (fun _=>True) (fun _=>0) ()
  (Wk.trans (Wk.own 5 0 195 7 rfl rfl (zL_ _)) (Wk.of (by refine⟨⟨_,rfl,vR_ _,rfl⟩,⟨_,rfl,vR_ _,rfl⟩,⟨_,rfl,fun _ _ _ _ _ k=>k.1,rfl⟩,trivial⟩) (by refine⟨⟨_,rfl,wke_refl _,rfl⟩,trivial⟩) rfl)) trivial fun _ _=> ?_
 conv=>whnf
 exact⟨_,_,⟨[],⟨⟨fun m hm=>(by cases hm),fun i a b h=>by simp at h⟩,fun φ=>rfl,fun m hm=>(by cases hm),fun m hm=>(by cases hm),lR_ _⟩,rfl,rfl⟩,vR_ _,rfl,⟨⟨_,rfl,wke_refl _,rfl⟩,trivial⟩,rfl⟩
theorem pl_collect {l:List Mu}{K:Nat}(hl:l.length≤19)(hb:MuB K l)(hk:K≤100000000)(hp:∀m∈l,0≤m.c):
  ∃l',Col l l' K∧LX Tryz.prog 204 [.a (.d (musD l))] [] fun v H=>v= .tup [.s (.own 0 7 (l'.map Mu.D)),.s (.d (.lit (.int .i64 0)))]∧H=oH l':=by
 cases l with
 |nil=>obtain⟨v,H,⟨l',h1,rfl,rfl⟩,hc⟩:=pl_collect0 (K:=K);exact⟨l',h1,_,_,⟨rfl,rfl⟩,hc⟩
 |cons x xs=>obtain⟨v,H,⟨l',h1,rfl,rfl⟩,hc⟩:=pl_collect1 (by simpa using hl) hb hk hp;exact⟨l',h1,_,_,⟨rfl,rfl⟩,hc⟩
theorem LX.ren0 {P:Program}{F:FuncId}{args:List V}{j:Nat}{t:TypeId}{ds:List D}{v:V}(hk:∀key∈keysV v,key=j)(hc:LX P F args [] fun v' H=>v'=v∧H=[(j,.box t (ds.map A.d))]):LX P F args [] fun v' H=>v'=renV (fun _=>0) v∧H=[(0,.box t (ds.map A.d))]:=by
 obtain⟨_,_,⟨rfl,rfl⟩,hc⟩:=hc;refine⟨_,_,⟨rfl,rfl⟩,fun γ M w rs hr ha=> ?_⟩;refine cM (hc γ M w rs hr ha) ?_;rintro e w' ⟨r,γ',M',h1,h2,h3,h4⟩
 have hl0:∀key e',look [(0,Ent.box t (ds.map A.d))] key=some e'→key=0∧e'= .box t (ds.map A.d):=fun key e' h=>by
  simp only[look]at h;split at h
  ·injection h with h;exact⟨by omega,h.symm⟩
  ·cases h
 have hlj:look [(j,Ent.box t (ds.map A.d))] j=some (.box t (ds.map A.d)):=by simp[look]
 have hl00:look [(0,Ent.box t (ds.map A.d))] 0=some (.box t (ds.map A.d)):=rfl
 have ho:∀key b i,Owns (fun _=>γ' j) (look [(0,Ent.box t (ds.map A.d))]) key b i→Owns γ' (look [(j,Ent.box t (ds.map A.d))]) j b i:=fun key b i h=>by
  unfold Owns at h
  cases h5:look [(0,Ent.box t (ds.map A.d))] key with
  |none=>rw[h5]at h;exact h.elim
  |some e'=>
   obtain⟨rfl,rfl⟩:=hl0 key e' h5;rw[h5]at h;simp only[Owns,hlj];exact h
 refine⟨r,fun _=>γ' j,M',h1,⟨fun key e' h=> ?_,fun key b i h=>h2.own j b i (ho key b i h),fun k1 k2 b l1 l2 _ _=> ?_,h2.u32,h2.dom,h2.glb⟩,?_,⟨h4.os,h4.tape,h4.output,h4.size,h4.fx,h4.other,h4.keep,fun key b i h hb=>h4.new j b i (ho key b i h) hb,fun key e h=>by simp[look]at h⟩⟩
 ·obtain⟨rfl,rfl⟩:=hl0 key e' h;obtain⟨g,vs,q1,q2,q3⟩:=h2.ent j _ hlj;exact⟨g,vs,q1,q2,all2_dd q3⟩
 ·cases h5:look [(0,Ent.box t (ds.map A.d))] k1 with
  |none=>rw[h5]at l1;cases l1
  |some e1=>
   cases h6:look [(0,Ent.box t (ds.map A.d))] k2 with
   |none=>rw[h6]at l2;cases l2
   |some e2=>rw[(hl0 _ _ h5).1,(hl0 _ _ h6).1]
 ·refine h3.ren fun key hkk=> ?_;obtain rfl:=hk key hkk;refine⟨rfl,?_,?_,?_,?_,?_⟩
  ·intro _;rfl
  ·intro h;rw[hlj]at h;cases h
  ·intro _;rfl
  ·intro e k n he;rw[hl00]at he;cases he
  ·intro e k n he;rw[hl00]at he;cases he
abbrev S0 (q:Qu)(ls:List Lm):Sp:=⟨q,[],ls⟩
abbrev vwA (q:Qu)(ls:List Lm):List A:=(S0 q ls).A++[.d (.sl 1 [])]
abbrev vwH (q:Qu)(ls:List Lm):List (Nat×Ent):=[(0,.box 248 (vwA q ls))]
structure LsI (ls:List Lm)(J:Nat):Prop where
 len:2*J≤ls.length
 top:ls.length≤2*J+1
 lo:∀j,j<J→∃v l,ls[2*j]? =some (mkL j false v l)
 hi:∀j,j<J→∃v l,ls[2*j+1]? =some (mkL j true v l)
 nx:∀m,ls[2*J]? =some m→m.u=J
theorem LsI.oth {ls:List Lm}{J:Nat}(h:LsI ls J){i j:Nat}{m:Lm}(hj:j<J)(hm:ls[i]? =some m)(h1:i≠2*j)(h2:i≠2*j+1):m.u≠j:=by
 have hlt:=(List.getElem?_eq_some_iff.1 hm).1;have htop:=h.top;rcases Nat.lt_or_ge i (2*J)with h3|h3
 ·rcases Nat.mod_two_eq_zero_or_one i with h4|h4
  ·obtain⟨v,l,e⟩:=h.lo (i/2) (by omega);rw[show 2*(i/2)=i by omega,hm]at e;injection e with e;subst e;show((i/2:Nat):Int)≠j;omega
  ·obtain⟨v,l,e⟩:=h.hi (i/2) (by omega);rw[show 2*(i/2)+1=i by omega,hm]at e;injection e with e;subst e;show((i/2:Nat):Int)≠j;omega
 ·rw[show i=2*J by omega]at hm;rw[h.nx m hm];omega
theorem LsI.best {ls:List Lm}{J j:Nat}(h:LsI ls J)(hj:j<J):∀i,i≤ls.length→bestTo ls j i=if i≤2*j then(0,0)else if i=2*j+1 then(2*(j:Int)+1,0)else(2*(j:Int)+1,2*(j:Int)+2)
 |0,_=>by simp[bestTo]
 |i+1,hi=>by
  obtain⟨m,hm⟩:=at_some (l:=ls) (i:=i) (by omega);rw[bestTo_succ hm,LsI.best h hj i (by omega)]
  by_cases e1:i=2*j
  ·subst e1;obtain⟨v,l,e⟩:=h.lo j hj;rw[hm]at e;injection e with e;subst e;rw[if_pos (lR_ _),if_neg (by omega),if_pos rfl];simp[bstep,mkL]
  ·by_cases e2:i=2*j+1
   ·subst e2;obtain⟨v,l,e⟩:=h.hi j hj;rw[hm]at e;injection e with e;subst e;rw[if_neg (by omega),if_pos rfl,if_neg (by omega),if_neg (by omega)];simp[bstep,mkL];omega
   ·have:=h.oth hj hm e1 e2;unfold bstep;rw[if_neg this]
    repeat' split
    all_goals first|rfl|omega
theorem LsI.bestS {q:Qu}{ls:List Lm}{J j:Nat}(h:LsI ls J)(hj:j<J):Lf.bestS (S0 q ls) j=(2*(j:Int)+1,2*(j:Int)+2):=by
 have hl:=h.len;show bestTo ls j ls.length=_;rw[h.best hj _ (lR_ _),if_neg (by omega),if_neg (by omega)]
def loV (ls:List Lm)(j:Nat):Rat:=vAt ls (2*(j:Int)+1)
def hiV (ls:List Lm)(j:Nat):Rat:=vAt ls (2*(j:Int)+2)
theorem LsI.loA {ls:List Lm}{J j:Nat}(h:LsI ls J)(hj:j<J):∃l,ls[2*j]? =some (mkL j false (loV ls j) l):=by
 obtain⟨v,l,e⟩:=h.lo j hj;refine⟨l,?_⟩;have:loV ls j=v:=by
  unfold loV vAt atL;rw[show(2*(j:Int)+1-1).toNat=2*j by omega,e];exact can_q v
 rw[this,e]
theorem LsI.hiA {ls:List Lm}{J j:Nat}(h:LsI ls J)(hj:j<J):∃l,ls[2*j+1]? =some (mkL j true (hiV ls j) l):=by
 obtain⟨v,l,e⟩:=h.hi j hj;refine⟨l,?_⟩;have:hiV ls j=v:=by
  unfold hiV vAt atL;rw[show(2*(j:Int)+2-1).toNat=2*j+1 by omega,e];exact can_q v
 rw[this,e]
theorem pl_valLo {q:Qu}{ls:List Lm}{J j:Nat}(h:LsI ls J)(hj:j<J)(hJ:J≤1000):LX Tryz.prog 214 [.a (.ptr 0 0),vl (.int .i64 (2*(j:Int)+1))] (vwH q ls) fun v H=>v=ratV (loV ls j)∧H=vwH q ls:=by
 obtain⟨l,e⟩:=h.loA hj;refine LX_run (m:=1) (n0:=1) mix Tryz.func214 rfl rfl rfl rfl ?_;conv=>whnf
 refine .mk (2*j) ((mkL j false (loV ls j) l).D) (by rw[wr64 (by omega) (by omega)];omega) (at_map e) ?_;conv=>whnf
 conv=>whnf
 exact⟨_,_,⟨rfl,rfl⟩,vR_ _,rfl,⟨⟨_,rfl,wke_refl _,rfl⟩,trivial⟩,rfl⟩
theorem pl_valHi {q:Qu}{ls:List Lm}{J j:Nat}(h:LsI ls J)(hj:j<J)(hJ:J≤1000):LX Tryz.prog 214 [.a (.ptr 0 0),vl (.int .i64 (2*(j:Int)+2))] (vwH q ls) fun v H=>v=ratV (hiV ls j)∧H=vwH q ls:=by
 obtain⟨l,e⟩:=h.hiA hj;refine LX_run (m:=1) (n0:=1) mix Tryz.func214 rfl rfl rfl rfl ?_;conv=>whnf
 refine .mk (2*j+1) ((mkL j true (hiV ls j) l).D) (by rw[wr64 (by omega) (by omega)];omega) (at_map e) ?_;conv=>whnf
 conv=>whnf
 exact⟨_,_,⟨rfl,rfl⟩,vR_ _,rfl,⟨⟨_,rfl,wke_refl _,rfl⟩,trivial⟩,rfl⟩
theorem pl_vdec {q:Qu}{ls:List Lm}{k u:Int}:LX Tryz.prog 213 [.a (.ptr 0 0),vl (.int .i64 k),vl (.int .i64 u)] (vwH q ls) fun v H=>v=vl (.bool false)∧H=vwH q ls:=by
 refine LX_run (m:=1) (n0:=1) mix Tryz.func213 rfl rfl rfl rfl ?_;conv=>whnf
 refine .mk Unit (fun _=>⟨[(15,vl (.int .i64 0)),(14,vl (.int .i64 0))],vwH q ls,1⟩) (fun _=>True) (fun _=>0) () Wk.go trivial fun _ _=> ?_;conv=>whnf
 exact⟨_,_,⟨rfl,rfl⟩,vR_ _,rfl,⟨⟨_,rfl,wke_refl _,rfl⟩,trivial⟩,rfl⟩
theorem pl_mult {r:Ro}{c:Rat}:LV Tryz.prog 203 [.agg r.A,.agg (can c).A] (.agg (Mu.A ⟨r,c⟩)):=by
 refine LX_run (m:=0) (n0:=0) mix Tryz.func203 rfl rfl rfl rfl ?_;conv=>whnf
 exact .q ⟨rfl,rfl⟩
theorem pl_look {q:Qu}{ls:List Lm}(hq:QuOk q):LX Tryz.prog 199 [.agg (S0 q ls).A] [] fun v H=>v= .tup [.s (.ptr 0 0),.s (.d (.lit (.bool true)))]∧H=vwH q ls:=by
 have c:LX Tryz.prog 199 [.agg (S0 q ls).A] [] fun v H=>v= .tup [.s (.ptr 1 0),.s (.d (.lit (.bool true)))]∧H=[(1,.box 248 (vwA q ls))]:=by
  refine LX_run (m:=0) (n0:=0) mix Tryz.func199 rfl rfl rfl rfl ?_;conv=>whnf
  refine .c (lx_quvalid hq) ?_;conv=>whnf
  refine .mk Unit (fun _=>⟨[(17,vl (.int .i64 0)),(16,vl (.int .i64 0)),(4,.a (.ptr 1 0))],[(1,.box 248 (vwA q ls))],2⟩) (fun _=>True) (fun _=>0) () Wk.go trivial fun _ _=> ?_;conv=>whnf
  exact⟨_,_,⟨rfl,rfl⟩,vR_ _,rfl,⟨⟨_,rfl,wke_refl _,rfl⟩,trivial⟩,rfl⟩
 exact LX.ren0 (v:= .tup [.s (.ptr 1 0),.s (.d (.lit (.bool true)))]) (ds:=[.lit (.int .i64 q.g.n),afsD q.g.us,afsD q.g.os,rqsD q.r.lo,rqsD q.r.hi,afsD q.r.rs,.sl 4 (q.goal.ts.map Tm.D),.lit (.bool (decide (q.goal.c<0))),.lm (limbs q.goal.c.num.natAbs),.lm (limbs (dn q.goal.c)),dcsD [],lmsD ls,.sl 1 []]) (by intro key hk;simp[keysV,keysW,keysA]at hk;exact hk) c
def inB (q:Qu)(x:Int)(up:Bool):Rat×List Mu:=if up=true then(atQ q.r.hi x,[⟨⟨2,x,0,0⟩,q1⟩])else(atQ q.r.lo x,[⟨⟨1,x,0,0⟩,q1⟩])
def lowB (ls:List Lm)(j:Nat):Rat×List Mu:=if 0<loV ls j then(loV ls j,[⟨⟨6,j,0,0⟩,q1⟩,⟨⟨11,j,2*(j:Int)+1,0⟩,q1⟩])else(0,[⟨⟨5,j,0,0⟩,q1⟩])
def highB (ls:List Lm)(j:Nat):Rat×List Mu:=if hiV ls j≤0 then(0,[⟨⟨10,j,0,2*(j:Int)+2⟩,q1⟩])else if 0≤loV ls j then(hiV ls j,[⟨⟨8,j,2*(j:Int)+1,0⟩,q1⟩,⟨⟨12,j,0,2*(j:Int)+2⟩,q1⟩])
 else(hiV ls j,[⟨⟨12,j,0,2*(j:Int)+2⟩,hiV ls j*(q1/(hiV ls j-loV ls j))⟩,⟨⟨13,j,2*(j:Int)+1,2*(j:Int)+2⟩,q1/(hiV ls j-loV ls j)⟩])
abbrev bndV (b:Rat×List Mu):V:= .tup [.g (can b.1).A,.s (.d (musD b.2)),.s (.d (.lit (.bool true)))]
theorem pl_vinput {q:Qu}{ls:List Lm}{x:Int}{up:Bool}(hq:QuB q)(h0:0≤x)(h1:x<q.g.n):LX Tryz.prog 205 [.a (.ptr 0 0),vl (.int .i64 x),vl (.bool up)] (vwH q ls) fun v H=>v=bndV (inB q x up)∧H=vwH q ls:=by
 have hlo:=hq.r.lo;have hhi:=hq.r.hi;have hx:=atQ_some (l:=q.r.lo) h0 (by omega);have hy:=atQ_some (l:=q.r.hi) h0 (by omega);unfold inB;generalize atQ q.r.lo x=lo at *
 generalize atQ q.r.hi x=hi at *
 cases up
 all_goals refine LX_run (m:=1) (n0:=1) mix Tryz.func205 rfl rfl rfl rfl ?_
           conv=>whnf
 all_goals refine .mk (x.toNat) ((can lo).D) (by omega) (at_map (f:=fun q=>(can q).D) hx) ?_
           conv=>whnf
 all_goals conv=>whnf
 ·refine .mk Unit (fun _=>⟨[(43,vl (.int .i64 0)),(42,vl (.int .i64 0)),(6,.a (.ptr 1 0)),(10,.a (.ptr 3 0)),(11,.a (.ptr 4 0))],[(0,.box 248 (vwA q ls)),(1,.box 34 (can 0).A),(3,.box 34 (can lo).A),(4,.box 193 (Ro.A ⟨1,x,0,0⟩))],5⟩) (fun _=>True) (fun _=>0) () (by rw[can0];exact Wk.go) trivial fun _ _=> ?_;conv=>whnf
  refine .c (lx_rofp) ?_;conv=>whnf
  refine .c (pl_mult (r:=⟨1,x,0,0⟩) (c:=q1)) ?_;conv=>whnf
  refine .mk (by kernel_rfl) ?_;conv=>whnf
  exact⟨_,_,⟨rfl,rfl⟩,stripV_ok _,rfl,⟨⟨_,rfl,wke_refl _,rfl⟩,trivial⟩,rfl⟩
 ·refine .mk (x.toNat) ((can hi).D) (by omega) (at_map (f:=fun q=>(can q).D) hy) ?_;conv=>whnf
  conv=>whnf
  refine .mk Unit (fun _=>⟨[(43,vl (.int .i64 0)),(42,vl (.int .i64 0)),(6,.a (.ptr 1 0)),(10,.a (.ptr 3 0)),(11,.a (.ptr 4 0))],[(0,.box 248 (vwA q ls)),(1,.box 34 (can 0).A),(3,.box 34 (can hi).A),(4,.box 193 (Ro.A ⟨2,x,0,0⟩))],5⟩) (fun _=>True) (fun _=>0) () (by rw[can0];exact Wk.go) trivial fun _ _=> ?_;conv=>whnf
  refine .c (lx_rofp) ?_;conv=>whnf
  refine .c (pl_mult (r:=⟨2,x,0,0⟩) (c:=q1)) ?_;conv=>whnf
  refine .mk (by kernel_rfl) ?_;conv=>whnf
  exact⟨_,_,⟨rfl,rfl⟩,stripV_ok _,rfl,⟨⟨_,rfl,wke_refl _,rfl⟩,trivial⟩,rfl⟩
theorem lx_bestj {q:Qu}{ls:List Lm}{J j:Nat}(hs:SpOk (S0 q ls))(h:LsI ls J)(hj:j<J):LV Tryz.prog 43 [.agg (S0 q ls).A,vl (.int .i64 j)] (.tup [.s (.d (.lit (.int .i64 (2*(j:Int)+1)))),.s (.d (.lit (.int .i64 (2*(j:Int)+2))))]):=by
 have:=lx_best (u:=(j:Int)) hs
 rwa [h.bestS hj]at this
theorem LsI.szlo {q:Qu}{ls:List Lm}{J j:Nat}(h:LsI ls J)(hs:SpOk (S0 q ls))(hj:j<J):Bt 300000000 (loV ls j):=atL_b hs.lb _
theorem LsI.szhi {q:Qu}{ls:List Lm}{J j:Nat}(h:LsI ls J)(hs:SpOk (S0 q ls))(hj:j<J):Bt 300000000 (hiV ls j):=atL_b hs.lb _
theorem sg_ge {q:Rat}:decide (q.num.sign≥0)=decide (0≤q):=by
 have:= @sg_lt q
 by_cases h:q<0
 ·rw[decide_eq_true h]at this;rw[decide_eq_false (Rat.not_le.2 h)];exact decide_eq_false (by have:=of_decide_eq_true this;omega)
 ·rw[decide_eq_false h]at this;rw[decide_eq_true (Rat.not_lt.1 h)];exact decide_eq_true (by have:=of_decide_eq_false this;omega)
theorem sg_le {q:Rat}:decide (q.num.sign≤0)=decide (q≤0):=by
 have:= @sg_gt q
 by_cases h:0<q
 ·rw[decide_eq_true h]at this;rw[decide_eq_false (Rat.not_le.2 h)];exact decide_eq_false (by have:=of_decide_eq_true this;omega)
 ·rw[decide_eq_false h]at this;rw[decide_eq_true (Rat.not_lt.1 h)];exact decide_eq_true (by have:=of_decide_eq_false this;omega)
theorem pl_vlow {q:Qu}{ls:List Lm}{J j:Nat}(hs:SpOk (S0 q ls))(h:LsI ls J)(hj:j<J)(hJ:J≤1000):LX Tryz.prog 207 [.a (.ptr 0 0),vl (.int .i64 j)] (vwH q ls) fun v H=>v=bndV (lowB ls j)∧H=vwH q ls:=by
 have bl:=h.szlo hs hj;have cv:=pl_valLo (q:=q) h hj hJ;unfold lowB;generalize loV ls j=lo at *
 have lz:Sz lo:=bl.mono (by decide);refine LX_run (m:=1) (n0:=1) mix Tryz.func207 rfl rfl rfl rfl ?_;conv=>whnf
 refine .c (lx_rofp) ?_;conv=>whnf
 refine .c (lx_bestj hs h hj) ?_;conv=>whnf
 refine bT (decide_eq_true (by omega)) ?_;conv=>whnf
 refine .l [0] (cv) ?_;conv=>whnf
 refine .c (lx_rsign (.c lz)) ?_;conv=>whnf
 refine bs (fun h1=> ?_) (fun h1=> ?_)
 ·conv=>whnf
  rw[sg_gt]at h1;rw[if_pos (of_decide_eq_true h1)];refine .l [0] (cv) ?_;conv=>whnf
  refine .c (pl_mult (r:=⟨6,j,0,0⟩) (c:=q1)) ?_;conv=>whnf
  refine .c (pl_mult (r:=⟨11,j,2*(j:Int)+1,0⟩) (c:=q1)) ?_;conv=>whnf
  refine .mk (by kernel_rfl) ?_;conv=>whnf
  exact⟨_,_,⟨rfl,rfl⟩,stripV_ok _,rfl,⟨⟨_,rfl,wke_refl _,rfl⟩,trivial⟩,rfl⟩
 ·conv=>whnf
  rw[sg_gt]at h1;rw[if_neg (of_decide_eq_false h1)];refine .c (pl_mult (r:=⟨5,j,0,0⟩) (c:=q1)) ?_;conv=>whnf
  exact⟨_,_,⟨by show _=V.tup [.g (can 0).A,_,_];rw[can0];rfl,rfl⟩,stripV_ok _,rfl,⟨⟨_,rfl,wke_refl _,rfl⟩,trivial⟩,rfl⟩
theorem pl_vhigh {q:Qu}{ls:List Lm}{J j:Nat}(hs:SpOk (S0 q ls))(h:LsI ls J)(hj:j<J)(hJ:J≤1000):LX Tryz.prog 206 [.a (.ptr 0 0),vl (.int .i64 j)] (vwH q ls) fun v H=>v=bndV (highB ls j)∧H=vwH q ls:=by
 have bl:=h.szlo hs hj;have bh:=h.szhi hs hj;have cl:=pl_valLo (q:=q) h hj hJ;have ch:=pl_valHi (q:=q) h hj hJ;unfold highB;generalize loV ls j=lo at *
 generalize hiV ls j=hi at *
 have lz:Sz lo:=bl.mono (by decide);have hz:Sz hi:=bh.mono (by decide);refine LX_run (m:=1) (n0:=1) mix Tryz.func206 rfl rfl rfl rfl ?_;conv=>whnf
 refine .c (lx_rofp) ?_;conv=>whnf
 refine .c (lx_bestj hs h hj) ?_;conv=>whnf
 refine .l [0] (pl_vdec) ?_;conv=>whnf
 refine .l [0] (pl_vdec) ?_;conv=>whnf
 refine bT (decide_eq_true (by omega)) ?_;conv=>whnf
 refine .l [0] (ch) ?_;conv=>whnf
 refine .c (lx_rsign (.c hz)) ?_;conv=>whnf
 refine bs (fun h1=> ?_) (fun h1=> ?_)
 ·conv=>whnf
  rw[sg_le]at h1;rw[if_pos (of_decide_eq_true h1)];refine .c (pl_mult (r:=⟨10,j,0,2*(j:Int)+2⟩) (c:=q1)) ?_;conv=>whnf
  exact⟨_,_,⟨by show _=V.tup [.g (can 0).A,_,_];rw[can0];rfl,rfl⟩,stripV_ok _,rfl,⟨⟨_,rfl,wke_refl _,rfl⟩,trivial⟩,rfl⟩
 ·conv=>whnf
  rw[sg_le]at h1;rw[if_neg (of_decide_eq_false h1)];refine .l [0] (ch) ?_;conv=>whnf
  refine bT (decide_eq_true (by omega)) ?_;conv=>whnf
  refine .l [0] (cl) ?_;conv=>whnf
  refine .c (lx_rsign (.c lz)) ?_;conv=>whnf
  refine bs (fun h2=> ?_) (fun h2=> ?_)
  ·conv=>whnf
   rw[sg_ge]at h2;rw[if_pos (of_decide_eq_true h2)];refine .c (pl_mult (r:=⟨8,j,2*(j:Int)+1,0⟩) (c:=q1)) ?_;conv=>whnf
   refine .c (pl_mult (r:=⟨12,j,0,2*(j:Int)+2⟩) (c:=q1)) ?_;conv=>whnf
   refine .mk (by kernel_rfl) ?_;conv=>whnf
   exact⟨_,_,⟨rfl,rfl⟩,stripV_ok _,rfl,⟨⟨_,rfl,wke_refl _,rfl⟩,trivial⟩,rfl⟩
  ·conv=>whnf
   rw[sg_ge]at h2;have h2':=of_decide_eq_false h2;rw[if_neg h2'];refine .l [0] (cl) ?_;conv=>whnf
   have hne:hi-lo≠0:=by
    have a1:=of_decide_eq_false h1;grind
   have bd:=q1_b.div (bh.sub bl) hne;refine .c (lx_rsub (.c hz) (.c lz)) ?_;conv=>whnf
   refine .c (lx_rdiv hne (.c q1_z) (.c ((bh.sub bl).mono (by decide)))) ?_;conv=>whnf
   refine .mk (by kernel_rfl) ?_;conv=>whnf
   refine .c (lx_rmul (.c hz) (.c (bd.mono (by decide)))) ?_;conv=>whnf
   refine .c (pl_mult (r:=⟨12,j,0,2*(j:Int)+2⟩) (c:=hi*(q1/(hi-lo)))) ?_;conv=>whnf
   refine .c (pl_mult (r:=⟨13,j,2*(j:Int)+1,2*(j:Int)+2⟩) (c:=q1/(hi-lo))) ?_;conv=>whnf
   refine .mk (by kernel_rfl) ?_;conv=>whnf
   exact⟨_,_,⟨rfl,rfl⟩,stripV_ok _,rfl,⟨⟨_,rfl,wke_refl _,rfl⟩,trivial⟩,rfl⟩
def bndB (q:Qu)(ls:List Lm)(x:Int)(up:Bool):Rat×List Mu:=if x<q.g.n then inB q x up else if up=true then highB ls (x-q.g.n).toNat else lowB ls (x-q.g.n).toNat
theorem pl_vbound {q:Qu}{ls:List Lm}{J:Nat}{x:Int}{up:Bool}(hs:SpOk (S0 q ls))(hq:QuB q)(h:LsI ls J)(h0:0≤x)(h1:x<q.g.n+J)(hJ:J≤1000):LX Tryz.prog 201 [.a (.ptr 0 0),vl (.int .i64 x),vl (.bool up)] (vwH q ls) fun v H=>v=bndV (bndB q ls x up)∧H=vwH q ls:=by
 have hn2:=hs.q.g.n2;simp only at hn2;have hw:IntKind.i64.wrap (x-(q.g.n:Int))=x-q.g.n:=wr64 (by omega) (by omega);unfold bndB
 by_cases hx:x<q.g.n
 ·rw[if_pos hx];have ci:=fun up=>pl_vinput (ls:=ls) (up:=up) hq h0 hx
  cases up
  all_goals refine LX_run (m:=1) (n0:=1) mix Tryz.func201 rfl rfl rfl rfl ?_
            conv=>whnf
  all_goals rw[hw]
  all_goals refine bT (decide_eq_true (by omega)) ?_
            conv=>whnf
  ·refine .l [0] (ci false) ?_;conv=>whnf
   exact⟨_,_,⟨rfl,rfl⟩,vR_ _,rfl,⟨⟨_,rfl,wke_refl _,rfl⟩,trivial⟩,rfl⟩
  ·refine .l [0] (ci true) ?_;conv=>whnf
   exact⟨_,_,⟨rfl,rfl⟩,vR_ _,rfl,⟨⟨_,rfl,wke_refl _,rfl⟩,trivial⟩,rfl⟩
 ·rw[if_neg hx];obtain⟨j,hj⟩:∃j:Nat,x-q.g.n=j:=⟨(x-q.g.n).toNat,by omega⟩;have e:(x-(q.g.n:Int)).toNat=j:=by omega
  rw[e]
  cases up
  all_goals refine LX_run (m:=1) (n0:=1) mix Tryz.func201 rfl rfl rfl rfl ?_
            conv=>whnf
  all_goals rw[hw,hj]
  all_goals conv=>whnf
  ·rw[if_neg (by simp)];refine .l [0] (pl_vlow hs h (j:=j) (by omega) hJ) ?_;conv=>whnf
   exact⟨_,_,⟨rfl,rfl⟩,vR_ _,rfl,⟨⟨_,rfl,wke_refl _,rfl⟩,trivial⟩,rfl⟩
  ·rw[if_pos rfl];refine .l [0] (pl_vhigh hs h (j:=j) (by omega) hJ) ?_;conv=>whnf
   exact⟨_,_,⟨rfl,rfl⟩,vR_ _,rfl,⟨⟨_,rfl,wke_refl _,rfl⟩,trivial⟩,rfl⟩
def LsV (ls:List Lm)(J B:Nat):Prop:=∀j,j<J→Bt B (loV ls j)∧Bt B (hiV ls j)
structure BnOk (q:Qu)(x:Int)(B:Nat)(b:Rat×List Mu):Prop where
 v:Bt (B+11) b.1
 mu:MuB (3*B+1) b.2
 len:b.2.length≤2
 one:x<q.g.n→b.2.length≤1
 nn:∀m∈b.2,0≤m.c
theorem mubA {K:Nat}{a:Mu}(ha:Bt K a.c):MuB K [a]:=fun m hm=>by rw[List.mem_singleton.1 hm];exact ha
theorem mubC {K:Nat}{a b:Mu}(ha:Bt K a.c)(hb:Bt K b.c):MuB K [a,b]:=fun m hm=>by
 rcases List.mem_cons.1 hm with h|h
 ·rw[h];exact ha
 ·rw[List.mem_singleton.1 h];exact hb
theorem q1_pos:(0:Rat)≤q1:=by decide
theorem nnA {a:Mu}(ha:0≤a.c):∀m∈[a],0≤m.c:=fun m hm=>by rw[List.mem_singleton.1 hm];exact ha
theorem nnC {a b:Mu}(ha:0≤a.c)(hb:0≤b.c):∀m∈[a,b],0≤m.c:=fun m hm=>by
 rcases List.mem_cons.1 hm with h|h
 ·rw[h];exact ha
 ·rw[List.mem_singleton.1 h];exact hb
theorem part_nn {lo hi:Rat}(h1:¬hi≤0)(h2:¬0≤lo):0<hi-lo∧0≤q1/(hi-lo)∧0≤hi*(q1/(hi-lo)):=by
 have h3:0<hi-lo:=by grind
 have h4:0≤q1/(hi-lo):=by rw[Rat.div_def];exact Rat.mul_nonneg q1_pos (Rat.le_of_lt (Rat.inv_pos.2 h3))
 exact⟨h3,h4,Rat.mul_nonneg (by grind) h4⟩
theorem bnd_ok {q:Qu}{ls:List Lm}{J B:Nat}{x:Int}{up:Bool}(hq:QuB q)(hv:LsV ls J B)(h0:0≤x)(h1:x<q.g.n+J):BnOk q x B (bndB q ls x up):=by
 unfold bndB;have hlo:=hq.r.lo;have hhi:=hq.r.hi;have o1:Bt (3*B+1) q1:=q1_b.mono (by omega)
 by_cases hx:x<q.g.n
 ·rw[if_pos hx];have e1:=atQ_some (l:=q.r.lo) h0 (by omega);have e2:=atQ_some (l:=q.r.hi) h0 (by omega);unfold inB;split
  ·exact⟨(hq.r.sh _ (mG_ e2)).mono (by omega),mubA o1,by simp,fun _=>by simp,nnA q1_pos⟩
  ·exact⟨(hq.r.sl _ (mG_ e1)).mono (by omega),mubA o1,by simp,fun _=>by simp,nnA q1_pos⟩
 ·rw[if_neg hx];obtain⟨j,hj⟩:∃j:Nat,x-q.g.n=j:=⟨(x-q.g.n).toNat,by omega⟩;have e:(x-(q.g.n:Int)).toNat=j:=by omega
  rw[e];obtain⟨bl,bh⟩:=hv j (by omega);split
  ·unfold highB;split
   ·exact⟨bt0 _,mubA o1,by simp,fun h=>by omega,nnA q1_pos⟩
   ·rename_i c1;split
    ·exact⟨bh.mono (by omega),mubC o1 o1,by simp,fun h=>by omega,nnC q1_pos q1_pos⟩
    ·rename_i c2;obtain⟨p1,p2,p3⟩:=part_nn c1 c2;have bd:=q1_b.div (bh.sub bl) (by grind);exact⟨bh.mono (by omega),mubC ((bh.mul bd).mono (by omega)) (bd.mono (by omega)),by simp,fun h=>by omega,nnC p3 p2⟩
  ·unfold lowB;split
   ·exact⟨bl.mono (by omega),mubC o1 o1,by simp,fun h=>by omega,nnC q1_pos q1_pos⟩
   ·exact⟨bt0 _,mubA o1,by simp,fun h=>by omega,nnA q1_pos⟩
def tmB (q:Qu)(ls:List Lm)(t:Tm):Rat×List Mu:=bndB q ls t.v (decide (t.q<0))
def tmL (q:Qu)(ls:List Lm)(t:Tm):List Mu:=(tmB q ls t).2.map fun m=>⟨m.r,rabs t.q*m.c⟩
def bxV (q:Qu)(ls:List Lm)(f:Af)(i:Nat):Rat:=(f.ts.take i).foldl (fun a t=>a+t.q*(tmB q ls t).1) f.c
def bxM (q:Qu)(ls:List Lm)(f:Af)(i:Nat):List Mu:=(f.ts.take i).flatMap (tmL q ls)
theorem bxV_succ {q:Qu}{ls:List Lm}{f:Af}{i:Nat}{t:Tm}(h:f.ts[i]? =some t):bxV q ls f (i+1)=bxV q ls f i+t.q*(tmB q ls t).1:=by
 unfold bxV;rw[take_snoc h,List.foldl_append];rfl
theorem bxM_succ {q:Qu}{ls:List Lm}{f:Af}{i:Nat}{t:Tm}(h:f.ts[i]? =some t):bxM q ls f (i+1)=bxM q ls f i++tmL q ls t:=by
 unfold bxM;rw[take_snoc h,List.flatMap_append];simp
theorem rabs_nn (q:Rat):0≤rabs q:=by unfold rabs;split<;>grind
theorem tmL_ok {q:Qu}{ls:List Lm}{J B k:Nat}{t:Tm}(hq:QuB q)(hv:LsV ls J B)(h0:0≤t.v)(h1:t.v<q.g.n+J)(ht:Bt k t.q):MuB (k+3*B+1) (tmL q ls t)∧(tmL q ls t).length≤2∧(t.v<q.g.n→(tmL q ls t).length≤1)∧∀m∈tmL q ls t,0≤m.c:=by
 have h:=bnd_ok (up:=decide (t.q<0)) hq hv h0 h1;refine⟨fun m hm=> ?_,by rw[tmL,List.length_map];exact h.len,fun hx=>by rw[tmL,List.length_map];exact h.one hx,fun m hm=> ?_⟩
 ·obtain⟨a,ha,rfl⟩:=List.mem_map.1 hm;exact(ht.rabs.mul (h.mu a ha)).mono (by omega)
 ·obtain⟨a,ha,rfl⟩:=List.mem_map.1 hm;exact Rat.mul_nonneg (rabs_nn _) (h.nn a ha)
theorem bxM_ok {q:Qu}{ls:List Lm}{J B k:Nat}{f:Af}(hq:QuB q)(hv:LsV ls J B)(hf:FB k (q.g.n+J:Nat) f):∀i,i≤f.ts.length→MuB (k+3*B+1) (bxM q ls f i)∧(bxM q ls f i).length≤2*i∧((∀t∈f.ts,t.v<q.g.n)→(bxM q ls f i).length≤i)∧∀m∈bxM q ls f i,0≤m.c
 |0,_=>⟨fun m hm=>(by simp[bxM]at hm),by simp[bxM],fun _=>by simp[bxM],fun m hm=>(by simp[bxM]at hm)⟩
 |i+1,hi=>by
  obtain⟨t,ht⟩:=at_some (l:=f.ts) (i:=i) (by omega);have htm:=mG_ ht;obtain⟨a1,a2,a3,a4⟩:=bxM_ok hq hv hf i (by omega);obtain⟨t1,t2,t3,t4⟩:=hf.tm t htm;obtain⟨b1,b2,b3,b4⟩:=tmL_ok hq hv t1 (by omega) t4;rw[bxM_succ ht];refine⟨fun m hm=> ?_,by rw[List.length_append];omega,fun h=>by rw[List.length_append];have:=a3 h;have:=b3 (h t htm);omega,fun m hm=> ?_⟩
  ·rcases List.mem_append.1 hm with hm|hm
   ·exact a1 m hm
   ·exact b1 m hm
  ·rcases List.mem_append.1 hm with hm|hm
   ·exact a4 m hm
   ·exact b4 m hm
theorem bxV_ok {q:Qu}{ls:List Lm}{J B k:Nat}{f:Af}(hq:QuB q)(hv:LsV ls J B)(hf:FB k (q.g.n+J:Nat) f):∀i,i≤f.ts.length→Bt (k+i*(k+B+12)) (bxV q ls f i)
 |0,_=>hf.c.mono (by omega)
 |i+1,hi=>by
  obtain⟨t,ht⟩:=at_some (l:=f.ts) (i:=i) (by omega);obtain⟨t1,t2,t3,t4⟩:=hf.tm t (mG_ ht);have h:=bnd_ok (up:=decide (t.q<0)) hq hv t1 (by omega);rw[bxV_succ ht,Nat.add_mul,Nat.one_mul];exact((bxV_ok hq hv hf i (by omega)).add (t4.mul h.v)).mono (by omega)
theorem pl_rabs {q:Rat}{k:Nat}(h:Bt k q)(hk:k≤1000000000):LV Tryz.prog 202 [ratV q,ratV (-q)] (ratV (rabs q)):=by
 have e:rabs q=if -q≤q then q else -q:=by
  unfold rabs;split<;>split<;>grind
 rw[e];exact lx_rmax (.c (h.mono (by omega))) (.c (h.neg.mono (by omega)))
theorem pl_blower {q:Qu}{ls:List Lm}{J B k:Nat}{f:Af}(hs:SpOk (S0 q ls))(hq:QuB q)(h:LsI ls J)(hv:LsV ls J B)(hJ:J<q.g.us.length)(hf:FB k (q.g.n+J:Nat) f)(hB:B≤700000)(hk:k≤30000000):
  ∃l',Col (bxM q ls f f.ts.length) l' (k+3*B+1)∧LV Tryz.prog 197 [.agg [],.agg (S0 q ls).A,.agg f.A] (.tup [.g (can (bxV q ls f f.ts.length)).A,.s (.d (musD l')),.s (.d (.lit (.bool true)))]):=by
 have hn3:=hq.g.n2;have hu4:=hq.g.u1;have hlen:=hf.ts.len (by omega);have hfl:f.ts.length≤3+J:=by omega
 obtain⟨f1,f2,_,f4⟩:=bxM_ok hq hv hf f.ts.length (lR_ _);obtain⟨l',hc,cc⟩:=pl_collect (l:=bxM q ls f f.ts.length) (K:=k+3*B+1) (by omega) f1 (by omega) f4;refine⟨l',hc,?_⟩;refine LX_run (m:=0) (n0:=0) mix Tryz.func197 rfl rfl rfl rfl ?_;conv=>whnf
 refine Cn.l [] (pl_look hs.q) ?_;conv=>whnf
 refine .c (lx_gvars hs.q.g) ?_;conv=>whnf
 refine .c (lx_lvalid ((hf.up (n':=((q.g.n+q.g.us.length:Nat):Int)) (lR_ _) (by omega)).ok (by omega) (by omega) (by omega))) ?_;conv=>whnf
 refine .mk (by kernel_rfl) ?_;conv=>whnf
 have hML:∀i,i≤f.ts.length→(bxM q ls f i).length≤14:=fun i hi=>by have:=(bxM_ok hq hv hf i hi).2.1;omega
 refine .mk Nat (fun i=>⟨[(43,vl (.int .i64 i)),(42,vl (.int .i64 (f.ts.map Tm.D).length)),(41,.a (.d (.sl 4 (f.ts.map Tm.D)))),(12,.a (.own 6 7 ((bxM q ls f i).map Mu.D))),(11,.a (.ptr 5 0)),(9,.a (.ptr 4 0)),(6,.a (.ptr 3 0))],
  [(3,.box 34 [.d (.lit (.bool false)),.d (.nat 0),.d (.nat 0)]),(4,.box 248 (vwA q ls)),(5,.box 34 (can (bxV q ls f i)).A),(6,.arr 195 7 ((bxM q ls f i).map Mu.D).length)],7⟩)
  (fun i=>i≤f.ts.length) (fun i=>f.ts.length-i) 0 (Wk.trans (Wk.own 12 6 195 7 rfl rfl (zL_ _)) Wk.go) (zL_ _) fun i hi=> ?_
 have hMi:=hML i hi;have xb:=bxV_ok hq hv hf i hi;have hkx:i*(k+B+12)≤6*(k+B+12):=Nat.mul_le_mul_right _ (by omega);conv=>whnf
 refine bs (fun h1=> ?_) (fun h1=> ?_)
 ·conv=>whnf
  have h1':i<f.ts.length:=by simpa using h1
  obtain⟨t,ht⟩:=at_some h1';obtain⟨t1,t2,t3,t4⟩:=hf.tm t (mG_ ht);have eV:=bxV_succ (q:=q) (ls:=ls) ht;have eM:=bxM_succ (q:=q) (ls:=ls) ht;have hbo:=bnd_ok (up:=decide (t.q<0)) hq hv t1 (by omega);have cb:=fun up=>pl_vbound (x:=t.v) (up:=up) hs hq h t1 (by omega) (by omega);have tz:Sz t.q:=t4.mono (by omega);have nz:Sz (-t.q):=Bt.neg tz;rw[tmB]at eV;rw[tmL,tmB]at eM;refine .mk (i) (t.D) (rfl) (at_map ht) ?_;conv=>whnf
  conv=>whnf
  refine .c (lx_rsign (.c tz)) ?_;conv=>whnf
  rw[sg_lt];rcases hup:decide (t.q<0)with _|_
  all_goals rw[hup]at eV eM hbo
  all_goals conv=>whnf
  ·refine .l [4] (cb false) ?_;conv=>whnf
   refine .mk (by kernel_rfl) ?_;conv=>whnf
   refine .c (lx_rmul (.c tz) (.c (hbo.v.mono (by omega)))) ?_;conv=>whnf
   refine .c (lx_radd (.c (xb.mono (by omega))) (.c ((t4.mul hbo.v).mono (by omega)))) ?_;conv=>whnf
   refine .mk (by kernel_rfl) ?_;conv=>whnf
   refine .c (lx_rneg (.c tz)) ?_;conv=>whnf
   refine .c (pl_rabs t4 (by omega)) ?_;conv=>whnf
   refine .mk (by kernel_rfl) ?_;conv=>whnf
   generalize hbd:bndB q ls t.v false=bb at *
   obtain⟨bv,bl⟩:=bb;simp only at eV eM hbo;have hbl:=hbo.len;simp only at hbl
   obtain⟨md,md0,mdS,mdL,mdN⟩:∃md:Nat→List Mu,md 0=bxM q ls f i∧(∀m z,bl[m]? =some z→md (m+1)=md m++[⟨z.r,rabs t.q*z.c⟩])∧md bl.length=bxM q ls f i++bl.map (fun m=>⟨m.r,rabs t.q*m.c⟩)∧∀m,(md m).length≤20:=
    ⟨fun m=>bxM q ls f i++(bl.take m).map fun m=>⟨m.r,rabs t.q*m.c⟩,by simp,fun m z hz=>by simp only[take_snoc hz,List.map_append,List.append_assoc];rfl,by simp only[List.take_length],fun m=>by simp only[List.length_append,List.length_map,List.length_take];omega⟩
   refine .mk Nat (fun m=>⟨[(76,vl (.int .i64 m)),(75,vl (.int .i64 (bl.map Mu.D).length)),(74,.a (.d (musD bl))),(18,.a (.ptr 10 0)),(43,vl (.int .i64 i)),(42,vl (.int .i64 (f.ts.map Tm.D).length)),(41,.a (.d (.sl 4 (f.ts.map Tm.D)))),(12,.a (.own 6 7 ((md m).map Mu.D))),(11,.a (.ptr 5 0)),(9,.a (.ptr 4 0)),(6,.a (.ptr 3 0))],
    [(3,.box 34 [.d (.lit (.bool false)),.d (.nat 0),.d (.nat 0)]),(4,.box 248 (vwA q ls)),(5,.box 34 (can (bxV q ls f i+t.q*bv)).A),(10,.box 34 (can (rabs t.q)).A),(6,.arr 195 7 ((md m).map Mu.D).length)],11⟩)
    (fun m=>m≤bl.length) (fun m=>bl.length-m) 0 (by dsimp only;rw[md0];exact Wk.go) (zL_ _) fun m hm=> ?_
   conv=>whnf
   refine bs (fun h2=> ?_) (fun h2=> ?_)
   ·conv=>whnf
    have h2':m<bl.length:=by simpa using h2
    obtain⟨z,hz⟩:=at_some h2';have zb:=hbo.mu z (mG_ hz);refine .mk (m) (z.D) (rfl) (at_map hz) ?_;conv=>whnf
    conv=>whnf
    refine .c (lx_rmul (.c (t4.rabs.mono (by omega))) (.c (zb.mono (by omega)))) ?_;conv=>whnf
    refine .c (pl_mult (r:=z.r) (c:=rabs t.q*z.c)) ?_;conv=>whnf
    refine .mk ((md (m+1)).map Mu.D) rfl (by rw[mdS m z hz,List.map_append];rfl) (by rw[List.length_map];have:=mdN (m+1);omega) ?_;conv=>whnf
    refine .mk (by kernel_rfl) ?_;conv=>whnf
    exact⟨m+1,Wk.go,h2',by omega⟩
   ·conv=>whnf
    have e2:m=bl.length:=by simp at h2;omega
    subst e2;exact⟨i+1,by rw[eV,eM,←mdL];exact Wk.go,h1',by omega⟩
  ·refine .l [4] (cb true) ?_;conv=>whnf
   refine .mk (by kernel_rfl) ?_;conv=>whnf
   refine .c (lx_rmul (.c tz) (.c (hbo.v.mono (by omega)))) ?_;conv=>whnf
   refine .c (lx_radd (.c (xb.mono (by omega))) (.c ((t4.mul hbo.v).mono (by omega)))) ?_;conv=>whnf
   refine .mk (by kernel_rfl) ?_;conv=>whnf
   refine .c (lx_rneg (.c tz)) ?_;conv=>whnf
   refine .c (pl_rabs t4 (by omega)) ?_;conv=>whnf
   refine .mk (by kernel_rfl) ?_;conv=>whnf
   generalize hbd:bndB q ls t.v true=bb at *
   obtain⟨bv,bl⟩:=bb;simp only at eV eM hbo;have hbl:=hbo.len;simp only at hbl
   obtain⟨md,md0,mdS,mdL,mdN⟩:∃md:Nat→List Mu,md 0=bxM q ls f i∧(∀m z,bl[m]? =some z→md (m+1)=md m++[⟨z.r,rabs t.q*z.c⟩])∧md bl.length=bxM q ls f i++bl.map (fun m=>⟨m.r,rabs t.q*m.c⟩)∧∀m,(md m).length≤20:=
    ⟨fun m=>bxM q ls f i++(bl.take m).map fun m=>⟨m.r,rabs t.q*m.c⟩,by simp,fun m z hz=>by simp only[take_snoc hz,List.map_append,List.append_assoc];rfl,by simp only[List.take_length],fun m=>by simp only[List.length_append,List.length_map,List.length_take];omega⟩
   refine .mk Nat (fun m=>⟨[(76,vl (.int .i64 m)),(75,vl (.int .i64 (bl.map Mu.D).length)),(74,.a (.d (musD bl))),(18,.a (.ptr 10 0)),(43,vl (.int .i64 i)),(42,vl (.int .i64 (f.ts.map Tm.D).length)),(41,.a (.d (.sl 4 (f.ts.map Tm.D)))),(12,.a (.own 6 7 ((md m).map Mu.D))),(11,.a (.ptr 5 0)),(9,.a (.ptr 4 0)),(6,.a (.ptr 3 0))],
    [(3,.box 34 [.d (.lit (.bool false)),.d (.nat 0),.d (.nat 0)]),(4,.box 248 (vwA q ls)),(5,.box 34 (can (bxV q ls f i+t.q*bv)).A),(10,.box 34 (can (rabs t.q)).A),(6,.arr 195 7 ((md m).map Mu.D).length)],11⟩)
    (fun m=>m≤bl.length) (fun m=>bl.length-m) 0 (by dsimp only;rw[md0];exact Wk.go) (zL_ _) fun m hm=> ?_
   conv=>whnf
   refine bs (fun h2=> ?_) (fun h2=> ?_)
   ·conv=>whnf
    have h2':m<bl.length:=by simpa using h2
    obtain⟨z,hz⟩:=at_some h2';have zb:=hbo.mu z (mG_ hz);refine .mk (m) (z.D) (rfl) (at_map hz) ?_;conv=>whnf
    conv=>whnf
    refine .c (lx_rmul (.c (t4.rabs.mono (by omega))) (.c (zb.mono (by omega)))) ?_;conv=>whnf
    refine .c (pl_mult (r:=z.r) (c:=rabs t.q*z.c)) ?_;conv=>whnf
    refine .mk ((md (m+1)).map Mu.D) rfl (by rw[mdS m z hz,List.map_append];rfl) (by rw[List.length_map];have:=mdN (m+1);omega) ?_;conv=>whnf
    refine .mk (by kernel_rfl) ?_;conv=>whnf
    exact⟨m+1,Wk.go,h2',by omega⟩
   ·conv=>whnf
    have e2:m=bl.length:=by simp at h2;omega
    subst e2;exact⟨i+1,by rw[eV,eM,←mdL];exact Wk.go,h1',by omega⟩
 ·conv=>whnf
  have e:i=f.ts.length:=by simp at h1;omega
  subst e;refine Cn.l [] cc ?_;conv=>whnf
  exact .s ⟨rfl,rfl⟩
theorem pl_sdec {q:Qu}{ls:List Lm}{k u:Int}:LV Tryz.prog 229 [.agg (S0 q ls).A,vl (.int .i64 k),vl (.int .i64 u)] (vl (.bool false)):=by
 refine LX_run (m:=0) (n0:=0) mix Tryz.func229 rfl rfl rfl rfl ?_;conv=>whnf
 refine .mk Unit (fun _=>⟨[(12,vl (.int .i64 0)),(11,vl (.int .i64 0))],[],0⟩) (fun _=>True) (fun _=>0) () Wk.go trivial fun _ _=> ?_;conv=>whnf
 exact .q ⟨rfl,rfl⟩
def slW (l u:Rat):Bool:=unB l u&&decide (0<l+u)
theorem pl_unst {l u:Rat}(hl:Sz l)(hu:Sz u):LV Tryz.prog 232 [ratV l,ratV u] (vl (.bool (unB l u))):=by
 have:=lx_unstable (x:=can l) (y:=can u) hl.sm hu.sm
 rwa [can_q,can_q]at this
theorem pl_slope {l u:Rat}(hl:Sz l)(hu:Sz u):LV Tryz.prog 230 [ratV l,ratV u] (vl (.int .i64 (if slW l u=true then 1 else 0))):=by
 have e:decide (cmpQ u (-l)>0)=decide (0<l+u):=by
  rw[cmp_gt];exact decide_eq_decide.2 ⟨fun h=>by grind,fun h=>by grind⟩
 refine LX_run (m:=0) (n0:=0) mix Tryz.func230 rfl rfl rfl rfl ?_;conv=>whnf
 refine .c (pl_unst hl hu) ?_;conv=>whnf
 refine bs (fun h=> ?_) (fun h=> ?_)
 ·conv=>whnf
  refine .c (lx_rneg (.c hl)) ?_;conv=>whnf
  refine .c (lx_rcmp (.c hu) (.c (Bt.neg hl))) ?_;conv=>whnf
  rw[e];refine bs (fun h2=> ?_) (fun h2=> ?_)
  ·conv=>whnf
   refine .mk (by kernel_rfl) ?_;conv=>whnf
   exact .q ⟨by rw[slW,h,h2];rfl,rfl⟩
  ·conv=>whnf
   refine .mk (by kernel_rfl) ?_;conv=>whnf
   exact .q ⟨by rw[slW,h,h2];rfl,rfl⟩
 ·conv=>whnf
  refine .mk (by kernel_rfl) ?_;conv=>whnf
  exact .q ⟨by rw[slW,h];rfl,rfl⟩
theorem pl_gap {l u:Rat}(bl:Bt 300000000 l)(bu:Bt 300000000 u):LV Tryz.prog 234 [ratV l,ratV u] (ratV (gapQ l u)):=by
 have:=lx_gap (x:=can l) (y:=can u) (Sz.sm (bl.mono (by decide))) (Sz.sm (bu.mono (by decide))) (by rw[can_q];exact bl) (by rw[can_q];exact bu)
 rwa [can_q,can_q]at this
theorem pl_lines {l u:Rat}(bl:Bt 300000000 l)(bu:Bt 300000000 u)(h:unB l u=true):
  LV Tryz.prog 231 [ratV l,ratV u] (.tup [.s (.d (.lit (.int .i64 (if slW l u=true then 1 else 0)))),.g (can (u/(u-l))).A,.g (can (gapQ l u)).A,.s (.d (.lit (.int .i64 0)))]):=by
 have hl:Sz l:=bl.mono (by decide);have hu:Sz u:=bu.mono (by decide);refine LX_run (m:=0) (n0:=0) mix Tryz.func231 rfl rfl rfl rfl ?_;conv=>whnf
 refine .c (pl_unst hl hu) ?_;conv=>whnf
 refine bT (h) ?_;conv=>whnf
 refine .c (pl_slope hl hu) ?_;conv=>whnf
 refine .c (lx_rsub (.c hu) (.c hl)) ?_;conv=>whnf
 refine .c (lx_quot hu ((bu.sub bl).mono (by decide)) (un_ne h)) ?_;conv=>whnf
 refine .c (pl_gap bl bu) ?_;conv=>whnf
 refine .mk (by kernel_rfl) ?_;conv=>whnf
 exact .q ⟨rfl,rfl⟩
structure Rp where
 by_:Af
 r:Ro
 c:Rat
abbrev Rp.A (x:Rp):List A:=x.by_.A++x.r.A++(can x.c).A
def byW (p:Af)(l u:Rat):Af:=addS (scaleS p (u/(u-l))) (numS (gapQ l u))
def rplS (p:Af)(j:Nat)(lo hi c:Rat):Rp:=
 if 0≤lo then⟨p,if 0<c then⟨6,j,0,0⟩else⟨8,j,2*(j:Int)+1,0⟩,rabs c⟩
 else if hi≤0 then⟨numS 0,if 0<c then⟨5,j,0,0⟩else⟨10,j,0,2*(j:Int)+2⟩,rabs c⟩
 else if 0<c then(if slW lo hi=true then⟨p,⟨6,j,0,0⟩,rabs c⟩else⟨numS 0,⟨5,j,0,0⟩,rabs c⟩)
 else⟨byW p lo hi,⟨13,j,2*(j:Int)+1,2*(j:Int)+2⟩,rabs c/(hi-lo)⟩
theorem pl_replace {q:Qu}{ls:List Lm}{J j F B:Nat}{c:Rat}{p:Af}(hs:SpOk (S0 q ls))(h:LsI ls J)(hj:j<J)(hJ:J≤q.g.us.length)(hp:q.g.us[j]? =some p)(hpf:FB 5 (q.g.n+q.g.us.length:Nat) p)(hv:Bt B (loV ls j)∧Bt B (hiV ls j))(hc:Bt F c)(hB:B≤700000)(hF:F≤30000000):
  LV Tryz.prog 226 [.agg (S0 q ls).A,vl (.int .i64 j),.agg (can c).A] (.tup [.g (rplS p j (loV ls j) (hiV ls j) c).A,.s (.d (.lit (.bool true)))]):=by
 have hn2:=hs.q.g.n2;have hu1:=hs.q.g.u1;simp only at hn2 hu1;obtain⟨bl,bh⟩:=hv;obtain⟨pl,el⟩:=h.loA hj;obtain⟨ph,eh⟩:=h.hiA hj;have cb:=lx_bestj hs h hj;generalize loV ls j=lo at *
 generalize hiV ls j=hi at *
 have lz:Sz lo:=bl.mono (by omega);have hz:Sz hi:=bh.mono (by omega);have cz:Sz c:=hc.mono (by omega);refine LX_run (m:=0) (n0:=0) mix Tryz.func226 rfl rfl rfl rfl ?_;conv=>whnf
 refine .mk (j) (p.D) (rfl) (at_map hp) ?_;conv=>whnf
 conv=>whnf
 refine .c (cb) ?_;conv=>whnf
 refine bT (decide_eq_true (by omega)) ?_;conv=>whnf
 refine .mk (2*j) ((mkL j false lo pl).D) (by rw[wr64 (by omega) (by omega)];omega) (at_map el) ?_;conv=>whnf
 conv=>whnf
 refine bT (decide_eq_true (by omega)) ?_;conv=>whnf
 refine .mk (2*j+1) ((mkL j true hi ph).D) (by rw[wr64 (by omega) (by omega)];omega) (at_map eh) ?_;conv=>whnf
 conv=>whnf
 refine .c (pl_sdec) ?_;conv=>whnf
 refine .c (pl_sdec) ?_;conv=>whnf
 refine .mk (by kernel_rfl) ?_;conv=>whnf
 refine .c (lx_rsign (.c cz)) ?_;conv=>whnf
 rw[sg_gt];rcases hcs:decide (0<c)with _|_
 all_goals conv=>whnf
 all_goals refine .c (lx_rneg (.c cz)) ?_
           conv=>whnf
 all_goals refine .c (pl_rabs hc (by omega)) ?_
           conv=>whnf
 all_goals refine .mk (by kernel_rfl) ?_
           conv=>whnf
 all_goals refine bT (decide_eq_true (by omega)) ?_
           conv=>whnf
 all_goals refine .c (lx_rsign (.c lz)) ?_
           conv=>whnf
 all_goals rw[sg_ge]
 all_goals rcases hlo:decide (0≤lo)with _|_
 all_goals conv=>whnf
 rotate_left
 ·exact .q ⟨by rw[rplS,if_pos (of_decide_eq_true hlo),if_neg (of_decide_eq_false hcs)];rfl,rfl⟩
 rotate_left
 ·exact .q ⟨by rw[rplS,if_pos (of_decide_eq_true hlo),if_pos (of_decide_eq_true hcs)];rfl,rfl⟩
 all_goals refine bT (decide_eq_true (by omega)) ?_
           conv=>whnf
 all_goals refine .c (lx_rsign (.c hz)) ?_
           conv=>whnf
 all_goals rw[sg_le]
 all_goals rcases hhi:decide (hi≤0)with _|_
 all_goals conv=>whnf
 ·have hun:unB lo hi=true:=by
   have a1:=of_decide_eq_false hlo;have a2:=of_decide_eq_false hhi;rw[unB,decide_eq_true (by grind),decide_eq_true (by grind)];rfl
  have hne:=un_ne hun;have bd:=bh.div (bh.sub bl) hne;have bg:Bt (2*B+3*B+3) (gapQ lo hi):=by
   rw[gapQ,if_pos hun];exact((bl.mul bh).neg.div (bh.sub bl) hne).mono (by omega)
  refine .c (pl_lines (bl.mono (by omega)) (bh.mono (by omega)) hun) ?_;conv=>whnf
  refine .c (pl_scale hpf bd (by omega) (by omega) (by omega)) ?_;conv=>whnf
  refine Cn.as (pl_add (hpf.scale bd) (FB.num (n:=((q.g.n+q.g.us.length:Nat):Int)) bg) (by omega) (by omega) (by omega)) rfl ⟨vR_ _,numA_wk _,trivial⟩ rfl rfl ?_;conv=>whnf
  refine .mk (by kernel_rfl) ?_;conv=>whnf
  refine .c (lx_rsub (.c hz) (.c lz)) ?_;conv=>whnf
  refine .c (lx_rdiv hne (.c (hc.rabs.mono (by omega))) (.c ((bh.sub bl).mono (by omega)))) ?_;conv=>whnf
  refine .mk (by kernel_rfl) ?_;conv=>whnf
  exact .q ⟨by rw[rplS,if_neg (of_decide_eq_false hlo),if_neg (of_decide_eq_false hhi),if_neg (of_decide_eq_false hcs)];rfl,rfl⟩
 ·exact .q ⟨by rw[rplS,if_neg (of_decide_eq_false hlo),if_pos (of_decide_eq_true hhi),if_neg (of_decide_eq_false hcs)];show _=V.tup [.g ((numS 0).A++_++_),_];rw[numS0_A];rfl,rfl⟩
 ·refine bT (decide_eq_true (by omega)) ?_;conv=>whnf
  refine bT (decide_eq_true (by omega)) ?_;conv=>whnf
  refine .c (pl_slope lz hz) ?_;conv=>whnf
  rcases hsl:slW lo hi with _|_
  all_goals conv=>whnf
  ·exact .q ⟨by rw[rplS,if_neg (of_decide_eq_false hlo),if_neg (of_decide_eq_false hhi),if_pos (of_decide_eq_true hcs),if_neg (by rw[hsl];exact Bool.false_ne_true)];show _=V.tup [.g ((numS 0).A++_++_),_];rw[numS0_A];rfl,rfl⟩
  ·exact .q ⟨by rw[rplS,if_neg (of_decide_eq_false hlo),if_neg (of_decide_eq_false hhi),if_pos (of_decide_eq_true hcs),if_pos hsl];rfl,rfl⟩
 ·exact .q ⟨by rw[rplS,if_neg (of_decide_eq_false hlo),if_pos (of_decide_eq_true hhi),if_pos (of_decide_eq_true hcs)];show _=V.tup [.g ((numS 0).A++_++_),_];rw[numS0_A];rfl,rfl⟩
def lsum (ξ:Int→Rat):List Tm→Rat
 |[]=>0
 |t::ts=>t.q*ξ t.v+lsum ξ ts
theorem lsum_app (ξ:Int→Rat):∀a b:List Tm,lsum ξ (a++b)=lsum ξ a+lsum ξ b
 |[],b=>by simp[lsum,Rat.zero_add]
 |t::a,b=>by simp only[List.cons_append,lsum,lsum_app ξ a b,Rat.add_assoc]
theorem lsum_nz1 (ξ:Int→Rat)(t:Tm):lsum ξ (nz1 t)=t.q*ξ t.v:=by
 unfold nz1;split
 ·rename_i h;rw[h];simp[lsum]
 ·simp[lsum,Rat.add_zero]
theorem lsum_ins (ξ:Int→Rat)(v:Int)(c:Rat):∀ts:List Tm,lsum ξ (ins v c ts)=lsum ξ ts+c*ξ v
 |[]=>by simp[ins,lsum_nz1,lsum,Rat.zero_add]
 |t::ts=>by
  simp only[ins];split
  ·rename_i h;rw[lsum_app,lsum_nz1,lsum,h];grind
  ·split
   ·rw[lsum_app,lsum_nz1];grind
   ·simp only[lsum,lsum_ins ξ v c ts,Rat.add_assoc]
theorem lsum_fold (ξ:Int→Rat):∀b a:List Tm,lsum ξ (b.foldl (fun a t=>ins t.v t.q a) a)=lsum ξ a+lsum ξ b
 |[],a=>by simp[lsum,Rat.add_zero]
 |t::b,a=>by rw[List.foldl_cons,lsum_fold ξ b,lsum_ins,lsum,Rat.add_assoc]
theorem lsum_scale (ξ:Int→Rat)(c:Rat):∀ts:List Tm,lsum ξ (ts.flatMap fun t=>nz1 ⟨t.v,t.q*c⟩)=lsum ξ ts*c
 |[]=>by simp[lsum]
 |t::ts=>by
  rw[List.flatMap_cons,lsum_app,lsum_nz1,lsum_scale ξ c ts,lsum];grind
def ph (κ:Rat)(ξ:Int→Rat)(f:Af):Rat:=lsum ξ f.ts+κ*f.c
section
variable {κ:Rat} {ξ:Int→Rat}
theorem ph_add {f g:Af}:ph κ ξ (addS f g)=ph κ ξ f+ph κ ξ g:=by
 unfold ph addS;simp only[lsum_fold];grind
theorem ph_scale {f:Af}{c:Rat}:ph κ ξ (scaleS f c)=ph κ ξ f*c:=by
 unfold ph scaleS;simp only[lsum_scale];grind
theorem m1_r:((-1:Int):Rat)= -1:=by decide
theorem q1_r:q1=1:=by decide
theorem ph_sub {f g:Af}:ph κ ξ (subS f g)=ph κ ξ f-ph κ ξ g:=by
 rw[subS,ph_add,ph_scale,m1_r];grind
theorem ph_num {c:Rat}:ph κ ξ (numS c)=κ*c:=by
 unfold ph numS;simp[lsum,Rat.zero_add]
theorem ph_var {v:Int}:ph κ ξ (varS v)=ξ v:=by
 unfold ph varS;simp only[lsum];grind
theorem lsum_without (v:Int):∀ts:List Tm,lsum ξ (without ts v)=lsum ξ ts-cof ts v*ξ v
 |[]=>by simp[without,lsum,cof];grind
 |t::ts=>by
  have ih:=lsum_without v ts;unfold without at ih ⊢;rw[List.filter_cons]
  by_cases h:t.v=v
  ·rw[if_neg (by simp[h]),ih,lsum,cof,if_pos h,h];grind
  ·rw[if_pos (by simp[h]),lsum,ih,lsum,cof,if_neg h];grind
theorem ph_rest {f:Af}{v:Int}:ph κ ξ (restS f v)=ph κ ξ f-cof f.ts v*ξ v:=by
 unfold ph restS;simp only[lsum_without];grind
theorem ph_subst {f g:Af}{v:Int}:ph κ ξ (substS f v g)=ph κ ξ f-cof f.ts v*ξ v+cof f.ts v*ph κ ξ g:=by
 rw[substS,ph_add,ph_rest,ph_scale];grind
theorem cof_lsum (w:Int):∀ts:List Tm,cof ts w=lsum (fun v=>if v=w then 1 else 0) ts
 |[]=>rfl
 |t::ts=>by
  rw[cof,lsum,cof_lsum w ts];split<;>grind
theorem cof_ph (w:Int)(f:Af):cof f.ts w=ph 0 (fun v=>if v=w then 1 else 0) f:=by
 unfold ph;rw[cof_lsum];grind
theorem lsum_zero:∀ts:List Tm,lsum (fun _=>0) ts=0
 |[]=>rfl
 |t::ts=>by rw[lsum,lsum_zero ts];grind
theorem c_ph (f:Af):f.c=ph 1 (fun _=>0) f:=by
 unfold ph;rw[lsum_zero];grind
end
theorem LsI.lmLo {q:Qu}{ls:List Lm}{J j:Nat}(h:LsI ls J)(hj:j<J):lmOk (S0 q ls) (2*(j:Int)+1) j false=true∧lmV (S0 q ls) (2*(j:Int)+1) j false=loV ls j:=by
 obtain⟨l,e⟩:=h.loA hj;have hl:=at_lt e;have ea:atL ls (2*(j:Int)+1)=mkL j false (loV ls j) l:=by
  unfold atL;rw[show(2*(j:Int)+1-1).toNat=2*j by omega,e];rfl
 have o:lmOk (S0 q ls) (2*(j:Int)+1) j false=true:=by
  unfold lmOk;rw[show(S0 q ls).ls=ls from rfl,ea];simp[mkL];omega
 exact⟨o,by rw[lmV,o];rfl⟩
theorem LsI.lmHi {q:Qu}{ls:List Lm}{J j:Nat}(h:LsI ls J)(hj:j<J):lmOk (S0 q ls) (2*(j:Int)+2) j true=true∧lmV (S0 q ls) (2*(j:Int)+2) j true=hiV ls j:=by
 obtain⟨l,e⟩:=h.hiA hj;have hl:=at_lt e;have ea:atL ls (2*(j:Int)+2)=mkL j true (hiV ls j) l:=by
  unfold atL;rw[show(2*(j:Int)+2-1).toNat=2*j+1 by omega,e];rfl
 have o:lmOk (S0 q ls) (2*(j:Int)+2) j true=true:=by
  unfold lmOk;rw[show(S0 q ls).ls=ls from rfl,ea];simp[mkL];omega
 exact⟨o,by rw[lmV,o];rfl⟩
inductive RwJ (q:Qu) (ls:List Lm) (J:Nat):Ro→Prop
 |lo (x:Int) (h0:0≤x) (h1:x<q.g.n):RwJ q ls J ⟨1,x,0,0⟩
 |hi (x:Int) (h0:0≤x) (h1:x<q.g.n):RwJ q ls J ⟨2,x,0,0⟩
 |zero (j:Nat) (h:j<J):RwJ q ls J ⟨5,j,0,0⟩
 |above (j:Nat) (h:j<J):RwJ q ls J ⟨6,j,0,0⟩
 |onEq (j:Nat) (h:j<J) (h2:0≤loV ls j):RwJ q ls J ⟨8,j,2*(j:Int)+1,0⟩
 |offEq (j:Nat) (h:j<J) (h2:hiV ls j≤0):RwJ q ls J ⟨10,j,0,2*(j:Int)+2⟩
 |low (j:Nat) (h:j<J):RwJ q ls J ⟨11,j,2*(j:Int)+1,0⟩
 |up (j:Nat) (h:j<J):RwJ q ls J ⟨12,j,0,2*(j:Int)+2⟩
 |tri (j:Nat) (h:j<J) (h2:loV ls j<0) (h3:0<hiV ls j):RwJ q ls J ⟨13,j,2*(j:Int)+1,2*(j:Int)+2⟩
theorem RwJ.ok {q:Qu}{ls:List Lm}{J:Nat}{r:Ro}(h:LsI ls J)(hJ:J≤q.g.us.length)(hu:q.g.us.length≤1000)(hr:RwJ q ls J r):RoA (S0 q ls) r:=by
 cases hr with
 |lo x h0 h1=>exact .inl ⟨.inl rfl,h0,h1,rfl,rfl⟩
 |hi x h0 h1=>exact .inl ⟨.inr rfl,h0,h1,rfl,rfl⟩
 |zero j hj=>exact .inr ⟨Int.natCast_nonneg _,Int.ofNat_lt.2 (Nat.lt_of_lt_of_le hj hJ),⟨Int.le_refl _,(show(0:Int)≤1000000 by decide)⟩,⟨Int.le_refl _,(show(0:Int)≤1000000 by decide)⟩,by simp⟩
 |above j hj=>exact .inr ⟨Int.natCast_nonneg _,Int.ofNat_lt.2 (Nat.lt_of_lt_of_le hj hJ),⟨Int.le_refl _,(show(0:Int)≤1000000 by decide)⟩,⟨Int.le_refl _,(show(0:Int)≤1000000 by decide)⟩,by simp⟩
 |onEq j hj h2=>
  obtain⟨o,v⟩:=h.lmLo (q:=q) hj;exact .inr ⟨Int.natCast_nonneg _,Int.ofNat_lt.2 (Nat.lt_of_lt_of_le hj hJ),⟨by simp only;omega,by simp only;omega⟩,⟨Int.le_refl _,(show(0:Int)≤1000000 by decide)⟩,.inr (.inr (.inl ⟨rfl,by simp only;omega,o,by rw[v];exact h2,rfl⟩))⟩
 |offEq j hj h2=>
  obtain⟨o,v⟩:=h.lmHi (q:=q) hj;exact .inr ⟨Int.natCast_nonneg _,Int.ofNat_lt.2 (Nat.lt_of_lt_of_le hj hJ),⟨Int.le_refl _,(show(0:Int)≤1000000 by decide)⟩,⟨by simp only;omega,by simp only;omega⟩,.inr (.inr (.inr (.inl ⟨rfl,rfl,by simp only;omega,o,by rw[v];exact h2⟩)))⟩
 |low j hj=>
  obtain⟨o,v⟩:=h.lmLo (q:=q) hj;exact .inr ⟨Int.natCast_nonneg _,Int.ofNat_lt.2 (Nat.lt_of_lt_of_le hj hJ),⟨by simp only;omega,by simp only;omega⟩,⟨Int.le_refl _,(show(0:Int)≤1000000 by decide)⟩,.inr (.inr (.inr (.inr (.inl ⟨rfl,o,rfl⟩))))⟩
 |up j hj=>
  obtain⟨o,v⟩:=h.lmHi (q:=q) hj;exact .inr ⟨Int.natCast_nonneg _,Int.ofNat_lt.2 (Nat.lt_of_lt_of_le hj hJ),⟨Int.le_refl _,(show(0:Int)≤1000000 by decide)⟩,⟨by simp only;omega,by simp only;omega⟩,.inr (.inr (.inr (.inr (.inr (.inl ⟨rfl,rfl,o⟩)))))⟩
 |tri j hj h2 h3=>
  obtain⟨o,v⟩:=h.lmLo (q:=q) hj;obtain⟨o',v'⟩:=h.lmHi (q:=q) hj;exact .inr ⟨Int.natCast_nonneg _,Int.ofNat_lt.2 (Nat.lt_of_lt_of_le hj hJ),⟨by simp only;omega,by simp only;omega⟩,⟨by simp only;omega,by simp only;omega⟩,.inr (.inr (.inr (.inr (.inr (.inr ⟨rfl,o,o',by rw[v];exact h2,by rw[v'];exact h3⟩)))))⟩
theorem RwJ.bits {q:Qu}{ls:List Lm}{J B:Nat}{r:Ro}(h:LsI ls J)(hv:LsV ls J B)(hr:RwJ q ls J r):Bt B (lmV (S0 q ls) r.l r.i false)∧Bt B (lmV (S0 q ls) r.h r.i true):=by
 have z:∀(u:Int) (b:Bool),Bt B (lmV (S0 q ls) 0 u b):=fun u b=>by rw[lmV,lmOk0];exact bt0 _
 have zl:∀j,j<J→Bt B (lmV (S0 q ls) (2*(j:Int)+1) j false):=fun j hj=>by rw[(h.lmLo hj).2];exact(hv j hj).1
 have zh:∀j,j<J→Bt B (lmV (S0 q ls) (2*(j:Int)+2) j true):=fun j hj=>by rw[(h.lmHi hj).2];exact(hv j hj).2
 cases hr with
 |lo x h0 h1=>exact⟨z _ _,z _ _⟩
 |hi x h0 h1=>exact⟨z _ _,z _ _⟩
 |zero j hj=>exact⟨z _ _,z _ _⟩
 |above j hj=>exact⟨z _ _,z _ _⟩
 |onEq j hj h2=>exact⟨zl j hj,z _ _⟩
 |offEq j hj h2=>exact⟨z _ _,zh j hj⟩
 |low j hj=>exact⟨zl j hj,z _ _⟩
 |up j hj=>exact⟨z _ _,zh j hj⟩
 |tri j hj h2 h3=>exact⟨zl j hj,zh j hj⟩
section
variable {κ:Rat} {ξ:Int→Rat} {q:Qu} {ls:List Lm} {J:Nat}
abbrev pR (κ:Rat)(ξ:Int→Rat)(q:Qu)(ls:List Lm)(r:Ro):Rat:=ph κ ξ (frm (S0 q ls) r)
abbrev pP (κ:Rat)(ξ:Int→Rat)(q:Qu)(j:Nat):Rat:=ph κ ξ (atF q.g.us j)
abbrev pX (ξ:Int→Rat)(q:Qu)(j:Nat):Rat:=ξ ((q.g.n+j:Nat):Int)
theorem pR_lo (x:Int):pR κ ξ q ls ⟨1,x,0,0⟩=ξ x-κ*atQ q.r.lo x:=by
 rw[pR,frm,if_pos (.inl rfl),frmI,if_pos rfl,ph_sub,ph_var,ph_num]
theorem pR_hi (x:Int):pR κ ξ q ls ⟨2,x,0,0⟩=κ*atQ q.r.hi x-ξ x:=by
 rw[pR,frm,if_pos (.inr rfl),frmI,if_neg (show ¬(2:Int)=1 by decide),ph_sub,ph_var,ph_num]
theorem pR_u {k l h:Int}{j:Nat}(hk:5≤k):pR κ ξ q ls ⟨k,j,l,h⟩=ph κ ξ (frmW (q.g.n+j:Nat) (atF q.g.us j) (lmV (S0 q ls) l j false) (lmV (S0 q ls) h j true) k):=by
 rw[pR,frm,if_neg (by simp only;omega)];rw[show((j:Int)).toNat=j from Int.toNat_natCast j]
theorem pR_zero {l h:Int}(j:Nat):pR κ ξ q ls ⟨5,j,l,h⟩=pX ξ q j:=by
 rw[pR_u (by decide),frmW,if_pos rfl,ph_var]
theorem pR_above {l h:Int}(j:Nat):pR κ ξ q ls ⟨6,j,l,h⟩=pX ξ q j-pP κ ξ q j:=by
 rw[pR_u (by decide),frmW,if_neg (by decide),if_pos rfl,ph_sub,ph_var]
theorem pR_onEq {l h:Int}(j:Nat):pR κ ξ q ls ⟨8,j,l,h⟩=pP κ ξ q j-pX ξ q j:=by
 rw[pR_u (by decide),frmW,if_neg (by decide),if_neg (by decide),if_pos rfl,ph_sub,ph_var]
theorem pR_offEq {l h:Int}(j:Nat):pR κ ξ q ls ⟨10,j,l,h⟩= -pX ξ q j:=by
 rw[pR_u (by decide),frmW,if_neg (by decide),if_neg (by decide),if_neg (by decide),if_pos rfl,ph_scale,ph_var,m1,m1_r];grind
theorem pR_low {h:Int}{j:Nat}(hl:LsI ls J)(hj:j<J):pR κ ξ q ls ⟨11,j,2*(j:Int)+1,h⟩=pP κ ξ q j-κ*loV ls j:=by
 rw[pR_u (by decide),frmW,if_neg (by decide),if_neg (by decide),if_neg (by decide),if_neg (by decide),if_pos rfl,ph_sub,ph_num,(hl.lmLo hj).2]
theorem pR_up {l:Int}{j:Nat}(hl:LsI ls J)(hj:j<J):pR κ ξ q ls ⟨12,j,l,2*(j:Int)+2⟩=κ*hiV ls j-pP κ ξ q j:=by
 rw[pR_u (by decide),frmW,if_neg (by decide),if_neg (by decide),if_neg (by decide),if_neg (by decide),if_neg (by decide),if_pos rfl,ph_sub,ph_num,(hl.lmHi hj).2]
theorem pR_tri {j:Nat}(hl:LsI ls J)(hj:j<J):pR κ ξ q ls ⟨13,j,2*(j:Int)+1,2*(j:Int)+2⟩=(pP κ ξ q j-κ*loV ls j)*hiV ls j-pX ξ q j*(hiV ls j-loV ls j):=by
 rw[pR_u (by decide),frmW,if_neg (by decide),if_neg (by decide),if_neg (by decide),if_neg (by decide),if_neg (by decide),if_neg (by decide),ph_sub,ph_scale,ph_scale,ph_sub,ph_num,ph_var,(hl.lmLo hj).2,(hl.lmHi hj).2]
theorem wsum1 (φ:Ro→Rat)(r:Ro):wsum φ [⟨r,q1⟩]=φ r:=by simp only[wsum,q1_r];grind
theorem wsum2 (φ:Ro→Rat)(r r':Ro):wsum φ [⟨r,q1⟩,⟨r',q1⟩]=φ r+φ r':=by simp only[wsum,q1_r];grind
theorem wsum2c (φ:Ro→Rat)(r r':Ro)(a b:Rat):wsum φ [⟨r,a⟩,⟨r',b⟩]=a*φ r+b*φ r':=by simp only[wsum];grind
theorem lowB_ph {j:Nat}(h:LsI ls J)(hj:j<J):wsum (pR κ ξ q ls) (lowB ls j).2=pX ξ q j-κ*(lowB ls j).1:=by
 unfold lowB;split
 ·rw[wsum2,pR_above,pR_low h hj];grind
 ·rw[wsum1,pR_zero];grind
theorem highB_ph {j:Nat}(h:LsI ls J)(hj:j<J):wsum (pR κ ξ q ls) (highB ls j).2=κ*(highB ls j).1-pX ξ q j:=by
 unfold highB;split
 ·rw[wsum1,pR_offEq];grind
 ·rename_i c1;split
  ·rw[wsum2,pR_onEq,pR_up h hj];grind
  ·rename_i c2;rw[wsum2c,pR_up h hj,pR_tri h hj,q1_r,Rat.div_def];obtain⟨p1,_,_⟩:=part_nn c1 c2;have e:=Rat.mul_inv_cancel (hiV ls j-loV ls j) (by grind);generalize (hiV ls j-loV ls j)⁻¹=i at *
   grind
theorem bnd_ph {x:Int}{up:Bool}(h:LsI ls J)(h0:0≤x)(h1:x<q.g.n+J):wsum (pR κ ξ q ls) (bndB q ls x up).2=if up=true then κ*(bndB q ls x up).1-ξ x else ξ x-κ*(bndB q ls x up).1:=by
 unfold bndB
 by_cases hx:x<q.g.n
 ·rw[if_pos hx];unfold inB;split
  ·rw[wsum1,pR_hi]
  ·rw[wsum1,pR_lo]
 ·rw[if_neg hx];obtain⟨j,hj⟩:∃j:Nat,x-q.g.n=j:=⟨(x-q.g.n).toNat,by omega⟩;have e:(x-(q.g.n:Int)).toNat=j:=by omega
  have ex:x=((q.g.n+j:Nat):Int):=by omega
  rw[e];split
  ·rw[highB_ph h (by omega),ex]
  ·rw[lowB_ph h (by omega),ex]
theorem wsum_scale (φ:Ro→Rat)(a:Rat):∀l:List Mu,wsum φ (l.map fun m=>⟨m.r,a*m.c⟩)=a*wsum φ l
 |[]=>by simp[wsum]
 |m::l=>by simp only[List.map_cons,wsum,wsum_scale φ a l];grind
theorem wsum_append (φ:Ro→Rat):∀a b:List Mu,wsum φ (a++b)=wsum φ a+wsum φ b
 |[],b=>by simp[wsum,Rat.zero_add]
 |m::a,b=>by simp only[List.cons_append,wsum,wsum_append φ a b,Rat.add_assoc]
theorem tmL_ph {t:Tm}(h:LsI ls J)(h0:0≤t.v)(h1:t.v<q.g.n+J):wsum (pR κ ξ q ls) (tmL q ls t)=t.q*ξ t.v-κ*(t.q*(tmB q ls t).1):=by
 rw[tmL,wsum_scale];unfold tmB;rw[bnd_ph h h0 h1];unfold rabs
 by_cases hq:t.q<0
 ·rw[if_pos (decide_eq_true hq),if_pos hq];grind
 ·rw[if_neg (show ¬decide (t.q<0)=true by simpa using hq),if_neg hq];grind
theorem bxM_ph {f:Af}{k:Nat}(h:LsI ls J)(hf:FB k (q.g.n+J:Nat) f):∀i,i≤f.ts.length→wsum (pR κ ξ q ls) (bxM q ls f i)=lsum ξ (f.ts.take i)-κ*(bxV q ls f i-f.c)
 |0,_=>by simp[bxM,bxV,wsum,lsum];grind
 |i+1,hi=>by
  obtain⟨t,ht⟩:=at_some (l:=f.ts) (i:=i) (by omega);obtain⟨t1,t2,_,_⟩:=hf.tm t (mG_ ht);rw[bxM_succ ht,wsum_append,bxM_ph h hf i (by omega),tmL_ph h t1 (by omega),bxV_succ ht,take_snoc ht,lsum_app];simp only[lsum];grind
theorem bx_ph {f:Af}{k:Nat}(h:LsI ls J)(hf:FB k (q.g.n+J:Nat) f):wsum (pR κ ξ q ls) (bxM q ls f f.ts.length)=ph κ ξ f-κ*bxV q ls f f.ts.length:=by
 rw[bxM_ph h hf _ (lR_ _),List.take_length,ph];grind
theorem byW_ph {p:Af}{l u:Rat}(h:l<0)(h':0<u):ph κ ξ (byW p l u)=(ph κ ξ p*u-κ*(l*u))*(u-l)⁻¹:=by
 rw[byW,ph_add,ph_scale,ph_num,gapQ,if_pos (by simp[unB,h,h']),Rat.div_def,Rat.div_def];grind
theorem rpl_ph {j:Nat}{c:Rat}(h:LsI ls J)(hj:j<J):c*pX ξ q j-c*ph κ ξ (rplS (atF q.g.us j) j (loV ls j) (hiV ls j) c).by_=(rplS (atF q.g.us j) j (loV ls j) (hiV ls j) c).c*pR κ ξ q ls (rplS (atF q.g.us j) j (loV ls j) (hiV ls j) c).r:=by
 have ra:0<c→rabs c=c:=fun h=>by unfold rabs;grind
 have rb:¬0<c→rabs c= -c:=fun h=>by unfold rabs;grind
 unfold rplS;split
 ·by_cases hc:0<c
  ·simp only[if_pos hc,pR_above,ra hc];grind
  ·simp only[if_neg hc,pR_onEq,rb hc];grind
 ·rename_i c1;split
  ·by_cases hc:0<c
   ·simp only[if_pos hc,pR_zero,ra hc,ph_num];grind
   ·simp only[if_neg hc,pR_offEq,rb hc,ph_num];grind
  ·rename_i c2
   by_cases hc:0<c
   ·simp only[if_pos hc];split
    ·simp only[pR_above,ra hc];grind
    ·simp only[pR_zero,ra hc,ph_num];grind
   ·simp only[if_neg hc,pR_tri h hj,rb hc];rw[byW_ph (by grind) (by grind),Rat.div_def];have e:=Rat.mul_inv_cancel (hiV ls j-loV ls j) (by grind);generalize (hiV ls j-loV ls j)⁻¹=i at *
    grind
end
def eR (n:Nat)(r:Rl):En:=(fun c=>((pv (min c (n+1)) r:Int):Rat),r.f)
def AA (n:Nat)(al:List Af)(i c:Nat):Rat:=dX (atF al i) (n+1) c
def RepL (n:Nat)(al:List Af)(S:List Nat)(L:List Rl):Prop:=Rep al.length (AA n al) S (L.map (eR n))
structure Rw0 (n:Nat)(al:List Af)(i:Nat)(r:Rl):Prop where
 ok:RlOk (n+2) r
 den:DenOk (atF al i) (n+1) r.c
 f:r.f=2^i
theorem repL0 {n:Nat}{al:List Af}{L:List Rl}(hl:L.length=al.length)(h:∀(i:Nat) r,L[i]? =some r→Rw0 n al i r):RepL n al [] L:=by
 refine rep0 fun i hi=> ?_;obtain⟨r,hr⟩:=at_some (l:=L) (i:=i) (by omega);obtain⟨h1,h2,h3⟩:=h i r hr;obtain⟨K,hK,hz⟩:=h2.ex;refine⟨eR n r,List.mem_map.2 ⟨r,mG_ hr,rfl⟩,⟨K,hK,fun c=> ?_⟩,fun j=> ?_⟩
 ·obtain⟨z,hz'⟩:=at_some (l:=r.c) (i:=min c (n+1)) (by rw[h1.len];omega);show((pv (min c (n+1)) r:Int):Rat)=K*dX (atF al i) (n+1) c;rw[pv_at hz',hz _ z hz']
  congr 1
  unfold dX
  by_cases hc:c<n+1
  ·rw[if_pos (by omega),if_pos hc,Nat.min_eq_left (by omega)]
  ·rw[if_neg (by omega),if_neg hc]
 ·show r.f.testBit j=_;rw[h3,Nat.testBit_two_pow];exact decide_eq_decide.2 eq_comm
theorem repL_step {n v k:Nat}{al:List Af}{S:List Nat}{L L':List Rl}(h:RepL n al S L)(hL:∀r∈L,RlOk (n+2) r)(hm:al.length≤64)(he:ElOk L (n+2) v k L')(hk:k=S.length+1)(hv:v≤n):RepL n al (v::S) L':=by
 have mv:min v (n+1)=v:=Nat.min_eq_left (by omega);refine rep_step h hm (fun e he1 h0=> ?_) fun e1 e2 m1 m2 p1 p2 hc=> ?_
 ·obtain⟨r,hr,rfl⟩:=List.mem_map.1 he1;have h0':pv v r=0:=by
   have:((pv (min v (n+1)) r:Int):Rat)=0:=h0;rw[mv]at this;exact_mod_cast this
  exact⟨eR n r,List.mem_map.2 ⟨r,he.z r hr h0',rfl⟩,⟨1,by decide,fun c=>by grind⟩,rfl⟩
 ·obtain⟨r1,hr1,rfl⟩:=List.mem_map.1 m1;obtain⟨r2,hr2,rfl⟩:=List.mem_map.1 m2;have q1:0<pv v r1:=by
   have:(0:Rat)<((pv (min v (n+1)) r1:Int):Rat):=p1;rw[mv]at this;exact_mod_cast this
  have q2:pv v r2<0:=by
   have:((pv (min v (n+1)) r2:Int):Rat)<0:=p2;rw[mv]at this;exact_mod_cast this
  obtain⟨r,hr,⟨hf,d,hd,hcm⟩⟩:=he.p r1 hr1 r2 hr2 q1 q2 (by
   have:cnt (fun i=>(r1.f ||| r2.f).testBit i) 64≤S.length+2:=hc;omega)
  have hd0:(0:Rat)<(d:Rat):=by exact_mod_cast hd
  refine⟨eR n r,List.mem_map.2 ⟨r,hr,rfl⟩,⟨(d:Rat)⁻¹,Rat.inv_pos.2 hd0,fun c=> ?_⟩,hf⟩;obtain⟨a,ha⟩:=at_some (l:=r1.c) (i:=min c (n+1)) (by rw[(hL r1 hr1).len];omega);obtain⟨b,hb⟩:=at_some (l:=r2.c) (i:=min c (n+1)) (by rw[(hL r2 hr2).len];omega);obtain⟨z,hz⟩:=at_some (l:=r.c) (i:=min c (n+1)) (by rw[(he.rows r hr).len];omega);have e:=hcm _ a b z ha hb hz;have e':(d:Rat)*(z:Rat)=(a:Rat)* -(pv v r2:Rat)+(b:Rat)*(pv v r1:Rat):=by exact_mod_cast e
  show((pv (min c (n+1)) r:Int):Rat)=(d:Rat)⁻¹*(-((pv (min v (n+1)) r2:Int):Rat)*((pv (min c (n+1)) r1:Int):Rat)+((pv (min v (n+1)) r1:Int):Rat)*((pv (min c (n+1)) r2:Int):Rat));rw[pv_at ha,pv_at hb,pv_at hz,mv];have hi:=Rat.inv_mul_cancel (d:Rat) (by grind);generalize (d:Rat)⁻¹=di at *
  grind
theorem sum_one {S:List Nat}(hS:S.Nodup)(y:Nat→Rat)(u:Nat):(S.map fun c=>(if u=c then 1 else 0)*y c).sum=if u∈S then y u else 0:=by
 induction S with
 |nil=>simp
 |cons s S ih=>
  rw[List.nodup_cons]at hS;rw[List.map_cons,List.sum_cons,ih hS.2]
  by_cases h:u=s
  ·subst h;rw[if_pos rfl,if_neg hS.1,if_pos (List.mem_cons_self ..)];grind
  ·rw[if_neg h]
   by_cases h2:u∈S
   ·rw[if_pos h2,if_pos (List.mem_cons_of_mem _ h2)];grind
   ·rw[if_neg h2,if_neg (by simp[h,h2])];grind
theorem sum_zero:∀S:List Nat,(S.map fun _=>(0:Rat)).sum=0
 |[]=>rfl
 |s::S=>by rw[List.map_cons,List.sum_cons,sum_zero S,Rat.zero_add]
theorem lsum_cols {n:Nat}{S:List Nat}(hS:S.Nodup)(hin:∀c,c∈S↔c<n){X:Int→Rat}:∀{ts:List Tm} {lo:Int},0≤lo→TsOk (n+1:Nat) lo ts→lsum X ts=(S.map fun c=>cof ts (c:Nat)*X (c:Nat)).sum+cof ts (n:Nat)*X (n:Nat)
 |[],lo,_,_=>by
  have:(S.map fun c=>cof [] ((c:Nat):Int)*X (c:Nat)).sum=0:=by
   have e:(fun c:Nat=>cof [] ((c:Nat):Int)*X (c:Nat))=fun _=>0:=by funext c;simp[cof]
   rw[e,sum_zero]
  rw[this];simp[lsum,cof,Rat.add_zero]
 |t::ts,lo,h0,h=>by
  have ih:=lsum_cols hS hin (X:=X) (ts:=ts) (lo:=t.v+1) (by have:=h.1;omega) h.2.2.2;obtain⟨u,hu⟩:∃u:Nat,t.v=u:=⟨t.v.toNat,by have:=h.1;omega⟩;have hun:u<n+1:=by have:=h.2.1;omega
  rw[lsum,ih];have e1:(S.map fun c=>cof (t::ts) ((c:Nat):Int)*X (c:Nat)).sum=t.q*(S.map fun c=>(if u=c then 1 else 0)*X (c:Nat)).sum+(S.map fun c=>cof ts ((c:Nat):Int)*X (c:Nat)).sum:=by
   have:=sum_map_lin (S:=S) (f:=fun c=>(if u=c then 1 else 0)*X (c:Nat)) (g:=fun c=>cof ts ((c:Nat):Int)*X (c:Nat)) (a:=t.q) (b:=1);rw[Rat.one_mul]at this;rw[←this]
   congr 1
   refine List.map_congr_left fun c _=> ?_;rw[cof,hu]
   by_cases hc:u=c
   ·rw[if_pos (by exact_mod_cast hc),if_pos hc];grind
   ·rw[if_neg (by exact_mod_cast hc),if_neg hc];grind
  rw[e1,sum_one hS (fun c=>X (c:Nat)) u,cof,hu]
  by_cases hc:u<n
  ·rw[if_pos ((hin u).2 hc),if_neg (by omega)];grind
  ·rw[if_neg (mt (hin u).1 hc),if_pos (by omega),show n=u by omega];grind
theorem nodup_le:∀(l:List Nat),l.Nodup→∀S:List Nat,(∀x∈l,x∈S)→l.length≤S.length
 |[],_,_,_=>zL_ _
 |a::l,hn,S,h=>by
  rw[List.nodup_cons]at hn
  have h1:=nodup_le l hn.2 (S.erase a) fun x hx=>by
   have hxa:x≠a:=fun e=>hn.1 (e▸hx);exact(List.mem_erase_of_ne hxa).2 (h x (by simp[hx]))
  rw[List.length_erase_of_mem (h a (by simp))]at h1;have:=List.length_pos_of_mem (h a (by simp));rw[List.length_cons];omega
theorem covers {n:Nat}{S:List Nat}(hS:S.Nodup)(hlt:∀c∈S,c<n)(hl:S.length=n)(c:Nat):c∈S↔c<n:=by
 refine⟨hlt c,fun hc=> ?_⟩;rcases Classical.em (c∈S)with h|h
 ·exact h
 ·have:=nodup_le (c::S) (List.nodup_cons.2 ⟨h,hS⟩) (List.range n) fun x hx=>by
   rcases List.mem_cons.1 hx with hx|hx
   ·rw[hx];exact List.mem_range.2 hc
   ·exact List.mem_range.2 (hlt x hx)
  rw[List.length_cons,List.length_range]at this;omega
theorem least_at {n:Nat}{al:List Af}{S:List Nat}{L:List Rl}{v:Rat}(hS:S.Nodup)(hlt:∀c∈S,c<n)(hl:S.length=n)(hr:RepL n al S L)(hL:∀r∈L,RlOk (n+2) r)(he:EndAt L n v)(ht:∀f∈al,TsOk (n+1:Nat) 0 f.ts):
  ∃X:Int→Rat,X (n:Nat)=v∧∀f∈al,0≤ph 1 X f:=by
 obtain⟨x,hx⟩:=rep_end (a:=n) (b:=n+1) (t:=v) hS hr fun e hem=>by
  obtain⟨r,hrm,rfl⟩:=List.mem_map.1 hem;have:=he r hrm;show 0≤((pv (min n (n+1)) r:Int):Rat)*v+((pv (min (n+1) (n+1)) r:Int):Rat);rw[Nat.min_eq_left (by omega),Nat.min_self];exact this
 refine⟨fun z=>if z=(n:Nat)then v else x z.toNat,by simp,fun f hf=> ?_⟩;obtain⟨i,hi⟩:=List.mem_iff_getElem?.1 hf;have hil:=at_lt hi;have:=hx i hil;have ef:atF al i=f:=by unfold atF;rw[Int.toNat_natCast,hi];rfl
 unfold ph;rw[lsum_cols hS (covers hS hlt hl) (Int.le_refl 0) (ht f hf)];have e1:(S.map fun c=>cof f.ts ((c:Nat):Int)*(if((c:Nat):Int)=(n:Nat)then v else x ((c:Nat):Int).toNat))=S.map fun c=>AA n al i c*x c:=by
  refine List.map_congr_left fun c hc=> ?_;have hcn:=hlt c hc;rw[if_neg (by omega),Int.toNat_natCast,AA,ef,dX,if_pos (by omega)]
 have e2:AA n al i n=cof f.ts (n:Nat):=by rw[AA,ef,dX,if_pos (by omega)]
 have e3:AA n al i (n+1)=f.c:=by rw[AA,ef,dX,if_neg (by omega)]
 rw[e2,e3]at this;simp only[e1,if_pos];grind
end Go.Proofs.YtcnebhohjghngaaGreatDoor.Lf
