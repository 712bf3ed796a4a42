/- Texts LmD LmE LmF LmG LmH LmI LnA LxI LyB LyC LyD LyE LyF LyG LyH LyI LyJ LyK LyL LyP LyQ of this proof, in this order. -/
import Derived.Test.YthdoopaenanibaaGreatDoorU05
import Derived.Test.YthdoopaenanibaaGreatDoorU03
set_option linter.unusedVariables false
set_option linter.unusedSimpArgs false
set_option maxRecDepth 100000
set_option maxHeartbeats 4000000
namespace Go.Proofs.YthdoopaenanibaaGreatDoor.Lf
open Go.RowKit Nt
def cmpI (x y:Int):Int:=if x<y then -1 else if x>y then 1 else 0
def orS:List Int→Int
 |[]=>0
 |x::xs=>if x≠0 then x else orS xs
def cmpR (a b:Ro):Int:=orS [cmpI a.k b.k,cmpI a.i b.i,cmpI a.l b.l,cmpI a.h b.h]
theorem cmpI_0 {x y:Int}:cmpI x y=0↔x=y:=by unfold cmpI;split<;>(try split)<;>omega
theorem cmpI_lt {x y:Int}:cmpI x y<0↔x<y:=by unfold cmpI;split<;>(try split)<;>omega
theorem cmpI_anti (x y:Int):cmpI y x= -cmpI x y:=by
 unfold cmpI
 repeat' split
 all_goals omega
theorem cmpR_0 {a b:Ro}:cmpR a b=0↔a=b:=by
 obtain⟨a1,a2,a3,a4⟩:=a;obtain⟨b1,b2,b3,b4⟩:=b;have e1:= @cmpI_0 a1 b1;have e2:= @cmpI_0 a2 b2;have e3:= @cmpI_0 a3 b3;have e4:= @cmpI_0 a4 b4;simp only[cmpR,orS,Ro.mk.injEq]
 repeat' split
 all_goals (simp only[ne_eq]at *;grind)
theorem cmpR_anti (a b:Ro):cmpR b a= -cmpR a b:=by
 simp only[cmpR,orS,cmpI_anti a.k b.k,cmpI_anti a.i b.i,cmpI_anti a.l b.l,cmpI_anti a.h b.h]
 repeat' split
 all_goals omega
theorem cmpR_lt {a b:Ro}:cmpR a b<0↔a.k<b.k∨(a.k=b.k∧(a.i<b.i∨(a.i=b.i∧(a.l<b.l∨(a.l=b.l∧a.h<b.h))))):=by
 have e1:= @cmpI_0 a.k b.k;have e2:= @cmpI_0 a.i b.i;have e3:= @cmpI_0 a.l b.l;have f1:= @cmpI_lt a.k b.k;have f2:= @cmpI_lt a.i b.i;have f3:= @cmpI_lt a.l b.l;have f4:= @cmpI_lt a.h b.h;simp only[cmpR,orS]
 repeat' split
 all_goals (simp only[ne_eq]at *;omega)
theorem cmpR_trans {a b c:Ro}(h:cmpR a b≤0)(k:cmpR b c≤0):cmpR a c≤0:=by
 have n1:∀x y:Ro,cmpR x y≤0↔¬cmpR y x<0:=fun x y=>by rw[cmpR_anti x y];omega
 rw[n1,cmpR_lt]at *
 omega
theorem pl_nan {x:Int}:LV Tryz.prog 246 [vl (.int .i64 x)] (vl (.bool false)):=by
 refine LX_run (m:=0) (n0:=0) mix Tryz.func246 rfl rfl rfl rfl ?_;conv=>whnf
 refine bF (by simp) ?_;conv=>whnf
 exact .q ⟨rfl,rfl⟩
theorem pl_cmp {x y:Int}:LV Tryz.prog 227 [vl (.int .i64 x),vl (.int .i64 y)] (vl (.int .i64 (cmpI x y))):=by
 refine LX_run (m:=0) (n0:=0) mix Tryz.func227 rfl rfl rfl rfl ?_;conv=>whnf
 refine .c (pl_nan) ?_;conv=>whnf
 refine .c (pl_nan) ?_;conv=>whnf
 repeat' first|(refine bs (fun h=> ?_) (fun h=> ?_)<;>conv=>whnf)|(refine Nc.mk (by kernel_rfl) ?_;conv=>whnf)
 all_goals exact .q ⟨by first|(simp_all [cmpI];done)|(simp_all [cmpI];intros;omega)|((simp[cmpI];repeat' split)<;>first|(simp_all;done)|(simp_all;intros;omega)),rfl⟩
abbrev intsD (xs:List Int):D:= .sl 1 (xs.map fun x=>[.lit (.int .i64 x)])
theorem orS_at:∀{xs:List Int} {i:Nat} {x:Int},(∀j y,j<i→xs[j]? =some y→y=0)→xs[i]? =some x→x≠0→orS xs=x
 |[],i,x,_,h,_=>by simp at h
 |z::xs,0,x,_,h,hx=>by simp at h;subst h;rw[orS,if_pos hx]
 |z::xs,i+1,x,ha,h,hx=>by
  have:=ha 0 z (by omega) rfl;rw[orS,if_neg (by omega)];exact orS_at (i:=i) (fun j y hj hy=>ha (j+1) y (by omega) (by simpa using hy)) (by simpa using h) hx
theorem orS_0:∀{xs:List Int},(∀(j:Nat) y,xs[j]? =some y→y=0)→orS xs=0
 |[],_=>rfl
 |z::xs,h=>by
  rw[orS,if_neg (by have:=h 0 z rfl;omega)];exact orS_0 fun j y hy=>h (j+1) y (by simpa using hy)
theorem pl_or {xs:List Int}(hl:xs.length≤1000):LV Tryz.prog 226 [.a (.d (intsD xs))] (vl (.int .i64 (orS xs))):=by
 refine LX_run (m:=0) (n0:=0) mix Tryz.func226 rfl rfl rfl rfl ?_;conv=>whnf
 refine .mk Nat (fun i=>⟨[(8,vl (.int .i64 i)),(7,vl (.int .i64 (xs.map fun x=>[D.lit (.int .i64 x)]).length)),(6,.a (.d (intsD xs))),(3,vl (.int .i64 0))],[],0⟩) (fun i=>i≤xs.length∧∀j y,j<i→xs[j]? =some y→y=0) (fun i=>xs.length-i) 0 Wk.go ⟨zL_ _,by intro j y h;omega⟩ fun i hi=> ?_;obtain⟨hi,hall⟩:=hi;conv=>whnf
 refine bs (fun h1=> ?_) (fun h1=> ?_)
 ·conv=>whnf
  have h1':i<xs.length:=by simpa using h1
  obtain⟨x,hx⟩:=at_some h1';refine .mk (i) ([D.lit (.int .i64 x)]) (rfl) (at_map (f:=fun x=>[D.lit (.int .i64 x)]) hx) ?_;conv=>whnf
  conv=>whnf
  refine bs (fun h2=> ?_) (fun h2=> ?_)
  ·conv=>whnf
   exact .q ⟨by rw[orS_at hall hx (by simpa using h2)],rfl⟩
  ·conv=>whnf
   refine⟨i+1,Wk.go,⟨h1',fun j y hj hy=> ?_⟩,by omega⟩;rcases Nat.lt_succ_iff_lt_or_eq.1 hj with h3|h3
   ·exact hall j y h3 hy
   ·subst h3;rw[hx]at hy;injection hy with hy;rw[←hy];simpa using h2
 ·conv=>whnf
  exact .q ⟨by rw[orS_0 fun j y hy=>hall j y (by have:=at_lt hy;simp at h1;omega) hy],rfl⟩
theorem pl_compare {a b:Ro}:LV Tryz.prog 213 [.agg a.A,.agg b.A] (vl (.int .i64 (cmpR a b))):=by
 refine LX_run (m:=0) (n0:=0) mix Tryz.func213 rfl rfl rfl rfl ?_;conv=>whnf
 refine .c (pl_cmp) ?_;conv=>whnf
 refine .c (pl_cmp) ?_;conv=>whnf
 refine .c (pl_cmp) ?_;conv=>whnf
 refine .c (pl_cmp) ?_;conv=>whnf
 refine .c (pl_or (xs:=[cmpI a.k b.k,cmpI a.i b.i,cmpI a.l b.l,cmpI a.h b.h]) (by simp)) ?_;conv=>whnf
 refine .mk (by kernel_rfl) ?_;conv=>whnf
 exact .q ⟨rfl,rfl⟩
structure CanL (l:List Mu):Prop where
 pos:∀m∈l,0<m.c
 up:∀(i:Nat) a b,l[i]? =some a→l[i+1]? =some b→cmpR a.r b.r<0
theorem pl_canon {l:List Mu}{K:Nat}(h:CanL l)(hl:MuB K l)(hk:K≤3000000000)(hn:l.length≤1000000):LV Tryz.prog 200 [.a (.d (musD l))] (vl (.bool true)):=by
 refine LX_run (m:=0) (n0:=0) mix Tryz.func200 rfl rfl rfl rfl ?_;conv=>whnf
 refine .mk Nat (fun i=>⟨[(7,vl (.int .i64 (i:Nat))),(6,vl (.int .i64 (l.map Mu.D).length)),(5,.a (.d (musD l))),(0,.a (.d (musD l)))],[],0⟩) (fun i=>i≤l.length) (fun i=>l.length-i) 0 Wk.go (zL_ _) fun i hi=> ?_;conv=>whnf
 conv=>whnf
 refine bs (fun h1=> ?_) (fun h1=> ?_)
 ·conv=>whnf
  have h1':i<l.length:=by simpa using h1
  obtain⟨m,hm⟩:=at_some h1';have hmm:=mG_ hm;have mz:Sz m.c:=(hl m hmm).mono hk;refine .mk (i) (m.D) (rfl) (at_map hm) ?_;conv=>whnf
  conv=>whnf
  refine .c (lx_rsign (.c mz)) ?_;conv=>whnf
  refine bF (by have:= @sg_gt m.c;rw[decide_eq_true (h.pos m hmm)]at this;simpa using this) ?_;conv=>whnf
  refine .c (lx_okc mz) ?_;conv=>whnf
  refine bs (fun h2=> ?_) (fun h2=> ?_)
  ·conv=>whnf
   have h2':0<i:=by simpa using h2
   obtain⟨p,hp⟩:=at_some (l:=l) (i:=i-1) (by omega);refine .mk (i-1) (p.D) (by rw[wr64 (by omega) (by omega)];omega) (at_map hp) ?_;conv=>whnf
   conv=>whnf
   refine .c (pl_compare (a:=p.r) (b:=m.r)) ?_;conv=>whnf
   refine bF (decide_eq_false (by have:=h.up (i-1) p m hp (by rw[show i-1+1=i by omega];exact hm);omega)) ?_;conv=>whnf
   refine .mk (by kernel_rfl) ?_;conv=>whnf
   exact⟨i+1,Wk.go,h1',by omega⟩
  ·conv=>whnf
   refine .mk (by kernel_rfl) ?_;conv=>whnf
   exact⟨i+1,Wk.go,h1',by omega⟩
 ·conv=>whnf
  exact .q ⟨rfl,rfl⟩
def sumTo (s:Sp)(l:List Mu)(i:Nat):Af:=(l.take i).foldl (fun a m=>addS a (scaleS (frm s m.r) m.c)) (numS 0)
def sumS (s:Sp)(l:List Mu):Af:=sumTo s l l.length
theorem sumTo_succ {s:Sp}{l:List Mu}{i:Nat}{m:Mu}(h:l[i]? =some m):sumTo s l (i+1)=addS (sumTo s l i) (scaleS (frm s m.r) m.c):=by
 unfold sumTo;rw[take_snoc h,List.foldl_append];rfl
theorem fold_cof (s:Sp)(w:Int):∀(l:List Mu) (a:Af),cof (l.foldl (fun a m=>addS a (scaleS (frm s m.r) m.c)) a).ts w=cof a.ts w+wsum (fun r=>cof (frm s r).ts w) l
 |[],a=>by simp[wsum,Rat.add_zero]
 |m::l,a=>by
  rw[List.foldl_cons,fold_cof s w l,addS,cof_fold,scaleS,cof_scale,wsum];grind
theorem fold_c (s:Sp):∀(l:List Mu) (a:Af),(l.foldl (fun a m=>addS a (scaleS (frm s m.r) m.c)) a).c=a.c+wsum (fun r=>(frm s r).c) l
 |[],a=>by simp[wsum,Rat.add_zero]
 |m::l,a=>by
  rw[List.foldl_cons,fold_c s l,addS,scaleS,wsum];grind
theorem sumS_cof (s:Sp)(l:List Mu)(w:Int):cof (sumS s l).ts w=wsum (fun r=>cof (frm s r).ts w) l:=by
 rw[sumS,sumTo,List.take_length,fold_cof];exact Rat.zero_add _
theorem sumS_c (s:Sp)(l:List Mu):(sumS s l).c=wsum (fun r=>(frm s r).c) l:=by
 rw[sumS,sumTo,List.take_length,fold_c];exact Rat.zero_add _
theorem frm_b {s:Sp}{B:Nat}{r:Ro}(hq:QuB s.q)(hr:RoA s r)(hl:Bt B (lmV s r.l r.i false))(hu:Bt B (lmV s r.h r.i true)):FB (4*B+17) (s.q.g.n+s.q.g.us.length:Nat) (frm s r):=by
 unfold frm;rcases hr with⟨h1,h2,h3,_,_⟩|h
 ·have hv:=FB.var (n:=((s.q.g.n+s.q.g.us.length:Nat):Int)) (v:=r.i) h2 (by omega);have hlo:=hq.r.lo;have hhi:=hq.r.hi;rw[if_pos h1,frmI];have hx:=atQ_some (l:=s.q.r.lo) h2 (by omega);have hy:=atQ_some (l:=s.q.r.hi) h2 (by omega);split
  ·exact(hv.sub (FB.num (hq.r.sl _ (mG_ hx)))).up (by omega) (Int.le_refl _)
  ·exact((FB.num (hq.r.sh _ (mG_ hy))).sub hv).up (by omega) (Int.le_refl _)
 ·have hk:=h.nk;have i0:=h.i0;have i1:=h.i1;have hp:=atF_some (l:=s.q.g.us) i0 i1;rw[if_neg (by omega)];exact(frmW_b (n:=((s.q.g.n+s.q.g.us.length:Nat):Int)) r.k (by omega) (by omega) ((hq.g.us _ _ hp).up (lR_ _) (by omega)) hl hu).up (by omega) (Int.le_refl _)
structure SmOk (s:Sp)(l:List Mu)(B K:Nat):Prop where
 can:CanL l
 rows:∀m∈l,RoA s m.r∧Bt B (lmV s m.r.l m.r.i false)∧Bt B (lmV s m.r.h m.r.i true)
 mu:MuB K l
 n:l.length≤1000
 big:(l.length+1)*(4*B+17+K+1)≤900000000
theorem sumTo_b {s:Sp}{l:List Mu}{B K:Nat}(hq:QuB s.q)(h:SmOk s l B K):∀i,i≤l.length→FB (i*(4*B+17+K+1)) (s.q.g.n+s.q.g.us.length:Nat) (sumTo s l i)
 |0,_=>by rw[Nat.zero_mul];exact FB.num (bt0 0)
 |i+1,hi=>by
  obtain⟨m,hm⟩:=at_some (l:=l) (i:=i) (by omega);have hmm:=mG_ hm;obtain⟨r1,r2,r3⟩:=h.rows m hmm;rw[sumTo_succ hm,Nat.add_mul,Nat.one_mul];exact((sumTo_b hq h i (by omega)).add ((frm_b hq r1 r2 r3).scale (h.mu m hmm))).up (by omega) (Int.le_refl _)
theorem pl_sum {s:Sp}{l:List Mu}{B K:Nat}(hs:SpOk s)(hq:QuB s.q)(h:SmOk s l B K):LV Tryz.prog 177 [.agg s.A,.a (.d (musD l))] (.tup [.g (sumS s l).A,.s (.d (.lit (.int .i64 0)))]):=by
 have hn:=h.n;have hbig:=h.big;have hn2:=hs.q.g.n2;have hu1:=hs.q.g.u1;have h1K:4*B+17+K+1≤(l.length+1)*(4*B+17+K+1):=Nat.le_mul_of_pos_left _ (by omega);refine LX_run (m:=0) (n0:=0) mix Tryz.func177 rfl rfl rfl rfl ?_;conv=>whnf
 refine .c (pl_canon h.can h.mu (by omega) (by omega)) ?_;conv=>whnf
 refine .mk Nat (fun i=>⟨[(17,vl (.int .i64 (i:Nat))),(16,vl (.int .i64 (l.map Mu.D).length)),(15,.a (.d (musD l))),(6,.a (.ptr 2 0)),(4,.a (.ptr 1 0)),(2,.a (.ptr 0 0))],[(0,.box 108 s.A),(1,.box 32 [.d (.lit (.slice none 0 0)),.d (.lit (.bool false)),.d (.nat 0),.d (.nat 0)]),(2,.box 32 (sumTo s l i).A)],3⟩)
  (fun i=>i≤l.length) (fun i=>l.length-i) 0 (Wk.of (by repeat' first|exact trivial|exact vR_ _|refine⟨⟨_,rfl,?_,rfl⟩,?_⟩) (by refine⟨⟨_,rfl,wke_refl _,rfl⟩,⟨_,rfl,wke_refl _,rfl⟩,⟨_,rfl,⟨_,rfl,?_⟩,rfl⟩,trivial⟩;show All2 WkA _ (numS 0).A;rw[numS0_A];exact⟨WkA.nil,aR_ _,aR_ _,aR_ _,trivial⟩) rfl) (zL_ _) fun i hi=> ?_
 conv=>whnf
 refine bs (fun h1=> ?_) (fun h1=> ?_)
 ·conv=>whnf
  have h1':i<l.length:=by simpa using h1
  obtain⟨m,hm⟩:=at_some h1';have hmm:=mG_ hm;obtain⟨r1,r2,r3⟩:=h.rows m hmm;have hf:=frm_b hq r1 r2 r3;have hib:(i+1)*(4*B+17+K+1)≤(l.length+1)*(4*B+17+K+1):=Nat.mul_le_mul_right _ (by omega);rw[Nat.add_mul,Nat.one_mul]at hib;refine .mk (i) (m.D) (rfl) (at_map hm) ?_;conv=>whnf
  conv=>whnf
  refine .c (pl_form (r:=m.r) hs hq r1 r2 r3 (by omega)) ?_;conv=>whnf
  refine .c (pl_scale hf (h.mu m hmm) (by omega) (by omega) (by omega)) ?_;conv=>whnf
  refine .c (pl_add (sumTo_b hq h i hi) (hf.scale (h.mu m hmm)) (by omega) (by omega) (by omega)) ?_;conv=>whnf
  refine .mk (by kernel_rfl) ?_;conv=>whnf
  exact⟨i+1,by rw[sumTo_succ hm];exact Wk.go,h1',by omega⟩
 ·conv=>whnf
  have e:i=l.length:=by simp at h1;omega
  subst e;exact .q ⟨rfl,rfl⟩
theorem cof_sub (f g:Af)(w:Int):cof (subS f g).ts w=cof f.ts w-cof g.ts w:=by
 rw[subS,addS,cof_fold,scaleS,cof_scale];show _+_*((-1:Int):Rat)=_;grind
theorem c_sub (f g:Af):(subS f g).c=f.c-g.c:=by
 show f.c+g.c*((-1:Int):Rat)=_;grind
theorem FB.zero {k:Nat}{n:Int}{f:Af}(h:FB k n f)(hz:∀w,cof f.ts w=0):f=numS f.c:=
 Af.ext' (n:=n) (n':=n) h.ts trivial (fun w=>(hz w).trans rfl) rfl
theorem AfOk.le {f:Af}{n n':Int}(h:AfOk f n)(hn:n≤n'):AfOk f n':=⟨fun i t ht=>let q:=h.lo i t ht;⟨q.1,Int.lt_of_lt_of_le q.2.1 hn,q.2.2⟩,h.up,h.c,h.len⟩
theorem pl_proves {s:Sp}{f:Af}{l:List Mu}{B K k:Nat}(hs:SpOk s)(hq:QuB s.q)(hf:FB k (s.q.g.n+s.q.g.us.length:Nat) f)(hk:k≤90000000)(h:SmOk s l B K)(hc:∀w,cof f.ts w=wsum (fun r=>cof (frm s r).ts w) l)(hv:0≤f.c-wsum (fun r=>(frm s r).c) l):
  LV Tryz.prog 147 [.agg s.A,.agg f.A,.a (.d (musD l))] (vl (.bool true)):=by
 have hn2:=hs.q.g.n2;have hu1:=hs.q.g.u1;have hbig:=h.big;rw[Nat.add_mul,Nat.one_mul]at hbig;have hsb:=sumTo_b hq h l.length (lR_ _);have hd:=hf.sub hsb;have e:subS f (sumS s l)=numS (f.c-wsum (fun r=>(frm s r).c) l):=by
  rw[←sumS_c,←c_sub]
  exact FB.zero hd fun w=>by
   show cof (subS f (sumS s l)).ts w=0;rw[cof_sub,sumS_cof,hc];grind
 have hdz:Sz (f.c-wsum (fun r=>(frm s r).c) l):=by
  have:=hd.c;rw[show(subS f (sumTo s l l.length))=numS (f.c-wsum (fun r=>(frm s r).c) l)from e]at this;exact this.mono (by omega)
 have cs:=pl_sub hf hsb (by omega) (by omega) (by omega);rw[show(subS f (sumTo s l l.length))=numS (f.c-wsum (fun r=>(frm s r).c) l)from e]at cs;refine LX_run (m:=0) (n0:=0) mix Tryz.func147 rfl rfl rfl rfl ?_;conv=>whnf
 refine .c (pl_sum hs hq h) ?_;conv=>whnf
 refine .c (lx_lvalid (n:=9223372036854775807) ((hf.ok (by omega) (by omega) (by omega)).le (by omega))) ?_;conv=>whnf
 refine .c (cs) ?_;conv=>whnf
 refine .c (lx_rsign (.c hdz)) ?_;conv=>whnf
 refine bT (by have:= @sg_lt (f.c-wsum (fun r=>(frm s r).c) l);rw[decide_eq_false (Rat.not_lt.2 hv)]at this;simpa [numS]using this) ?_;conv=>whnf
 exact .q ⟨rfl,rfl⟩
def mkL (j:Nat)(up:Bool)(v:Rat)(l:List Mu):Lm:=⟨j,up,can v,l.map Mu.D⟩
def fL (p:Af)(up:Bool)(v:Rat):Af:=if up=true then scaleS (subS p (numS v)) m1 else subS p (numS v)
theorem numA_wk (q:Rat):WkV (.agg (.d (.lit (.slice none 0 0))::(can q).A)) (.agg (numS q).A):=WkV.agg ⟨WkA.nil,aR_ _,aR_ _,aR_ _,trivial⟩
structure DvL (s:Sp)(j:Nat)(up:Bool)(v:Rat)(l:List Mu)(B K:Nat):Prop where
 sm:SmOk s l B K
 jl:j<s.q.g.us.length
 bv:Bt 80000000 v
 cof:∀w,cof (fL (atF s.q.g.us j) up v).ts w=wsum (fun r=>cof (frm s r).ts w) l
 val:0≤(fL (atF s.q.g.us j) up v).c-wsum (fun r=>(frm s r).c) l
theorem pl_dlemma {s:Sp}{j:Nat}{up:Bool}{v:Rat}{l:List Mu}{B K:Nat}(hs:SpOk s)(hq:QuB s.q)(h:DvL s j up v l B K):
  LV Tryz.prog 105 [.agg s.A,.agg (mkL j up v l).A] (vl (.bool true)):=by
 have hn2:=hs.q.g.n2;have hu1:=hs.q.g.u1;have hj:=h.jl;have hp:=atF_some (l:=s.q.g.us) (i:=(j:Int)) (by omega) (by omega);obtain⟨h1,_,h3,h4,h5⟩:=h;have hpf:FB 5 (s.q.g.n+s.q.g.us.length:Nat) (atF s.q.g.us j):=(hq.g.us _ _ hp).up (lR_ _) (by omega);generalize atF s.q.g.us j=p at *
 have vz:Sz v:=h3.mono (by decide);have f1:=hpf.sub (FB.num h3);show LV Tryz.prog _ [.agg s.A,.agg [.d (.lit (.int .i64 j)),.d (.lit (.bool up)),.d (.lit (.bool (can v).b)),.d (.lm (can v).n),.d (.lm (can v).d),.d (musD l)]] _;unfold fL at h4 h5
 cases up
 all_goals refine LX_run (m:=0) (n0:=0) mix Tryz.func105 rfl rfl rfl rfl ?_
           conv=>whnf
 all_goals refine bF (decide_eq_false (by rw[List.length_map];omega)) ?_
           conv=>whnf
 all_goals refine .c (lx_okc vz) ?_
           conv=>whnf
 all_goals refine .c (lx_quvalid hs.q) ?_
           conv=>whnf
 all_goals refine .mk (j) (p.D) (rfl) (at_map (by simpa using hp)) ?_
           conv=>whnf
 all_goals conv=>whnf
 all_goals refine Cn.as (pl_sub hpf (FB.num h3) (by omega) (by omega) (by omega)) rfl ⟨vR_ _,numA_wk v,trivial⟩ rfl rfl ?_
 all_goals conv=>whnf
 all_goals refine .mk (by kernel_rfl) ?_
           conv=>whnf
 ·rw[if_neg (by simp)]at h4 h5;refine .c (pl_proves hs hq f1 (by omega) h1 h4 h5) ?_;conv=>whnf
  exact .q ⟨rfl,rfl⟩
 ·rw[if_pos rfl]at h4 h5;refine .c (lx_rofm) ?_;conv=>whnf
  refine .c (pl_scale f1 m1_b (by omega) (by omega) (by omega)) ?_;conv=>whnf
  refine .mk (by kernel_rfl) ?_;conv=>whnf
  refine .c (pl_proves hs hq (f1.scale m1_b) (by omega) h1 h4 h5) ?_;conv=>whnf
  exact .q ⟨rfl,rfl⟩
theorem pl_cf0 {s:Sp}:LX Tryz.prog 102 [.a (.d (.sl 5 [])),.a (.fn (.func 103) [] [.ptr 0 0])] [(0,.box 108 s.A)] fun v H=>v=vl (.bool false)∧H=[(0,.box 108 s.A)]:=by
 have ix:LX Tryz.prog 145 [.a (.d (.sl 5 [])),.a (.fn (.func 103) [] [.ptr 0 0])] [(0,.box 108 s.A)] fun v H=>v=vl (.int .i64 (-1))∧H=[(0,.box 108 s.A)]:=by
  refine LX_run (m:=1) (n0:=1) mix Tryz.func145 rfl rfl rfl rfl ?_;conv=>whnf
  refine .mk Unit (fun _=>⟨[(8,vl (.int .i64 0)),(7,vl (.int .i64 0)),(1,.a (.fn (.func 103) [] [.ptr 0 0])),(0,.a (.d (.sl 5 [])))],[(0,.box 108 s.A)],1⟩) (fun _=>True) (fun _=>0) () Wk.go trivial fun _ _=> ?_;conv=>whnf
  exact⟨_,_,⟨rfl,rfl⟩,vR_ _,rfl,⟨⟨_,rfl,wke_refl _,rfl⟩,trivial⟩,rfl⟩
 refine LX_run (m:=1) (n0:=1) mix Tryz.func102 rfl rfl rfl rfl ?_;conv=>whnf
 refine .l [0] (ix) ?_;conv=>whnf
 exact⟨_,_,⟨rfl,rfl⟩,vR_ _,rfl,⟨⟨_,rfl,wke_refl _,rfl⟩,trivial⟩,rfl⟩
theorem pl_scope {q:Qu}{ls:List Lm}(hs:SpOk ⟨q,[],ls⟩)(h:∀(i:Nat) m,ls[i]? =some m→LV Tryz.prog 105 [.agg (Sp.A ⟨q,[],ls.take i⟩),.agg m.A] (vl (.bool true))):LV Tryz.prog 57 [.agg (Sp.A ⟨q,[],ls⟩)] (vl (.bool true)):=by
 have hl:ls.length≤1000000:=hs.ll;refine LX_run (m:=0) (n0:=0) mix Tryz.func57 rfl rfl rfl rfl ?_;conv=>whnf
 refine .c (lx_quvalid hs.q) ?_;conv=>whnf
 refine .l [0] (pl_cf0) ?_;conv=>whnf
 refine .mk Nat (fun i=>⟨[(18,vl (.int .i64 (i:Nat))),(17,vl (.int .i64 (ls.map Lm.D).length)),(16,.a (.d (lmsD ls))),(1,.a (.ptr 0 0))],[(0,.box 108 (Sp.A ⟨q,[],ls⟩))],1⟩) (fun i=>i≤ls.length) (fun i=>ls.length-i) 0 Wk.go (zL_ _) fun i hi=> ?_;conv=>whnf
 conv=>whnf
 refine bs (fun h1=> ?_) (fun h1=> ?_)
 ·conv=>whnf
  have h1':i<ls.length:=by simpa using h1
  obtain⟨m,hm⟩:=at_some h1';refine .mk (i) (m.D) (rfl) (at_map hm) ?_;conv=>whnf
  conv=>whnf
  refine .mk 0 i ((ls.take i).map Lm.D) rfl rfl (zL_ _) (by simp;omega) (by simp[List.map_take]) ?_;conv=>whnf
  refine .c (h i m hm) ?_;conv=>whnf
  refine .mk (by kernel_rfl) ?_;conv=>whnf
  exact⟨i+1,Wk.go,h1',by omega⟩
 ·conv=>whnf
  exact .q ⟨rfl,rfl⟩
abbrev Mu.A (m:Mu):List A:=[.d (.lit (.int .i64 m.r.k)),.d (.lit (.int .i64 m.r.i)),.d (.lit (.int .i64 m.r.l)),.d (.lit (.int .i64 m.r.h)),.d (.lit (.bool (decide (m.c<0)))),.d (.lm (limbs m.c.num.natAbs)),.d (.lm (limbs (dn m.c)))]
theorem pl_less2 {a b:Mu}:LV Tryz.prog 280 [.agg a.A,.agg b.A] (vl (.int .i64 (cmpR a.r b.r))):=by
 refine LX_run (m:=0) (n0:=0) mix Tryz.func280 rfl rfl rfl rfl ?_;conv=>whnf
 refine .c (pl_compare (a:=a.r) (b:=b.r)) ?_;conv=>whnf
 exact .q ⟨rfl,rfl⟩
def Srt (l:List Mu)(i:Nat):Prop:=∀(p q:Nat) a b,p<q→q<i→l[p]? =some a→l[q]? =some b→cmpR a.r b.r≤0
def SrtX (l:List Mu)(i j:Nat):Prop:=∀(p q:Nat) a b,p<q→q≤i→q≠j→l[p]? =some a→l[q]? =some b→cmpR a.r b.r≤0
theorem Srt.x {l:List Mu}{i:Nat}(h:Srt l i):SrtX l i i:=fun p q a b hp hq hn h1 h2=>h p q a b hp (by omega) h1 h2
theorem SrtX.done {l:List Mu}{i j:Nat}(h:SrtX l i j)(hj:j=0∨∃a b,l[j-1]? =some a∧l[j]? =some b∧0<j∧¬cmpR b.r a.r<0):Srt l (i+1):=by
 intro p q a b hp hq h1 h2
 by_cases e:q=j
 ·subst e;rcases hj with hj|⟨x,y,hx,hy,h0,hc⟩
  ·omega
  ·rw[h2]at hy;injection hy with hy;subst hy;have hxb:cmpR x.r b.r≤0:=by rw[cmpR_anti];omega
   by_cases e2:p=q-1
   ·subst e2;rw[h1]at hx;injection hx with hx;subst hx;exact hxb
   ·exact cmpR_trans (h p (q-1) a x (by omega) (by omega) (by omega) h1 hx) hxb
 ·exact h p q a b hp (by omega) e h1 h2
def swp (l:List Mu)(j:Nat)(x y:Mu):List Mu:=(l.set j x).set (j-1) y
theorem swp_perm {l:List Mu}{j:Nat}{x y:Mu}(h0:0<j)(hx:l[j-1]? =some x)(hy:l[j]? =some y):(swp l j x y).Perm l:=by
 obtain⟨q1,q2⟩:=List.getElem?_eq_some_iff.1 hx;obtain⟨q3,q4⟩:=List.getElem?_eq_some_iff.1 hy;have:= @List.set_set_perm _ l j (j-1) q3 q1
 rwa [q2,q4]at this
theorem swp_at {l:List Mu}{j:Nat}{x y:Mu}(h0:0<j)(hj:j<l.length)(k:Nat):(swp l j x y)[k]? =if k=j-1 then some y else if k=j then some x else l[k]?:=by
 unfold swp;rw[List.getElem?_set,List.getElem?_set,List.length_set]
 repeat' split
 all_goals first|rfl|(exfalso;omega)
theorem SrtX.swap {l:List Mu}{i j:Nat}{x y:Mu}(h:SrtX l i j)(h0:0<j)(hji:j≤i)(hx:l[j-1]? =some x)(hy:l[j]? =some y)(hc:cmpR y.r x.r<0):SrtX (swp l j x y) i (j-1):=by
 have hjl:=(List.getElem?_eq_some_iff.1 hy).1;intro p q a b hp hq hn h1 h2;rw[swp_at h0 hjl]at h1 h2;rw[if_neg hn]at h2;split at h2
 ·rename_i e;subst e;injection h2 with h2;subst h2;split at h1
  ·injection h1 with h1;subst h1;omega
  ·rw[if_neg (by omega)]at h1;exact h p (q-1) a x (by omega) (by omega) (by omega) h1 hx
 ·rename_i e;split at h1
  ·injection h1 with h1;subst h1;exact h j q y b (by omega) hq e hy h2
  ·split at h1
   ·injection h1 with h1;subst h1;exact h (j-1) q x b (by omega) hq e hx h2
   ·exact h p q a b hp hq e h1 h2
abbrev mtH (l:List Mu):List (Nat×Ent):=[(0,.tab 256 7 (l.map Mu.D))]
theorem pl_insert {ms:List Mu}{n:Nat}(hn:ms.length=n)(h1:1≤n)(h2:n≤1000):LX Tryz.prog 285 [.a (.tab 0 n),vl (.int .i64 0),vl (.int .i64 n),.a (.fn (.func 280) [] [])] (mtH ms)
  fun v H=>∃l:List Mu,(l.Perm ms∧Srt l n)∧v= .tup []∧H=mtH l:=by
 refine LX_run (m:=1) (n0:=1) mix Tryz.func285 rfl rfl rfl rfl ?_;conv=>whnf
 refine .mk (Nat×List Mu) (fun(i,l)=>⟨[(8,vl (.int .i64 i)),(3,.a (.fn (.func 280) [] [])),(2,vl (.int .i64 n)),(1,vl (.int .i64 0)),(0,.a (.tab 0 n))],mtH l,1⟩) (fun b=>1≤b.1∧b.1≤n∧b.2.Perm ms∧Srt b.2 b.1) (fun b=>n-b.1) (1,ms) Wk.go ⟨lR_ _,h1,List.Perm.refl _,fun p q a b hp hq=>by omega⟩ fun⟨i,l⟩ hb=> ?_;obtain⟨hi0,hi,hp,hs⟩:=hb;simp only at hi0 hi hp hs;conv=>whnf
 refine bs (fun t1=> ?_) (fun t1=> ?_)
 ·conv=>whnf
  have t1':i<n:=by simpa using t1
  refine .mk (Nat×List Mu) (fun(j,l)=>⟨[(9,vl (.int .i64 j)),(8,vl (.int .i64 i)),(3,.a (.fn (.func 280) [] [])),(2,vl (.int .i64 n)),(1,vl (.int .i64 0)),(0,.a (.tab 0 n))],mtH l,1⟩) (fun b=>b.1≤i∧b.2.Perm ms∧SrtX b.2 i b.1) (fun b=>b.1) (i,l) Wk.go ⟨lR_ _,hp,hs.x⟩ fun⟨j,l⟩ hb=> ?_;obtain⟨hj,hp,hs⟩:=hb;simp only at hj hp hs;have hll:l.length=n:=by rw[hp.length_eq,hn]
  conv=>whnf
  refine bs (fun t2=> ?_) (fun t2=> ?_)
  ·conv=>whnf
   have t2':0<j:=by simpa using t2
   obtain⟨y,hy⟩:=at_some (l:=l) (i:=j) (by omega);obtain⟨x,hx⟩:=at_some (l:=l) (i:=j-1) (by omega);refine .mk j rfl (by omega) ?_;conv=>whnf
   refine .mk j 0 y.D rfl (at_map hy) ?_;conv=>whnf
   refine .mk (j-1) (by rw[wr64 (by omega) (by omega)];omega) (by omega) ?_;conv=>whnf
   refine .mk (j-1) 0 x.D rfl (at_map hx) ?_;conv=>whnf
   refine .c (pl_less2 (a:=y) (b:=x)) ?_;conv=>whnf
   refine bs (fun t3=> ?_) (fun t3=> ?_)
   ·conv=>whnf
    refine .mk (by kernel_rfl) ?_;conv=>whnf
    have t3':cmpR y.r x.r<0:=by simpa using t3
    have hw:IntKind.i64.wrap ((j:Int)-1)=((j-1:Nat):Int):=by rw[wr64 (by omega) (by omega)];omega
    refine .mk (j-1) hw (by omega) ?_;conv=>whnf
    refine .mk (j-1) 0 x.D rfl (at_map hx) ?_;conv=>whnf
    refine .mk j rfl (by omega) ?_;conv=>whnf
    refine .mk j 0 y.D rfl (at_map hy) ?_;conv=>whnf
    refine .mk j rfl (by omega) ?_;conv=>whnf
    refine .mk j 0 y.D ((l.set j x).map Mu.D) rfl (at_map hy) (lR_ 7) (by rw[List.map_set];rfl) ?_;conv=>whnf
    refine .mk (j-1) hw (by omega) ?_;conv=>whnf
    refine .mk (j-1) 0 x.D ((swp l j x y).map Mu.D) rfl (at_map (by rw[List.getElem?_set_ne (by omega)];exact hx)) (lR_ 7) (by rw[swp,List.map_set];rfl) ?_;conv=>whnf
    refine .mk (by kernel_rfl) ?_;conv=>whnf
    exact⟨(j-1,swp l j x y),Wk.go (h1:=by rw[hw];(repeat' first|exact trivial|exact vR_ _|refine⟨⟨_,rfl,?_,rfl⟩,?_⟩)),⟨by simp only;omega,(swp_perm t2' hx hy).trans hp,hs.swap t2' hj hx hy t3'⟩,by simp only;omega⟩
   ·conv=>whnf
    refine .mk (by kernel_rfl) ?_;conv=>whnf
    exact⟨(i+1,l),Wk.go,⟨by simp only;omega,t1',hp,hs.done (.inr ⟨x,y,hx,hy,t2',by simpa using t3⟩)⟩,by simp only;omega⟩
  ·conv=>whnf
   refine .mk (by kernel_rfl) ?_;conv=>whnf
   exact⟨(i+1,l),Wk.go,⟨by simp only;omega,t1',hp,hs.done (.inl (by simpa using t2))⟩,by simp only;omega⟩
 ·conv=>whnf
  have e:i=n:=by simp at t1;omega
  subst e;exact⟨_,_,⟨l,⟨hp,hs⟩,rfl,rfl⟩,vR_ _,rfl,⟨⟨_,rfl,wke_refl _,rfl⟩,trivial⟩,rfl⟩
theorem pl_stable {ms:List Mu}{n:Nat}(hn:ms.length=n)(h1:1≤n)(h2:n≤19):LX Tryz.prog 284 [.a (.tab 0 n),vl (.int .i64 n),.a (.fn (.func 280) [] [])] (mtH ms)
  fun v H=>∃l:List Mu,(l.Perm ms∧Srt l n)∧v= .tup []∧H=mtH l:=by
 obtain⟨v,H,⟨l,hl,rfl,rfl⟩,hc⟩:=pl_insert hn h1 (by omega);have c:LX Tryz.prog 285 [.a (.tab 0 n),vl (.int .i64 0),vl (.int .i64 n),.a (.fn (.func 280) [] [])] (mtH ms) fun v H=>v= .tup []∧H=mtH l:=⟨_,_,⟨rfl,rfl⟩,hc⟩;refine LX_run (m:=1) (n0:=1) mix Tryz.func284 rfl rfl rfl rfl ?_;conv=>whnf
 refine .mk Unit (fun _=>⟨[(8,vl (.int .i64 20)),(7,vl (.int .i64 0)),(6,vl (.int .i64 20)),(2,.a (.fn (.func 280) [] [])),(1,vl (.int .i64 n)),(0,.a (.tab 0 n))],mtH ms,1⟩) (fun _=>True) (fun _=>0) () Wk.go trivial fun _ _=> ?_;conv=>whnf
 refine bF (decide_eq_false (by omega)) ?_;conv=>whnf
 refine Cn.o [0] (c) ?_;conv=>whnf
 refine .mk Unit (fun _=>⟨[(6,vl (.int .i64 20)),(2,.a (.fn (.func 280) [] [])),(1,vl (.int .i64 n)),(0,.a (.tab 0 n))],mtH l,1⟩) (fun _=>True) (fun _=>0) () Wk.go trivial fun _ _=> ?_;conv=>whnf
 refine bF (decide_eq_false (by omega)) ?_;conv=>whnf
 exact⟨_,_,⟨l,hl,rfl,rfl⟩,vR_ _,rfl,⟨⟨_,rfl,wke_refl _,rfl⟩,trivial⟩,rfl⟩
theorem pl_sort {ms:List Mu}{n:Nat}(hn:ms.length=n)(h1:1≤n)(h2:n≤19):LX Tryz.prog 279 [.a (.tab 0 n),.a (.fn (.func 280) [] [])] (mtH ms)
  fun v H=>∃l:List Mu,(l.Perm ms∧Srt l n)∧v= .tup []∧H=mtH l:=by
 obtain⟨v,H,⟨l,hl,rfl,rfl⟩,hc⟩:=pl_stable hn h1 h2;have c:LX Tryz.prog 284 [.a (.tab 0 n),vl (.int .i64 n),.a (.fn (.func 280) [] [])] (mtH ms) fun v H=>v= .tup []∧H=mtH l:=⟨_,_,⟨rfl,rfl⟩,hc⟩;refine LX_run (m:=1) (n0:=1) mix Tryz.func279 rfl rfl rfl rfl ?_;conv=>whnf
 refine Cn.o [0] (c) ?_;conv=>whnf
 exact⟨_,_,⟨l,hl,rfl,rfl⟩,vR_ _,rfl,⟨⟨_,rfl,wke_refl _,rfl⟩,trivial⟩,rfl⟩
theorem pl_insert0:LV Tryz.prog 285 [.a (.d (.sl 7 [])),vl (.int .i64 0),vl (.int .i64 0),.a (.fn (.func 280) [] [])] (.tup []):=by
 refine LX_run (m:=0) (n0:=0) mix Tryz.func285 rfl rfl rfl rfl ?_;conv=>whnf
 refine .mk Unit (fun _=>⟨[(8,vl (.int .i64 1)),(2,vl (.int .i64 0))],[],0⟩) (fun _=>True) (fun _=>0) () Wk.go trivial fun _ _=> ?_;conv=>whnf
 exact .q ⟨rfl,rfl⟩
theorem pl_stable0:LV Tryz.prog 284 [.a (.d (.sl 7 [])),vl (.int .i64 0),.a (.fn (.func 280) [] [])] (.tup []):=by
 refine LX_run (m:=0) (n0:=0) mix Tryz.func284 rfl rfl rfl rfl ?_;conv=>whnf
 refine .mk Unit (fun _=>⟨[(8,vl (.int .i64 20)),(7,vl (.int .i64 0)),(6,vl (.int .i64 20)),(2,.a (.fn (.func 280) [] [])),(1,vl (.int .i64 0)),(0,.a (.d (.sl 7 [])))],[],0⟩) (fun _=>True) (fun _=>0) () Wk.go trivial fun _ _=> ?_;conv=>whnf
 refine .c (pl_insert0) ?_;conv=>whnf
 refine .mk Unit (fun _=>⟨[(6,vl (.int .i64 20)),(1,vl (.int .i64 0))],[],0⟩) (fun _=>True) (fun _=>0) () Wk.go trivial fun _ _=> ?_;conv=>whnf
 exact .q ⟨rfl,rfl⟩
theorem pl_sort0:LV Tryz.prog 279 [.a (.d (.sl 7 [])),.a (.fn (.func 280) [] [])] (.tup []):=by
 refine LX_run (m:=0) (n0:=0) mix Tryz.func279 rfl rfl rfl rfl ?_;conv=>whnf
 refine .c (pl_stable0) ?_;conv=>whnf
 exact .q ⟨rfl,rfl⟩
theorem pl_neg {m:Mu}{K:Nat}(hb:Bt K m.c)(hk:K≤3000000000)(h:0≤m.c):LV Tryz.prog 277 [.agg m.A] (vl (.bool false)):=by
 refine LX_run (m:=0) (n0:=0) mix Tryz.func277 rfl rfl rfl rfl ?_;conv=>whnf
 refine .c (lx_rsign (.c (hb.mono hk))) ?_;conv=>whnf
 refine bF (by rw[sg_lt];exact decide_eq_false (Rat.not_lt.2 h)) ?_;conv=>whnf
 exact .q ⟨rfl,rfl⟩
theorem pl_cfM {l:List Mu}{K:Nat}(hl:l.length≤1000000)(hb:MuB K l)(hk:K≤3000000000)(h:∀m∈l,0≤m.c):LV Tryz.prog 276 [.a (.d (musD l)),.a (.fn (.func 277) [] [])] (vl (.bool false)):=by
 have ix:LV Tryz.prog 283 [.a (.d (musD l)),.a (.fn (.func 277) [] [])] (vl (.int .i64 (-1))):=by
  refine LX_run (m:=0) (n0:=0) mix Tryz.func283 rfl rfl rfl rfl ?_;conv=>whnf
  refine .mk Nat (fun i=>⟨[(8,vl (.int .i64 (i:Nat))),(7,vl (.int .i64 (l.map Mu.D).length)),(1,.a (.fn (.func 277) [] [])),(0,.a (.d (musD l)))],[],0⟩) (fun i=>i≤l.length) (fun i=>l.length-i) 0 Wk.go (zL_ _) fun i hi=> ?_;conv=>whnf
  conv=>whnf
  refine bs (fun h1=> ?_) (fun h1=> ?_)
  ·conv=>whnf
   have h1':i<l.length:=by simpa using h1
   obtain⟨m,hm⟩:=at_some h1';have hmm:=mG_ hm;refine .mk (i) (m.D) (rfl) (at_map hm) ?_;conv=>whnf
   conv=>whnf
   refine .c (pl_neg (m:=m) (hb m hmm) hk (h m hmm)) ?_;conv=>whnf
   exact⟨i+1,Wk.go,h1',by omega⟩
  ·conv=>whnf
   exact .q ⟨rfl,rfl⟩
 refine LX_run (m:=0) (n0:=0) mix Tryz.func276 rfl rfl rfl rfl ?_;conv=>whnf
 refine .c (ix) ?_;conv=>whnf
 exact .q ⟨rfl,rfl⟩
theorem pl_cloneM {x:Mu}{xs:List Mu}(hl:(x::xs).length≤1000000):LX Tryz.prog 278 [.a (.d (musD (x::xs)))] [] fun v H=>v= .a (.tab 0 (xs.length+1))∧H=mtH (x::xs):=by
 have e:((x::xs).map Mu.D).length=xs.length+1:=by simp
 refine LX_run (m:=0) (n0:=0) mix Tryz.func278 rfl rfl rfl rfl ?_;conv=>whnf
 refine .full ?_;conv=>whnf
 refine .tab ((x::xs).map Mu.D) rfl (by simp at hl ⊢;omega) (fun row hr d hd=> ?_) ?_
 ·obtain⟨m,_,rfl⟩:=List.mem_map.1 hr;simp only[Mu.D,List.mem_cons,List.not_mem_nil,or_false]at hd;rcases hd with rfl|rfl|rfl|rfl|rfl|rfl|rfl<;>rfl
 rw[e];conv=>whnf
 exact⟨_,_,⟨rfl,rfl⟩,vR_ _,rfl,⟨⟨_,rfl,wke_refl _,rfl⟩,trivial⟩,rfl⟩
theorem pl_cloneM0:LX Tryz.prog 278 [.a (.d (.sl 7 []))] [] fun v H=>v= .a (.own 0 7 [])∧H=[(0,.arr 256 7 0)]:=by
 refine clone_nil (k:=7) (e:=256) ?_ fun a cap=> ?_
 ·intro cap;refine LX_run (m:=0) (n0:=0) mix Tryz.func278 rfl rfl rfl rfl ?_;conv=>whnf
  exact⟨_,_,⟨rfl,rfl⟩,vR_ _,rfl,trivial,rfl⟩
 ·refine LX_run (m:=0) (n0:=0) mix Tryz.func278 rfl rfl rfl rfl ?_;conv=>whnf
  refine .own ?_;conv=>whnf
  refine .mk [] rfl rfl (by decide) ?_;conv=>whnf
  exact⟨_,_,⟨rfl,rfl⟩,vR_ _,rfl,⟨⟨_,rfl,wke_refl _,rfl⟩,trivial⟩,rfl⟩
theorem wsum_perm (φ:Ro→Rat){a b:List Mu}(h:a.Perm b):wsum φ a=wsum φ b:=by
 induction h with
 |nil=>rfl
 |cons x _ ih=>rw[wsum,wsum,ih]
 |swap x y l=>simp only[wsum];grind
 |trans _ _ h1 h2=>rw[h1,h2]
theorem cmpR_lt_le {a b c:Ro}(h:cmpR a b<0)(k:cmpR b c≤0):cmpR a c<0:=by
 have n1:∀x y:Ro,cmpR x y≤0↔¬cmpR y x<0:=fun x y=>by rw[cmpR_anti x y];omega
 rw[n1]at k;rw[cmpR_lt]at *
 omega
theorem CanL.snoc {o:List Mu}{m:Mu}(h:CanL o)(hm:0<m.c)(hl:∀x∈o,cmpR x.r m.r<0):CanL (o++[m]):=by
 refine⟨fun x hx=> ?_,fun i a b ha hb=> ?_⟩
 ·rcases List.mem_append.1 hx with hx|hx
  ·exact h.pos x hx
  ·rw[List.mem_singleton.1 hx];exact hm
 ·have hlt:=(List.getElem?_eq_some_iff.1 hb).1;rw[List.length_append,List.length_singleton]at hlt;rw[List.getElem?_append_left (by omega)]at ha;rcases Nat.lt_or_ge (i+1) o.length with h1|h1
  ·rw[List.getElem?_append_left h1]at hb;exact h.up i a b ha hb
  ·rw[List.getElem?_append_right h1,show i+1-o.length=0 by omega]at hb;injection hb with hb;subst hb;exact hl a (mG_ ha)
structure ColI (ms:List Mu)(K i:Nat)(o:List Mu):Prop where
 le:i≤ms.length
 sum:∀φ,wsum φ o+wsum φ (ms.drop i)=wsum φ ms
 can:CanL o
 lt:∀m∈o,∀(k:Nat) x,i≤k→ms[k]? =some x→cmpR m.r x.r<0
 rows:∀m∈o,∃x∈ms,m.r=x.r
 mu:MuB (ms.length*(K+1)) o
 len:o.length≤i
structure ColJ (ms:List Mu)(K i:Nat)(r:Ro)(k:Nat)(c:Rat):Prop where
 ik:i≤k
 le:k≤ms.length
 same:∀(j:Nat) x,i≤j→j<k→ms[j]? =some x→x.r=r
 sum:∀φ,c*φ r+wsum φ (ms.drop k)=wsum φ (ms.drop i)
 pos:0≤c
 b:Bt ((k-i)*(K+1)) c
theorem ColJ.next {ms:List Mu}{K i k:Nat}{r:Ro}{c:Rat}{m:Mu}(h:ColJ ms K i r k c)(hm:ms[k]? =some m)(hr:m.r=r)(hp:0≤m.c)(hb:Bt K m.c):ColJ ms K i r (k+1) (c+m.c):=by
 obtain⟨h1,h2⟩:=List.getElem?_eq_some_iff.1 hm;have hik:=h.ik;refine⟨by omega,h1,fun j x hj hk hx=> ?_,fun φ=> ?_,Rat.add_nonneg h.pos hp,(h.b.add hb).mono (by rw[show k+1-i=(k-i)+1 by omega,Nat.add_mul];omega)⟩
 ·rcases Nat.lt_succ_iff_lt_or_eq.1 hk with h3|h3
  ·exact h.same j x hj h3 hx
  ·subst h3;rw[hm]at hx;injection hx with hx;rw[←hx];exact hr
 ·rw[←h.sum φ,List.drop_eq_getElem_cons h1,h2,wsum,hr];grind
theorem ColI.next {ms:List Mu}{K i k:Nat}{o:List Mu}{r:Ro}{c:Rat}(hs:Srt ms ms.length)(h:ColI ms K i o)(g:ColJ ms K i r k c)(hik:i<k)(hr:∃x,ms[i]? =some x∧x.r=r)(hne:∀x,ms[k]? =some x→x.r≠r):
  ColI ms K k (if 0<c then o++[⟨r,c⟩]else o):=by
 obtain⟨x0,hx0,hr0⟩:=hr;have hnew:∀(j:Nat) x,k≤j→ms[j]? =some x→cmpR r x.r<0:=by
  have h1:∀x,ms[k]? =some x→cmpR r x.r<0:=fun x hx=>by
   have h2:=hs i k x0 x hik (List.getElem?_eq_some_iff.1 hx).1 hx0 hx;rw[hr0]at h2;have h3:cmpR r x.r≠0:=fun e=>hne x hx (cmpR_0.1 e).symm;omega
  intro j x hj hx;rcases Nat.lt_or_ge k j with h4|h4
  ·obtain⟨y,hy⟩:=at_some (l:=ms) (i:=k) (by have:=(List.getElem?_eq_some_iff.1 hx).1;omega);exact cmpR_lt_le (h1 y hy) (hs k j y x h4 (List.getElem?_eq_some_iff.1 hx).1 hy hx)
  ·rw[show j=k by omega]at hx;exact h1 x hx
 have hold:∀m∈o,∀(j:Nat) x,k≤j→ms[j]? =some x→cmpR m.r x.r<0:=fun m hm j x hj hx=>h.lt m hm j x (by omega) hx;have hkl:=g.le;split
 ·rename_i hc;refine⟨g.le,fun φ=> ?_,h.can.snoc hc fun m hm=>by have:=h.lt m hm i x0 (lR_ _) hx0;rwa [hr0]at this,fun m hm=> ?_,fun m hm=> ?_,fun m hm=> ?_,by rw[List.length_append,List.length_singleton];have:=h.len;omega⟩
  ·rw[←h.sum φ,←g.sum φ,wsum_app];simp only;grind
  ·rcases List.mem_append.1 hm with hm|hm
   ·exact hold m hm
   ·rw[List.mem_singleton.1 hm];exact hnew
  ·rcases List.mem_append.1 hm with hm|hm
   ·exact h.rows m hm
   ·rw[List.mem_singleton.1 hm];exact⟨x0,mG_ hx0,hr0.symm⟩
  ·rcases List.mem_append.1 hm with hm|hm
   ·exact h.mu m hm
   ·rw[List.mem_singleton.1 hm];exact g.b.mono (Nat.mul_le_mul_right _ (by omega))
 ·rename_i hc;have e:c=0:=by have:=g.pos;grind
  refine⟨g.le,fun φ=> ?_,h.can,hold,h.rows,h.mu,by have:=h.len;omega⟩;rw[←h.sum φ,←g.sum φ,e];grind
structure Col (l l':List Mu)(K:Nat):Prop where
 can:CanL l'
 sum:∀φ,wsum φ l'=wsum φ l
 rows:∀m∈l',∃x∈l,m.r=x.r
 mu:MuB (l.length*(K+1)) l'
 len:l'.length≤l.length
abbrev oH (l:List Mu):List (Nat×Ent):=[(0,.arr 256 7 (l.map Mu.D).length)]
theorem pl_collect1 {x:Mu}{xs:List Mu}{K:Nat}(hl:xs.length+1≤19)(hb:MuB K (x::xs))(hk:K≤100000000)(hp:∀m∈x::xs,0≤m.c):
  LX Tryz.prog 272 [.a (.d (musD (x::xs)))] [] fun v H=>∃l',Col (x::xs) l' K∧v= .tup [.s (.own 0 7 (l'.map Mu.D)),.s (.d (.lit (.int .i64 0)))]∧H=oH l':=by
 obtain⟨v,H,⟨ms,⟨hperm,hsrt⟩,rfl,rfl⟩,hc⟩:=pl_sort (ms:=x::xs) (n:=xs.length+1) (by simp) (by omega) hl;have c:LX Tryz.prog 279 [.a (.tab 0 (xs.length+1)),.a (.fn (.func 280) [] [])] (mtH (x::xs)) fun v H=>v= .tup []∧H=mtH ms:=⟨_,_,⟨rfl,rfl⟩,hc⟩;have hml:ms.length=xs.length+1:=by rw[hperm.length_eq];simp
 have hmb:MuB K ms:=fun m hm=>hb m (hperm.mem_iff.1 hm);have hmp:∀m∈ms,0≤m.c:=fun m hm=>hp m (hperm.mem_iff.1 hm);rw[←hml]at hsrt
 have hfin:∀o,ColI ms K ms.length o→Col (x::xs) o K:=fun o h=>⟨h.can,fun φ=>by
  have:=h.sum φ;rw[List.drop_length,wsum,Rat.add_zero]at this;rw[this,wsum_perm φ hperm],fun m hm=>let ⟨y,h1,h2⟩:=h.rows m hm;⟨y,hperm.mem_iff.1 h1,h2⟩,by have:=h.mu;rwa [hperm.length_eq]at this,by have:=h.len;rwa [hperm.length_eq]at this⟩
 have hbig:ms.length*(K+1)+(K+1)≤3000000000:=by
  have:(ms.length+1)*(K+1)≤20*(K+1):=Nat.mul_le_mul_right _ (by omega);rw[Nat.add_mul,Nat.one_mul]at this;omega
 refine LX_run (m:=0) (n0:=1) mix Tryz.func272 rfl rfl rfl rfl ?_;conv=>whnf
 refine .c (pl_cfM (l:=x::xs) (by simp;omega) hb (by omega) hp) ?_;conv=>whnf
 refine Cn.l [] (pl_cloneM (x:=x) (xs:=xs) (by simp;omega)) ?_;conv=>whnf
 refine Cn.o [1] (c) ?_;conv=>whnf
 refine .mk (Nat×List Mu) (fun(i,o)=>⟨[(6,vl (.int .i64 i)),(5,.a (.own 0 7 (o.map Mu.D))),(4,.a (.d (musD ms)))],oH o,3⟩) (fun b=>ColI ms K b.1 b.2) (fun b=>ms.length-b.1) (0,[])
  (Wk.trans (Wk.freeze 4 1 (xs.length+1) rfl rfl (by omega)) (Wk.trans (Wk.own 5 0 256 7 rfl rfl (zL_ _)) Wk.go))
  ⟨zL_ _,fun φ=>by rw[wsum,Rat.zero_add];rfl,⟨fun m hm=>(by cases hm),fun i a b h=>by simp at h⟩,fun m hm=>(by cases hm),fun m hm=>(by cases hm),fun m hm=>(by cases hm),lR_ _⟩ fun⟨i,o⟩ hI=> ?_
 simp only at hI;have hil:=hI.le;have hol:=hI.len;conv=>whnf
 refine bs (fun h1=> ?_) (fun h1=> ?_)
 ·conv=>whnf
  have h1':i<ms.length:=by simpa using h1
  obtain⟨m0,hm0⟩:=at_some h1';refine .mk (i) (m0.D) (rfl) (at_map hm0) ?_;conv=>whnf
  conv=>whnf
  refine .mk (Nat×Rat) (fun(k,c)=>⟨[(6,vl (.int .i64 k)),(8,.a (.ptr 4 0)),(7,.a (.ptr 3 0)),(5,.a (.own 0 7 (o.map Mu.D))),(4,.a (.d (musD ms)))],[(3,.box 254 m0.r.A),(4,.box 30 (can c).A),(0,.arr 256 7 (o.map Mu.D).length)],5⟩) (fun b=>ColJ ms K i m0.r b.1 b.2) (fun b=>ms.length-b.1) (i,0)
   (by show Wk 0 _ ⟨_,[_,(4,.box _ (can 0).A),_],_⟩;rw[can0];exact Wk.go) ⟨lR_ _,hil,fun j x h1 h2=>by omega,fun φ=>by grind,Rat.le_refl,bt0 _⟩ fun⟨k,c⟩ hJ=> ?_
  simp only at hJ;have hik:=hJ.ik;have hkl:=hJ.le;have hcb:(k-i)*(K+1)≤ms.length*(K+1):=Nat.mul_le_mul_right _ (by omega);have cz:Sz c:=hJ.b.mono (by omega);conv=>whnf
  refine bs (fun h2=> ?_) (fun h2=> ?_)
  ·conv=>whnf
   have h2':k<ms.length:=by simpa using h2
   obtain⟨m,hm⟩:=at_some h2';have hmm:=mG_ hm;refine .mk (k) (m.D) (rfl) (at_map hm) ?_;conv=>whnf
   conv=>whnf
   refine .mk (by kernel_rfl) ?_;conv=>whnf
   refine bs (fun h3=> ?_) (fun h3=> ?_)
   ·conv=>whnf
    refine .mk (by kernel_rfl) ?_;conv=>whnf
    have e3:m.r=m0.r:=by
     obtain⟨⟨a,b,c,d⟩,x⟩:=m;obtain⟨⟨a',b',c',d'⟩,x'⟩:=m0;simpa using h3
    refine .mk (k) (m.D) (rfl) (at_map hm) ?_;conv=>whnf
    conv=>whnf
    refine .c (lx_radd (.c cz) (.c ((hmb m hmm).mono (by omega)))) ?_;conv=>whnf
    refine .mk (by kernel_rfl) ?_;conv=>whnf
    exact⟨(k+1,c+m.c),Wk.go,hJ.next hm e3 (hmp m hmm) (hmb m hmm),by simp only;omega⟩
   ·conv=>whnf
    refine .mk (by kernel_rfl) ?_;conv=>whnf
    have e3:¬m.r=m0.r:=by
     obtain⟨⟨a,b,c,d⟩,x⟩:=m;obtain⟨⟨a',b',c',d'⟩,x'⟩:=m0;intro h;simp at h;simp[h]at h3
    have hlt:i<k:=by
     rcases Nat.lt_or_ge i k with h|h
     ·exact h
     ·exfalso;rw[show k=i by omega]at hm;rw[hm0]at hm;injection hm with hm;exact e3 (by rw[hm])
    have hn:=hI.next hsrt hJ hlt ⟨m0,hm0,rfl⟩ (fun x hx=>by rw[hm]at hx;injection hx with hx;rw[←hx];exact e3);refine .c (lx_rsign (.c cz)) ?_;conv=>whnf
    refine bs (fun h4=> ?_) (fun h4=> ?_)
    ·conv=>whnf
     rw[sg_gt]at h4;rw[if_pos (of_decide_eq_true h4)]at hn;refine .mk ((o++[(⟨m0.r,c⟩:Mu)]).map Mu.D) rfl (by rw[List.map_append];rfl) (by simp;omega) ?_;conv=>whnf
     exact⟨(k,o++[⟨m0.r,c⟩]),Wk.go,hn,by simp only;omega⟩
    ·conv=>whnf
     rw[sg_gt]at h4;rw[if_neg (of_decide_eq_false h4)]at hn;exact⟨(k,o),Wk.go,hn,by simp only;omega⟩
  ·conv=>whnf
   refine .mk (by kernel_rfl) ?_;conv=>whnf
   have e:k=ms.length:=by simp at h2;omega
   have hn:=hI.next hsrt hJ (by omega) ⟨m0,hm0,rfl⟩ (fun x hx=>by have:=at_lt hx;omega);refine .c (lx_rsign (.c cz)) ?_;conv=>whnf
   refine bs (fun h4=> ?_) (fun h4=> ?_)
   ·conv=>whnf
    rw[sg_gt]at h4;rw[if_pos (of_decide_eq_true h4)]at hn;refine .mk ((o++[(⟨m0.r,c⟩:Mu)]).map Mu.D) rfl (by rw[List.map_append];rfl) (by simp;omega) ?_;conv=>whnf
    exact⟨(k,o++[⟨m0.r,c⟩]),Wk.go,hn,by simp only;omega⟩
   ·conv=>whnf
    rw[sg_gt]at h4;rw[if_neg (of_decide_eq_false h4)]at hn;exact⟨(k,o),Wk.go,hn,by simp only;omega⟩
 ·conv=>whnf
  have e:i=ms.length:=by simp at h1;omega
  subst e;exact⟨_,_,⟨o,hfin o hI,rfl,rfl⟩,vR_ _,rfl,⟨⟨_,rfl,wke_refl _,rfl⟩,trivial⟩,rfl⟩
theorem pl_collect0 {K:Nat}:LX Tryz.prog 272 [.a (.d (musD []))] [] fun v H=>∃l',Col [] l' K∧v= .tup [.s (.own 0 7 (l'.map Mu.D)),.s (.d (.lit (.int .i64 0)))]∧H=oH l':=by
 refine LX_run (m:=0) (n0:=1) mix Tryz.func272 rfl rfl rfl rfl ?_;conv=>whnf
 refine .c (pl_cfM (l:=[]) (K:=0) (by simp) (fun m hm=>(by cases hm)) (by omega) (fun m hm=>(by cases hm))) ?_;conv=>whnf
 refine Cn.l [] pl_cloneM0 ?_;conv=>whnf
 refine .c (pl_sort0) ?_;conv=>whnf
 refine .mk Unit (fun _=>⟨[(6,vl (.int .i64 0)),(5,.a (.own 0 7 [])),(4,.a (.d (.sl 7 [])))],oH [],3⟩) (fun _=>True) (fun _=>0) ()
  (Wk.trans (Wk.own 5 0 256 7 rfl rfl (zL_ _)) (Wk.of (by refine⟨⟨_,rfl,vR_ _,rfl⟩,⟨_,rfl,vR_ _,rfl⟩,⟨_,rfl,fun _ _ _ _ _ k=>k.1,rfl⟩,trivial⟩) (by refine⟨⟨_,rfl,wke_refl _,rfl⟩,trivial⟩) rfl)) trivial fun _ _=> ?_
 conv=>whnf
 exact⟨_,_,⟨[],⟨⟨fun m hm=>(by cases hm),fun i a b h=>by simp at h⟩,fun φ=>rfl,fun m hm=>(by cases hm),fun m hm=>(by cases hm),lR_ _⟩,rfl,rfl⟩,vR_ _,rfl,⟨⟨_,rfl,wke_refl _,rfl⟩,trivial⟩,rfl⟩
theorem pl_collect {l:List Mu}{K:Nat}(hl:l.length≤19)(hb:MuB K l)(hk:K≤100000000)(hp:∀m∈l,0≤m.c):
  ∃l',Col l l' K∧LX Tryz.prog 272 [.a (.d (musD l))] [] fun v H=>v= .tup [.s (.own 0 7 (l'.map Mu.D)),.s (.d (.lit (.int .i64 0)))]∧H=oH l':=by
 cases l with
 |nil=>obtain⟨v,H,⟨l',h1,rfl,rfl⟩,hc⟩:=pl_collect0 (K:=K);exact⟨l',h1,_,_,⟨rfl,rfl⟩,hc⟩
 |cons x xs=>obtain⟨v,H,⟨l',h1,rfl,rfl⟩,hc⟩:=pl_collect1 (by simpa using hl) hb hk hp;exact⟨l',h1,_,_,⟨rfl,rfl⟩,hc⟩
theorem LX.ren0 {P:Program}{F:FuncId}{args:List V}{j:Nat}{t:TypeId}{ds:List D}{v:V}(hk:∀key∈keysV v,key=j)(hc:LX P F args [] fun v' H=>v'=v∧H=[(j,.box t (ds.map A.d))]):LX P F args [] fun v' H=>v'=renV (fun _=>0) v∧H=[(0,.box t (ds.map A.d))]:=by
 obtain⟨_,_,⟨rfl,rfl⟩,hc⟩:=hc;refine⟨_,_,⟨rfl,rfl⟩,fun γ M w rs hr ha=> ?_⟩;refine cM (hc γ M w rs hr ha) ?_;rintro e w' ⟨r,γ',M',h1,h2,h3,h4⟩
 have hl0:∀key e',look [(0,Ent.box t (ds.map A.d))] key=some e'→key=0∧e'= .box t (ds.map A.d):=fun key e' h=>by
  simp only[look]at h;split at h
  ·injection h with h;exact⟨by omega,h.symm⟩
  ·cases h
 have hlj:look [(j,Ent.box t (ds.map A.d))] j=some (.box t (ds.map A.d)):=by simp[look]
 have hl00:look [(0,Ent.box t (ds.map A.d))] 0=some (.box t (ds.map A.d)):=rfl
 have ho:∀key b i,Owns (fun _=>γ' j) (look [(0,Ent.box t (ds.map A.d))]) key b i→Owns γ' (look [(j,Ent.box t (ds.map A.d))]) j b i:=fun key b i h=>by
  unfold Owns at h
  cases h5:look [(0,Ent.box t (ds.map A.d))] key with
  |none=>rw[h5]at h;exact h.elim
  |some e'=>
   obtain⟨rfl,rfl⟩:=hl0 key e' h5;rw[h5]at h;simp only[Owns,hlj];exact h
 refine⟨r,fun _=>γ' j,M',h1,⟨fun key e' h=> ?_,fun key b i h=>h2.own j b i (ho key b i h),fun k1 k2 b l1 l2 _ _=> ?_,h2.u32,h2.dom,h2.glb⟩,?_,⟨h4.os,h4.tape,h4.output,h4.size,h4.fx,h4.other,h4.keep,fun key b i h hb=>h4.new j b i (ho key b i h) hb,fun key e h=>by simp[look]at h⟩⟩
 ·obtain⟨rfl,rfl⟩:=hl0 key e' h;obtain⟨g,vs,q1,q2,q3⟩:=h2.ent j _ hlj;exact⟨g,vs,q1,q2,all2_dd q3⟩
 ·cases h5:look [(0,Ent.box t (ds.map A.d))] k1 with
  |none=>rw[h5]at l1;cases l1
  |some e1=>
   cases h6:look [(0,Ent.box t (ds.map A.d))] k2 with
   |none=>rw[h6]at l2;cases l2
   |some e2=>rw[(hl0 _ _ h5).1,(hl0 _ _ h6).1]
 ·refine h3.ren fun key hkk=> ?_;obtain rfl:=hk key hkk;refine⟨rfl,?_,?_,?_,?_,?_,(fun h=>by rw[hlj]at h;cases h),(fun e0 e k o ar he=>by rw[hl00]at he;cases he)⟩
  ·intro _;rfl
  ·intro h;rw[hlj]at h;cases h
  ·intro _;rfl
  ·intro e k n he;rw[hl00]at he;cases he
  ·intro e k n he;rw[hl00]at he;cases he
abbrev S0 (q:Qu)(ls:List Lm):Sp:=⟨q,[],ls⟩
abbrev vwA (q:Qu)(ls:List Lm):List A:=(S0 q ls).A++[.d (.sl 1 [])]
abbrev vwH (q:Qu)(ls:List Lm):List (Nat×Ent):=[(0,.box 319 (vwA q ls))]
structure LsI (ls:List Lm)(J:Nat):Prop where
 len:2*J≤ls.length
 top:ls.length≤2*J+1
 lo:∀j,j<J→∃v l,ls[2*j]? =some (mkL j false v l)
 hi:∀j,j<J→∃v l,ls[2*j+1]? =some (mkL j true v l)
 nx:∀m,ls[2*J]? =some m→m.u=J
theorem LsI.oth {ls:List Lm}{J:Nat}(h:LsI ls J){i j:Nat}{m:Lm}(hj:j<J)(hm:ls[i]? =some m)(h1:i≠2*j)(h2:i≠2*j+1):m.u≠j:=by
 have hlt:=(List.getElem?_eq_some_iff.1 hm).1;have htop:=h.top;rcases Nat.lt_or_ge i (2*J)with h3|h3
 ·rcases Nat.mod_two_eq_zero_or_one i with h4|h4
  ·obtain⟨v,l,e⟩:=h.lo (i/2) (by omega);rw[show 2*(i/2)=i by omega,hm]at e;injection e with e;subst e;show((i/2:Nat):Int)≠j;omega
  ·obtain⟨v,l,e⟩:=h.hi (i/2) (by omega);rw[show 2*(i/2)+1=i by omega,hm]at e;injection e with e;subst e;show((i/2:Nat):Int)≠j;omega
 ·rw[show i=2*J by omega]at hm;rw[h.nx m hm];omega
theorem LsI.best {ls:List Lm}{J j:Nat}(h:LsI ls J)(hj:j<J):∀i,i≤ls.length→bestTo ls j i=if i≤2*j then(0,0)else if i=2*j+1 then(2*(j:Int)+1,0)else(2*(j:Int)+1,2*(j:Int)+2)
 |0,_=>by simp[bestTo]
 |i+1,hi=>by
  obtain⟨m,hm⟩:=at_some (l:=ls) (i:=i) (by omega);rw[bestTo_succ hm,LsI.best h hj i (by omega)]
  by_cases e1:i=2*j
  ·subst e1;obtain⟨v,l,e⟩:=h.lo j hj;rw[hm]at e;injection e with e;subst e;rw[if_pos (lR_ _),if_neg (by omega),if_pos rfl];simp[bstep,mkL]
  ·by_cases e2:i=2*j+1
   ·subst e2;obtain⟨v,l,e⟩:=h.hi j hj;rw[hm]at e;injection e with e;subst e;rw[if_neg (by omega),if_pos rfl,if_neg (by omega),if_neg (by omega)];simp[bstep,mkL];omega
   ·have:=h.oth hj hm e1 e2;unfold bstep;rw[if_neg this]
    repeat' split
    all_goals first|rfl|omega
theorem LsI.bestS {q:Qu}{ls:List Lm}{J j:Nat}(h:LsI ls J)(hj:j<J):Lf.bestS (S0 q ls) j=(2*(j:Int)+1,2*(j:Int)+2):=by
 have hl:=h.len;show bestTo ls j ls.length=_;rw[h.best hj _ (lR_ _),if_neg (by omega),if_neg (by omega)]
def loV (ls:List Lm)(j:Nat):Rat:=vAt ls (2*(j:Int)+1)
def hiV (ls:List Lm)(j:Nat):Rat:=vAt ls (2*(j:Int)+2)
theorem LsI.loA {ls:List Lm}{J j:Nat}(h:LsI ls J)(hj:j<J):∃l,ls[2*j]? =some (mkL j false (loV ls j) l):=by
 obtain⟨v,l,e⟩:=h.lo j hj;refine⟨l,?_⟩;have:loV ls j=v:=by
  unfold loV vAt atL;rw[show(2*(j:Int)+1-1).toNat=2*j by omega,e];exact can_q v
 rw[this,e]
theorem LsI.hiA {ls:List Lm}{J j:Nat}(h:LsI ls J)(hj:j<J):∃l,ls[2*j+1]? =some (mkL j true (hiV ls j) l):=by
 obtain⟨v,l,e⟩:=h.hi j hj;refine⟨l,?_⟩;have:hiV ls j=v:=by
  unfold hiV vAt atL;rw[show(2*(j:Int)+2-1).toNat=2*j+1 by omega,e];exact can_q v
 rw[this,e]
theorem pl_valLo {q:Qu}{ls:List Lm}{J j:Nat}(h:LsI ls J)(hj:j<J)(hJ:J≤1000):LX Tryz.prog 282 [.a (.ptr 0 0),vl (.int .i64 (2*(j:Int)+1))] (vwH q ls) fun v H=>v=ratV (loV ls j)∧H=vwH q ls:=by
 obtain⟨l,e⟩:=h.loA hj;refine LX_run (m:=1) (n0:=1) mix Tryz.func282 rfl rfl rfl rfl ?_;conv=>whnf
 refine .mk (2*j) ((mkL j false (loV ls j) l).D) (by rw[wr64 (by omega) (by omega)];omega) (at_map e) ?_;conv=>whnf
 conv=>whnf
 exact⟨_,_,⟨rfl,rfl⟩,vR_ _,rfl,⟨⟨_,rfl,wke_refl _,rfl⟩,trivial⟩,rfl⟩
theorem pl_valHi {q:Qu}{ls:List Lm}{J j:Nat}(h:LsI ls J)(hj:j<J)(hJ:J≤1000):LX Tryz.prog 282 [.a (.ptr 0 0),vl (.int .i64 (2*(j:Int)+2))] (vwH q ls) fun v H=>v=ratV (hiV ls j)∧H=vwH q ls:=by
 obtain⟨l,e⟩:=h.hiA hj;refine LX_run (m:=1) (n0:=1) mix Tryz.func282 rfl rfl rfl rfl ?_;conv=>whnf
 refine .mk (2*j+1) ((mkL j true (hiV ls j) l).D) (by rw[wr64 (by omega) (by omega)];omega) (at_map e) ?_;conv=>whnf
 conv=>whnf
 exact⟨_,_,⟨rfl,rfl⟩,vR_ _,rfl,⟨⟨_,rfl,wke_refl _,rfl⟩,trivial⟩,rfl⟩
theorem pl_vdec {q:Qu}{ls:List Lm}{k u:Int}:LX Tryz.prog 281 [.a (.ptr 0 0),vl (.int .i64 k),vl (.int .i64 u)] (vwH q ls) fun v H=>v=vl (.bool false)∧H=vwH q ls:=by
 refine LX_run (m:=1) (n0:=1) mix Tryz.func281 rfl rfl rfl rfl ?_;conv=>whnf
 refine .mk Unit (fun _=>⟨[(15,vl (.int .i64 0)),(14,vl (.int .i64 0))],vwH q ls,1⟩) (fun _=>True) (fun _=>0) () Wk.go trivial fun _ _=> ?_;conv=>whnf
 exact⟨_,_,⟨rfl,rfl⟩,vR_ _,rfl,⟨⟨_,rfl,wke_refl _,rfl⟩,trivial⟩,rfl⟩
theorem pl_mult {r:Ro}{c:Rat}:LV Tryz.prog 271 [.agg r.A,.agg (can c).A] (.agg (Mu.A ⟨r,c⟩)):=by
 refine LX_run (m:=0) (n0:=0) mix Tryz.func271 rfl rfl rfl rfl ?_;conv=>whnf
 exact .q ⟨rfl,rfl⟩
theorem pl_look {q:Qu}{ls:List Lm}(hq:QuOk q):LX Tryz.prog 267 [.agg (S0 q ls).A] [] fun v H=>v= .tup [.s (.ptr 0 0),.s (.d (.lit (.bool true)))]∧H=vwH q ls:=by
 have c:LX Tryz.prog 267 [.agg (S0 q ls).A] [] fun v H=>v= .tup [.s (.ptr 1 0),.s (.d (.lit (.bool true)))]∧H=[(1,.box 319 (vwA q ls))]:=by
  refine LX_run (m:=0) (n0:=0) mix Tryz.func267 rfl rfl rfl rfl ?_;conv=>whnf
  refine .c (lx_quvalid hq) ?_;conv=>whnf
  refine .mk Unit (fun _=>⟨[(17,vl (.int .i64 0)),(16,vl (.int .i64 0)),(4,.a (.ptr 1 0))],[(1,.box 319 (vwA q ls))],2⟩) (fun _=>True) (fun _=>0) () Wk.go trivial fun _ _=> ?_;conv=>whnf
  exact⟨_,_,⟨rfl,rfl⟩,vR_ _,rfl,⟨⟨_,rfl,wke_refl _,rfl⟩,trivial⟩,rfl⟩
 exact LX.ren0 (v:= .tup [.s (.ptr 1 0),.s (.d (.lit (.bool true)))]) (ds:=[.lit (.int .i64 q.g.n),afsD q.g.us,afsD q.g.os,rqsD q.r.lo,rqsD q.r.hi,afsD q.r.rs,.sl 4 (q.goal.ts.map Tm.D),.lit (.bool (decide (q.goal.c<0))),.lm (limbs q.goal.c.num.natAbs),.lm (limbs (dn q.goal.c)),dcsD [],lmsD ls,.sl 1 []]) (by intro key hk;simp[keysV,keysW,keysA]at hk;exact hk) c
def inB (q:Qu)(x:Int)(up:Bool):Rat×List Mu:=if up=true then(atQ q.r.hi x,[⟨⟨2,x,0,0⟩,q1⟩])else(atQ q.r.lo x,[⟨⟨1,x,0,0⟩,q1⟩])
def lowB (ls:List Lm)(j:Nat):Rat×List Mu:=if 0<loV ls j then(loV ls j,[⟨⟨6,j,0,0⟩,q1⟩,⟨⟨11,j,2*(j:Int)+1,0⟩,q1⟩])else(0,[⟨⟨5,j,0,0⟩,q1⟩])
def highB (ls:List Lm)(j:Nat):Rat×List Mu:=if hiV ls j≤0 then(0,[⟨⟨10,j,0,2*(j:Int)+2⟩,q1⟩])else if 0≤loV ls j then(hiV ls j,[⟨⟨8,j,2*(j:Int)+1,0⟩,q1⟩,⟨⟨12,j,0,2*(j:Int)+2⟩,q1⟩])
 else(hiV ls j,[⟨⟨12,j,0,2*(j:Int)+2⟩,hiV ls j*(q1/(hiV ls j-loV ls j))⟩,⟨⟨13,j,2*(j:Int)+1,2*(j:Int)+2⟩,q1/(hiV ls j-loV ls j)⟩])
abbrev bndV (b:Rat×List Mu):V:= .tup [.g (can b.1).A,.s (.d (musD b.2)),.s (.d (.lit (.bool true)))]
theorem pl_vinput {q:Qu}{ls:List Lm}{x:Int}{up:Bool}(hq:QuB q)(h0:0≤x)(h1:x<q.g.n):LX Tryz.prog 273 [.a (.ptr 0 0),vl (.int .i64 x),vl (.bool up)] (vwH q ls) fun v H=>v=bndV (inB q x up)∧H=vwH q ls:=by
 have hlo:=hq.r.lo;have hhi:=hq.r.hi;have hx:=atQ_some (l:=q.r.lo) h0 (by omega);have hy:=atQ_some (l:=q.r.hi) h0 (by omega);unfold inB;generalize atQ q.r.lo x=lo at *
 generalize atQ q.r.hi x=hi at *
 cases up
 all_goals refine LX_run (m:=1) (n0:=1) mix Tryz.func273 rfl rfl rfl rfl ?_
           conv=>whnf
 all_goals refine .mk (x.toNat) ((can lo).D) (by omega) (at_map (f:=fun q=>(can q).D) hx) ?_
           conv=>whnf
 all_goals conv=>whnf
 ·refine .mk Unit (fun _=>⟨[(43,vl (.int .i64 0)),(42,vl (.int .i64 0)),(6,.a (.ptr 1 0)),(10,.a (.ptr 3 0)),(11,.a (.ptr 4 0))],[(0,.box 319 (vwA q ls)),(1,.box 30 (can 0).A),(3,.box 30 (can lo).A),(4,.box 254 (Ro.A ⟨1,x,0,0⟩))],5⟩) (fun _=>True) (fun _=>0) () (by rw[can0];exact Wk.go) trivial fun _ _=> ?_;conv=>whnf
  refine .c (lx_rofp) ?_;conv=>whnf
  refine .c (pl_mult (r:=⟨1,x,0,0⟩) (c:=q1)) ?_;conv=>whnf
  refine .mk (by kernel_rfl) ?_;conv=>whnf
  exact⟨_,_,⟨rfl,rfl⟩,stripV_ok _,rfl,⟨⟨_,rfl,wke_refl _,rfl⟩,trivial⟩,rfl⟩
 ·refine .mk (x.toNat) ((can hi).D) (by omega) (at_map (f:=fun q=>(can q).D) hy) ?_;conv=>whnf
  conv=>whnf
  refine .mk Unit (fun _=>⟨[(43,vl (.int .i64 0)),(42,vl (.int .i64 0)),(6,.a (.ptr 1 0)),(10,.a (.ptr 3 0)),(11,.a (.ptr 4 0))],[(0,.box 319 (vwA q ls)),(1,.box 30 (can 0).A),(3,.box 30 (can hi).A),(4,.box 254 (Ro.A ⟨2,x,0,0⟩))],5⟩) (fun _=>True) (fun _=>0) () (by rw[can0];exact Wk.go) trivial fun _ _=> ?_;conv=>whnf
  refine .c (lx_rofp) ?_;conv=>whnf
  refine .c (pl_mult (r:=⟨2,x,0,0⟩) (c:=q1)) ?_;conv=>whnf
  refine .mk (by kernel_rfl) ?_;conv=>whnf
  exact⟨_,_,⟨rfl,rfl⟩,stripV_ok _,rfl,⟨⟨_,rfl,wke_refl _,rfl⟩,trivial⟩,rfl⟩
theorem lx_bestj {q:Qu}{ls:List Lm}{J j:Nat}(hs:SpOk (S0 q ls))(h:LsI ls J)(hj:j<J):LV Tryz.prog 106 [.agg (S0 q ls).A,vl (.int .i64 j)] (.tup [.s (.d (.lit (.int .i64 (2*(j:Int)+1)))),.s (.d (.lit (.int .i64 (2*(j:Int)+2))))]):=by
 have:=lx_best (u:=(j:Int)) hs
 rwa [h.bestS hj]at this
theorem LsI.szlo {q:Qu}{ls:List Lm}{J j:Nat}(h:LsI ls J)(hs:SpOk (S0 q ls))(hj:j<J):Bt 300000000 (loV ls j):=atL_b hs.lb _
theorem LsI.szhi {q:Qu}{ls:List Lm}{J j:Nat}(h:LsI ls J)(hs:SpOk (S0 q ls))(hj:j<J):Bt 300000000 (hiV ls j):=atL_b hs.lb _
theorem sg_ge {q:Rat}:decide (q.num.sign≥0)=decide (0≤q):=by
 have:= @sg_lt q
 by_cases h:q<0
 ·rw[decide_eq_true h]at this;rw[decide_eq_false (Rat.not_le.2 h)];exact decide_eq_false (by have:=of_decide_eq_true this;omega)
 ·rw[decide_eq_false h]at this;rw[decide_eq_true (Rat.not_lt.1 h)];exact decide_eq_true (by have:=of_decide_eq_false this;omega)
theorem sg_le {q:Rat}:decide (q.num.sign≤0)=decide (q≤0):=by
 have:= @sg_gt q
 by_cases h:0<q
 ·rw[decide_eq_true h]at this;rw[decide_eq_false (Rat.not_le.2 h)];exact decide_eq_false (by have:=of_decide_eq_true this;omega)
 ·rw[decide_eq_false h]at this;rw[decide_eq_true (Rat.not_lt.1 h)];exact decide_eq_true (by have:=of_decide_eq_false this;omega)
theorem pl_vlow {q:Qu}{ls:List Lm}{J j:Nat}(hs:SpOk (S0 q ls))(h:LsI ls J)(hj:j<J)(hJ:J≤1000):LX Tryz.prog 275 [.a (.ptr 0 0),vl (.int .i64 j)] (vwH q ls) fun v H=>v=bndV (lowB ls j)∧H=vwH q ls:=by
 have bl:=h.szlo hs hj;have cv:=pl_valLo (q:=q) h hj hJ;unfold lowB;generalize loV ls j=lo at *
 have lz:Sz lo:=bl.mono (by decide);refine LX_run (m:=1) (n0:=1) mix Tryz.func275 rfl rfl rfl rfl ?_;conv=>whnf
 refine .c (lx_rofp) ?_;conv=>whnf
 refine .c (lx_bestj hs h hj) ?_;conv=>whnf
 refine bT (decide_eq_true (by omega)) ?_;conv=>whnf
 refine .l [0] (cv) ?_;conv=>whnf
 refine .c (lx_rsign (.c lz)) ?_;conv=>whnf
 refine bs (fun h1=> ?_) (fun h1=> ?_)
 ·conv=>whnf
  rw[sg_gt]at h1;rw[if_pos (of_decide_eq_true h1)];refine .l [0] (cv) ?_;conv=>whnf
  refine .c (pl_mult (r:=⟨6,j,0,0⟩) (c:=q1)) ?_;conv=>whnf
  refine .c (pl_mult (r:=⟨11,j,2*(j:Int)+1,0⟩) (c:=q1)) ?_;conv=>whnf
  refine .mk (by kernel_rfl) ?_;conv=>whnf
  exact⟨_,_,⟨rfl,rfl⟩,stripV_ok _,rfl,⟨⟨_,rfl,wke_refl _,rfl⟩,trivial⟩,rfl⟩
 ·conv=>whnf
  rw[sg_gt]at h1;rw[if_neg (of_decide_eq_false h1)];refine .c (pl_mult (r:=⟨5,j,0,0⟩) (c:=q1)) ?_;conv=>whnf
  exact⟨_,_,⟨by show _=V.tup [.g (can 0).A,_,_];rw[can0];rfl,rfl⟩,stripV_ok _,rfl,⟨⟨_,rfl,wke_refl _,rfl⟩,trivial⟩,rfl⟩
theorem pl_vhigh {q:Qu}{ls:List Lm}{J j:Nat}(hs:SpOk (S0 q ls))(h:LsI ls J)(hj:j<J)(hJ:J≤1000):LX Tryz.prog 274 [.a (.ptr 0 0),vl (.int .i64 j)] (vwH q ls) fun v H=>v=bndV (highB ls j)∧H=vwH q ls:=by
 have bl:=h.szlo hs hj;have bh:=h.szhi hs hj;have cl:=pl_valLo (q:=q) h hj hJ;have ch:=pl_valHi (q:=q) h hj hJ;unfold highB;generalize loV ls j=lo at *
 generalize hiV ls j=hi at *
 have lz:Sz lo:=bl.mono (by decide);have hz:Sz hi:=bh.mono (by decide);refine LX_run (m:=1) (n0:=1) mix Tryz.func274 rfl rfl rfl rfl ?_;conv=>whnf
 refine .c (lx_rofp) ?_;conv=>whnf
 refine .c (lx_bestj hs h hj) ?_;conv=>whnf
 refine .l [0] (pl_vdec) ?_;conv=>whnf
 refine .l [0] (pl_vdec) ?_;conv=>whnf
 refine bT (decide_eq_true (by omega)) ?_;conv=>whnf
 refine .l [0] (ch) ?_;conv=>whnf
 refine .c (lx_rsign (.c hz)) ?_;conv=>whnf
 refine bs (fun h1=> ?_) (fun h1=> ?_)
 ·conv=>whnf
  rw[sg_le]at h1;rw[if_pos (of_decide_eq_true h1)];refine .c (pl_mult (r:=⟨10,j,0,2*(j:Int)+2⟩) (c:=q1)) ?_;conv=>whnf
  exact⟨_,_,⟨by show _=V.tup [.g (can 0).A,_,_];rw[can0];rfl,rfl⟩,stripV_ok _,rfl,⟨⟨_,rfl,wke_refl _,rfl⟩,trivial⟩,rfl⟩
 ·conv=>whnf
  rw[sg_le]at h1;rw[if_neg (of_decide_eq_false h1)];refine .l [0] (ch) ?_;conv=>whnf
  refine bT (decide_eq_true (by omega)) ?_;conv=>whnf
  refine .l [0] (cl) ?_;conv=>whnf
  refine .c (lx_rsign (.c lz)) ?_;conv=>whnf
  refine bs (fun h2=> ?_) (fun h2=> ?_)
  ·conv=>whnf
   rw[sg_ge]at h2;rw[if_pos (of_decide_eq_true h2)];refine .c (pl_mult (r:=⟨8,j,2*(j:Int)+1,0⟩) (c:=q1)) ?_;conv=>whnf
   refine .c (pl_mult (r:=⟨12,j,0,2*(j:Int)+2⟩) (c:=q1)) ?_;conv=>whnf
   refine .mk (by kernel_rfl) ?_;conv=>whnf
   exact⟨_,_,⟨rfl,rfl⟩,stripV_ok _,rfl,⟨⟨_,rfl,wke_refl _,rfl⟩,trivial⟩,rfl⟩
  ·conv=>whnf
   rw[sg_ge]at h2;have h2':=of_decide_eq_false h2;rw[if_neg h2'];refine .l [0] (cl) ?_;conv=>whnf
   have hne:hi-lo≠0:=by
    have a1:=of_decide_eq_false h1;grind
   have bd:=q1_b.div (bh.sub bl) hne;refine .c (lx_rsub (.c hz) (.c lz)) ?_;conv=>whnf
   refine .c (lx_rdiv hne (.c q1_z) (.c ((bh.sub bl).mono (by decide)))) ?_;conv=>whnf
   refine .mk (by kernel_rfl) ?_;conv=>whnf
   refine .c (lx_rmul (.c hz) (.c (bd.mono (by decide)))) ?_;conv=>whnf
   refine .c (pl_mult (r:=⟨12,j,0,2*(j:Int)+2⟩) (c:=hi*(q1/(hi-lo)))) ?_;conv=>whnf
   refine .c (pl_mult (r:=⟨13,j,2*(j:Int)+1,2*(j:Int)+2⟩) (c:=q1/(hi-lo))) ?_;conv=>whnf
   refine .mk (by kernel_rfl) ?_;conv=>whnf
   exact⟨_,_,⟨rfl,rfl⟩,stripV_ok _,rfl,⟨⟨_,rfl,wke_refl _,rfl⟩,trivial⟩,rfl⟩
def bndB (q:Qu)(ls:List Lm)(x:Int)(up:Bool):Rat×List Mu:=if x<q.g.n then inB q x up else if up=true then highB ls (x-q.g.n).toNat else lowB ls (x-q.g.n).toNat
theorem pl_vbound {q:Qu}{ls:List Lm}{J:Nat}{x:Int}{up:Bool}(hs:SpOk (S0 q ls))(hq:QuB q)(h:LsI ls J)(h0:0≤x)(h1:x<q.g.n+J)(hJ:J≤1000):LX Tryz.prog 269 [.a (.ptr 0 0),vl (.int .i64 x),vl (.bool up)] (vwH q ls) fun v H=>v=bndV (bndB q ls x up)∧H=vwH q ls:=by
 have hn2:=hs.q.g.n2;simp only at hn2;have hw:IntKind.i64.wrap (x-(q.g.n:Int))=x-q.g.n:=wr64 (by omega) (by omega);unfold bndB
 by_cases hx:x<q.g.n
 ·rw[if_pos hx];have ci:=fun up=>pl_vinput (ls:=ls) (up:=up) hq h0 hx
  cases up
  all_goals refine LX_run (m:=1) (n0:=1) mix Tryz.func269 rfl rfl rfl rfl ?_
            conv=>whnf
  all_goals rw[hw]
  all_goals refine bT (decide_eq_true (by omega)) ?_
            conv=>whnf
  ·refine .l [0] (ci false) ?_;conv=>whnf
   exact⟨_,_,⟨rfl,rfl⟩,vR_ _,rfl,⟨⟨_,rfl,wke_refl _,rfl⟩,trivial⟩,rfl⟩
  ·refine .l [0] (ci true) ?_;conv=>whnf
   exact⟨_,_,⟨rfl,rfl⟩,vR_ _,rfl,⟨⟨_,rfl,wke_refl _,rfl⟩,trivial⟩,rfl⟩
 ·rw[if_neg hx];obtain⟨j,hj⟩:∃j:Nat,x-q.g.n=j:=⟨(x-q.g.n).toNat,by omega⟩;have e:(x-(q.g.n:Int)).toNat=j:=by omega
  rw[e]
  cases up
  all_goals refine LX_run (m:=1) (n0:=1) mix Tryz.func269 rfl rfl rfl rfl ?_
            conv=>whnf
  all_goals rw[hw,hj]
  all_goals conv=>whnf
  ·rw[if_neg (by simp)];refine .l [0] (pl_vlow hs h (j:=j) (by omega) hJ) ?_;conv=>whnf
   exact⟨_,_,⟨rfl,rfl⟩,vR_ _,rfl,⟨⟨_,rfl,wke_refl _,rfl⟩,trivial⟩,rfl⟩
  ·rw[if_pos rfl];refine .l [0] (pl_vhigh hs h (j:=j) (by omega) hJ) ?_;conv=>whnf
   exact⟨_,_,⟨rfl,rfl⟩,vR_ _,rfl,⟨⟨_,rfl,wke_refl _,rfl⟩,trivial⟩,rfl⟩
def LsV (ls:List Lm)(J B:Nat):Prop:=∀j,j<J→Bt B (loV ls j)∧Bt B (hiV ls j)
structure BnOk (q:Qu)(x:Int)(B:Nat)(b:Rat×List Mu):Prop where
 v:Bt (B+11) b.1
 mu:MuB (3*B+1) b.2
 len:b.2.length≤2
 one:x<q.g.n→b.2.length≤1
 nn:∀m∈b.2,0≤m.c
theorem mubA {K:Nat}{a:Mu}(ha:Bt K a.c):MuB K [a]:=fun m hm=>by rw[List.mem_singleton.1 hm];exact ha
theorem mubC {K:Nat}{a b:Mu}(ha:Bt K a.c)(hb:Bt K b.c):MuB K [a,b]:=fun m hm=>by
 rcases List.mem_cons.1 hm with h|h
 ·rw[h];exact ha
 ·rw[List.mem_singleton.1 h];exact hb
theorem q1_pos:(0:Rat)≤q1:=by decide
theorem nnA {a:Mu}(ha:0≤a.c):∀m∈[a],0≤m.c:=fun m hm=>by rw[List.mem_singleton.1 hm];exact ha
theorem nnC {a b:Mu}(ha:0≤a.c)(hb:0≤b.c):∀m∈[a,b],0≤m.c:=fun m hm=>by
 rcases List.mem_cons.1 hm with h|h
 ·rw[h];exact ha
 ·rw[List.mem_singleton.1 h];exact hb
theorem part_nn {lo hi:Rat}(h1:¬hi≤0)(h2:¬0≤lo):0<hi-lo∧0≤q1/(hi-lo)∧0≤hi*(q1/(hi-lo)):=by
 have h3:0<hi-lo:=by grind
 have h4:0≤q1/(hi-lo):=by rw[Rat.div_def];exact Rat.mul_nonneg q1_pos (Rat.le_of_lt (Rat.inv_pos.2 h3))
 exact⟨h3,h4,Rat.mul_nonneg (by grind) h4⟩
theorem bnd_ok {q:Qu}{ls:List Lm}{J B:Nat}{x:Int}{up:Bool}(hq:QuB q)(hv:LsV ls J B)(h0:0≤x)(h1:x<q.g.n+J):BnOk q x B (bndB q ls x up):=by
 unfold bndB;have hlo:=hq.r.lo;have hhi:=hq.r.hi;have o1:Bt (3*B+1) q1:=q1_b.mono (by omega)
 by_cases hx:x<q.g.n
 ·rw[if_pos hx];have e1:=atQ_some (l:=q.r.lo) h0 (by omega);have e2:=atQ_some (l:=q.r.hi) h0 (by omega);unfold inB;split
  ·exact⟨(hq.r.sh _ (mG_ e2)).mono (by omega),mubA o1,by simp,fun _=>by simp,nnA q1_pos⟩
  ·exact⟨(hq.r.sl _ (mG_ e1)).mono (by omega),mubA o1,by simp,fun _=>by simp,nnA q1_pos⟩
 ·rw[if_neg hx];obtain⟨j,hj⟩:∃j:Nat,x-q.g.n=j:=⟨(x-q.g.n).toNat,by omega⟩;have e:(x-(q.g.n:Int)).toNat=j:=by omega
  rw[e];obtain⟨bl,bh⟩:=hv j (by omega);split
  ·unfold highB;split
   ·exact⟨bt0 _,mubA o1,by simp,fun h=>by omega,nnA q1_pos⟩
   ·rename_i c1;split
    ·exact⟨bh.mono (by omega),mubC o1 o1,by simp,fun h=>by omega,nnC q1_pos q1_pos⟩
    ·rename_i c2;obtain⟨p1,p2,p3⟩:=part_nn c1 c2;have bd:=q1_b.div (bh.sub bl) (by grind);exact⟨bh.mono (by omega),mubC ((bh.mul bd).mono (by omega)) (bd.mono (by omega)),by simp,fun h=>by omega,nnC p3 p2⟩
  ·unfold lowB;split
   ·exact⟨bl.mono (by omega),mubC o1 o1,by simp,fun h=>by omega,nnC q1_pos q1_pos⟩
   ·exact⟨bt0 _,mubA o1,by simp,fun h=>by omega,nnA q1_pos⟩
def tmB (q:Qu)(ls:List Lm)(t:Tm):Rat×List Mu:=bndB q ls t.v (decide (t.q<0))
def tmL (q:Qu)(ls:List Lm)(t:Tm):List Mu:=(tmB q ls t).2.map fun m=>⟨m.r,rabs t.q*m.c⟩
def bxV (q:Qu)(ls:List Lm)(f:Af)(i:Nat):Rat:=(f.ts.take i).foldl (fun a t=>a+t.q*(tmB q ls t).1) f.c
def bxM (q:Qu)(ls:List Lm)(f:Af)(i:Nat):List Mu:=(f.ts.take i).flatMap (tmL q ls)
theorem bxV_succ {q:Qu}{ls:List Lm}{f:Af}{i:Nat}{t:Tm}(h:f.ts[i]? =some t):bxV q ls f (i+1)=bxV q ls f i+t.q*(tmB q ls t).1:=by
 unfold bxV;rw[take_snoc h,List.foldl_append];rfl
theorem bxM_succ {q:Qu}{ls:List Lm}{f:Af}{i:Nat}{t:Tm}(h:f.ts[i]? =some t):bxM q ls f (i+1)=bxM q ls f i++tmL q ls t:=by
 unfold bxM;rw[take_snoc h,List.flatMap_append];simp
theorem rabs_nn (q:Rat):0≤rabs q:=by unfold rabs;split<;>grind
theorem tmL_ok {q:Qu}{ls:List Lm}{J B k:Nat}{t:Tm}(hq:QuB q)(hv:LsV ls J B)(h0:0≤t.v)(h1:t.v<q.g.n+J)(ht:Bt k t.q):MuB (k+3*B+1) (tmL q ls t)∧(tmL q ls t).length≤2∧(t.v<q.g.n→(tmL q ls t).length≤1)∧∀m∈tmL q ls t,0≤m.c:=by
 have h:=bnd_ok (up:=decide (t.q<0)) hq hv h0 h1;refine⟨fun m hm=> ?_,by rw[tmL,List.length_map];exact h.len,fun hx=>by rw[tmL,List.length_map];exact h.one hx,fun m hm=> ?_⟩
 ·obtain⟨a,ha,rfl⟩:=List.mem_map.1 hm;exact(ht.rabs.mul (h.mu a ha)).mono (by omega)
 ·obtain⟨a,ha,rfl⟩:=List.mem_map.1 hm;exact Rat.mul_nonneg (rabs_nn _) (h.nn a ha)
theorem bxM_ok {q:Qu}{ls:List Lm}{J B k:Nat}{f:Af}(hq:QuB q)(hv:LsV ls J B)(hf:FB k (q.g.n+J:Nat) f):∀i,i≤f.ts.length→MuB (k+3*B+1) (bxM q ls f i)∧(bxM q ls f i).length≤2*i∧((∀t∈f.ts,t.v<q.g.n)→(bxM q ls f i).length≤i)∧∀m∈bxM q ls f i,0≤m.c
 |0,_=>⟨fun m hm=>(by simp[bxM]at hm),by simp[bxM],fun _=>by simp[bxM],fun m hm=>(by simp[bxM]at hm)⟩
 |i+1,hi=>by
  obtain⟨t,ht⟩:=at_some (l:=f.ts) (i:=i) (by omega);have htm:=mG_ ht;obtain⟨a1,a2,a3,a4⟩:=bxM_ok hq hv hf i (by omega);obtain⟨t1,t2,t3,t4⟩:=hf.tm t htm;obtain⟨b1,b2,b3,b4⟩:=tmL_ok hq hv t1 (by omega) t4;rw[bxM_succ ht];refine⟨fun m hm=> ?_,by rw[List.length_append];omega,fun h=>by rw[List.length_append];have:=a3 h;have:=b3 (h t htm);omega,fun m hm=> ?_⟩
  ·rcases List.mem_append.1 hm with hm|hm
   ·exact a1 m hm
   ·exact b1 m hm
  ·rcases List.mem_append.1 hm with hm|hm
   ·exact a4 m hm
   ·exact b4 m hm
theorem bxV_ok {q:Qu}{ls:List Lm}{J B k:Nat}{f:Af}(hq:QuB q)(hv:LsV ls J B)(hf:FB k (q.g.n+J:Nat) f):∀i,i≤f.ts.length→Bt (k+i*(k+B+12)) (bxV q ls f i)
 |0,_=>hf.c.mono (by omega)
 |i+1,hi=>by
  obtain⟨t,ht⟩:=at_some (l:=f.ts) (i:=i) (by omega);obtain⟨t1,t2,t3,t4⟩:=hf.tm t (mG_ ht);have h:=bnd_ok (up:=decide (t.q<0)) hq hv t1 (by omega);rw[bxV_succ ht,Nat.add_mul,Nat.one_mul];exact((bxV_ok hq hv hf i (by omega)).add (t4.mul h.v)).mono (by omega)
theorem pl_rabs {q:Rat}{k:Nat}(h:Bt k q)(hk:k≤1000000000):LV Tryz.prog 270 [ratV q,ratV (-q)] (ratV (rabs q)):=by
 have e:rabs q=if -q≤q then q else -q:=by
  unfold rabs;split<;>split<;>grind
 rw[e];exact lx_rmax (.c (h.mono (by omega))) (.c (h.neg.mono (by omega)))
theorem pl_blower {q:Qu}{ls:List Lm}{J B k:Nat}{f:Af}(hs:SpOk (S0 q ls))(hq:QuB q)(h:LsI ls J)(hv:LsV ls J B)(hJ:J<q.g.us.length)(hf:FB k (q.g.n+J:Nat) f)(hB:B≤700000)(hk:k≤30000000):
  ∃l',Col (bxM q ls f f.ts.length) l' (k+3*B+1)∧LV Tryz.prog 265 [.agg [],.agg (S0 q ls).A,.agg f.A] (.tup [.g (can (bxV q ls f f.ts.length)).A,.s (.d (musD l')),.s (.d (.lit (.bool true)))]):=by
 have hn3:=hq.g.n2;have hu4:=hq.g.u1;have hlen:=hf.ts.len (by omega);have hfl:f.ts.length≤3+J:=by omega
 obtain⟨f1,f2,_,f4⟩:=bxM_ok hq hv hf f.ts.length (lR_ _);obtain⟨l',hc,cc⟩:=pl_collect (l:=bxM q ls f f.ts.length) (K:=k+3*B+1) (by omega) f1 (by omega) f4;refine⟨l',hc,?_⟩;refine LX_run (m:=0) (n0:=0) mix Tryz.func265 rfl rfl rfl rfl ?_;conv=>whnf
 refine Cn.l [] (pl_look hs.q) ?_;conv=>whnf
 refine .c (lx_gvars hs.q.g) ?_;conv=>whnf
 refine .c (lx_lvalid ((hf.up (n':=((q.g.n+q.g.us.length:Nat):Int)) (lR_ _) (by omega)).ok (by omega) (by omega) (by omega))) ?_;conv=>whnf
 refine .mk (by kernel_rfl) ?_;conv=>whnf
 have hML:∀i,i≤f.ts.length→(bxM q ls f i).length≤14:=fun i hi=>by have:=(bxM_ok hq hv hf i hi).2.1;omega
 refine .mk Nat (fun i=>⟨[(43,vl (.int .i64 i)),(42,vl (.int .i64 (f.ts.map Tm.D).length)),(41,.a (.d (.sl 4 (f.ts.map Tm.D)))),(12,.a (.own 6 7 ((bxM q ls f i).map Mu.D))),(11,.a (.ptr 5 0)),(9,.a (.ptr 4 0)),(6,.a (.ptr 3 0))],
  [(3,.box 30 [.d (.lit (.bool false)),.d (.nat 0),.d (.nat 0)]),(4,.box 319 (vwA q ls)),(5,.box 30 (can (bxV q ls f i)).A),(6,.arr 256 7 ((bxM q ls f i).map Mu.D).length)],7⟩)
  (fun i=>i≤f.ts.length) (fun i=>f.ts.length-i) 0 (Wk.trans (Wk.own 12 6 256 7 rfl rfl (zL_ _)) Wk.go) (zL_ _) fun i hi=> ?_
 have hMi:=hML i hi;have xb:=bxV_ok hq hv hf i hi;have hkx:i*(k+B+12)≤6*(k+B+12):=Nat.mul_le_mul_right _ (by omega);conv=>whnf
 refine bs (fun h1=> ?_) (fun h1=> ?_)
 ·conv=>whnf
  have h1':i<f.ts.length:=by simpa using h1
  obtain⟨t,ht⟩:=at_some h1';obtain⟨t1,t2,t3,t4⟩:=hf.tm t (mG_ ht);have eV:=bxV_succ (q:=q) (ls:=ls) ht;have eM:=bxM_succ (q:=q) (ls:=ls) ht;have hbo:=bnd_ok (up:=decide (t.q<0)) hq hv t1 (by omega);have cb:=fun up=>pl_vbound (x:=t.v) (up:=up) hs hq h t1 (by omega) (by omega);have tz:Sz t.q:=t4.mono (by omega);have nz:Sz (-t.q):=Bt.neg tz;rw[tmB]at eV;rw[tmL,tmB]at eM;refine .mk (i) (t.D) (rfl) (at_map ht) ?_;conv=>whnf
  conv=>whnf
  refine .c (lx_rsign (.c tz)) ?_;conv=>whnf
  rw[sg_lt];rcases hup:decide (t.q<0)with _|_
  all_goals rw[hup]at eV eM hbo
  all_goals conv=>whnf
  ·refine .l [4] (cb false) ?_;conv=>whnf
   refine .mk (by kernel_rfl) ?_;conv=>whnf
   refine .c (lx_rmul (.c tz) (.c (hbo.v.mono (by omega)))) ?_;conv=>whnf
   refine .c (lx_radd (.c (xb.mono (by omega))) (.c ((t4.mul hbo.v).mono (by omega)))) ?_;conv=>whnf
   refine .mk (by kernel_rfl) ?_;conv=>whnf
   refine .c (lx_rneg (.c tz)) ?_;conv=>whnf
   refine .c (pl_rabs t4 (by omega)) ?_;conv=>whnf
   refine .mk (by kernel_rfl) ?_;conv=>whnf
   generalize hbd:bndB q ls t.v false=bb at *
   obtain⟨bv,bl⟩:=bb;simp only at eV eM hbo;have hbl:=hbo.len;simp only at hbl
   obtain⟨md,md0,mdS,mdL,mdN⟩:∃md:Nat→List Mu,md 0=bxM q ls f i∧(∀m z,bl[m]? =some z→md (m+1)=md m++[⟨z.r,rabs t.q*z.c⟩])∧md bl.length=bxM q ls f i++bl.map (fun m=>⟨m.r,rabs t.q*m.c⟩)∧∀m,(md m).length≤20:=
    ⟨fun m=>bxM q ls f i++(bl.take m).map fun m=>⟨m.r,rabs t.q*m.c⟩,by simp,fun m z hz=>by simp only[take_snoc hz,List.map_append,List.append_assoc];rfl,by simp only[List.take_length],fun m=>by simp only[List.length_append,List.length_map,List.length_take];omega⟩
   refine .mk Nat (fun m=>⟨[(76,vl (.int .i64 m)),(75,vl (.int .i64 (bl.map Mu.D).length)),(74,.a (.d (musD bl))),(18,.a (.ptr 10 0)),(43,vl (.int .i64 i)),(42,vl (.int .i64 (f.ts.map Tm.D).length)),(41,.a (.d (.sl 4 (f.ts.map Tm.D)))),(12,.a (.own 6 7 ((md m).map Mu.D))),(11,.a (.ptr 5 0)),(9,.a (.ptr 4 0)),(6,.a (.ptr 3 0))],
    [(3,.box 30 [.d (.lit (.bool false)),.d (.nat 0),.d (.nat 0)]),(4,.box 319 (vwA q ls)),(5,.box 30 (can (bxV q ls f i+t.q*bv)).A),(10,.box 30 (can (rabs t.q)).A),(6,.arr 256 7 ((md m).map Mu.D).length)],11⟩)
    (fun m=>m≤bl.length) (fun m=>bl.length-m) 0 (by dsimp only;rw[md0];exact Wk.go) (zL_ _) fun m hm=> ?_
   conv=>whnf
   refine bs (fun h2=> ?_) (fun h2=> ?_)
   ·conv=>whnf
    have h2':m<bl.length:=by simpa using h2
    obtain⟨z,hz⟩:=at_some h2';have zb:=hbo.mu z (mG_ hz);refine .mk (m) (z.D) (rfl) (at_map hz) ?_;conv=>whnf
    conv=>whnf
    refine .c (lx_rmul (.c (t4.rabs.mono (by omega))) (.c (zb.mono (by omega)))) ?_;conv=>whnf
    refine .c (pl_mult (r:=z.r) (c:=rabs t.q*z.c)) ?_;conv=>whnf
    refine .mk ((md (m+1)).map Mu.D) rfl (by rw[mdS m z hz,List.map_append];rfl) (by rw[List.length_map];have:=mdN (m+1);omega) ?_;conv=>whnf
    refine .mk (by kernel_rfl) ?_;conv=>whnf
    exact⟨m+1,Wk.go,h2',by omega⟩
   ·conv=>whnf
    have e2:m=bl.length:=by simp at h2;omega
    subst e2;exact⟨i+1,by rw[eV,eM,←mdL];exact Wk.go,h1',by omega⟩
  ·refine .l [4] (cb true) ?_;conv=>whnf
   refine .mk (by kernel_rfl) ?_;conv=>whnf
   refine .c (lx_rmul (.c tz) (.c (hbo.v.mono (by omega)))) ?_;conv=>whnf
   refine .c (lx_radd (.c (xb.mono (by omega))) (.c ((t4.mul hbo.v).mono (by omega)))) ?_;conv=>whnf
   refine .mk (by kernel_rfl) ?_;conv=>whnf
   refine .c (lx_rneg (.c tz)) ?_;conv=>whnf
   refine .c (pl_rabs t4 (by omega)) ?_;conv=>whnf
   refine .mk (by kernel_rfl) ?_;conv=>whnf
   generalize hbd:bndB q ls t.v true=bb at *
   obtain⟨bv,bl⟩:=bb;simp only at eV eM hbo;have hbl:=hbo.len;simp only at hbl
   obtain⟨md,md0,mdS,mdL,mdN⟩:∃md:Nat→List Mu,md 0=bxM q ls f i∧(∀m z,bl[m]? =some z→md (m+1)=md m++[⟨z.r,rabs t.q*z.c⟩])∧md bl.length=bxM q ls f i++bl.map (fun m=>⟨m.r,rabs t.q*m.c⟩)∧∀m,(md m).length≤20:=
    ⟨fun m=>bxM q ls f i++(bl.take m).map fun m=>⟨m.r,rabs t.q*m.c⟩,by simp,fun m z hz=>by simp only[take_snoc hz,List.map_append,List.append_assoc];rfl,by simp only[List.take_length],fun m=>by simp only[List.length_append,List.length_map,List.length_take];omega⟩
   refine .mk Nat (fun m=>⟨[(76,vl (.int .i64 m)),(75,vl (.int .i64 (bl.map Mu.D).length)),(74,.a (.d (musD bl))),(18,.a (.ptr 10 0)),(43,vl (.int .i64 i)),(42,vl (.int .i64 (f.ts.map Tm.D).length)),(41,.a (.d (.sl 4 (f.ts.map Tm.D)))),(12,.a (.own 6 7 ((md m).map Mu.D))),(11,.a (.ptr 5 0)),(9,.a (.ptr 4 0)),(6,.a (.ptr 3 0))],
    [(3,.box 30 [.d (.lit (.bool false)),.d (.nat 0),.d (.nat 0)]),(4,.box 319 (vwA q ls)),(5,.box 30 (can (bxV q ls f i+t.q*bv)).A),(10,.box 30 (can (rabs t.q)).A),(6,.arr 256 7 ((md m).map Mu.D).length)],11⟩)
    (fun m=>m≤bl.length) (fun m=>bl.length-m) 0 (by dsimp only;rw[md0];exact Wk.go) (zL_ _) fun m hm=> ?_
   conv=>whnf
   refine bs (fun h2=> ?_) (fun h2=> ?_)
   ·conv=>whnf
    have h2':m<bl.length:=by simpa using h2
    obtain⟨z,hz⟩:=at_some h2';have zb:=hbo.mu z (mG_ hz);refine .mk (m) (z.D) (rfl) (at_map hz) ?_;conv=>whnf
    conv=>whnf
    refine .c (lx_rmul (.c (t4.rabs.mono (by omega))) (.c (zb.mono (by omega)))) ?_;conv=>whnf
    refine .c (pl_mult (r:=z.r) (c:=rabs t.q*z.c)) ?_;conv=>whnf
    refine .mk ((md (m+1)).map Mu.D) rfl (by rw[mdS m z hz,List.map_append];rfl) (by rw[List.length_map];have:=mdN (m+1);omega) ?_;conv=>whnf
    refine .mk (by kernel_rfl) ?_;conv=>whnf
    exact⟨m+1,Wk.go,h2',by omega⟩
   ·conv=>whnf
    have e2:m=bl.length:=by simp at h2;omega
    subst e2;exact⟨i+1,by rw[eV,eM,←mdL];exact Wk.go,h1',by omega⟩
 ·conv=>whnf
  have e:i=f.ts.length:=by simp at h1;omega
  subst e;refine Cn.l [] cc ?_;conv=>whnf
  exact .s ⟨rfl,rfl⟩
theorem pl_sdec {q:Qu}{ls:List Lm}{k u:Int}:LV Tryz.prog 294 [.agg (S0 q ls).A,vl (.int .i64 k),vl (.int .i64 u)] (vl (.bool false)):=by
 refine LX_run (m:=0) (n0:=0) mix Tryz.func294 rfl rfl rfl rfl ?_;conv=>whnf
 refine .mk Unit (fun _=>⟨[(12,vl (.int .i64 0)),(11,vl (.int .i64 0))],[],0⟩) (fun _=>True) (fun _=>0) () Wk.go trivial fun _ _=> ?_;conv=>whnf
 exact .q ⟨rfl,rfl⟩
def slW (l u:Rat):Bool:=unB l u&&decide (0<l+u)
theorem pl_unst {l u:Rat}(hl:Sz l)(hu:Sz u):LV Tryz.prog 297 [ratV l,ratV u] (vl (.bool (unB l u))):=by
 have:=lx_unstable (x:=can l) (y:=can u) hl.sm hu.sm
 rwa [can_q,can_q]at this
theorem pl_slope {l u:Rat}(hl:Sz l)(hu:Sz u):LV Tryz.prog 295 [ratV l,ratV u] (vl (.int .i64 (if slW l u=true then 1 else 0))):=by
 have e:decide (cmpQ u (-l)>0)=decide (0<l+u):=by
  rw[cmp_gt];exact decide_eq_decide.2 ⟨fun h=>by grind,fun h=>by grind⟩
 refine LX_run (m:=0) (n0:=0) mix Tryz.func295 rfl rfl rfl rfl ?_;conv=>whnf
 refine .c (pl_unst hl hu) ?_;conv=>whnf
 refine bs (fun h=> ?_) (fun h=> ?_)
 ·conv=>whnf
  refine .c (lx_rneg (.c hl)) ?_;conv=>whnf
  refine .c (lx_rcmp (.c hu) (.c (Bt.neg hl))) ?_;conv=>whnf
  rw[e];refine bs (fun h2=> ?_) (fun h2=> ?_)
  ·conv=>whnf
   refine .mk (by kernel_rfl) ?_;conv=>whnf
   exact .q ⟨by rw[slW,h,h2];rfl,rfl⟩
  ·conv=>whnf
   refine .mk (by kernel_rfl) ?_;conv=>whnf
   exact .q ⟨by rw[slW,h,h2];rfl,rfl⟩
 ·conv=>whnf
  refine .mk (by kernel_rfl) ?_;conv=>whnf
  exact .q ⟨by rw[slW,h];rfl,rfl⟩
theorem pl_gap {l u:Rat}(bl:Bt 300000000 l)(bu:Bt 300000000 u):LV Tryz.prog 299 [ratV l,ratV u] (ratV (gapQ l u)):=by
 have:=lx_gap (x:=can l) (y:=can u) (Sz.sm (bl.mono (by decide))) (Sz.sm (bu.mono (by decide))) (by rw[can_q];exact bl) (by rw[can_q];exact bu)
 rwa [can_q,can_q]at this
theorem pl_lines {l u:Rat}(bl:Bt 300000000 l)(bu:Bt 300000000 u)(h:unB l u=true):
  LV Tryz.prog 296 [ratV l,ratV u] (.tup [.s (.d (.lit (.int .i64 (if slW l u=true then 1 else 0)))),.g (can (u/(u-l))).A,.g (can (gapQ l u)).A,.s (.d (.lit (.int .i64 0)))]):=by
 have hl:Sz l:=bl.mono (by decide);have hu:Sz u:=bu.mono (by decide);refine LX_run (m:=0) (n0:=0) mix Tryz.func296 rfl rfl rfl rfl ?_;conv=>whnf
 refine .c (pl_unst hl hu) ?_;conv=>whnf
 refine bT (h) ?_;conv=>whnf
 refine .c (pl_slope hl hu) ?_;conv=>whnf
 refine .c (lx_rsub (.c hu) (.c hl)) ?_;conv=>whnf
 refine .c (lx_quot hu ((bu.sub bl).mono (by decide)) (un_ne h)) ?_;conv=>whnf
 refine .c (pl_gap bl bu) ?_;conv=>whnf
 refine .mk (by kernel_rfl) ?_;conv=>whnf
 exact .q ⟨rfl,rfl⟩
structure Rp where
 by_:Af
 r:Ro
 c:Rat
abbrev Rp.A (x:Rp):List A:=x.by_.A++x.r.A++(can x.c).A
def byW (p:Af)(l u:Rat):Af:=addS (scaleS p (u/(u-l))) (numS (gapQ l u))
def rplS (p:Af)(j:Nat)(lo hi c:Rat):Rp:=
 if 0≤lo then⟨p,if 0<c then⟨6,j,0,0⟩else⟨8,j,2*(j:Int)+1,0⟩,rabs c⟩
 else if hi≤0 then⟨numS 0,if 0<c then⟨5,j,0,0⟩else⟨10,j,0,2*(j:Int)+2⟩,rabs c⟩
 else if 0<c then(if slW lo hi=true then⟨p,⟨6,j,0,0⟩,rabs c⟩else⟨numS 0,⟨5,j,0,0⟩,rabs c⟩)
 else⟨byW p lo hi,⟨13,j,2*(j:Int)+1,2*(j:Int)+2⟩,rabs c/(hi-lo)⟩
theorem pl_replace {q:Qu}{ls:List Lm}{J j F B:Nat}{c:Rat}{p:Af}(hs:SpOk (S0 q ls))(h:LsI ls J)(hj:j<J)(hJ:J≤q.g.us.length)(hp:q.g.us[j]? =some p)(hpf:FB 5 (q.g.n+q.g.us.length:Nat) p)(hv:Bt B (loV ls j)∧Bt B (hiV ls j))(hc:Bt F c)(hB:B≤700000)(hF:F≤30000000):
  LV Tryz.prog 292 [.agg (S0 q ls).A,vl (.int .i64 j),.agg (can c).A] (.tup [.g (rplS p j (loV ls j) (hiV ls j) c).A,.s (.d (.lit (.bool true)))]):=by
 have hn2:=hs.q.g.n2;have hu1:=hs.q.g.u1;simp only at hn2 hu1;obtain⟨bl,bh⟩:=hv;obtain⟨pl,el⟩:=h.loA hj;obtain⟨ph,eh⟩:=h.hiA hj;have cb:=lx_bestj hs h hj;generalize loV ls j=lo at *
 generalize hiV ls j=hi at *
 have lz:Sz lo:=bl.mono (by omega);have hz:Sz hi:=bh.mono (by omega);have cz:Sz c:=hc.mono (by omega);refine LX_run (m:=0) (n0:=0) mix Tryz.func292 rfl rfl rfl rfl ?_;conv=>whnf
 refine .mk (j) (p.D) (rfl) (at_map hp) ?_;conv=>whnf
 conv=>whnf
 refine .c (cb) ?_;conv=>whnf
 refine bT (decide_eq_true (by omega)) ?_;conv=>whnf
 refine .mk (2*j) ((mkL j false lo pl).D) (by rw[wr64 (by omega) (by omega)];omega) (at_map el) ?_;conv=>whnf
 conv=>whnf
 refine bT (decide_eq_true (by omega)) ?_;conv=>whnf
 refine .mk (2*j+1) ((mkL j true hi ph).D) (by rw[wr64 (by omega) (by omega)];omega) (at_map eh) ?_;conv=>whnf
 conv=>whnf
 refine .c (pl_sdec) ?_;conv=>whnf
 refine .c (pl_sdec) ?_;conv=>whnf
 refine .mk (by kernel_rfl) ?_;conv=>whnf
 refine .c (lx_rsign (.c cz)) ?_;conv=>whnf
 rw[sg_gt];rcases hcs:decide (0<c)with _|_
 all_goals conv=>whnf
 all_goals refine .c (lx_rneg (.c cz)) ?_
           conv=>whnf
 all_goals refine .c (pl_rabs hc (by omega)) ?_
           conv=>whnf
 all_goals refine .mk (by kernel_rfl) ?_
           conv=>whnf
 all_goals refine bT (decide_eq_true (by omega)) ?_
           conv=>whnf
 all_goals refine .c (lx_rsign (.c lz)) ?_
           conv=>whnf
 all_goals rw[sg_ge]
 all_goals rcases hlo:decide (0≤lo)with _|_
 all_goals conv=>whnf
 rotate_left
 ·exact .q ⟨by rw[rplS,if_pos (of_decide_eq_true hlo),if_neg (of_decide_eq_false hcs)];rfl,rfl⟩
 rotate_left
 ·exact .q ⟨by rw[rplS,if_pos (of_decide_eq_true hlo),if_pos (of_decide_eq_true hcs)];rfl,rfl⟩
 all_goals refine bT (decide_eq_true (by omega)) ?_
           conv=>whnf
 all_goals refine .c (lx_rsign (.c hz)) ?_
           conv=>whnf
 all_goals rw[sg_le]
 all_goals rcases hhi:decide (hi≤0)with _|_
 all_goals conv=>whnf
 ·have hun:unB lo hi=true:=by
   have a1:=of_decide_eq_false hlo;have a2:=of_decide_eq_false hhi;rw[unB,decide_eq_true (by grind),decide_eq_true (by grind)];rfl
  have hne:=un_ne hun;have bd:=bh.div (bh.sub bl) hne;have bg:Bt (2*B+3*B+3) (gapQ lo hi):=by
   rw[gapQ,if_pos hun];exact((bl.mul bh).neg.div (bh.sub bl) hne).mono (by omega)
  refine .c (pl_lines (bl.mono (by omega)) (bh.mono (by omega)) hun) ?_;conv=>whnf
  refine .c (pl_scale hpf bd (by omega) (by omega) (by omega)) ?_;conv=>whnf
  refine Cn.as (pl_add (hpf.scale bd) (FB.num (n:=((q.g.n+q.g.us.length:Nat):Int)) bg) (by omega) (by omega) (by omega)) rfl ⟨vR_ _,numA_wk _,trivial⟩ rfl rfl ?_;conv=>whnf
  refine .mk (by kernel_rfl) ?_;conv=>whnf
  refine .c (lx_rsub (.c hz) (.c lz)) ?_;conv=>whnf
  refine .c (lx_rdiv hne (.c (hc.rabs.mono (by omega))) (.c ((bh.sub bl).mono (by omega)))) ?_;conv=>whnf
  refine .mk (by kernel_rfl) ?_;conv=>whnf
  exact .q ⟨by rw[rplS,if_neg (of_decide_eq_false hlo),if_neg (of_decide_eq_false hhi),if_neg (of_decide_eq_false hcs)];rfl,rfl⟩
 ·exact .q ⟨by rw[rplS,if_neg (of_decide_eq_false hlo),if_pos (of_decide_eq_true hhi),if_neg (of_decide_eq_false hcs)];show _=V.tup [.g ((numS 0).A++_++_),_];rw[numS0_A];rfl,rfl⟩
 ·refine bT (decide_eq_true (by omega)) ?_;conv=>whnf
  refine bT (decide_eq_true (by omega)) ?_;conv=>whnf
  refine .c (pl_slope lz hz) ?_;conv=>whnf
  rcases hsl:slW lo hi with _|_
  all_goals conv=>whnf
  ·exact .q ⟨by rw[rplS,if_neg (of_decide_eq_false hlo),if_neg (of_decide_eq_false hhi),if_pos (of_decide_eq_true hcs),if_neg (by rw[hsl];exact Bool.false_ne_true)];show _=V.tup [.g ((numS 0).A++_++_),_];rw[numS0_A];rfl,rfl⟩
  ·exact .q ⟨by rw[rplS,if_neg (of_decide_eq_false hlo),if_neg (of_decide_eq_false hhi),if_pos (of_decide_eq_true hcs),if_pos hsl];rfl,rfl⟩
 ·exact .q ⟨by rw[rplS,if_neg (of_decide_eq_false hlo),if_pos (of_decide_eq_true hhi),if_pos (of_decide_eq_true hcs)];show _=V.tup [.g ((numS 0).A++_++_),_];rw[numS0_A];rfl,rfl⟩
def lsum (ξ:Int→Rat):List Tm→Rat
 |[]=>0
 |t::ts=>t.q*ξ t.v+lsum ξ ts
theorem lsum_app (ξ:Int→Rat):∀a b:List Tm,lsum ξ (a++b)=lsum ξ a+lsum ξ b
 |[],b=>by simp[lsum,Rat.zero_add]
 |t::a,b=>by simp only[List.cons_append,lsum,lsum_app ξ a b,Rat.add_assoc]
theorem lsum_nz1 (ξ:Int→Rat)(t:Tm):lsum ξ (nz1 t)=t.q*ξ t.v:=by
 unfold nz1;split
 ·rename_i h;rw[h];simp[lsum]
 ·simp[lsum,Rat.add_zero]
theorem lsum_ins (ξ:Int→Rat)(v:Int)(c:Rat):∀ts:List Tm,lsum ξ (ins v c ts)=lsum ξ ts+c*ξ v
 |[]=>by simp[ins,lsum_nz1,lsum,Rat.zero_add]
 |t::ts=>by
  simp only[ins];split
  ·rename_i h;rw[lsum_app,lsum_nz1,lsum,h];grind
  ·split
   ·rw[lsum_app,lsum_nz1];grind
   ·simp only[lsum,lsum_ins ξ v c ts,Rat.add_assoc]
theorem lsum_fold (ξ:Int→Rat):∀b a:List Tm,lsum ξ (b.foldl (fun a t=>ins t.v t.q a) a)=lsum ξ a+lsum ξ b
 |[],a=>by simp[lsum,Rat.add_zero]
 |t::b,a=>by rw[List.foldl_cons,lsum_fold ξ b,lsum_ins,lsum,Rat.add_assoc]
theorem lsum_scale (ξ:Int→Rat)(c:Rat):∀ts:List Tm,lsum ξ (ts.flatMap fun t=>nz1 ⟨t.v,t.q*c⟩)=lsum ξ ts*c
 |[]=>by simp[lsum]
 |t::ts=>by
  rw[List.flatMap_cons,lsum_app,lsum_nz1,lsum_scale ξ c ts,lsum];grind
def ph (κ:Rat)(ξ:Int→Rat)(f:Af):Rat:=lsum ξ f.ts+κ*f.c
section
variable {κ:Rat} {ξ:Int→Rat}
theorem ph_add {f g:Af}:ph κ ξ (addS f g)=ph κ ξ f+ph κ ξ g:=by
 unfold ph addS;simp only[lsum_fold];grind
theorem ph_scale {f:Af}{c:Rat}:ph κ ξ (scaleS f c)=ph κ ξ f*c:=by
 unfold ph scaleS;simp only[lsum_scale];grind
theorem m1_r:((-1:Int):Rat)= -1:=by decide
theorem q1_r:q1=1:=by decide
theorem ph_sub {f g:Af}:ph κ ξ (subS f g)=ph κ ξ f-ph κ ξ g:=by
 rw[subS,ph_add,ph_scale,m1_r];grind
theorem ph_num {c:Rat}:ph κ ξ (numS c)=κ*c:=by
 unfold ph numS;simp[lsum,Rat.zero_add]
theorem ph_var {v:Int}:ph κ ξ (varS v)=ξ v:=by
 unfold ph varS;simp only[lsum];grind
theorem lsum_without (v:Int):∀ts:List Tm,lsum ξ (without ts v)=lsum ξ ts-cof ts v*ξ v
 |[]=>by simp[without,lsum,cof];grind
 |t::ts=>by
  have ih:=lsum_without v ts;unfold without at ih ⊢;rw[List.filter_cons]
  by_cases h:t.v=v
  ·rw[if_neg (by simp[h]),ih,lsum,cof,if_pos h,h];grind
  ·rw[if_pos (by simp[h]),lsum,ih,lsum,cof,if_neg h];grind
theorem ph_rest {f:Af}{v:Int}:ph κ ξ (restS f v)=ph κ ξ f-cof f.ts v*ξ v:=by
 unfold ph restS;simp only[lsum_without];grind
theorem ph_subst {f g:Af}{v:Int}:ph κ ξ (substS f v g)=ph κ ξ f-cof f.ts v*ξ v+cof f.ts v*ph κ ξ g:=by
 rw[substS,ph_add,ph_rest,ph_scale];grind
theorem cof_lsum (w:Int):∀ts:List Tm,cof ts w=lsum (fun v=>if v=w then 1 else 0) ts
 |[]=>rfl
 |t::ts=>by
  rw[cof,lsum,cof_lsum w ts];split<;>grind
theorem cof_ph (w:Int)(f:Af):cof f.ts w=ph 0 (fun v=>if v=w then 1 else 0) f:=by
 unfold ph;rw[cof_lsum];grind
theorem lsum_zero:∀ts:List Tm,lsum (fun _=>0) ts=0
 |[]=>rfl
 |t::ts=>by rw[lsum,lsum_zero ts];grind
theorem c_ph (f:Af):f.c=ph 1 (fun _=>0) f:=by
 unfold ph;rw[lsum_zero];grind
end
theorem LsI.lmLo {q:Qu}{ls:List Lm}{J j:Nat}(h:LsI ls J)(hj:j<J):lmOk (S0 q ls) (2*(j:Int)+1) j false=true∧lmV (S0 q ls) (2*(j:Int)+1) j false=loV ls j:=by
 obtain⟨l,e⟩:=h.loA hj;have hl:=at_lt e;have ea:atL ls (2*(j:Int)+1)=mkL j false (loV ls j) l:=by
  unfold atL;rw[show(2*(j:Int)+1-1).toNat=2*j by omega,e];rfl
 have o:lmOk (S0 q ls) (2*(j:Int)+1) j false=true:=by
  unfold lmOk;rw[show(S0 q ls).ls=ls from rfl,ea];simp[mkL];omega
 exact⟨o,by rw[lmV,o];rfl⟩
theorem LsI.lmHi {q:Qu}{ls:List Lm}{J j:Nat}(h:LsI ls J)(hj:j<J):lmOk (S0 q ls) (2*(j:Int)+2) j true=true∧lmV (S0 q ls) (2*(j:Int)+2) j true=hiV ls j:=by
 obtain⟨l,e⟩:=h.hiA hj;have hl:=at_lt e;have ea:atL ls (2*(j:Int)+2)=mkL j true (hiV ls j) l:=by
  unfold atL;rw[show(2*(j:Int)+2-1).toNat=2*j+1 by omega,e];rfl
 have o:lmOk (S0 q ls) (2*(j:Int)+2) j true=true:=by
  unfold lmOk;rw[show(S0 q ls).ls=ls from rfl,ea];simp[mkL];omega
 exact⟨o,by rw[lmV,o];rfl⟩
inductive RwJ (q:Qu) (ls:List Lm) (J:Nat):Ro→Prop
 |lo (x:Int) (h0:0≤x) (h1:x<q.g.n):RwJ q ls J ⟨1,x,0,0⟩
 |hi (x:Int) (h0:0≤x) (h1:x<q.g.n):RwJ q ls J ⟨2,x,0,0⟩
 |zero (j:Nat) (h:j<J):RwJ q ls J ⟨5,j,0,0⟩
 |above (j:Nat) (h:j<J):RwJ q ls J ⟨6,j,0,0⟩
 |onEq (j:Nat) (h:j<J) (h2:0≤loV ls j):RwJ q ls J ⟨8,j,2*(j:Int)+1,0⟩
 |offEq (j:Nat) (h:j<J) (h2:hiV ls j≤0):RwJ q ls J ⟨10,j,0,2*(j:Int)+2⟩
 |low (j:Nat) (h:j<J):RwJ q ls J ⟨11,j,2*(j:Int)+1,0⟩
 |up (j:Nat) (h:j<J):RwJ q ls J ⟨12,j,0,2*(j:Int)+2⟩
 |tri (j:Nat) (h:j<J) (h2:loV ls j<0) (h3:0<hiV ls j):RwJ q ls J ⟨13,j,2*(j:Int)+1,2*(j:Int)+2⟩
theorem RwJ.ok {q:Qu}{ls:List Lm}{J:Nat}{r:Ro}(h:LsI ls J)(hJ:J≤q.g.us.length)(hu:q.g.us.length≤1000)(hr:RwJ q ls J r):RoA (S0 q ls) r:=by
 cases hr with
 |lo x h0 h1=>exact .inl ⟨.inl rfl,h0,h1,rfl,rfl⟩
 |hi x h0 h1=>exact .inl ⟨.inr rfl,h0,h1,rfl,rfl⟩
 |zero j hj=>exact .inr ⟨Int.natCast_nonneg _,Int.ofNat_lt.2 (Nat.lt_of_lt_of_le hj hJ),⟨Int.le_refl _,(show(0:Int)≤1000000 by decide)⟩,⟨Int.le_refl _,(show(0:Int)≤1000000 by decide)⟩,by simp⟩
 |above j hj=>exact .inr ⟨Int.natCast_nonneg _,Int.ofNat_lt.2 (Nat.lt_of_lt_of_le hj hJ),⟨Int.le_refl _,(show(0:Int)≤1000000 by decide)⟩,⟨Int.le_refl _,(show(0:Int)≤1000000 by decide)⟩,by simp⟩
 |onEq j hj h2=>
  obtain⟨o,v⟩:=h.lmLo (q:=q) hj;exact .inr ⟨Int.natCast_nonneg _,Int.ofNat_lt.2 (Nat.lt_of_lt_of_le hj hJ),⟨by simp only;omega,by simp only;omega⟩,⟨Int.le_refl _,(show(0:Int)≤1000000 by decide)⟩,.inr (.inr (.inl ⟨rfl,by simp only;omega,o,by rw[v];exact h2,rfl⟩))⟩
 |offEq j hj h2=>
  obtain⟨o,v⟩:=h.lmHi (q:=q) hj;exact .inr ⟨Int.natCast_nonneg _,Int.ofNat_lt.2 (Nat.lt_of_lt_of_le hj hJ),⟨Int.le_refl _,(show(0:Int)≤1000000 by decide)⟩,⟨by simp only;omega,by simp only;omega⟩,.inr (.inr (.inr (.inl ⟨rfl,rfl,by simp only;omega,o,by rw[v];exact h2⟩)))⟩
 |low j hj=>
  obtain⟨o,v⟩:=h.lmLo (q:=q) hj;exact .inr ⟨Int.natCast_nonneg _,Int.ofNat_lt.2 (Nat.lt_of_lt_of_le hj hJ),⟨by simp only;omega,by simp only;omega⟩,⟨Int.le_refl _,(show(0:Int)≤1000000 by decide)⟩,.inr (.inr (.inr (.inr (.inl ⟨rfl,o,rfl⟩))))⟩
 |up j hj=>
  obtain⟨o,v⟩:=h.lmHi (q:=q) hj;exact .inr ⟨Int.natCast_nonneg _,Int.ofNat_lt.2 (Nat.lt_of_lt_of_le hj hJ),⟨Int.le_refl _,(show(0:Int)≤1000000 by decide)⟩,⟨by simp only;omega,by simp only;omega⟩,.inr (.inr (.inr (.inr (.inr (.inl ⟨rfl,rfl,o⟩)))))⟩
 |tri j hj h2 h3=>
  obtain⟨o,v⟩:=h.lmLo (q:=q) hj;obtain⟨o',v'⟩:=h.lmHi (q:=q) hj;exact .inr ⟨Int.natCast_nonneg _,Int.ofNat_lt.2 (Nat.lt_of_lt_of_le hj hJ),⟨by simp only;omega,by simp only;omega⟩,⟨by simp only;omega,by simp only;omega⟩,.inr (.inr (.inr (.inr (.inr (.inr ⟨rfl,o,o',by rw[v];exact h2,by rw[v'];exact h3⟩)))))⟩
theorem RwJ.bits {q:Qu}{ls:List Lm}{J B:Nat}{r:Ro}(h:LsI ls J)(hv:LsV ls J B)(hr:RwJ q ls J r):Bt B (lmV (S0 q ls) r.l r.i false)∧Bt B (lmV (S0 q ls) r.h r.i true):=by
 have z:∀(u:Int) (b:Bool),Bt B (lmV (S0 q ls) 0 u b):=fun u b=>by rw[lmV,lmOk0];exact bt0 _
 have zl:∀j,j<J→Bt B (lmV (S0 q ls) (2*(j:Int)+1) j false):=fun j hj=>by rw[(h.lmLo hj).2];exact(hv j hj).1
 have zh:∀j,j<J→Bt B (lmV (S0 q ls) (2*(j:Int)+2) j true):=fun j hj=>by rw[(h.lmHi hj).2];exact(hv j hj).2
 cases hr with
 |lo x h0 h1=>exact⟨z _ _,z _ _⟩
 |hi x h0 h1=>exact⟨z _ _,z _ _⟩
 |zero j hj=>exact⟨z _ _,z _ _⟩
 |above j hj=>exact⟨z _ _,z _ _⟩
 |onEq j hj h2=>exact⟨zl j hj,z _ _⟩
 |offEq j hj h2=>exact⟨z _ _,zh j hj⟩
 |low j hj=>exact⟨zl j hj,z _ _⟩
 |up j hj=>exact⟨z _ _,zh j hj⟩
 |tri j hj h2 h3=>exact⟨zl j hj,zh j hj⟩
section
variable {κ:Rat} {ξ:Int→Rat} {q:Qu} {ls:List Lm} {J:Nat}
abbrev pR (κ:Rat)(ξ:Int→Rat)(q:Qu)(ls:List Lm)(r:Ro):Rat:=ph κ ξ (frm (S0 q ls) r)
abbrev pP (κ:Rat)(ξ:Int→Rat)(q:Qu)(j:Nat):Rat:=ph κ ξ (atF q.g.us j)
abbrev pX (ξ:Int→Rat)(q:Qu)(j:Nat):Rat:=ξ ((q.g.n+j:Nat):Int)
theorem pR_lo (x:Int):pR κ ξ q ls ⟨1,x,0,0⟩=ξ x-κ*atQ q.r.lo x:=by
 rw[pR,frm,if_pos (.inl rfl),frmI,if_pos rfl,ph_sub,ph_var,ph_num]
theorem pR_hi (x:Int):pR κ ξ q ls ⟨2,x,0,0⟩=κ*atQ q.r.hi x-ξ x:=by
 rw[pR,frm,if_pos (.inr rfl),frmI,if_neg (show ¬(2:Int)=1 by decide),ph_sub,ph_var,ph_num]
theorem pR_u {k l h:Int}{j:Nat}(hk:5≤k):pR κ ξ q ls ⟨k,j,l,h⟩=ph κ ξ (frmW (q.g.n+j:Nat) (atF q.g.us j) (lmV (S0 q ls) l j false) (lmV (S0 q ls) h j true) k):=by
 rw[pR,frm,if_neg (by simp only;omega)];rw[show((j:Int)).toNat=j from Int.toNat_natCast j]
theorem pR_zero {l h:Int}(j:Nat):pR κ ξ q ls ⟨5,j,l,h⟩=pX ξ q j:=by
 rw[pR_u (by decide),frmW,if_pos rfl,ph_var]
theorem pR_above {l h:Int}(j:Nat):pR κ ξ q ls ⟨6,j,l,h⟩=pX ξ q j-pP κ ξ q j:=by
 rw[pR_u (by decide),frmW,if_neg (by decide),if_pos rfl,ph_sub,ph_var]
theorem pR_onEq {l h:Int}(j:Nat):pR κ ξ q ls ⟨8,j,l,h⟩=pP κ ξ q j-pX ξ q j:=by
 rw[pR_u (by decide),frmW,if_neg (by decide),if_neg (by decide),if_pos rfl,ph_sub,ph_var]
theorem pR_offEq {l h:Int}(j:Nat):pR κ ξ q ls ⟨10,j,l,h⟩= -pX ξ q j:=by
 rw[pR_u (by decide),frmW,if_neg (by decide),if_neg (by decide),if_neg (by decide),if_pos rfl,ph_scale,ph_var,m1,m1_r];grind
theorem pR_low {h:Int}{j:Nat}(hl:LsI ls J)(hj:j<J):pR κ ξ q ls ⟨11,j,2*(j:Int)+1,h⟩=pP κ ξ q j-κ*loV ls j:=by
 rw[pR_u (by decide),frmW,if_neg (by decide),if_neg (by decide),if_neg (by decide),if_neg (by decide),if_pos rfl,ph_sub,ph_num,(hl.lmLo hj).2]
theorem pR_up {l:Int}{j:Nat}(hl:LsI ls J)(hj:j<J):pR κ ξ q ls ⟨12,j,l,2*(j:Int)+2⟩=κ*hiV ls j-pP κ ξ q j:=by
 rw[pR_u (by decide),frmW,if_neg (by decide),if_neg (by decide),if_neg (by decide),if_neg (by decide),if_neg (by decide),if_pos rfl,ph_sub,ph_num,(hl.lmHi hj).2]
theorem pR_tri {j:Nat}(hl:LsI ls J)(hj:j<J):pR κ ξ q ls ⟨13,j,2*(j:Int)+1,2*(j:Int)+2⟩=(pP κ ξ q j-κ*loV ls j)*hiV ls j-pX ξ q j*(hiV ls j-loV ls j):=by
 rw[pR_u (by decide),frmW,if_neg (by decide),if_neg (by decide),if_neg (by decide),if_neg (by decide),if_neg (by decide),if_neg (by decide),ph_sub,ph_scale,ph_scale,ph_sub,ph_num,ph_var,(hl.lmLo hj).2,(hl.lmHi hj).2]
theorem wsum1 (φ:Ro→Rat)(r:Ro):wsum φ [⟨r,q1⟩]=φ r:=by simp only[wsum,q1_r];grind
theorem wsum2 (φ:Ro→Rat)(r r':Ro):wsum φ [⟨r,q1⟩,⟨r',q1⟩]=φ r+φ r':=by simp only[wsum,q1_r];grind
theorem wsum2c (φ:Ro→Rat)(r r':Ro)(a b:Rat):wsum φ [⟨r,a⟩,⟨r',b⟩]=a*φ r+b*φ r':=by simp only[wsum];grind
theorem lowB_ph {j:Nat}(h:LsI ls J)(hj:j<J):wsum (pR κ ξ q ls) (lowB ls j).2=pX ξ q j-κ*(lowB ls j).1:=by
 unfold lowB;split
 ·rw[wsum2,pR_above,pR_low h hj];grind
 ·rw[wsum1,pR_zero];grind
theorem highB_ph {j:Nat}(h:LsI ls J)(hj:j<J):wsum (pR κ ξ q ls) (highB ls j).2=κ*(highB ls j).1-pX ξ q j:=by
 unfold highB;split
 ·rw[wsum1,pR_offEq];grind
 ·rename_i c1;split
  ·rw[wsum2,pR_onEq,pR_up h hj];grind
  ·rename_i c2;rw[wsum2c,pR_up h hj,pR_tri h hj,q1_r,Rat.div_def];obtain⟨p1,_,_⟩:=part_nn c1 c2;have e:=Rat.mul_inv_cancel (hiV ls j-loV ls j) (by grind);generalize (hiV ls j-loV ls j)⁻¹=i at *
   grind
theorem bnd_ph {x:Int}{up:Bool}(h:LsI ls J)(h0:0≤x)(h1:x<q.g.n+J):wsum (pR κ ξ q ls) (bndB q ls x up).2=if up=true then κ*(bndB q ls x up).1-ξ x else ξ x-κ*(bndB q ls x up).1:=by
 unfold bndB
 by_cases hx:x<q.g.n
 ·rw[if_pos hx];unfold inB;split
  ·rw[wsum1,pR_hi]
  ·rw[wsum1,pR_lo]
 ·rw[if_neg hx];obtain⟨j,hj⟩:∃j:Nat,x-q.g.n=j:=⟨(x-q.g.n).toNat,by omega⟩;have e:(x-(q.g.n:Int)).toNat=j:=by omega
  have ex:x=((q.g.n+j:Nat):Int):=by omega
  rw[e];split
  ·rw[highB_ph h (by omega),ex]
  ·rw[lowB_ph h (by omega),ex]
theorem wsum_scale (φ:Ro→Rat)(a:Rat):∀l:List Mu,wsum φ (l.map fun m=>⟨m.r,a*m.c⟩)=a*wsum φ l
 |[]=>by simp[wsum]
 |m::l=>by simp only[List.map_cons,wsum,wsum_scale φ a l];grind
theorem wsum_append (φ:Ro→Rat):∀a b:List Mu,wsum φ (a++b)=wsum φ a+wsum φ b
 |[],b=>by simp[wsum,Rat.zero_add]
 |m::a,b=>by simp only[List.cons_append,wsum,wsum_append φ a b,Rat.add_assoc]
theorem tmL_ph {t:Tm}(h:LsI ls J)(h0:0≤t.v)(h1:t.v<q.g.n+J):wsum (pR κ ξ q ls) (tmL q ls t)=t.q*ξ t.v-κ*(t.q*(tmB q ls t).1):=by
 rw[tmL,wsum_scale];unfold tmB;rw[bnd_ph h h0 h1];unfold rabs
 by_cases hq:t.q<0
 ·rw[if_pos (decide_eq_true hq),if_pos hq];grind
 ·rw[if_neg (show ¬decide (t.q<0)=true by simpa using hq),if_neg hq];grind
theorem bxM_ph {f:Af}{k:Nat}(h:LsI ls J)(hf:FB k (q.g.n+J:Nat) f):∀i,i≤f.ts.length→wsum (pR κ ξ q ls) (bxM q ls f i)=lsum ξ (f.ts.take i)-κ*(bxV q ls f i-f.c)
 |0,_=>by simp[bxM,bxV,wsum,lsum];grind
 |i+1,hi=>by
  obtain⟨t,ht⟩:=at_some (l:=f.ts) (i:=i) (by omega);obtain⟨t1,t2,_,_⟩:=hf.tm t (mG_ ht);rw[bxM_succ ht,wsum_append,bxM_ph h hf i (by omega),tmL_ph h t1 (by omega),bxV_succ ht,take_snoc ht,lsum_app];simp only[lsum];grind
theorem bx_ph {f:Af}{k:Nat}(h:LsI ls J)(hf:FB k (q.g.n+J:Nat) f):wsum (pR κ ξ q ls) (bxM q ls f f.ts.length)=ph κ ξ f-κ*bxV q ls f f.ts.length:=by
 rw[bxM_ph h hf _ (lR_ _),List.take_length,ph];grind
theorem byW_ph {p:Af}{l u:Rat}(h:l<0)(h':0<u):ph κ ξ (byW p l u)=(ph κ ξ p*u-κ*(l*u))*(u-l)⁻¹:=by
 rw[byW,ph_add,ph_scale,ph_num,gapQ,if_pos (by simp[unB,h,h']),Rat.div_def,Rat.div_def];grind
theorem rpl_ph {j:Nat}{c:Rat}(h:LsI ls J)(hj:j<J):c*pX ξ q j-c*ph κ ξ (rplS (atF q.g.us j) j (loV ls j) (hiV ls j) c).by_=(rplS (atF q.g.us j) j (loV ls j) (hiV ls j) c).c*pR κ ξ q ls (rplS (atF q.g.us j) j (loV ls j) (hiV ls j) c).r:=by
 have ra:0<c→rabs c=c:=fun h=>by unfold rabs;grind
 have rb:¬0<c→rabs c= -c:=fun h=>by unfold rabs;grind
 unfold rplS;split
 ·by_cases hc:0<c
  ·simp only[if_pos hc,pR_above,ra hc];grind
  ·simp only[if_neg hc,pR_onEq,rb hc];grind
 ·rename_i c1;split
  ·by_cases hc:0<c
   ·simp only[if_pos hc,pR_zero,ra hc,ph_num];grind
   ·simp only[if_neg hc,pR_offEq,rb hc,ph_num];grind
  ·rename_i c2
   by_cases hc:0<c
   ·simp only[if_pos hc];split
    ·simp only[pR_above,ra hc];grind
    ·simp only[pR_zero,ra hc,ph_num];grind
   ·simp only[if_neg hc,pR_tri h hj,rb hc];rw[byW_ph (by grind) (by grind),Rat.div_def];have e:=Rat.mul_inv_cancel (hiV ls j-loV ls j) (by grind);generalize (hiV ls j-loV ls j)⁻¹=i at *
    grind
end
structure Pg where
 n:Nat
 rows:List Af
 obj:Af
def lnS (n:Nat)(f:Af):List Rat:=(List.range n).map (fun j=>cof f.ts (j:Nat))++[f.c]
theorem lnS_len (n:Nat)(f:Af):(lnS n f).length=n+1:=by simp[lnS]
theorem lnS_at {n j:Nat}{f:Af}(h:j<n):gq (lnS n f) j=cof f.ts (j:Nat):=by
 unfold lnS gq;rw[List.getD_eq_getElem?_getD,List.getElem?_append_left (by simpa using h),List.getElem?_map,List.getElem?_range h];rfl
theorem lnS_c (n:Nat)(f:Af):gq (lnS n f) n=f.c:=by
 unfold lnS gq;rw[List.getD_eq_getElem?_getD,List.getElem?_append_right (by simp)];simp
theorem gn_range {n j:Nat}(h:j<n):gn (List.range n) j=j:=by
 rw[gn,List.getD_eq_getElem?_getD,List.getElem?_range h];rfl
abbrev vz (v:Nat→Rat):Int→Rat:=fun z=>v z.toNat
theorem lsum_cof {n:Nat}{v:Nat→Rat}:∀{ts:List Tm} {lo:Int},TsOk n lo ts→0≤lo→lsum (vz v) ts=smR (fun j=>cof ts (j:Nat)*v j) n
 |[],_,_,_=>(smR_zero fun j _=>Rat.zero_mul _).symm
 |t::ts,lo,h,h0=>by
  obtain⟨h1,h2,h3,h4⟩:=h;have e:smR (fun j=>cof (t::ts) (j:Nat)*v j) n=t.q*v t.v.toNat+smR (fun j=>cof ts (j:Nat)*v j) n:=by
   rw[smR_congr (g:=fun j=>(if t.v=(j:Nat)then t.q else 0)*v j+cof ts (j:Nat)*v j) fun j _=>by simp only[cof];grind,smR_add,
    smR_single (e:=t.v.toNat) (by omega) fun j hj hne=>by rw[if_neg (by omega)];exact Rat.zero_mul _]
   rw[if_pos (by omega)]
  rw[lsum,lsum_cof h4 (by omega),e]
theorem lv_lnS {n:Nat}{f:Af}{v:Nat→Rat}(h:TsOk n 0 f.ts):lv (List.range n) (lnS n f) v=ph 1 (vz v) f:=by
 unfold lv ph;rw[List.length_range,lnS_c,lsum_cof h (Int.le_refl _),smR_congr (g:=fun j=>cof f.ts (j:Nat)*v j) fun j hj=>by rw[lnS_at hj,gn_range hj]];grind
def Pg.T0 (p:Pg):Tb:=⟨p.n,p.rows.length,(List.range p.rows.length).map (p.n+ ·),List.range p.n,p.rows.map (lnS p.n),lnS p.n p.obj,0⟩
def Pg.row (p:Pg)(i:Nat):Af:=p.rows.getD i ⟨[],0⟩
structure Pg.Ok (p:Pg)(k:Nat):Prop where
 rows:∀f∈p.rows,FB k p.n f
 obj:FB k p.n p.obj
section
variable {p:Pg}
theorem T0_r {i:Nat}(h:i<p.rows.length):p.T0.r i=lnS p.n (p.row i):=by
 unfold Pg.T0 Tb.r Pg.row;rw[List.getD_eq_getElem?_getD,List.getElem?_map,List.getD_eq_getElem?_getD,List.getElem?_eq_getElem h];rfl
theorem T0_B {i:Nat}(h:i<p.rows.length):gn p.T0.B i=p.n+i:=by
 show gn ((List.range p.rows.length).map (p.n+ ·)) i=_;rw[gn,List.getD_eq_getElem?_getD,List.getElem?_map,List.getElem?_range h];rfl
theorem T0_Bl:p.T0.B.length=p.rows.length:=by simp[Pg.T0]
theorem T0_Fl:p.T0.F.length=p.rows.length:=by simp[Pg.T0]
theorem T0_Nl:p.T0.N.length=p.n:=by simp[Pg.T0]
theorem T0_vr:Vr p.T0:=by
 refine⟨fun x hx=> ?_⟩;show x<p.n+p.rows.length;rcases hx with hx|hx
 ·obtain⟨i,hi,rfl⟩:=gn_of_mem hx;rw[T0_Bl]at hi;rw[T0_B hi];omega
 ·have:=List.mem_range.1 (show x∈List.range p.n from hx);omega
theorem T0_run:Run p.T0 p.T0:=by
 refine⟨rfl,rfl,T0_Bl,T0_Fl,Same.refl ⟨by simp[Tb.D,Pg.T0],fun i hi=> ?_,?_⟩⟩
 ·rw[Tb.D_len,T0_Bl]at hi;show _=(List.range p.n).length+1;rw[List.length_range]
  by_cases h:i<p.rows.length
  ·rw[Tb.D_row (by rw[T0_Fl];exact h),T0_r h,lnS_len]
  ·rw[show i=p.T0.F.length by rw[T0_Fl];omega,Tb.D_obj];exact lnS_len _ _
 ·show(((List.range p.rows.length).map (p.n+ ·)++[p.n+p.rows.length+1])++List.range p.n).Nodup;refine List.nodup_append.2 ⟨List.nodup_append.2 ⟨?_,by simp,fun x hx y hy=> ?_⟩,List.nodup_range,fun x hx y hy=> ?_⟩
  ·exact List.pairwise_map.2 (List.pairwise_lt_range.imp fun h=>by omega)
  ·obtain⟨i,hi,rfl⟩:=List.mem_map.1 hx;have:=List.mem_range.1 hi;rw[List.mem_singleton]at hy;omega
  ·have hy':=List.mem_range.1 hy;rcases List.mem_append.1 hx with h1|h1
   ·obtain⟨i,hi,rfl⟩:=List.mem_map.1 h1;omega
   ·rw[List.mem_singleton]at h1;omega
theorem T0_all {k:Nat}(h:p.Ok k):p.T0.D.All k:=by
 intro i hi j hj;rw[Tb.D_len,T0_Bl]at hi;have hj':j≤p.n:=by rw[show p.T0.D.N.length=p.n from T0_Nl]at hj;exact hj
 have key:∀f,FB k p.n f→Bt k (gq (lnS p.n f) j):=fun f hf=>by
  rcases Nat.lt_or_eq_of_le hj' with h1|h1
  ·rw[lnS_at h1];exact hf.co _
  ·rw[h1,lnS_c];exact hf.c
 by_cases h1:i<p.rows.length
 ·rw[Tb.D_row (by rw[T0_Fl];exact h1),T0_r h1];exact key _ (h.rows _ (by rw[Pg.row,List.getD_eq_getElem?_getD,List.getElem?_eq_getElem h1];exact List.getElem_mem _))
 ·rw[show i=p.T0.F.length by rw[T0_Fl];omega,Tb.D_obj];exact key _ h.obj
theorem T0_free {x:Nat}(hx:x∈p.T0.D.B∨x∈p.T0.D.N):x≠p.T0.a:=by
 rcases hx with hx|hx
 ·rcases List.mem_append.1 (show x∈p.T0.B++[p.T0.z]from hx)with h|h
  ·have:=T0_vr.v x (.inl h);show x≠p.n+p.rows.length;have h2:x<p.n+p.rows.length:=this;omega
  ·rw[List.mem_singleton]at h;rw[h];simp only[Tb.z,Tb.a];omega
 ·have:=T0_vr.v x (.inr hx);have h2:x<p.n+p.rows.length:=this;show x≠p.n+p.rows.length;omega
def Pg.at (p:Pg)(u:Nat→Rat):Nat→Rat:=p.T0.D.as u
theorem T0_sat {v:Nat→Rat}:p.T0.D.Sat v↔(∀i,i<p.rows.length→v (p.n+i)=lv (List.range p.n) (lnS p.n (p.row i)) v)∧v p.T0.z=lv (List.range p.n) (lnS p.n p.obj) v:=by
 rw[Tb.sat (by rw[T0_Fl,T0_Bl]),T0_Bl];refine and_congr (forall_congr' fun i=>forall_congr' fun hi=> ?_) Iff.rfl;rw[T0_B hi,T0_r hi];rfl
theorem at_sat (u:Nat→Rat):p.T0.D.Sat (p.at u):=T0_run.s.w.as_sat u
theorem at_x {u:Nat→Rat}{x:Nat}(h:x<p.n):p.at u x=u x:=Dk.as_N (show x∈List.range p.n from List.mem_range.2 h)
theorem lv_at {l:List Rat}{u:Nat→Rat}:lv (List.range p.n) l (p.at u)=lv (List.range p.n) l u:=lv_congr fun x hx=>at_x (List.mem_range.1 hx)
theorem at_row {u:Nat→Rat}{i:Nat}(h:i<p.rows.length)(hk:TsOk p.n 0 (p.row i).ts):p.at u (p.n+i)=ph 1 (vz u) (p.row i):=by
 rw[(T0_sat.1 (at_sat u)).1 i h,lv_at,lv_lnS hk]
theorem at_obj {u:Nat→Rat}(hk:TsOk p.n 0 p.obj.ts):p.at u p.T0.z=ph 1 (vz u) p.obj:=by
 rw[(T0_sat.1 (at_sat u)).2,lv_at,lv_lnS hk]
end
def ptL (n:Nat)(v:Nat→Rat):List Rat:=(List.range n).map v
theorem ptL_at {n x:Nat}{v:Nat→Rat}(h:x<n):gq (ptL n v) x=v x:=by
 rw[gq,ptL,List.getD_eq_getElem?_getD,List.getElem?_map,List.getElem?_range h];rfl
structure SolOk (p:Pg)(st:Int)(val:Rat)(pt du ray:List Rat):Prop where
 kind:st=1∨st=2∨st=3
 opt:st=1→pt.length=p.n∧(∀i,i<p.rows.length→0≤ph 1 (vz (gq pt)) (p.row i))∧ph 1 (vz (gq pt)) p.obj=val∧ray=[]∧du.length=p.rows.length∧(∀i,i<p.rows.length→0≤gq du i)∧
  ∀u:Nat→Rat,ph 1 (vz u) p.obj=smR (fun i=>gq du i*ph 1 (vz u) (p.row i)) p.rows.length+val
 inf:st=2→val=0∧pt=[]∧ray=[]∧du.length=p.rows.length∧(∀i,i<p.rows.length→0≤gq du i)∧
  ∃c,c<0∧∀u:Nat→Rat,smR (fun i=>gq du i*ph 1 (vz u) (p.row i)) p.rows.length=c
 unb:st=3→val=0∧du=[]∧pt.length=p.n∧(∀i,i<p.rows.length→0≤ph 1 (vz (gq pt)) (p.row i))∧ray.length=p.n∧(∀i,i<p.rows.length→0≤lsum (vz (gq ray)) (p.row i).ts)∧lsum (vz (gq ray)) p.obj.ts<0
section
variable {p:Pg} {T:Tb} {k:Nat}
theorem row_ok (h:p.Ok k){i:Nat}(hi:i<p.rows.length):FB k p.n (p.row i):=h.rows _ (by rw[Pg.row,List.getD_eq_getElem?_getD,List.getElem?_eq_getElem hi];exact List.getElem_mem _)
theorem tb_n (h:Run p.T0 T):T.n=p.n:=h.n
theorem tb_m (h:Run p.T0 T):T.m=p.rows.length:=h.m
theorem tb_mem (h:Run p.T0 T){x:Nat}(hx:x<p.n+p.rows.length):x∈T.B∨x∈T.N:=by
 have h1:x∈p.T0.D.B∨x∈p.T0.D.N:=by
  by_cases h1:x<p.n
  ·exact .inr (show x∈List.range p.n from List.mem_range.2 h1)
  ·refine .inl (show x∈(List.range p.rows.length).map (p.n+ ·)++[_]from List.mem_append.2 (.inl (List.mem_map.2 ⟨x-p.n,List.mem_range.2 (by omega),by omega⟩)))
 rcases h.s.mem.2 h1 with h2|h2
 ·rcases List.mem_append.1 (show x∈T.B++[T.z]from h2)with h3|h3
  ·exact .inl h3
  ·rw[List.mem_singleton]at h3;have:=tb_n h;have:=tb_m h;simp only[Tb.z]at h3;omega
 ·exact .inr h2
theorem tb_vr (h:Run p.T0 T):Vr T:=by
 refine⟨fun x hx=> ?_⟩;have hn:=tb_n h;have hm:=tb_m h;have hz:x≠T.z:=by
  rintro rfl;rcases hx with hx|hx
  ·have:=(List.nodup_append.1 h.s.w'.ndB).2.2 T.z hx T.z (by simp);exact this rfl
  ·exact h.s.w'.disj (show T.z∈T.B++[T.z] by simp) hx
 have h1:=h.s.mem.1 (show x∈T.D.B∨x∈T.D.N from hx.imp (fun h=>List.mem_append.2 (.inl h)) id);rcases h1 with h2|h2
 ·rcases List.mem_append.1 (show x∈p.T0.B++[p.T0.z]from h2)with h3|h3
  ·have:=T0_vr.v x (.inl h3);rw[hn,hm];exact this
  ·rw[List.mem_singleton]at h3;exact absurd (by rw[h3];show p.n+p.rows.length+1=_;simp only[Tb.z];omega) hz
 ·have:=T0_vr.v x (.inr h2);rw[hn,hm];exact this
theorem pt_ok (ok:p.Ok k)(h:Run p.T0 T)(hf:Fs (frV T) T.D):
  (ptL p.n (bz T.D)).length=p.n∧(∀i,i<p.rows.length→0≤ph 1 (vz (gq (ptL p.n (bz T.D)))) (p.row i))∧ph 1 (vz (gq (ptL p.n (bz T.D)))) p.obj=gq T.O T.N.length:=by
 have s:=T0_sat.1 (pt_sat h);have e:∀l,lv (List.range p.n) l (gq (ptL p.n (bz T.D)))=lv (List.range p.n) l (bz T.D):=fun l=>lv_congr fun x hx=>ptL_at (List.mem_range.1 hx);have hn:=tb_n h;have hm:=tb_m h;refine⟨by simp[ptL],fun i hi=> ?_,?_⟩
 ·rw[←lv_lnS (row_ok ok hi).ts,e,←s.1 i hi];exact pt_nonneg h hf (tb_mem h (by omega)) (by omega) (by simp only[Tb.z];omega)
 ·rw[←lv_lnS ok.obj.ts,e,←s.2,←pt_z h]
  congr 1;show p.n+p.rows.length+1=T.n+T.m+1;omega
theorem sol_opt (ok:p.Ok k)(h:Run p.T0 T)(hf:Fs (frV T) T.D)(hz0:∀e,e<T.N.length→gn T.N e<T.n→gq T.O e=0)(hn:∀e,e<T.N.length→¬gn T.N e<T.n→0≤gq T.O e):
  SolOk p 1 (gq T.O T.N.length) (ptL p.n (bz T.D)) (T.du T.O) []:=by
 obtain⟨h1,h2,h3⟩:=pt_ok ok h hf;have en:=tb_n h;have em:=tb_m h;refine⟨.inl rfl,fun _=>⟨h1,h2,h3,rfl,by simp[Tb.du,em],fun i hi=>du_nonneg hn (by omega),fun u=> ?_⟩,fun h=>absurd h (by decide),fun h=>absurd h (by decide)⟩;have:=opt_sum (tb_vr h) hz0 h (at_sat (p:=p) u);rw[show T.z=p.T0.z by show T.n+T.m+1=p.n+p.rows.length+1;omega,at_obj ok.obj.ts]at this;rw[this,em]
 congr 1
 exact smR_congr fun i hi=>by rw[en,at_row hi (row_ok ok hi).ts]
theorem sol_inf {T':Tb}{r:Nat}(ok:p.Ok k)(h:Run p.T0 T)(q:Run T.ax T')(hn:T'.n=T.n)(hm:T'.m=T.m)(hz:Zc T' T'.N.length)(hr:r<T'.B.length)(ha:gn T'.B r=T.a)(hc:0<gq (T'.r r) T'.N.length)
  (hl:∀e,e<T'.N.length→¬gn T'.N e<T'.n→0≤gq (T'.r r) e):SolOk p 2 0 [] (T'.du (T'.r r)) []:=by
 have en:=tb_n h;have em:=tb_m h;refine⟨.inr (.inl rfl),fun h=>absurd h (by decide),fun _=>⟨rfl,rfl,rfl,by simp[Tb.du,hm,em],fun i hi=>du_nonneg hl (by omega),-gq (T'.r r) T'.N.length,by grind,fun u=> ?_⟩,fun h=>absurd h (by decide)⟩
 have:=refuted h (tb_vr h) q hn hm hz hr ha (at_sat (p:=p) u) fun x hx=>by
  have:=T0_free hx;rw[show T.a=p.T0.a by show T.n+T.m=p.n+p.rows.length;omega];exact this
 rw[←this,em];exact smR_congr fun i hi=>by rw[en,at_row hi (row_ok ok hi).ts]
theorem sol_unb {e:Nat}{by_:Rat}(ok:p.Ok k)(h:Run p.T0 T)(hf:Fs (frV T) T.D)(he:e<T.N.length)(hr:∀i,i<T.B.length→¬gn T.B i<T.n→0≤by_*gq (T.r i) e)(hb:¬gn T.N e<T.n→0≤by_)(ho:by_*gq T.O e<0):
  SolOk p 3 0 (ptL p.n (bz T.D)) [] (ptL p.n fun x=>by_*T.di e x):=by
 obtain⟨h1,h2,_⟩:=pt_ok ok h hf;have en:=tb_n h;have em:=tb_m h;have hF:p.T0.F.length=p.T0.B.length:=by rw[T0_Fl,T0_Bl]
 have key:∀f,TsOk p.n 0 f.ts→lsum (vz (gq (ptL p.n fun x=>by_*T.di e x))) f.ts=by_*smR (fun j=>gq (lnS p.n f) j*T.di e (gn p.T0.N j)) p.T0.N.length:=fun f hf=>by
  rw[lsum_cof hf (Int.le_refl _),←smR_mul,T0_Nl];refine smR_congr fun j hj=> ?_;rw[ptL_at hj,lnS_at hj,show gn p.T0.N j=j from gn_range hj];grind
 refine⟨.inr (.inr rfl),fun h=>absurd h (by decide),fun h=>absurd h (by decide),fun _=>⟨rfl,rfl,h1,h2,by simp[ptL],fun i hi=> ?_,?_⟩⟩
 ·have hd:=di_lv h (e:=e) (show i<p.T0.B.length by rw[T0_Bl];exact hi) hF;rw[T0_r hi,T0_B hi]at hd;rw[key _ (row_ok ok hi).ts,←hd];rcases tb_mem h (x:=p.n+i) (by omega)with hx|hx
  ·obtain⟨j,hj,ej⟩:=gn_of_mem hx;rw[←ej,di_B h he hj];exact hr j hj (by rw[ej];omega)
  ·obtain⟨j,hj,ej⟩:=gn_of_mem hx;rw[←ej,di_N h he hj];split
   ·rename_i h3;rw[Rat.mul_one];exact hb (by rw[←h3,ej];omega)
   ·rw[Rat.mul_zero];exact Rat.le_refl
 ·have hd:=di_lvO h (e:=e) hF;rw[key _ ok.obj.ts];have e2:p.T0.O=lnS p.n p.obj:=rfl;rw[e2]at hd;rw[←hd,show p.T0.z=T.z by show p.n+p.rows.length+1=T.n+T.m+1;omega,di_z h he];exact ho
end
theorem sol_same {p:Pg}{st st':Int}{val val':Rat}{pt du ray pt' du' ray':List Rat}(h:SolOk p st val pt du ray)(h':SolOk p st' val' pt' du' ray'):st=st'∧(st=1→val=val'):=by
 have nn:∀{du:List Rat} {u:Nat→Rat},(∀i,i<p.rows.length→0≤gq du i)→(∀i,i<p.rows.length→0≤ph 1 (vz u) (p.row i))→0≤smR (fun i=>gq du i*ph 1 (vz u) (p.row i)) p.rows.length:=
  fun h1 h2=>smR_nonneg fun i hi=>Rat.mul_nonneg (h1 i hi) (h2 i hi)
 have o2:∀{pt du ray pt' du' ray':List Rat} {val val':Rat},SolOk p 1 val pt du ray→SolOk p 2 val' pt' du' ray'→False:=fun a b=>by
  obtain⟨_,q2,_⟩:=a.opt rfl;obtain⟨_,_,_,_,r5,c,r6,r7⟩:=b.inf rfl;have:=nn r5 q2;rw[r7]at this;grind
 have u2:∀{pt du ray pt' du' ray':List Rat} {val val':Rat},SolOk p 3 val pt du ray→SolOk p 2 val' pt' du' ray'→False:=fun a b=>by
  obtain⟨_,_,_,q2,_⟩:=a.unb rfl;obtain⟨_,_,_,_,r5,c,r6,r7⟩:=b.inf rfl;have:=nn r5 q2;rw[r7]at this;grind
 have o3:∀{pt du ray pt' du' ray':List Rat} {val val':Rat},SolOk p 1 val pt du ray→SolOk p 3 val' pt' du' ray'→False:=fun {pt du ray pt' du' ray' val val'} a b=>by
  obtain⟨_,_,_,_,_,q6,q7⟩:=a.opt rfl;obtain⟨_,_,_,r4,_,r6,r7⟩:=b.unb rfl
  -- far enough along the way
  have lin:∀(f:Af) (t:Rat),ph 1 (vz fun x=>gq pt' x+t*gq ray' x) f=ph 1 (vz (gq pt')) f+t*lsum (vz (gq ray')) f.ts:=fun f t=>by
   unfold ph;have:∀ts:List Tm,lsum (vz fun x=>gq pt' x+t*gq ray' x) ts=lsum (vz (gq pt')) ts+t*lsum (vz (gq ray')) ts:=by
    intro ts
    induction ts with
    |nil=>simp only[lsum];grind
    |cons a ts ih=>simp only[lsum,ih];grind
   rw[this];grind
  have low:∀t:Rat,0≤t→val≤ph 1 (vz (gq pt')) p.obj+t*lsum (vz (gq ray')) p.obj.ts:=fun t ht=>by
   have e1:=q7 fun x=>gq pt' x+t*gq ray' x
   have:=nn q6 (u:=fun x=>gq pt' x+t*gq ray' x) fun i hi=>by
    rw[lin];have:=Rat.mul_nonneg ht (r6 i hi);have:=r4 i hi;grind
   rw[lin]at e1;grind
  generalize ph 1 (vz (gq pt')) p.obj=A at low;generalize lsum (vz (gq ray')) p.obj.ts=B at low r7;have h0:=low 0 Rat.le_refl;have hB:B≠0:=by grind
  have h1:=low ((val-A-1)/B) (by
   rw[show(val-A-1)/B=(A+1-val)*(-B)⁻¹ by
    rw[Rat.div_def];have h2:=Rat.mul_inv_cancel B hB;have h3:=Rat.mul_inv_cancel (-B) (by grind);have h4:(-B)⁻¹= -B⁻¹:=by
     have:B*((-B)⁻¹+B⁻¹)=0:=by grind
     rcases Rat.mul_eq_zero.1 this with h5|h5
     ·exact absurd h5 hB
     ·grind
    rw[h4];grind]
   exact Rat.mul_nonneg (by grind) (Rat.le_of_lt (Rat.inv_pos.2 (by grind))))
  rw[Rat.div_mul_cancel hB]at h1;grind
 have oo:∀{pt du ray pt' du' ray':List Rat} {val val':Rat},SolOk p 1 val pt du ray→SolOk p 1 val' pt' du' ray'→val'≤val:=fun {pt du ray pt' du' ray' val val'} a b=>by
  obtain⟨_,q2,q3,_⟩:=a.opt rfl;obtain⟨_,_,_,_,_,r6,r7⟩:=b.opt rfl;have e1:=r7 (gq pt);have:=nn r6 q2;rw[q3]at e1;rw[e1];grind
 rcases h.kind with rfl|rfl|rfl<;>rcases h'.kind with rfl|rfl|rfl
 ·exact⟨rfl,fun _=>Rat.le_antisymm (oo h' h) (oo h h')⟩
 ·exact(o2 h h').elim
 ·exact(o3 h h').elim
 ·exact(o2 h' h).elim
 ·exact⟨rfl,fun h=>absurd h (by decide)⟩
 ·exact(u2 h' h).elim
 ·exact(o3 h' h).elim
 ·exact(u2 h h').elim
 ·exact⟨rfl,fun h=>absurd h (by decide)⟩
def enB (T:Tb)(l:List Rat):Nat→Option Nat
 |0=>none
 |j+1=>if ¬gn T.N j<T.n∧gq l j<0∧(∀b,enB T l j=some b→gn T.N j<gn T.N b)then some j else enB T l j
theorem enB_none {T:Tb}{l:List Rat}:∀{k:Nat},enB T l k=none→∀j,j<k→¬gn T.N j<T.n→0≤gq l j
 |0,_,j,hj,_=>by omega
 |k+1,h,j,hj,hf=>by
  rw[enB]at h;split at h
  ·cases h
  ·rename_i hc;rcases Nat.lt_or_ge j k with h1|h1
   ·exact enB_none h j h1 hf
   ·have e:j=k:=by omega
    subst e;refine Rat.not_lt.1 fun h2=>hc ⟨hf,h2,fun b hb=> ?_⟩;rw[h]at hb;cases hb
theorem enB_some {T:Tb}{l:List Rat}:∀{k e:Nat},enB T l k=some e→e<k∧¬gn T.N e<T.n∧gq l e<0∧∀j,j<k→¬gn T.N j<T.n→gq l j<0→gn T.N e≤gn T.N j
 |0,e,h=>by cases h
 |k+1,e,h=>by
  rw[enB]at h;split at h
  ·rename_i hc;injection h with h;subst h;obtain⟨h1,h2,h3⟩:=hc;refine⟨by omega,h1,h2,fun j hj hf hn=> ?_⟩;rcases Nat.lt_or_ge j k with h4|h4
   ·cases hb:enB T l k with
    |none=>have:=enB_none hb j h4 hf;grind
    |some b=>
     have h5:=h3 b hb;have h6:=(enB_some hb).2.2.2 j h4 hf hn;omega
   ·rw[show j=k by omega];exact lR_ _
  ·rename_i hc;obtain⟨h1,h2,h3,h4⟩:=enB_some h;refine⟨by omega,h2,h3,fun j hj hf hn=> ?_⟩;rcases Nat.lt_or_ge j k with h5|h5
   ·exact h4 j h5 hf hn
   ·have e2:j=k:=by omega
    subst e2;rcases Nat.lt_or_ge (gn T.N j) (gn T.N e)with h6|h6
    ·exact absurd ⟨hf,hn,fun b hb=>by rw[h]at hb;injection hb with hb;subst hb;exact h6⟩ hc
    ·exact h6
def Tb.ra (T:Tb)(r e:Nat):Rat:=gq (T.r r) T.N.length/ -gq (T.r r) e
def leB (T:Tb)(e:Nat):Nat→Option Nat
 |0=>none
 |r+1=>if gn T.B r<T.n∨0≤gq (T.r r) e then leB T e r else
   if ∀b,leB T e r=some b→T.ra r e<T.ra b e∨(T.ra r e=T.ra b e∧gn T.B r<gn T.B b)then some r else leB T e r
theorem leB_none {T:Tb}{e:Nat}:∀{k:Nat},leB T e k=none→∀r,r<k→¬gn T.B r<T.n→0≤gq (T.r r) e
 |0,_,r,hr,_=>by omega
 |k+1,h,r,hr,hf=>by
  rw[leB]at h;split at h
  ·rename_i hc;rcases Nat.lt_or_ge r k with h1|h1
   ·exact leB_none h r h1 hf
   ·rw[show r=k by omega]at hf ⊢;exact hc.elim (fun h2=>absurd h2 hf) id
  ·split at h
   ·cases h
   ·rename_i hc;exfalso;refine hc fun b hb=> ?_;rw[h]at hb;cases hb
theorem leB_some {T:Tb}{e:Nat}:∀{k r:Nat},leB T e k=some r→r<k∧¬gn T.B r<T.n∧gq (T.r r) e<0∧∀r',r'<k→¬gn T.B r'<T.n→gq (T.r r') e<0→T.ra r e<T.ra r' e∨(T.ra r e=T.ra r' e∧gn T.B r≤gn T.B r')
 |0,r,h=>by cases h
 |k+1,r,h=>by
  rw[leB]at h;split at h
  ·rename_i hc;obtain⟨h1,h2,h3,h4⟩:=leB_some h;refine⟨by omega,h2,h3,fun r' hr hf hn=> ?_⟩;rcases Nat.lt_or_ge r' k with h5|h5
   ·exact h4 r' h5 hf hn
   ·have e2:r'=k:=by omega
    subst e2;rcases hc with h6|h6
    ·exact absurd h6 hf
    ·grind
  ·rename_i hc0;have k1:¬gn T.B k<T.n:=fun h=>hc0 (.inl h);have k2:gq (T.r k) e<0:=Rat.not_le.1 fun h=>hc0 (.inr h);split at h
   ·rename_i hc;injection h with h;subst h;refine⟨by omega,k1,k2,fun r' hr hf hn=> ?_⟩;rcases Nat.lt_or_ge r' k with h4|h4
    ·cases hb:leB T e k with
     |none=>have:=leB_none hb r' h4 hf;grind
     |some b=>
      have h5:=hc b hb;have h6:=(leB_some hb).2.2.2 r' h4 hf hn;rcases h5 with h5|⟨h5,h7⟩<;>rcases h6 with h6|⟨h6,h8⟩
      ·exact .inl (by grind)
      ·exact .inl (h6▸h5)
      ·exact .inl (h5▸h6)
      ·exact .inr ⟨h5.trans h6,by omega⟩
    ·rw[show r'=k by omega];exact .inr ⟨rfl,lR_ _⟩
   ·rename_i hc;obtain⟨h1,h2,h3,h4⟩:=leB_some h;refine⟨by omega,h2,h3,fun r' hr hf hn=> ?_⟩;rcases Nat.lt_or_ge r' k with h5|h5
    ·exact h4 r' h5 hf hn
    ·have e2:r'=k:=by omega
     subst e2
     have h6:¬(T.ra r' e<T.ra r e∨(T.ra r' e=T.ra r e∧gn T.B r'<gn T.B r)):=fun h6=>hc fun b hb=>by
      rw[h]at hb;injection hb with hb;subst hb;exact h6
     by_cases h7:T.ra r e<T.ra r' e
     ·exact .inl h7
     ·have h8:T.ra r e=T.ra r' e:=Rat.le_antisymm (Rat.not_lt.1 fun h9=>h6 (.inl h9)) (Rat.not_lt.1 h7);exact .inr ⟨h8,Nat.le_of_not_lt fun h9=>h6 (.inr ⟨h8.symm,h9⟩)⟩
def nxt (L:Tb→List Rat)(T:Tb):Option Tb:=match enB T (L T) T.N.length with
 |some e=>match leB T e T.B.length with
  |some r=>some (T.pv r e)
  |none=>none
 |none=>none
def itT (L:Tb→List Rat)(T:Tb):Nat→Option Tb
 |0=>some T
 |k+1=>(itT L T k).bind (nxt L)
theorem nxt_some {L:Tb→List Rat}{T U:Tb}(h:nxt L T=some U):∃e r,enB T (L T) T.N.length=some e∧leB T e T.B.length=some r∧U=T.pv r e:=by
 unfold nxt at h;split at h
 ·rename_i e he;split at h
  ·rename_i r hr;injection h with h;exact⟨e,r,he,hr,h.symm⟩
  ·cases h
 ·cases h
theorem nxt_bs {L:Tb→List Rat}{T0 T U:Tb}{z rz:Nat}(h:nxt L T=some U)(k:Run T0 T)(hz:rz<T.D.B.length)(hzb:gn T.D.B rz=z)(hL:T.D.row rz=L T)
  (hfN:∀j,j<T.N.length→(frV T (gn T.N j)↔gn T.N j<T.n)) (hfB:∀i,i<T.B.length→(frV T (gn T.B i)↔gn T.B i<T.n)):Bs z T U:=by
 obtain⟨e,r,he,hr,rfl⟩:=nxt_some h;obtain⟨e1,e2,e3,e4⟩:=enB_some he;obtain⟨r1,r2,r3,r4⟩:=leB_some hr;have hFB:T.F.length=T.B.length:=by rw[k.fl,k.bl]
 have ho:=k.ol;refine⟨r,e,rz,⟨hz,hzb,by rw[Tb.D_len];omega,e1,fun h=>e2 ((hfN e e1).1 h),by show gq (T.D.row rz) e<0;rw[hL];exact e3,fun e' h1 h2 h3=> ?_,by rw[Tb.D_B r1];exact fun h=>r2 ((hfB r r1).1 h),?_,fun r' h1 h2 h3=> ?_,Tb.pv_D r1 hFB⟩,r1,rfl⟩
 ·have h3:gq (T.D.row rz) e'<0:=h3;rw[hL]at h3;exact e4 e' h1 (fun h=>h2 ((hfN e' h1).2 h)) h3
 ·show gq (T.D.row r) e<0;rw[Tb.D_row (by omega)];exact r3
 ·rw[Tb.D_len]at h1;have hne:r'≠T.B.length:=fun e5=>h2 (by rw[e5,Tb.D_z];exact .inr rfl);have h1':r'<T.B.length:=by omega
  rw[Tb.D_B h1']at h2;have h3:gq (T.D.row r') e<0:=h3;rw[Tb.D_row (by omega)]at h3;have:=r4 r' h1' (fun h=>h2 ((hfB r' h1').2 h)) h3;rw[Tb.D_B r1,Tb.D_B h1'];show gq (T.D.row r) _/ -gq (T.D.row r) e<gq (T.D.row r') _/ -gq (T.D.row r') e∨(gq (T.D.row r) _/ -gq (T.D.row r) e=gq (T.D.row r') _/ -gq (T.D.row r') e∧_);rw[Tb.D_row (by omega),Tb.D_row (i:=r') (by omega)];exact this
theorem phase_ends {L:Tb→List Rat}{T0 T:Tb}{z n:Nat}(hb:∀k U V,itT L T k=some U→nxt L U=some V→Bs z U V)(hw:T.D.Wf)(hf:Fs (frV T) T.D)(hn:∀x∈T.D.B++T.D.N,x<n):
  ∃k U,itT L T k=some U∧nxt L U=none∧Rn z T U k∧k<2^n:=by
 have rn:∀k U,itT L T k=some U→Rn z T U k:=by
  intro k
  induction k with
  |zero=>intro U h;injection h with h;subst h;exact Rn.refl z T
  |succ k ih=>
   intro U h;rw[itT]at h;obtain⟨V,h1,h2⟩:=Option.bind_eq_some_iff.1 h;exact(ih V h1).step (hb k V U h1 h2)
 have key:∀m k U,itT L T k=some U→k+m=2^n→∃k U,itT L T k=some U∧nxt L U=none:=by
  intro m
  induction m with
  |zero=>intro k U h e;have:=(rn k U h).few hw hf hn;omega
  |succ m ih=>
   intro k U h e
   cases hq:nxt L U with
   |none=>exact⟨k,U,h,hq⟩
   |some V=>exact ih (k+1) V (by rw[itT,h];exact hq) (by omega)
 obtain⟨k,U,h1,h2⟩:=key (2^n) 0 T rfl (by omega);exact⟨k,U,h1,h2,rn k U h1,(rn k U h1).few hw hf hn⟩
def tI (l:List Nat):List (List D):=l.map fun x=>[.lit (.int .i64 (x:Nat))]
def tQ (l:List Rat):List (List D):=l.map fun q=>ratD q
def tF (F:List (List Rat)):List (List D):=F.map fun l=>[.sl 3 (tQ l)]
def tD (T:Tb):List D:=[.lit (.int .i64 (T.n:Nat)),.lit (.int .i64 (T.m:Nat)),.sl 1 (tI T.B),.sl 1 (tI T.N),.sl 1 (tF T.F),.sl 3 (tQ T.O),.lit (.int .i64 (T.p:Nat))]
theorem tI_len (l:List Nat):(tI l).length=l.length:=List.length_map _
theorem tQ_len (l:List Rat):(tQ l).length=l.length:=List.length_map _
theorem gn_get {l:List Nat}{i:Nat}(h:i<l.length):l[i]? =some (gn l i):=by rw[gn,List.getD_eq_getElem?_getD,List.getElem?_eq_getElem h];rfl
theorem gq_get {l:List Rat}{i:Nat}(h:i<l.length):l[i]? =some (gq l i):=by rw[gq,List.getD_eq_getElem?_getD,List.getElem?_eq_getElem h];rfl
theorem tI_at {l:List Nat}{i:Nat}(h:i<l.length):(tI l)[i]? =some [.lit (.int .i64 (gn l i:Nat))]:=by rw[tI,List.getElem?_map,gn_get h];rfl
theorem tQ_at {l:List Rat}{i:Nat}(h:i<l.length):(tQ l)[i]? =some (ratD (gq l i)):=by rw[tQ,List.getElem?_map,gq_get h];rfl
theorem tF_at {F:List (List Rat)}{i:Nat}(h:i<F.length):(tF F)[i]? =some [.sl 3 (tQ (F.getD i []))]:=by rw[tF,List.getElem?_map,List.getElem?_eq_getElem h,List.getD_eq_getElem?_getD,List.getElem?_eq_getElem h];rfl
structure TOk (T:Tb):Prop where
 n:T.n≤1000
 m:T.m≤1000
 bl:T.B.length≤1000
 nl:T.N.length≤1000
 fl:T.F.length=T.B.length
 rl:∀i,i<T.B.length→(T.r i).length=T.N.length+1
 ol:T.O.length=T.N.length+1
 bv:∀x∈T.B,x≤10000
 nv:∀x∈T.N,x≤10000
 fq:∀i,i<T.B.length→∀j,j≤T.N.length→Bt 1000000 (gq (T.r i) j)
 oq:∀j,j≤T.N.length→Bt 1000000 (gq T.O j)
 p:T.p≤1000000
theorem TOk.gn {T:Tb}(h:TOk T){i:Nat}(hi:i<T.N.length):Lf.gn T.N i≤10000:=h.nv _ (gn_mem hi)
theorem sg_eq {q:Rat}:(q.num.sign==0)=decide (q=0):=by
 rw[Bool.eq_iff_iff,beq_iff_eq,decide_eq_true_eq,Int.sign_eq_zero_iff_zero,Rat.num_eq_zero]
def bI:Option Nat→Int
 |none=> -1
 |some j=>(j:Nat)
theorem ly_free {T:Tb}{x:Nat}:LV Tryz.prog 26 [.a (.elt (tD T) 0),vl (.int .i64 (x:Nat))] (vl (.bool (decide ((x:Int)<(T.n:Nat))))):=by
 refine LX_run (m:=0) (n0:=0) mix Tryz.func26 rfl rfl rfl rfl ?_;conv=>whnf
 refine bs (fun h=> ?_) (fun h=> ?_)
 ·conv=>whnf
  exact .q ⟨by rw[h],rfl⟩
 ·conv=>whnf
  exact .q ⟨by rw[h],rfl⟩
theorem ly_const {T:Tb}{i:Nat}(h:TOk T)(hi:i<T.B.length):LV Tryz.prog 62 [.a (.elt (tD T) 0),vl (.int .i64 (i:Nat))] (ratV (gq (T.r i) T.N.length)):=by
 refine LX_run (m:=0) (n0:=0) mix Tryz.func62 rfl rfl rfl rfl ?_;conv=>whnf
 refine .mk (i) ([.sl 3 (tQ (T.r i))]) (rfl) (tF_at (by rw[h.fl];exact hi)) ?_;conv=>whnf
 refine .mk (T.N.length) (ratD (gq (T.r i) T.N.length)) ((by rw[tI_len])) (tQ_at (by rw[h.rl i hi];omega)) ?_;conv=>whnf
 refine .mk (by kernel_rfl) ?_;conv=>whnf
 exact .q ⟨rfl,rfl⟩
def ixS (l:List Nat)(x:Nat):Option Nat:=if x∈l then some (l.idxOf x)else none
theorem ix_take {l:List Nat}{x i:Nat}(h:x∉l.take i)(hi:i<l.length):(gn l i=x→ixS l x=some i)∧(gn l i≠x→x∉l.take (i+1)):=by
 have hg:=gn_get hi;refine⟨fun e=> ?_,fun e hm=> ?_⟩
 ·have hm:x∈l:=by rw[←e];exact mG_ hg
  unfold ixS;rw[if_pos hm];have h1:l=l.take i++gn l i::l.drop (i+1):=by
   conv=>lhs;rw[←List.take_append_drop i l]
   rw[List.drop_eq_getElem_cons hi]
   congr 2
   rw[List.getElem?_eq_getElem hi]at hg;injection hg
  conv=>lhs;rw[h1]
  rw[List.idxOf_append,if_neg h,e,List.idxOf_cons_self];simp;omega
 ·rw[take_snoc hg]at hm;rcases List.mem_append.1 hm with h1|h1
  ·exact h h1
  ·exact e (List.mem_singleton.1 h1).symm
theorem ly_index {l:List Nat}{x:Nat}(hl:l.length≤1000000):LV Tryz.prog 65 [.a (.d (.sl 1 (tI l))),vl (.int .i64 (x:Nat))] (vl (.int .i64 (bI (ixS l x)))):=by
 refine LX_run (m:=0) (n0:=0) mix Tryz.func65 rfl rfl rfl rfl ?_;conv=>whnf
 refine .mk Nat (fun i=>⟨[(8,vl (.int .i64 (i:Nat))),(7,vl (.int .i64 ((tI l).length:Nat))),(1,vl (.int .i64 (x:Nat))),(0,.a (.d (.sl 1 (tI l))))],[],0⟩) (fun i=>i≤l.length∧x∉l.take i) (fun i=>l.length-i) 0
  Wk.go ⟨zL_ _,by simp⟩ fun i hi=> ?_
 obtain⟨hi,hx⟩:=hi;conv=>whnf
 refine bs (fun h1=> ?_) (fun h1=> ?_)
 ·conv=>whnf
  have h1':i<l.length:=by have:=of_decide_eq_true h1;rw[tI_len]at this;omega
  obtain⟨t1,t2⟩:=ix_take hx h1';refine .mk (i) ([.lit (.int .i64 (gn l i:Nat))]) (rfl) (tI_at h1') ?_;conv=>whnf
  refine bs (fun h2=> ?_) (fun h2=> ?_)
  ·conv=>whnf
   have h2':gn l i=x:=by have:=eq_of_beq h2;omega
   rw[t1 h2'];exact .q ⟨rfl,rfl⟩
  ·conv=>whnf
   have h2':gn l i≠x:=fun e=>by rw[e]at h2;simp at h2
   exact⟨i+1,Wk.go,⟨h1',t2 h2'⟩,by omega⟩
 ·conv=>whnf
  have h1':i=l.length:=by have:=of_decide_eq_false h1;rw[tI_len]at this;omega
  have hx':x∉l:=by rw[h1',List.take_length]at hx;exact hx
  have e:ixS l x=none:=if_neg hx';rw[e];exact .q ⟨rfl,rfl⟩
theorem ly_enter {T:Tb}{l:List Rat}(h:TOk T)(hl:l.length=T.N.length+1)(hq:∀j,j≤T.N.length→Bt 1000000 (gq l j)):
  LV Tryz.prog 75 [.a (.elt (tD T) 0),.a (.d (.sl 3 (tQ l)))] (vl (.int .i64 (bI (enB T l T.N.length)))):=by
 have hnl:=h.nl;refine LX_run (m:=0) (n0:=0) mix Tryz.func75 rfl rfl rfl rfl ?_;conv=>whnf
 refine .mk Nat (fun i=>⟨[(13,vl (.int .i64 (i:Nat))),(12,vl (.int .i64 ((tI T.N).length:Nat))),(11,.a (.d (.sl 1 (tI T.N)))),(5,vl (.int .i64 (bI (enB T l i)))),(1,.a (.d (.sl 3 (tQ l)))),(0,.a (.elt (tD T) 0))],[],0⟩) (fun i=>i≤T.N.length) (fun i=>T.N.length-i) 0
  Wk.go (zL_ _) fun i hi=> ?_
 conv=>whnf
 refine bs (fun h1=> ?_) (fun h1=> ?_)
 ·conv=>whnf
  have h1':i<T.N.length:=by have:=of_decide_eq_true h1;rw[tI_len]at this;omega
  have hs:=(hq i (by omega)).sz (by omega);refine .mk (i) ([.lit (.int .i64 (gn T.N i:Nat))]) (rfl) (tI_at h1') ?_;conv=>whnf
  refine .c (ly_free) ?_;conv=>whnf
  refine bs (fun h2=> ?_) (fun h2=> ?_)
  ·conv=>whnf
   have h2':gn T.N i<T.n:=by have:=of_decide_eq_true h2;omega
   have e:enB T l (i+1)=enB T l i:=by rw[enB,if_neg fun k=>k.1 h2']
   exact⟨i+1,by simp only[e];exact Wk.go,h1',by omega⟩
  ·conv=>whnf
   have h2':¬gn T.N i<T.n:=fun k=>by have:=of_decide_eq_false h2;omega
   refine .mk (i) (ratD (gq l i)) (rfl) (tQ_at (by omega)) ?_;conv=>whnf
   refine .c (lx_rsign (.c hs)) ?_;conv=>whnf
   rw[sg_lt];refine bs (fun h3=> ?_) (fun h3=> ?_)
   ·conv=>whnf
    have h3':=of_decide_eq_true h3
    cases hb:enB T l i with
    |none=>
     have e:enB T l (i+1)=some i:=by rw[enB,if_pos ⟨h2',h3',fun b k=>by rw[hb]at k;cases k⟩]
     conv=>whnf
     exact⟨i+1,by simp only[e];exact Wk.go,h1',by omega⟩
    |some b=>
     have hbl:=(enB_some hb).1;conv=>whnf
     refine .mk (b) ([.lit (.int .i64 (gn T.N b:Nat))]) (rfl) (tI_at (by omega)) ?_;conv=>whnf
     refine bs (fun h4=> ?_) (fun h4=> ?_)
     ·conv=>whnf
      have h4':gn T.N i<gn T.N b:=by have:=of_decide_eq_true h4;omega
      have e:enB T l (i+1)=some i:=by rw[enB,if_pos ⟨h2',h3',fun b' k=>by rw[hb]at k;injection k with k;subst k;exact h4'⟩]
      exact⟨i+1,by simp only[e];exact Wk.go,h1',by omega⟩
     ·conv=>whnf
      have h4':¬gn T.N i<gn T.N b:=fun k=>by have:=of_decide_eq_false h4;omega
      have e:enB T l (i+1)=some b:=by rw[enB,if_neg fun k=>h4' (k.2.2 b hb),hb]
      exact⟨i+1,by simp only[e];exact Wk.go,h1',by omega⟩
   ·conv=>whnf
    have h3':=of_decide_eq_false h3;have e:enB T l (i+1)=enB T l i:=by rw[enB,if_neg fun k=>h3' k.2.1]
    exact⟨i+1,by simp only[e];exact Wk.go,h1',by omega⟩
 ·conv=>whnf
  have h1':i=T.N.length:=by have:=of_decide_eq_false h1;rw[tI_len]at this;omega
  rw[h1'];exact .q ⟨rfl,rfl⟩
theorem rat0_A:All2 WkA [.d (.lit (.bool false)),.d (.nat 0),.d (.nat 0)] (can 0).A:=by
 have h1:decide ((0:Rat)<0)=false:=by decide
 show All2 WkA _ [.d (.lit (.bool (decide ((0:Rat)<0)))),.d (.lm (limbs (0:Rat).num.natAbs)),.d (.lm (limbs (dn 0)))];rw[h1];exact⟨aR_ _,aR_ _,aR_ _,trivial⟩
theorem ratD_0:ratD 0=[.lit (.bool false),.nat 0,.nat 0]:=by
 have h1:decide ((0:Rat)<0)=false:=by decide
 show [D.lit (.bool (decide ((0:Rat)<0))),.lm (limbs (0:Rat).num.natAbs),.lm (limbs (dn 0))]=_;rw[h1];rfl
theorem tQ_set {l:List Rat}{i:Nat}{q:Rat}:(tQ l).set i (ratD q)=tQ (l.set i q):=by rw[tQ,tQ,List.map_set]
theorem cmp_eq {a b:Rat}:(cmpQ a b==0)=decide (a=b):=by
 have h1:=cmpQ_le (a:=a) (b:=b);have h2:=cmpQ_ge (a:=a) (b:=b);rw[Bool.eq_iff_iff,beq_iff_eq,decide_eq_true_eq];constructor
 ·intro h;exact Rat.le_antisymm (h1.1 (by omega)) (h2.1 (by omega))
 ·intro h;subst h;have:=h1.2 Rat.le_refl;have:=h2.2 Rat.le_refl;omega
theorem tq0e (n:Nat):List.replicate n [.lit (.bool false),.nat 0,.nat 0]=tQ (List.replicate n 0):=by
 rw[tQ,List.map_replicate,←ratD_0]
def lsQ (T:Tb)(e:Nat):Option Nat→Rat
 |none=>0
 |some b=>T.ra b e
theorem ra_bt {T:Tb}{e r:Nat}(h:TOk T)(he:e<T.N.length)(hr:r<T.B.length)(hn:gq (T.r r) e≠0):Bt 2000000 (T.ra r e):=by
 have h1:=h.fq r hr T.N.length (lR_ _);have h2:=(h.fq r hr e (by omega)).neg;exact(h1.div h2 (by grind)).mono (by omega)
theorem ly_leave {T:Tb}{e:Nat}(h:TOk T)(he:e<T.N.length):
  LV Tryz.prog 76 [.a (.elt (tD T) 0),vl (.int .i64 (e:Nat))] (vl (.int .i64 (bI (leB T e T.B.length)))):=by
 have hbl:=h.bl;refine LX_run (m:=0) (n0:=0) mix Tryz.func76 rfl rfl rfl rfl ?_;conv=>whnf
 refine .mk Nat (fun i=>⟨[(17,vl (.int .i64 (i:Nat))),(16,vl (.int .i64 ((tI T.B).length:Nat))),(15,.a (.d (.sl 1 (tI T.B)))),(6,.a (.ptr 0 0)),(5,vl (.int .i64 (bI (leB T e i)))),(1,vl (.int .i64 (e:Nat))),(0,.a (.elt (tD T) 0))],[(0,.box 30 (can (lsQ T e (leB T e i))).A)],1⟩) (fun i=>i≤T.B.length) (fun i=>T.B.length-i) 0
  (Wk.go (h2:=⟨⟨_,rfl,⟨_,rfl,rat0_A⟩,rfl⟩,trivial⟩)) (zL_ _) fun i hi=> ?_
 conv=>whnf
 refine bs (fun h1=> ?_) (fun h1=> ?_)
 ·conv=>whnf
  have h1':i<T.B.length:=by have:=of_decide_eq_true h1;rw[tI_len]at this;omega
  have hs:=(h.fq i h1' e (by omega)).sz (by omega);have hs2:=(h.fq i h1' T.N.length (by omega)).sz (by omega);refine .mk (i) ([.lit (.int .i64 (gn T.B i:Nat))]) (rfl) (tI_at h1') ?_;conv=>whnf
  refine .c (ly_free) ?_;conv=>whnf
  refine bs (fun h2=> ?_) (fun h2=> ?_)
  ·conv=>whnf
   have h2':gn T.B i<T.n:=by have:=of_decide_eq_true h2;omega
   have e1:leB T e (i+1)=leB T e i:=by rw[leB,if_pos (.inl h2')]
   exact⟨i+1,by simp only[e1];exact Wk.go,h1',by omega⟩
  ·conv=>whnf
   have h2':¬gn T.B i<T.n:=fun k=>by have:=of_decide_eq_false h2;omega
   refine .mk (i) ([.sl 3 (tQ (T.r i))]) (rfl) (tF_at (by rw[h.fl];exact h1')) ?_;conv=>whnf
   refine .mk (e) (ratD (gq (T.r i) e)) (rfl) (tQ_at (by rw[h.rl i h1'];omega)) ?_;conv=>whnf
   refine .c (lx_rsign (.c hs)) ?_;conv=>whnf
   rw[sg_ge];refine bs (fun h3=> ?_) (fun h3=> ?_)
   ·conv=>whnf
    have h3':=of_decide_eq_true h3;have e1:leB T e (i+1)=leB T e i:=by rw[leB,if_pos (.inr h3')]
    exact⟨i+1,by simp only[e1];exact Wk.go,h1',by omega⟩
   ·conv=>whnf
    have h3':gq (T.r i) e<0:=Rat.not_le.1 (of_decide_eq_false h3);have hneg: -gq (T.r i) e≠0:=by grind
    have hsn:Sz (-gq (T.r i) e):=hs.neg;have hsr:=(ra_bt h he h1' (by grind)).sz (by omega);refine .c (ly_const h h1') ?_;conv=>whnf
    refine .mk (i) ([.sl 3 (tQ (T.r i))]) (rfl) (tF_at (by rw[h.fl];exact h1')) ?_;conv=>whnf
    refine .mk (e) (ratD (gq (T.r i) e)) (rfl) (tQ_at (by rw[h.rl i h1'];omega)) ?_;conv=>whnf
    refine .c (lx_rneg (.c hs)) ?_;conv=>whnf
    refine .c (lx_rdiv hneg (.c hs2) (.c hsn)) ?_;conv=>whnf
    refine .mk (by kernel_rfl) ?_;conv=>whnf
    cases hb:leB T e i with
    |none=>
     have e1:leB T e (i+1)=some i:=by rw[leB,if_neg fun k=>k.elim h2' (fun k=>Rat.not_le.2 h3' k),if_pos fun b k=>by rw[hb]at k;cases k]
     conv=>whnf
     refine .mk (by kernel_rfl) ?_;conv=>whnf
     exact⟨i+1,by simp only[e1];exact Wk.go,h1',by omega⟩
    |some b=>
     obtain⟨b1,b2,b3,_⟩:=leB_some hb;have hsb:=(ra_bt (r:=b) h he (by omega) (by grind)).sz (by omega);conv=>whnf
     refine .c (lx_rcmp (.c hsb) (.c hsr)) ?_;conv=>whnf
     rw[cmp_gt];refine bs (fun h4=> ?_) (fun h4=> ?_)
     ·conv=>whnf
      have h4':=of_decide_eq_true h4;have e1:leB T e (i+1)=some i:=by rw[leB,if_neg fun k=>k.elim h2' (fun k=>Rat.not_le.2 h3' k),if_pos fun b' k=>by rw[hb]at k;injection k with k;subst k;exact .inl h4']
      refine .mk (by kernel_rfl) ?_;conv=>whnf
      exact⟨i+1,by simp only[e1];exact Wk.go,h1',by omega⟩
     ·conv=>whnf
      have h4':=of_decide_eq_false h4;rw[cmp_eq];refine bs (fun h5=> ?_) (fun h5=> ?_)
      ·conv=>whnf
       have h5':=of_decide_eq_true h5;refine .mk (b) ([.lit (.int .i64 (gn T.B b:Nat))]) (rfl) (tI_at (by omega)) ?_;conv=>whnf
       refine bs (fun h6=> ?_) (fun h6=> ?_)
       ·conv=>whnf
        have h6':gn T.B i<gn T.B b:=by have:=of_decide_eq_true h6;omega
        have e1:leB T e (i+1)=some i:=by rw[leB,if_neg fun k=>k.elim h2' (fun k=>Rat.not_le.2 h3' k),if_pos fun b' k=>by rw[hb]at k;injection k with k;subst k;exact .inr ⟨h5'.symm,h6'⟩]
        refine .mk (by kernel_rfl) ?_;conv=>whnf
        exact⟨i+1,by simp only[e1];exact Wk.go,h1',by omega⟩
       ·conv=>whnf
        have h6':¬gn T.B i<gn T.B b:=fun k=>by have:=of_decide_eq_false h6;omega
        have e1:leB T e (i+1)=leB T e i:=by rw[leB,if_neg fun k=>k.elim h2' (fun k=>Rat.not_le.2 h3' k),if_neg fun k=>(k b hb).elim h4' fun k=>h6' k.2]
        exact⟨i+1,by simp only[e1,hb];exact Wk.go,h1',by omega⟩
      ·conv=>whnf
       have h5':=of_decide_eq_false h5;have e1:leB T e (i+1)=leB T e i:=by rw[leB,if_neg fun k=>k.elim h2' (fun k=>Rat.not_le.2 h3' k),if_neg fun k=>(k b hb).elim h4' fun k=>h5' k.1.symm]
       exact⟨i+1,by simp only[e1,hb];exact Wk.go,h1',by omega⟩
 ·conv=>whnf
  have h1':i=T.B.length:=by have:=of_decide_eq_false h1;rw[tI_len]at this;omega
  rw[h1'];exact .q ⟨rfl,rfl⟩
def duW (T:Tb)(l:List Rat):Nat→List Rat
 |0=>List.replicate T.m 0
 |j+1=>if T.n≤gn T.N j∧gn T.N j-T.n<T.m then(duW T l j).set (gn T.N j-T.n) (gq l j)else duW T l j
theorem duW_len (T:Tb)(l:List Rat):∀j,(duW T l j).length=T.m
 |0=>List.length_replicate
 |j+1=>by rw[duW];split<;>simp[duW_len T l j]
def ptW (T:Tb):Nat→List Rat
 |0=>List.replicate T.n 0
 |r+1=>if gn T.B r<T.n then(ptW T r).set (gn T.B r) (gq (T.r r) T.N.length)else ptW T r
theorem ptW_len (T:Tb):∀j,(ptW T j).length=T.n
 |0=>List.length_replicate
 |j+1=>by rw[ptW];split<;>simp[ptW_len T j]
def ryW (T:Tb)(e:Nat)(c:Rat):Nat→List Rat
 |0=>if gn T.N e<T.n then(List.replicate T.n 0).set (gn T.N e) c else List.replicate T.n 0
 |r+1=>if gn T.B r<T.n then(ryW T e c r).set (gn T.B r) (c*gq (T.r r) e)else ryW T e c r
theorem ryW_len (T:Tb)(e:Nat)(c:Rat):∀j,(ryW T e c j).length=T.n
 |0=>by rw[ryW];split<;>simp
 |j+1=>by rw[ryW];split<;>simp[ryW_len T e c j]
abbrev rbH (k:Nat)(l:List Rat):List (Nat×Ent):=[(k,.tab 30 3 (tQ l))]
theorem pl_tQ (l:List Rat):∀row∈tQ l,∀d∈row,plD d:=by
 intro row hr d hd;obtain⟨q,_,rfl⟩:=List.mem_map.1 hr;rcases List.mem_cons.1 hd with e|hd
 ·rw[e];trivial
 rcases List.mem_cons.1 hd with e|hd
 ·rw[e];trivial
 rcases List.mem_cons.1 hd with e|hd
 ·rw[e];trivial
 ·cases hd
theorem ly_dual {T:Tb}{l:List Rat}(h:TOk T)(hl:l.length=T.N.length+1):
  LX Tryz.prog 32 [.a (.elt (tD T) 0),.a (.d (.sl 3 (tQ l)))] [] fun v H=>v= .a (.tab 0 T.m)∧H=rbH 0 (duW T l T.N.length):=by
 have hnl:=h.nl;have hm:=h.m;refine LX_run (m:=0) (n0:=0) mix Tryz.func32 rfl rfl rfl rfl ?_;conv=>whnf
 refine .mk T.m rfl rfl (by omega) ?_;conv=>whnf
 rw[tq0e];refine .mk Nat (fun i=>⟨[(19,vl (.int .i64 (i:Nat))),(18,vl (.int .i64 ((tI T.N).length:Nat))),(17,.a (.d (.sl 1 (tI T.N)))),(5,.a (.tab 0 T.m)),(1,.a (.d (.sl 3 (tQ l)))),(0,.a (.elt (tD T) 0))],rbH 0 (duW T l i),1⟩) (fun i=>i≤T.N.length) (fun i=>T.N.length-i) 0
  Wk.go (zL_ _) fun i hi=> ?_
 conv=>whnf
 refine bs (fun h1=> ?_) (fun h1=> ?_)
 ·conv=>whnf
  have h1':i<T.N.length:=by have:=of_decide_eq_true h1;rw[tI_len]at this;omega
  have hg:=h.gn h1';have hn:=h.n;refine .mk (i) ([.lit (.int .i64 (gn T.N i:Nat))]) (rfl) (tI_at h1') ?_;conv=>whnf
  have hw:IntKind.i64.wrap ((gn T.N i:Nat)-(T.n:Nat):Int)=(gn T.N i:Nat)-(T.n:Nat):=wr64 (by omega) (by omega);rw[hw];refine bs (fun h2=> ?_) (fun h2=> ?_)
  ·conv=>whnf
   have h2':T.n≤gn T.N i:=by have:=of_decide_eq_true h2;omega
   refine bs (fun h3=> ?_) (fun h3=> ?_)
   ·conv=>whnf
    have h3':gn T.N i-T.n<T.m:=by have:=of_decide_eq_true h3;omega
    have e1:duW T l (i+1)=(duW T l i).set (gn T.N i-T.n) (gq l i):=by rw[duW,if_pos ⟨h2',h3'⟩]
    refine .mk (i) (ratD (gq l i)) (rfl) (tQ_at (by omega)) ?_;conv=>whnf
    refine .mk (gn T.N i-T.n) (by omega) h3' ?_;conv=>whnf
    refine .mk (gn T.N i-T.n) 0 (ratD (gq (duW T l i) (gn T.N i-T.n))) (tQ ((duW T l i).set (gn T.N i-T.n) (gq l i))) rfl (tQ_at (by rw[duW_len];exact h3')) (lR_ 3) (by rw[←tQ_set];rfl) ?_;conv=>whnf
    exact⟨i+1,by simp only[e1];exact Wk.go,h1',by omega⟩
   ·conv=>whnf
    have h3':¬gn T.N i-T.n<T.m:=fun k=>by have:=of_decide_eq_false h3;omega
    have e1:duW T l (i+1)=duW T l i:=by rw[duW,if_neg fun k=>h3' k.2]
    exact⟨i+1,by simp only[e1];exact Wk.go,h1',by omega⟩
  ·conv=>whnf
   have h2':¬T.n≤gn T.N i:=fun k=>by have:=of_decide_eq_false h2;omega
   have e1:duW T l (i+1)=duW T l i:=by rw[duW,if_neg fun k=>h2' k.1]
   exact⟨i+1,by simp only[e1];exact Wk.go,h1',by omega⟩
 ·conv=>whnf
  have h1':i=T.N.length:=by have:=of_decide_eq_false h1;rw[tI_len]at this;omega
  rw[h1'];exact⟨_,_,⟨rfl,rfl⟩,vR_ _,rfl,⟨⟨_,rfl,wke_refl _,rfl⟩,trivial⟩,rfl⟩
theorem ly_point {T:Tb}(h:TOk T):
  LX Tryz.prog 27 [.a (.elt (tD T) 0)] [] fun v H=>v= .a (.tab 0 T.n)∧H=rbH 0 (ptW T T.B.length):=by
 have hbl:=h.bl;have hn:=h.n;refine LX_run (m:=0) (n0:=0) mix Tryz.func27 rfl rfl rfl rfl ?_;conv=>whnf
 refine .mk T.n rfl rfl (by omega) ?_;conv=>whnf
 rw[tq0e];refine .mk Nat (fun i=>⟨[(16,vl (.int .i64 (i:Nat))),(15,vl (.int .i64 ((tI T.B).length:Nat))),(14,.a (.d (.sl 1 (tI T.B)))),(3,.a (.tab 0 T.n)),(0,.a (.elt (tD T) 0))],rbH 0 (ptW T i),1⟩) (fun i=>i≤T.B.length) (fun i=>T.B.length-i) 0
  Wk.go (zL_ _) fun i hi=> ?_
 conv=>whnf
 refine bs (fun h1=> ?_) (fun h1=> ?_)
 ·conv=>whnf
  have h1':i<T.B.length:=by have:=of_decide_eq_true h1;rw[tI_len]at this;omega
  refine .mk (i) ([.lit (.int .i64 (gn T.B i:Nat))]) (rfl) (tI_at h1') ?_;conv=>whnf
  refine .c (ly_free) ?_;conv=>whnf
  refine bs (fun h2=> ?_) (fun h2=> ?_)
  ·conv=>whnf
   have h2':gn T.B i<T.n:=by have:=of_decide_eq_true h2;omega
   have e1:ptW T (i+1)=(ptW T i).set (gn T.B i) (gq (T.r i) T.N.length):=by rw[ptW,if_pos h2']
   refine .c (ly_const h h1') ?_;conv=>whnf
   refine .mk (gn T.B i) rfl h2' ?_;conv=>whnf
   refine .mk (gn T.B i) 0 (ratD (gq (ptW T i) (gn T.B i))) (tQ ((ptW T i).set (gn T.B i) (gq (T.r i) T.N.length))) rfl (tQ_at (by rw[ptW_len];exact h2')) (lR_ 3) (by rw[←tQ_set];rfl) ?_;conv=>whnf
   exact⟨i+1,by simp only[e1];exact Wk.go,h1',by omega⟩
  ·conv=>whnf
   have h2':¬gn T.B i<T.n:=fun k=>by have:=of_decide_eq_false h2;omega
   have e1:ptW T (i+1)=ptW T i:=by rw[ptW,if_neg h2']
   exact⟨i+1,by simp only[e1];exact Wk.go,h1',by omega⟩
 ·conv=>whnf
  have h1':i=T.B.length:=by have:=of_decide_eq_false h1;rw[tI_len]at this;omega
  rw[h1'];exact⟨_,_,⟨rfl,rfl⟩,vR_ _,rfl,⟨⟨_,rfl,wke_refl _,rfl⟩,trivial⟩,rfl⟩
theorem ly_ray {T:Tb}{e:Nat}{c:Rat}(h:TOk T)(he:e<T.N.length)(hc:Bt 1000000 c):
  LX Tryz.prog 28 [.a (.elt (tD T) 0),vl (.int .i64 (e:Nat)),ratV c] [] fun v H=>v= .a (.tab 1 T.n)∧H=rbH 1 (ryW T e c T.B.length):=by
 have hbl:=h.bl;have hn:=h.n;refine LX_run (m:=0) (n0:=0) mix Tryz.func28 rfl rfl rfl rfl ?_;conv=>whnf
 refine .mk T.n rfl rfl (by omega) ?_;conv=>whnf
 rw[tq0e];refine .mk (e) ([.lit (.int .i64 (gn T.N e:Nat))]) (rfl) (tI_at he) ?_;conv=>whnf
 refine .c (ly_free) ?_;conv=>whnf
 refine bs (fun h0=> ?_) (fun h0=> ?_);conv=>whnf
 have h0':gn T.N e<T.n:=by have:=of_decide_eq_true h0;omega
 have e0:(List.replicate T.n (0:Rat)).set (gn T.N e) c=ryW T e c 0:=by rw[ryW,if_pos h0']
 refine .mk (gn T.N e) rfl h0' ?_;conv=>whnf
 refine .mk (gn T.N e) 0 (ratD (gq (List.replicate T.n (0:Rat)) (gn T.N e))) (tQ (ryW T e c 0)) rfl (tQ_at (by simpa using h0')) (lR_ 3) (by rw[←e0,←tQ_set];rfl) ?_;conv=>whnf
 rotate_left
 conv=>whnf
 have h0':¬gn T.N e<T.n:=fun k=>by have:=of_decide_eq_false h0;omega
 have e0:List.replicate T.n (0:Rat)=ryW T e c 0:=by rw[ryW,if_neg h0']
 rw[e0]
 all_goals
  refine .mk Nat (fun i=>⟨[(35,vl (.int .i64 (i:Nat))),(34,vl (.int .i64 ((tI T.B).length:Nat))),(33,.a (.d (.sl 1 (tI T.B)))),(7,.a (.tab 1 T.n)),(5,.a (.ptr 0 0)),(1,vl (.int .i64 (e:Nat))),(0,.a (.elt (tD T) 0))],(0,.box 30 (can c).A)::rbH 1 (ryW T e c i),2⟩) (fun i=>i≤T.B.length) (fun i=>T.B.length-i) 0
   Wk.go (zL_ _) fun i hi=> ?_
  conv=>whnf
  refine bs (fun h1=> ?_) (fun h1=> ?_)
  ·conv=>whnf
   have h1':i<T.B.length:=by have:=of_decide_eq_true h1;rw[tI_len]at this;omega
   have hs:=(h.fq i h1' e (by omega)).sz (by omega);refine .mk (i) ([.lit (.int .i64 (gn T.B i:Nat))]) (rfl) (tI_at h1') ?_;conv=>whnf
   refine .c (ly_free) ?_;conv=>whnf
   refine bs (fun h2=> ?_) (fun h2=> ?_)
   ·conv=>whnf
    have h2':gn T.B i<T.n:=by have:=of_decide_eq_true h2;omega
    have e1:ryW T e c (i+1)=(ryW T e c i).set (gn T.B i) (c*gq (T.r i) e):=by rw[ryW,if_pos h2']
    refine .mk (i) ([.sl 3 (tQ (T.r i))]) (rfl) (tF_at (by rw[h.fl];exact h1')) ?_;conv=>whnf
    refine .mk (e) (ratD (gq (T.r i) e)) (rfl) (tQ_at (by rw[h.rl i h1'];omega)) ?_;conv=>whnf
    refine .c (lx_rmul (.c (hc.sz (by omega))) (.c hs)) ?_;conv=>whnf
    refine .mk (gn T.B i) rfl h2' ?_;conv=>whnf
    refine .mk (gn T.B i) 0 (ratD (gq (ryW T e c i) (gn T.B i))) (tQ ((ryW T e c i).set (gn T.B i) (c*gq (T.r i) e))) rfl (tQ_at (by rw[ryW_len];exact h2')) (lR_ 3) (by rw[←tQ_set];rfl) ?_;conv=>whnf
    refine .mk (by kernel_rfl) ?_;conv=>whnf
    exact⟨i+1,by simp only[e1];exact Wk.go,h1',by omega⟩
   ·conv=>whnf
    have h2':¬gn T.B i<T.n:=fun k=>by have:=of_decide_eq_false h2;omega
    have e1:ryW T e c (i+1)=ryW T e c i:=by rw[ryW,if_neg h2']
    exact⟨i+1,by simp only[e1];exact Wk.go,h1',by omega⟩
  ·conv=>whnf
   have h1':i=T.B.length:=by have:=of_decide_eq_false h1;rw[tI_len]at this;omega
   rw[h1'];exact⟨_,_,⟨rfl,rfl⟩,vR_ _,rfl,⟨⟨_,rfl,wke_refl _,rfl⟩,trivial⟩,rfl⟩
def lnW (n:Nat)(f:Af)(j:Nat):List Rat:=(List.range n).map (fun x=>cof (f.ts.take j) (x:Nat))++[0]
theorem lnW_len (n:Nat)(f:Af)(j:Nat):(lnW n f j).length=n+1:=by simp[lnW]
theorem gq_ext {a b:List Rat}(hl:a.length=b.length)(h:∀i,i<a.length→gq a i=gq b i):a=b:=by
 refine List.ext_getElem hl fun i h1 h2=> ?_;have:=h i h1;unfold gq at this
 rwa [List.getD_eq_getElem?_getD,List.getD_eq_getElem?_getD,List.getElem?_eq_getElem h1,List.getElem?_eq_getElem h2]at this
theorem gq_set {l:List Rat}{i j:Nat}{q:Rat}(h:i<l.length):gq (l.set i q) j=if j=i then q else gq l j:=by
 unfold gq;rw[List.getD_eq_getElem?_getD,List.getElem?_set,List.getD_eq_getElem?_getD]
 by_cases e:i=j
 ·subst e;rw[if_pos rfl,if_pos h,if_pos rfl];rfl
 ·rw[if_neg e,if_neg (Ne.symm e)]
theorem gq_rep {n i:Nat}:gq (List.replicate n 0) i=0:=by
 unfold gq;rw[List.getD_eq_getElem?_getD,List.getElem?_replicate];split<;>rfl
theorem lnW_at {n:Nat}{f:Af}{j i:Nat}(h:i<n+1):gq (lnW n f j) i=if i<n then cof (f.ts.take j) (i:Nat)else 0:=by
 unfold lnW gq;rw[List.getD_eq_getElem?_getD,List.getElem?_append]
 by_cases h3:i<n
 ·rw[if_pos (by simpa using h3),if_pos h3,List.getElem?_map,List.getElem?_range h3];rfl
 ·rw[if_neg (by simpa using h3),if_neg h3];simp[show i=n by omega]
theorem lnW_zero (n:Nat)(f:Af):lnW n f 0=List.replicate (n+1) 0:=by
 refine gq_ext (by simp[lnW]) fun i hi=> ?_;rw[lnW_len]at hi;rw[lnW_at hi,gq_rep];split
 ·rfl
 ·rfl
theorem lnW_succ {n:Nat}{f:Af}{j:Nat}{t:Tm}(h:TsOk n 0 f.ts)(ht:f.ts[j]? =some t):lnW n f (j+1)=(lnW n f j).set t.v.toNat t.q:=by
 obtain⟨c1,c2,c3,c4⟩:=h.cof_mem t (mG_ ht);refine gq_ext (by simp[lnW]) fun i hi=> ?_;rw[lnW_len]at hi;rw[gq_set (by rw[lnW_len];omega),lnW_at hi,lnW_at hi]
 by_cases h3:i<n
 ·rw[if_pos h3,if_pos h3,cof_take h ht]
  by_cases h4:i=t.v.toNat
  ·rw[if_pos h4,if_pos (by omega)]
  ·rw[if_neg h4,if_neg (by omega)]
 ·rw[if_neg h3,if_neg h3,if_neg (by omega)]
theorem lnW_end {n:Nat}{f:Af}:(lnW n f f.ts.length).set n f.c=lnS n f:=by
 unfold lnW lnS;rw[List.take_length,List.set_append_right _ _ (by simp)];simp
def sbW (l:List Rat)(e:Nat)(f:List Rat)(j:Nat):List Rat:=(List.range l.length).map fun i=>(if i=e then 0 else gq l i)+(if i<j then gq l e*gq f i else 0)
theorem sbW_len (l:List Rat)(e:Nat)(f:List Rat)(j:Nat):(sbW l e f j).length=l.length:=by simp[sbW]
theorem sbW_at {l:List Rat}{e:Nat}{f:List Rat}{j i:Nat}(h:i<l.length):gq (sbW l e f j) i=(if i=e then 0 else gq l i)+(if i<j then gq l e*gq f i else 0):=by
 unfold sbW gq;rw[List.getD_eq_getElem?_getD,List.getElem?_map,List.getElem?_range h];rfl
theorem sbW_zero (l:List Rat)(e:Nat)(f:List Rat)(he:e<l.length):sbW l e f 0=l.set e 0:=by
 refine gq_ext (by simp[sbW]) fun i hi=> ?_;rw[sbW_len]at hi;rw[sbW_at hi,gq_set he,if_neg (Nat.not_lt_zero i),Rat.add_zero]
theorem sbW_succ {l:List Rat}{e:Nat}{f:List Rat}{j:Nat}(hj:j<l.length):sbW l e f (j+1)=(sbW l e f j).set j (gq (sbW l e f j) j+gq l e*gq f j):=by
 refine gq_ext (by simp[sbW]) fun i hi=> ?_;rw[sbW_len]at hi;rw[gq_set (by rw[sbW_len];exact hj),sbW_at hi,sbW_at hj,sbW_at hi]
 by_cases h1:i=j
 ·subst h1;rw[if_pos (Nat.lt_succ_self i),if_pos rfl,if_neg (Nat.lt_irrefl i),Rat.add_zero]
 ·rw[if_neg h1]
  by_cases h2:i<j
  ·rw[if_pos h2,if_pos (show i<j+1 by omega)]
  ·rw[if_neg h2,if_neg (show ¬i<j+1 by omega)]
theorem sbW_same {l:List Rat}{e:Nat}{f:List Rat}{j:Nat}(hj:j<l.length)(h0:gq f j=0):sbW l e f (j+1)=sbW l e f j:=by
 refine gq_ext (by simp[sbW]) fun i hi=> ?_;rw[sbW_len]at hi;rw[sbW_at hi,sbW_at hi]
 by_cases h1:i=j
 ·subst h1;rw[if_pos (Nat.lt_succ_self i),if_neg (Nat.lt_irrefl i),h0,Rat.mul_zero]
 ·by_cases h2:i<j
  ·rw[if_pos h2,if_pos (show i<j+1 by omega)]
  ·rw[if_neg h2,if_neg (show ¬i<j+1 by omega)]
theorem sbW_end {l:List Rat}{e:Nat}{f:List Rat}:sbW l e f l.length=sbL l e f:=by
 refine gq_ext (by simp[sbW,sbL]) fun i hi=> ?_;rw[sbW_len]at hi;rw[sbW_at hi,sbL_at hi,if_pos hi]
theorem sbL_none {l:List Rat}{e:Nat}{f:List Rat}(h:gq l e=0):sbL l e f=l:=by
 refine gq_ext (sbL_len _ _ _) fun i hi=> ?_;rw[sbL_len]at hi;rw[sbL_at hi,h,Rat.zero_mul,Rat.add_zero]
 by_cases h1:i=e
 ·rw[if_pos h1,h1,h]
 ·rw[if_neg h1]
theorem sg_ne0 {q:Rat}:(q.num.sign !=0)=decide (q≠0):=by
 have:= @sg_eq q
 by_cases h:q=0
 ·rw[bne,this,decide_eq_true h];simp[h]
 ·rw[bne,this,decide_eq_false h];simp[h]
def Rw' (rows:List (List D))(l:List Rat):Prop:=rows.take l.length=tQ l∧l.length≤rows.length
theorem Rw'.at {rows:List (List D)}{l:List Rat}(h:Rw' rows l){i:Nat}(hi:i<l.length):rows[i]? =some (ratD (gq l i)):=by
 have:=tQ_at hi;rw[←h.1,List.getElem?_take,if_pos hi]at this;exact this
theorem Rw'.set {rows:List (List D)}{l:List Rat}(h:Rw' rows l){i:Nat}(hi:i<l.length)(q:Rat):Rw' (rows.set i (ratD q)) (l.set i q):=by
 refine⟨?_,by simpa using h.2⟩;rw[List.length_set,←tQ_set,←h.1,List.take_set]
abbrev ttH (k:Nat)(o:List (Sum (Nat×Nat×Bool) D))(ar:List (List (List D))):Nat×Ent:=(k,.tt 36 30 3 o ar)
theorem ly_sub {o:List (Sum (Nat×Nat×Bool) D)}{ar:List (List (List D))}{a a' m e:Nat}{f f':Bool}{rows rows':List (List D)}{l F:List Rat}(ha:ar[a]? =some rows)(ha':ar[a']? =some rows')(hne:a≠a')
  (hl:Rw' rows l) (hF:Rw' rows' F) (lm:l.length=m) (Fm:F.length=m) (he:e<m) (hm:m≤100000) (bl:∀j,j<m→Bt 1000000 (gq l j)) (bF:∀j,j<m→Bt 2000000 (gq F j)):
  LX Tryz.prog 110 [.a (.row 0 a m f),vl (.int .i64 (e:Nat)),.a (.row 0 a' m f')] [ttH 0 o ar] fun v H=>v= .tup []∧∃rows2,Rw' rows2 (sbL l e F)∧rows2.length=rows.length∧H=[ttH 0 o (ar.set a rows2)]:=by
 subst lm;have hal:=(List.getElem?_eq_some_iff.1 ha).1;have hs:=(bl e he).sz (k:=1000000) (by omega);refine LX_run (m:=1) (n0:=1) mix Tryz.func110 rfl rfl rfl rfl ?_;conv=>whnf
 refine .mk e rfl he ?_;conv=>whnf
 refine .mk rows e 0 (ratD (gq l e)) ha rfl (hl.at he) ?_;conv=>whnf
 refine .c (lx_rsign (.c hs)) ?_;conv=>whnf
 rw[sg_eq];refine bs (fun h0=> ?_) (fun h0=> ?_)
 ·conv=>whnf
  have h0':=of_decide_eq_true h0;have es:ar.set a rows=ar:=by rw[←(List.getElem?_eq_some_iff.1 ha).2];exact List.set_getElem_self _
  exact .mk _ [ttH 0 o ar] ⟨rfl,rows,by rw[sbL_none h0'];exact hl,rfl,by rw[es]⟩ (vR_ _) rfl ⟨⟨_,rfl,wke_refl _,rfl⟩,trivial⟩ rfl
 ·conv=>whnf
  refine .mk e rfl he ?_;conv=>whnf
  refine .mk rows e 0 (ratD (gq l e)) (ar.set a (rows.set e (ratD 0))) ha rfl (hl.at he) (lR_ 3) (by rw[ratD_0];rfl) ?_;conv=>whnf
  refine .mk (Nat×List (List D)) (fun(i,R)=>⟨[(22,vl (.int .i64 (i:Nat))),(21,vl (.int .i64 (l.length:Nat))),(20,.a (.row 0 a' l.length f')),(6,.a (.ptr 1 0)),(2,.a (.row 0 a' l.length f')),(1,vl (.int .i64 (e:Nat))),(0,.a (.row 0 a l.length f))],
   [ttH 0 o (ar.set a R),(1,.box 30 (can (gq l e)).A)],2⟩) (fun b=>b.1≤l.length∧Rw' b.2 (sbW l e F b.1)∧b.2.length=rows.length) (fun b=>l.length-b.1) (0,rows.set e (ratD 0))
   Wk.go ⟨zL_ _,by rw[sbW_zero _ _ _ he];exact hl.set he 0,by simp⟩ fun⟨i,R⟩ hi=> ?_
  obtain⟨hi,hR,hRl⟩:=hi;simp only at hi hR hRl;have ga:(ar.set a R)[a]? =some R:=by rw[List.getElem?_set,if_pos rfl,if_pos hal]
  have gb:(ar.set a R)[a']? =some rows':=by rw[List.getElem?_set,if_neg hne];exact ha'
  conv=>whnf
  refine bs (fun h1=> ?_) (fun h1=> ?_)
  ·conv=>whnf
   have h1':i<l.length:=by have:=of_decide_eq_true h1;omega
   have hsF:=(bF i h1').sz (by omega);refine .mk i rfl h1' ?_;conv=>whnf
   refine .mk rows' i 0 (ratD (gq F i)) gb rfl (hF.at (by omega)) ?_;conv=>whnf
   refine .c (lx_rsign (.c hsF)) ?_;conv=>whnf
   rw[sg_ne0];refine bs (fun h2=> ?_) (fun h2=> ?_)
   ·conv=>whnf
    have hq:gq (sbW l e F i) i=if i=e then 0 else gq l i:=by rw[sbW_at h1',if_neg (Nat.lt_irrefl i),Rat.add_zero]
    have hsq:Bt 1000000 (gq (sbW l e F i) i):=by
     rw[hq];split
     ·exact bt0 _
     ·exact bl i h1'
    have hsm:=((bl e he).mul (bF i h1'));refine .mk i rfl h1' ?_;conv=>whnf
    refine .mk R i 0 (ratD (gq (sbW l e F i) i)) ga rfl (hR.at (by rw[sbW_len];exact h1')) ?_;conv=>whnf
    refine .c (lx_rmul (.c hs) (.c hsF)) ?_;conv=>whnf
    refine .c (lx_radd (.c (hsq.sz (by omega))) (.c (hsm.sz (by omega)))) ?_;conv=>whnf
    refine .mk i rfl h1' ?_;conv=>whnf
    refine .mk R i 0 (ratD (gq (sbW l e F i) i)) ((ar.set a R).set a (R.set i (ratD (gq (sbW l e F i) i+gq l e*gq F i)))) ga rfl (hR.at (by rw[sbW_len];exact h1')) (lR_ 3) rfl ?_;conv=>whnf
    refine .mk (by kernel_rfl) ?_;conv=>whnf
    rw[List.set_set];exact⟨(i+1,R.set i (ratD (gq (sbW l e F i) i+gq l e*gq F i))),Wk.go,⟨h1',by rw[sbW_succ h1'];exact hR.set (by rw[sbW_len];exact h1') _,by simpa using hRl⟩,by simp only;omega⟩
   ·conv=>whnf
    have h2':gq F i=0:=by have:=of_decide_eq_false h2;exact Classical.not_not.1 this
    exact⟨(i+1,R),Wk.go,⟨h1',by rw[sbW_same h1' h2'];exact hR,hRl⟩,by simp only;omega⟩
  ·conv=>whnf
   have h1':i=l.length:=by have:=of_decide_eq_false h1;omega
   subst h1';exact .mk _ [ttH 0 o (ar.set a R)] ⟨rfl,R,by rw[←sbW_end];exact hR,hRl,rfl⟩ (vR_ _) rfl ⟨⟨_,rfl,wke_refl _,rfl⟩,trivial⟩ rfl
abbrev tbA (n m b bl nl fl:Nat)(oa:A)(p:Nat):List A:=[.d (.lit (.int .i64 (n:Nat))),.d (.lit (.int .i64 (m:Nat))),.th (b+1) bl,.th (b+2) nl,.th (b+3) fl,oa,.d (.lit (.int .i64 (p:Nat)))]
abbrev inH' (k:Nat)(l:List Nat):Nat×Ent:=(k,.tt 3 3 1 (l.map fun x=> .inr (.lit (.int .i64 (x:Nat)))) [])
theorem ar_at {ar:List (List (List D))}{X:List (List D)}:(ar++[X])[ar.length]? =some X:=by simp
theorem ar_set {ar:List (List (List D))}{X Y:List (List D)}:(ar++[X]).set ar.length Y=ar++[Y]:=by simp
theorem ly_line {n m p bl nl fl k:Nat}{f:Af}{B N:List Nat}{o:List (Sum (Nat×Nat×Bool) D)}{ar:List (List (List D))}(hf:FB k nl f)(hk:k≤1000000)(hn:nl≤1000):
  LX Tryz.prog 60 [.a (.ptr 0 0),.agg f.A] [(0,.box 67 (tbA n m 0 bl nl fl (.d (.lit (.slice none 0 0))) p)),inH' 1 B,inH' 2 N,ttH 3 o ar]
   fun v H=>v= .a (.row 3 ar.length (nl+1) true)∧H=[(0,.box 67 (tbA n m 0 bl nl fl (.d (.lit (.slice none 0 0))) p)),inH' 1 B,inH' 2 N,ttH 3 o (ar++[tQ (lnS nl f)])]:=by
 have hw:IntKind.i64.wrap ((nl:Int)+1)=((nl+1:Nat):Int):=by rw[wr64 (by omega) (by omega)];omega
 have hlen:=hf.ts.len (by omega);refine LX_run (m:=4) (n0:=4) mix Tryz.func60 rfl rfl rfl rfl ?_;conv=>whnf
 refine .mk (nl+1) ar.length (ar++[tQ (lnW nl f 0)]) hw hw (by omega) rfl (by rw[lnW_zero,←tq0e]) ?_;conv=>whnf
 refine .mk Nat (fun i=>⟨[(18,vl (.int .i64 (i:Nat))),(17,vl (.int .i64 ((f.ts.map Tm.D).length:Nat))),(16,.a (.d (.sl 4 (f.ts.map Tm.D)))),(5,.a (.row 3 ar.length (nl+1) true)),(3,.a (.ptr 4 0)),(0,.a (.ptr 0 0))],
  [(0,.box 67 (tbA n m 0 bl nl fl (.d (.lit (.slice none 0 0))) p)),inH' 1 B,inH' 2 N,ttH 3 o (ar++[tQ (lnW nl f i)]),(4,.box 32 f.A)],5⟩) (fun i=>i≤f.ts.length) (fun i=>f.ts.length-i) 0
  Wk.go (zL_ _) fun i hi=> ?_
 conv=>whnf
 refine bs (fun h1=> ?_) (fun h1=> ?_)
 ·conv=>whnf
  have h1':i<f.ts.length:=by have:=of_decide_eq_true h1;rw[List.length_map]at this;omega
  obtain⟨t,ht⟩:=at_some h1';obtain⟨t1,t2,t3,t4⟩:=hf.tm t (mG_ ht);refine .mk (i) (Tm.D t) (rfl) (at_map ht) ?_;conv=>whnf
  refine .mk t.v.toNat (by omega) (by omega) ?_;conv=>whnf
  refine .mk (tQ (lnW nl f i)) t.v.toNat 0 (ratD (gq (lnW nl f i) t.v.toNat)) (ar++[tQ (lnW nl f (i+1))]) ar_at rfl (tQ_at (by rw[lnW_len];omega)) (lR_ 3) (by rw[ar_set,lnW_succ hf.ts ht,←tQ_set];rfl) ?_;conv=>whnf
  exact⟨i+1,Wk.go,h1',by omega⟩
 ·conv=>whnf
  have h1':i=f.ts.length:=by have:=of_decide_eq_false h1;rw[List.length_map]at this;omega
  subst h1';have hw2:IntKind.i64.wrap (((nl+1:Nat):Int)-1)=((nl:Nat):Int):=by rw[wr64 (by omega) (by omega)];omega
  refine .mk nl hw2 (by omega) ?_;conv=>whnf
  refine .mk (tQ (lnW nl f f.ts.length)) nl 0 (ratD (gq (lnW nl f f.ts.length) nl)) (ar++[tQ (lnS nl f)]) ar_at rfl (tQ_at (by rw[lnW_len];omega)) (lR_ 3) (by rw[ar_set,←lnW_end,←tQ_set];rfl) ?_;conv=>whnf
  exact⟨_,_,⟨rfl,rfl⟩,vR_ _,rfl,⟨⟨_,rfl,wke_refl _,rfl⟩,⟨_,rfl,wke_refl _,rfl⟩,⟨_,rfl,wke_refl _,rfl⟩,⟨_,rfl,wke_refl _,rfl⟩,trivial⟩,rfl⟩
structure Ar where
 ix:List (Nat×Nat×Bool)
 ob:Nat×Nat×Bool
 ar:List (List (List D))
abbrev oI (ix:List (Nat×Nat×Bool)):List (Sum (Nat×Nat×Bool) D):=ix.map Sum.inl
abbrev tH (b:Nat)(T:Tb)(X:Ar):List (Nat×Ent):=
 [(b,.box 67 (tbA T.n T.m b T.B.length T.N.length T.B.length (.row (b+3) X.ob.1 X.ob.2.1 X.ob.2.2) T.p)),inH' (b+1) T.B,inH' (b+2) T.N,ttH (b+3) (oI X.ix) X.ar]
def At (X:Ar)(q:Nat×Nat×Bool)(l:List Rat):Prop:=q.2.1=l.length∧∃rows,X.ar[q.1]? =some rows∧Rw' rows l
structure MOk (T:Tb)(X:Ar):Prop where
 len:X.ix.length=T.B.length
 rw:∀i,i<T.B.length→∃q,X.ix[i]? =some q∧At X q (T.r i)
 ob:At X X.ob T.O
 nd:(X.ix.map (·.1)++[X.ob.1]).Nodup
abbrev Pg.A (p:Pg):List A:= .d (.lit (.int .i64 (p.n:Nat))):: .d (afsD p.rows)::p.obj.A
def arS (p:Pg)(i:Nat):List (List (List D)):=(p.rows.take i).map fun f=>tQ (lnS p.n f)
def ixS0 (p:Pg)(i:Nat):List (Nat×Nat×Bool):=(List.range i).map fun j=>(j,p.n+1,true)
def X0 (p:Pg):Ar:=⟨ixS0 p p.rows.length,(p.rows.length,p.n+1,true),arS p p.rows.length++[tQ (lnS p.n p.obj)]⟩
theorem arS_len {p:Pg}{i:Nat}(h:i≤p.rows.length):(arS p i).length=i:=by simp[arS];omega
theorem arS_succ {p:Pg}{i:Nat}{f:Af}(h:p.rows[i]? =some f):arS p (i+1)=arS p i++[tQ (lnS p.n f)]:=by
 unfold arS;rw[take_snoc h,List.map_append];rfl
theorem ixS_succ {p:Pg}{i:Nat}:ixS0 p (i+1)=ixS0 p i++[(i,p.n+1,true)]:=by
 unfold ixS0;rw[List.range_succ,List.map_append];rfl
theorem rw_tQ (l:List Rat):Rw' (tQ l) l:=⟨by rw[←tQ_len l,List.take_length],by rw[tQ_len];exact lR_ _⟩
theorem X0_ok (p:Pg):MOk p.T0 (X0 p):=by
 refine⟨by simp[X0,ixS0,T0_Bl],fun i hi=> ?_,⟨by simp[X0,Pg.T0,lnS_len],tQ (lnS p.n p.obj),?_,rw_tQ _⟩,?_⟩
 ·rw[T0_Bl]at hi;refine⟨(i,p.n+1,true),by simp only[X0,ixS0];rw[List.getElem?_map,List.getElem?_range hi];rfl,by rw[T0_r hi,lnS_len],tQ (lnS p.n (p.row i)),?_,by rw[T0_r hi];exact rw_tQ _⟩;show(arS p p.rows.length++[tQ (lnS p.n p.obj)])[i]? =_;rw[List.getElem?_append_left (by rw[arS_len (lR_ _)];exact hi)];unfold arS Pg.row;rw[List.take_length,List.getElem?_map,List.getD_eq_getElem?_getD,List.getElem?_eq_getElem hi];rfl
 ·show(arS p p.rows.length++[tQ (lnS p.n p.obj)])[p.rows.length]? =_;have:=ar_at (ar:=arS p p.rows.length) (X:=tQ (lnS p.n p.obj))
  rwa [arS_len (lR_ _)]at this
 ·have:(X0 p).ix.map (·.1)++[(X0 p).ob.1]=List.range (p.rows.length+1):=by
   simp only[X0,ixS0,List.map_map,List.range_succ]
   congr 1
   exact(List.map_congr_left fun x _=>rfl).trans (List.map_id _)
  rw[this];exact List.nodup_range
theorem ly_setup {p:Pg}{k:Nat}(ok:p.Ok k)(hk:k≤1000000)(hn:p.n≤1000)(hm:p.rows.length≤1000):
  LX Tryz.prog 22 [.agg p.A] [] fun v H=>v= .a (.ptr 1 0)∧H=tH 1 p.T0 (X0 p):=by
 have hlm:(List.map Af.D p.rows).length=p.rows.length:=List.length_map _;refine LX_run (m:=0) (n0:=0) mix Tryz.func22 rfl rfl rfl rfl ?_;conv=>whnf
 rw[hlm]
 refine .mk Nat (fun j=>⟨[(16,vl (.int .i64 (j:Nat))),(15,vl (.int .i64 (p.n:Nat))),(3,.a (.ptr 1 0)),(1,.a (.ptr 0 0))],
  [(0,.box 34 p.A),(1,.box 67 (tbA p.n p.rows.length 1 0 j 0 (.d (.lit (.slice none 0 0))) 0)),inH' 2 [],inH' 3 (List.range j),ttH 4 [] []],5⟩) (fun j=>j≤p.n) (fun j=>p.n-j) 0
  (Wk.trans (Wk.ttB 1 2 2 3 3 1 rfl rfl rfl) (Wk.trans (Wk.ttB 1 3 3 3 3 1 rfl rfl rfl) (Wk.trans (Wk.ttB 1 4 4 36 30 3 rfl rfl rfl) Wk.go))) (zL_ _) fun j hj=> ?_
 conv=>whnf
 refine bs (fun h1=> ?_) (fun h1=> ?_)
 ·conv=>whnf
  have h1':j<p.n:=by have:=of_decide_eq_true h1;omega
  refine .mk ((List.range (j+1)).map fun x=> .inr (.lit (.int .i64 (x:Nat)))) (by simp) (by omega) (by rw[List.range_succ,List.map_append];rfl) ?_;conv=>whnf
  exact⟨j+1,Wk.go,h1',by omega⟩
 ·conv=>whnf
  have h1':j=p.n:=by have:=of_decide_eq_false h1;omega
  subst h1'
  refine .mk Nat (fun i=>⟨[(33,vl (.int .i64 (i:Nat))),(32,vl (.int .i64 (p.rows.length:Nat))),(31,.a (.d (afsD p.rows))),(3,.a (.ptr 1 0)),(1,.a (.ptr 0 0))],
   [(0,.box 34 p.A),(1,.box 67 (tbA p.n p.rows.length 1 i p.n i (.d (.lit (.slice none 0 0))) 0)),inH' 2 ((List.range i).map (p.n+ ·)),inH' 3 (List.range p.n),ttH 4 (oI (ixS0 p i)) (arS p i)],5⟩) (fun i=>i≤p.rows.length) (fun i=>p.rows.length-i) 0
   (Wk.go (h1:=by rw[hlm];(repeat' first|exact trivial|exact vR_ _|refine⟨⟨_,rfl,?_,rfl⟩,?_⟩))) (zL_ _) fun i hi=> ?_
  conv=>whnf
  refine bs (fun h1=> ?_) (fun h1=> ?_)
  ·conv=>whnf
   have h1':i<p.rows.length:=by have:=of_decide_eq_true h1;omega
   obtain⟨f,hf⟩:=at_some h1';have hfb:=ok.rows f (mG_ hf);have hal:=arS_len (p:=p) (i:=i) (by omega);have hwb:IntKind.i64.wrap ((p.n:Int)+(i:Int))=((p.n+i:Nat):Int):=by rw[wr64 (by omega) (by omega)];omega
   refine .mk (i) (Af.D f) (rfl) (at_map hf) ?_;conv=>whnf
   rw[hwb];refine .mk (((List.range (i+1)).map (p.n+ ·)).map fun x=> .inr (.lit (.int .i64 (x:Nat)))) (by simp) (by omega) (by rw[List.range_succ,List.map_append,List.map_append];rfl) ?_;conv=>whnf
   refine .mk (by kernel_rfl) ?_;conv=>whnf
   refine .lE [1,2,3,4] [1,2,3] (ly_line (B:=(List.range (i+1)).map (p.n+ ·)) (N:=List.range p.n) hfb hk hn) ?_;conv=>whnf
   refine .mk (oI (ixS0 p (i+1))) (by simp[ixS0]) (by omega) (by rw[ixS_succ,oI,List.map_append,hal];rfl) ?_;conv=>whnf
   refine .mk (by kernel_rfl) ?_;conv=>whnf
   exact⟨i+1,by simp only[arS_succ hf];exact Wk.go,h1',by omega⟩
  ·conv=>whnf
   have h1':i=p.rows.length:=by have:=of_decide_eq_false h1;omega
   subst h1';have hal:=arS_len (p:=p) (i:=p.rows.length) (by omega);refine .lE [1,2,3,4] [1,2,3] (ly_line (B:=(List.range p.rows.length).map (p.n+ ·)) (N:=List.range p.n) ok.obj hk hn) ?_;conv=>whnf
   rw[hal];exact .mk _ [(1,.box 67 (tbA p.n p.rows.length 1 p.rows.length p.n p.rows.length (.row 4 p.rows.length (p.n+1) true) 0)),inH' 2 ((List.range p.rows.length).map (p.n+ ·)),inH' 3 (List.range p.n),ttH 4 (oI (ixS0 p p.rows.length)) (arS p p.rows.length++[tQ (lnS p.n p.obj)])]
    ⟨rfl,by simp only[tH,X0,Pg.T0,List.length_map,List.length_range]⟩ (vR_ _) rfl ⟨⟨_,rfl,wke_refl _,rfl⟩,⟨_,rfl,wke_refl _,rfl⟩,⟨_,rfl,wke_refl _,rfl⟩,⟨_,rfl,wke_refl _,rfl⟩,trivial⟩ rfl
def pvW (l:List Rat)(e j:Nat):List Rat:=(List.range l.length).map fun i=>if i<j∧i≠e then -gq l i/gq l e else 0
theorem pvW_len (l:List Rat)(e j:Nat):(pvW l e j).length=l.length:=by simp[pvW]
theorem pvW_at {l:List Rat}{e j i:Nat}(h:i<l.length):gq (pvW l e j) i=if i<j∧i≠e then -gq l i/gq l e else 0:=by
 unfold pvW gq;rw[List.getD_eq_getElem?_getD,List.getElem?_map,List.getElem?_range h];rfl
theorem pvW_zero (l:List Rat)(e:Nat):pvW l e 0=List.replicate l.length 0:=by
 refine gq_ext (by simp[pvW]) fun i hi=> ?_;rw[pvW_len]at hi;rw[pvW_at hi,gq_rep,if_neg fun k=>Nat.not_lt_zero i k.1]
theorem pvW_succ {l:List Rat}{e j:Nat}(h:j<l.length)(hj:j≠e):pvW l e (j+1)=(pvW l e j).set j (-gq l j/gq l e):=by
 refine gq_ext (by simp[pvW]) fun i hi=> ?_;rw[pvW_len]at hi;rw[gq_set (by rw[pvW_len];exact h),pvW_at hi,pvW_at hi]
 by_cases h1:i=j
 ·subst h1;rw[if_pos ⟨Nat.lt_succ_self i,hj⟩,if_pos rfl]
 ·rw[if_neg h1]
  by_cases h2:i<j∧i≠e
  ·rw[if_pos h2,if_pos ⟨by omega,h2.2⟩]
  ·rw[if_neg h2,if_neg fun k=>h2 ⟨by omega,k.2⟩]
theorem pvW_same {l:List Rat}{e j:Nat}(h:j=e∨gq l j=0):pvW l e (j+1)=pvW l e j:=by
 refine gq_ext (by simp[pvW]) fun i hi=> ?_;rw[pvW_len]at hi;rw[pvW_at hi,pvW_at hi]
 by_cases h2:i<j∧i≠e
 ·rw[if_pos h2,if_pos ⟨by omega,h2.2⟩]
 ·rw[if_neg h2]
  by_cases h3:i<j+1∧i≠e
  ·have e1:i=j:=by omega
   subst e1;rw[if_pos h3];rcases h with h|h
   ·exact absurd h h3.2
   ·rw[h,Rat.div_def];grind
  ·rw[if_neg h3]
theorem pvW_end {l:List Rat}{e:Nat}(he:e<l.length):(pvW l e l.length).set e (((1:Int):Rat)/gq l e)=pvL l e:=by
 refine gq_ext (by simp[pvW,pvL]) fun i hi=> ?_;rw[List.length_set,pvW_len]at hi;rw[gq_set (by rw[pvW_len];exact he),pvL_at hi,pvW_at hi]
 by_cases h1:i=e
 ·rw[if_pos h1,if_pos h1];rfl
 ·rw[if_neg h1,if_neg h1,if_pos ⟨hi,h1⟩]
theorem in_at {l:List Nat}{i:Nat}(h:i<l.length):(l.map fun x=>(Sum.inr (D.lit (.int .i64 (x:Nat))):Sum (Nat×Nat×Bool) D))[i]? =some (.inr (.lit (.int .i64 (gn l i:Nat)))):=by
 rw[List.getElem?_map,gn_get h];rfl
theorem in_len {l:List Nat}:(l.map fun x=>(Sum.inr (D.lit (.int .i64 (x:Nat))):Sum (Nat×Nat×Bool) D)).length=l.length:=List.length_map _
theorem nodup_set':∀{l:List Nat} {i x:Nat},l.Nodup→x∉l→(l.set i x).Nodup
 |[],_,_,_,_=>by simp
 |a::l,0,x,h,hx=>by
  rw[sZ];exact List.nodup_cons.2 ⟨fun k=>hx (by simp[k]),(List.nodup_cons.1 h).2⟩
 |a::l,i+1,x,h,hx=>by
  rw[sS];obtain⟨h1,h2⟩:=List.nodup_cons.1 h;refine List.nodup_cons.2 ⟨fun k=> ?_,nodup_set' h2 fun k=>hx (by simp[k])⟩;rcases List.mem_or_eq_of_mem_set k with k|k
  ·exact h1 k
  ·exact hx (by simp[k])
structure IOk (T:Tb)(X:Ar)(r e i:Nat)(F:List Rat)(ar:List (List (List D))):Prop where
 l:ar.length=X.ar.length+1
 f:ar[X.ar.length]? =some (tQ F)
 ob:∃rows,ar[X.ob.1]? =some rows∧Rw' rows T.O
 rw:∀j q,X.ix[j]? =some q→∃rows,ar[q.1]? =some rows∧Rw' rows (if j<i∧j≠r then sbL (T.r j) e F else T.r j)
 kp:∀u,u<X.ar.length→u∉X.ix.map (·.1)→u≠X.ob.1→ar[u]? =X.ar[u]?
def Fl (X:Ar):Prop:=(∀q∈X.ix,q.2.2=true)∧X.ob.2.2=true
def Kept (X X':Ar):Prop:=(∀u rows,X.ar[u]? =some rows→u∉X.ix.map (·.1)→u≠X.ob.1→X'.ar[u]? =some rows∧u∉X'.ix.map (·.1)∧u≠X'.ob.1)∧(Fl X→Fl X')
theorem Kept.refl (X:Ar):Kept X X:=⟨fun u rows h1 h2 h3=>⟨h1,h2,h3⟩,id⟩
theorem Kept.trans {X Y Z:Ar}(h:Kept X Y)(k:Kept Y Z):Kept X Z:=⟨fun u rows h1 h2 h3=>let ⟨q1,q2,q3⟩:=h.1 u rows h1 h2 h3;k.1 u rows q1 q2 q3,fun f=>k.2 (h.2 f)⟩
section
variable {T:Tb} {X:Ar}
theorem MOk.il (h:MOk T X):(oI X.ix).length=T.B.length:=by rw[List.length_map,h.len]
theorem oI_at {i:Nat}{q:Nat×Nat×Bool}(h:X.ix[i]? =some q):(oI X.ix)[i]? =some (.inl q):=by rw[List.getElem?_map,h];rfl
theorem MOk.ne (h:MOk T X){i j:Nat}{q q':Nat×Nat×Bool}(hi:X.ix[i]? =some q)(hj:X.ix[j]? =some q')(hne:i≠j):q.1≠q'.1:=fun e=>by
 have hn:=(List.nodup_append.1 h.nd).1;have h1:=(List.getElem?_eq_some_iff.1 hi);have h2:=(List.getElem?_eq_some_iff.1 hj);obtain⟨l1,e1⟩:=h1;obtain⟨l2,e2⟩:=h2;refine hne ((List.getElem_inj (i:=i) (j:=j) (h₀:=by simpa using l1) (h₁:=by simpa using l2) hn).1 ?_);rw[List.getElem_map,List.getElem_map,e1,e2,e]
theorem MOk.neo (h:MOk T X){i:Nat}{q:Nat×Nat×Bool}(hi:X.ix[i]? =some q):q.1≠X.ob.1:=fun e=>
 (List.nodup_append.1 h.nd).2.2 q.1 (List.mem_map.2 ⟨q,mG_ hi,rfl⟩) X.ob.1 (by simp) e
theorem MOk.get (h:MOk T X){i:Nat}{q:Nat×Nat×Bool}(hi:X.ix[i]? =some q):i<T.B.length∧At X q (T.r i):=by
 have hl:=(List.getElem?_eq_some_iff.1 hi).1;rw[h.len]at hl;obtain⟨q',h1,h2⟩:=h.rw i hl;rw[hi]at h1;injection h1 with h1;subst h1;exact⟨hl,h2⟩
theorem At.lt {q:Nat×Nat×Bool}{l:List Rat}(h:At X q l):q.1<X.ar.length:=by
 obtain⟨_,rows,h1,_⟩:=h;exact(List.getElem?_eq_some_iff.1 h1).1
theorem IOk.start (h:MOk T X){r e:Nat}{F:List Rat}:IOk T X r e 0 F (X.ar++[tQ F]):=by
 have key:∀{q:Nat×Nat×Bool} {l:List Rat},At X q l→∃rows,(X.ar++[tQ F])[q.1]? =some rows∧Rw' rows l:=fun hq=>by
  have hlt:=hq.lt;obtain⟨_,rows,h1,h2⟩:=hq;exact⟨rows,by rw[List.getElem?_append_left hlt];exact h1,h2⟩
 refine⟨by simp,ar_at,key h.ob,fun j q hj=> ?_,fun u hu _ _=>List.getElem?_append_left hu⟩;rw[if_neg fun k=>Nat.not_lt_zero j k.1];exact key (h.get hj).2
theorem IOk.skip {r e i:Nat}{F:List Rat}{ar:List (List (List D))}(h:IOk T X r e i F ar)(hi:i=r):IOk T X r e (i+1) F ar:=by
 refine⟨h.l,h.f,h.ob,fun j q hj=> ?_,h.kp⟩;obtain⟨rows,h1,h2⟩:=h.rw j q hj;refine⟨rows,h1,?_⟩
 by_cases h3:j<i∧j≠r
 ·rw[if_pos h3]at h2;rw[if_pos ⟨by omega,h3.2⟩];exact h2
 ·rw[if_neg h3]at h2;rw[if_neg fun k=>h3 ⟨by omega,k.2⟩];exact h2
theorem IOk.step (m:MOk T X){r e i:Nat}{F:List Rat}{ar:List (List (List D))}(h:IOk T X r e i F ar)(hi:i≠r){q:Nat×Nat×Bool}(hq:X.ix[i]? =some q){rows:List (List D)}(hr:Rw' rows (sbL (T.r i) e F)):IOk T X r e (i+1) F (ar.set q.1 rows):=by
 have hlt:=(m.get hq).2.lt;have hl:=h.l
 refine⟨by simpa using hl,by rw[List.getElem?_set,if_neg (by omega)];exact h.f,?_,fun j q' hj=> ?_,fun u h1 h2 h3=>by
  rw[List.getElem?_set,if_neg fun e1=>h2 (List.mem_map.2 ⟨q,mG_ hq,e1⟩)];exact h.kp u h1 h2 h3⟩
 ·obtain⟨ro,h1,h2⟩:=h.ob;exact⟨ro,by rw[List.getElem?_set,if_neg (m.neo hq)];exact h1,h2⟩
 ·by_cases hji:j=i
  ·subst hji;rw[hq]at hj;injection hj with hj;subst hj;exact⟨rows,by rw[List.getElem?_set,if_pos rfl,if_pos (by omega)],by rw[if_pos ⟨Nat.lt_succ_self j,hi⟩];exact hr⟩
  ·obtain⟨ro,h1,h2⟩:=h.rw j q' hj;refine⟨ro,by rw[List.getElem?_set,if_neg (m.ne hq hj (Ne.symm hji))];exact h1,?_⟩
   by_cases h3:j<i∧j≠r
   ·rw[if_pos h3]at h2;rw[if_pos ⟨by omega,h3.2⟩];exact h2
   ·rw[if_neg h3]at h2;rw[if_neg fun k=>h3 ⟨by omega,k.2⟩];exact h2
theorem IOk.kept {r e i:Nat}{F:List Rat}{ar:List (List (List D))}(h:IOk T X r e i F ar)(rows:List (List D)):Kept X ⟨X.ix.set r (X.ar.length,T.N.length+1,true),X.ob,ar.set X.ob.1 rows⟩:=⟨fun u ro h1 h2 h3=>by
 have hu:=(List.getElem?_eq_some_iff.1 h1).1;refine⟨by show(ar.set X.ob.1 rows)[u]? =_;rw[List.getElem?_set,if_neg (Ne.symm h3),h.kp u hu h2 h3];exact h1,fun hm=> ?_,h3⟩;obtain⟨q,hq,e1⟩:=List.mem_map.1 hm;rcases List.mem_or_eq_of_mem_set hq with h4|h4
 ·exact h2 (List.mem_map.2 ⟨q,h4,e1⟩)
 ·subst h4;simp only at e1;omega,fun f=>⟨fun q hq=>(List.mem_or_eq_of_mem_set hq).elim (f.1 q) fun e=>by rw[e],f.2⟩⟩
theorem IOk.fin (m:MOk T X)(k:TOk T){r e:Nat}{ar:List (List (List D))}(hr:r<T.B.length)(he:e<T.N.length){f:Bool}(h:IOk T X r e T.B.length (pvL (T.r r) e) ar){rows:List (List D)}(ho:Rw' rows (sbL T.O e (pvL (T.r r) e))):
  MOk (T.pv r e) ⟨X.ix.set r (X.ar.length,T.N.length+1,f),X.ob,ar.set X.ob.1 rows⟩:=by
 have hol:=m.ob.lt;have hl:=h.l;refine⟨by simp[Tb.pv,m.len],fun i hi=> ?_,⟨?_,rows,by show(ar.set X.ob.1 rows)[X.ob.1]? =_;rw[List.getElem?_set,if_pos rfl,if_pos (by omega)],ho⟩,?_⟩
 ·have hi':i<T.B.length:=by simpa [Tb.pv]using hi
  rw[Tb.pv_r (by rw[k.fl];exact hi')]
  by_cases h1:i=r
  ·subst h1;rw[if_pos rfl];refine⟨(X.ar.length,T.N.length+1,f),by show(X.ix.set i _)[i]? =_;rw[List.getElem?_set,if_pos rfl,if_pos (by rw[m.len];exact hi')],by rw[pvL_len,k.rl i hi'],tQ (pvL (T.r i) e),?_,rw_tQ _⟩;show(ar.set X.ob.1 rows)[X.ar.length]? =_;rw[List.getElem?_set,if_neg (by omega)];exact h.f
  ·rw[if_neg h1];obtain⟨q,hq,h2⟩:=m.rw i hi';obtain⟨ro,h3,h4⟩:=h.rw i q hq;rw[if_pos ⟨hi',h1⟩]at h4;refine⟨q,by show(X.ix.set r _)[i]? =_;rw[List.getElem?_set,if_neg (Ne.symm h1)];exact hq,by rw[sbL_len];exact h2.1,ro,?_,h4⟩;show(ar.set X.ob.1 rows)[q.1]? =_;rw[List.getElem?_set,if_neg (Ne.symm (m.neo hq))];exact h3
 ·show X.ob.2.1=(sbL T.O e _).length;rw[sbL_len];exact m.ob.1
 ·show((X.ix.set r (X.ar.length,T.N.length+1,f)).map (·.1)++[X.ob.1]).Nodup;rw[List.map_set]
  have hnew:X.ar.length∉X.ix.map (·.1)++[X.ob.1]:=fun hm=>by
   rcases List.mem_append.1 hm with h1|h1
   ·obtain⟨q,hq,e1⟩:=List.mem_map.1 h1;obtain⟨j,hj⟩:=List.mem_iff_getElem?.1 hq;have:=(m.get hj).2.lt;omega
   ·rw[List.mem_singleton]at h1;omega
  have hrl:r<(X.ix.map (·.1)).length:=by rw[List.length_map,m.len];exact hr
  have e1:(X.ix.map (·.1)).set r X.ar.length++[X.ob.1]=(X.ix.map (·.1)++[X.ob.1]).set r X.ar.length:=by rw[List.set_append_left _ _ hrl]
  rw[e1];exact nodup_set' m.nd hnew
end
theorem pvL_bt {l:List Rat}{e j k:Nat}(hb:∀j,j<l.length→Bt k (gq l j))(he:e<l.length)(ha:gq l e≠0)(hj:j<l.length):Bt (2*k) (gq (pvL l e) j):=by
 rw[pvL_at hj];split
 ·have:=(Bt.int (k:=0) (z:=1) (by decide)).div (hb e he) ha;exact this.mono (by omega)
 ·exact((hb j hj).neg.div (hb e he) ha).mono (by omega)
theorem ly_pivot {T:Tb}{X:Ar}{r e:Nat}(k:TOk T)(h:MOk T X)(hr:r<T.B.length)(he:e<T.N.length)(ha:gq (T.r r) e≠0):
  LX Tryz.prog 61 [.a (.ptr 0 0),vl (.int .i64 (r:Nat)),vl (.int .i64 (e:Nat))] (tH 0 T X) fun v H=>v= .tup []∧∃X',MOk (T.pv r e) X'∧Kept X X'∧H=tH 0 (T.pv r e) X':=by
 obtain⟨ix,⟨oa,om,fo⟩,A0⟩:=X;have hom:om=T.N.length+1:=h.ob.1.trans k.ol;subst hom;obtain⟨⟨a,m,f⟩,hq,hm,rows,hrows,hR⟩:=h.rw r hr;have hm':m=T.N.length+1:=Eq.trans hm (k.rl r hr);subst hm';have hol:(T.r r).length=T.N.length+1:=k.rl r hr;have hil:=h.il;have hp:=k.p;have hnl:=k.nl;have hbl:=k.bl;have hwp:IntKind.i64.wrap ((T.p:Int)+1)=((T.p+1:Nat):Int):=by rw[wr64 (by omega) (by omega)];omega
 have bO:∀j,j<(T.r r).length→Bt 1000000 (gq (T.r r) j):=fun j hj=>k.fq r hr j (by omega);have halt:a<A0.length:=(h.get hq).2.lt;have hold:∀Y:List (List D),(A0++[Y])[a]? =some rows:=fun Y=>by rw[List.getElem?_append_left halt];exact hrows
 refine LX_run (m:=4) (n0:=4) mix Tryz.func61 rfl rfl rfl rfl ?_;conv=>whnf
 rw[hwp];refine .mk r hil rfl hr ?_;conv=>whnf
 refine .row a (T.N.length+1) f hil (oI_at hq) ?_;conv=>whnf
 refine .mk (T.N.length+1) A0.length (A0++[tQ (pvW (T.r r) e 0)]) rfl rfl (by omega) rfl (by rw[pvW_zero,←tq0e,hol]) ?_;conv=>whnf
 refine .mk Nat (fun j=>⟨[(30,vl (.int .i64 (j:Nat))),(29,vl (.int .i64 ((T.N.length+1:Nat):Int))),(28,.a (.row 3 a (T.N.length+1) f)),(7,.a (.row 3 A0.length (T.N.length+1) true)),(6,.a (.row 3 a (T.N.length+1) f)),(2,vl (.int .i64 (e:Nat))),(1,vl (.int .i64 (r:Nat))),(0,.a (.ptr 0 0))],
  [(0,.box 67 (tbA T.n T.m 0 T.B.length T.N.length T.B.length (.row 3 oa (T.N.length+1) fo) (T.p+1))),inH' 1 T.B,inH' 2 T.N,ttH 3 (oI ix) (A0++[tQ (pvW (T.r r) e j)])],4⟩) (fun j=>j≤T.N.length+1) (fun j=>T.N.length+1-j) 0
  Wk.go (zL_ _) fun j hj=> ?_
 conv=>whnf
 refine bs (fun h1=> ?_) (fun h1=> ?_)
 ·conv=>whnf
  have h1':j<T.N.length+1:=by have:=of_decide_eq_true h1;omega
  have hsj:=(bO j (by omega)).sz (by omega);have hse:=(bO e (by omega)).sz (by omega);refine .mk j rfl h1' ?_;conv=>whnf
  refine .mk rows j 0 (ratD (gq (T.r r) j)) (hold _) rfl (hR.at (by omega)) ?_;conv=>whnf
  refine bs (fun h2=> ?_) (fun h2=> ?_)
  ·conv=>whnf
   have h2':j≠e:=fun e1=>by subst e1;simp at h2
   refine .c (lx_rsign (.c hsj)) ?_;conv=>whnf
   rw[sg_ne0];refine bs (fun h3=> ?_) (fun h3=> ?_)
   ·conv=>whnf
    refine .c (lx_rneg (.c hsj)) ?_;conv=>whnf
    refine .mk e rfl (by omega) ?_;conv=>whnf
    refine .mk rows e 0 (ratD (gq (T.r r) e)) (hold _) rfl (hR.at (by omega)) ?_;conv=>whnf
    refine .c (lx_rdiv ha (.c hsj.neg) (.c hse)) ?_;conv=>whnf
    refine .mk j rfl h1' ?_;conv=>whnf
    refine .mk (tQ (pvW (T.r r) e j)) j 0 (ratD (gq (pvW (T.r r) e j) j)) (A0++[tQ (pvW (T.r r) e (j+1))]) ar_at rfl (tQ_at (by rw[pvW_len];omega)) (lR_ 3) (by rw[ar_set,pvW_succ (by omega) h2',←tQ_set];rfl) ?_;conv=>whnf
    refine .mk (by kernel_rfl) ?_;conv=>whnf
    exact⟨j+1,Wk.go,h1',by omega⟩
   ·conv=>whnf
    have h3':gq (T.r r) j=0:=by have:=of_decide_eq_false h3;exact Classical.not_not.1 this
    exact⟨j+1,by simp only[pvW_same (.inr h3')];exact Wk.go,h1',by omega⟩
  ·conv=>whnf
   have h2':j=e:=by have:(j:Int)=(e:Int):=by simpa using h2
                    omega
   exact⟨j+1,by simp only[pvW_same (.inl h2')];exact Wk.go,h1',by omega⟩
 ·conv=>whnf
  have h1':j=T.N.length+1:=by have:=of_decide_eq_false h1;omega
  subst h1';have hse:=(bO e (by omega)).sz (by omega);refine .c (lx_rof (z:=1) (by decide) (by decide)) ?_;conv=>whnf
  refine .mk e rfl (by omega) ?_;conv=>whnf
  refine .mk rows e 0 (ratD (gq (T.r r) e)) (hold _) rfl (hR.at (by omega)) ?_;conv=>whnf
  refine .c (lx_rdiv ha (.c ((Bt.int (k:=0) (z:=1) (by decide)).sz (by omega))) (.c hse)) ?_;conv=>whnf
  refine .mk e rfl (by omega) ?_;conv=>whnf
  refine .mk (tQ (pvW (T.r r) e (T.N.length+1))) e 0 (ratD (gq (pvW (T.r r) e (T.N.length+1)) e)) (A0++[tQ (pvL (T.r r) e)]) ar_at rfl (tQ_at (by rw[pvW_len];omega)) (lR_ 3) (by rw[ar_set,←pvW_end (by omega),hol,←tQ_set];rfl) ?_;conv=>whnf
  refine .mk (by kernel_rfl) ?_;conv=>whnf
  refine .mk e in_len rfl he ?_;conv=>whnf
  refine .dat (.lit (.int .i64 (gn T.N e:Nat))) in_len (in_at he) ?_;conv=>whnf
  refine .mk r in_len rfl hr ?_;conv=>whnf
  refine .dat (.lit (.int .i64 (gn T.B r:Nat))) in_len (in_at hr) ?_;conv=>whnf
  refine .mk r in_len rfl hr ?_;conv=>whnf
  refine .mk ((T.B.set r (gn T.N e)).map fun x=> .inr (.lit (.int .i64 (x:Nat)))) in_len hr (by rw[List.map_set]) ?_;conv=>whnf
  refine .mk e in_len rfl he ?_;conv=>whnf
  refine .mk ((T.N.set e (gn T.B r)).map fun x=> .inr (.lit (.int .i64 (x:Nat)))) in_len he (by rw[List.map_set]) ?_;conv=>whnf
  refine .mk (by kernel_rfl) ?_;conv=>whnf
  refine .mk (Nat×List (List (List D))) (fun(i,ar)=>⟨[(100,vl (.int .i64 (i:Nat))),(99,vl (.int .i64 (T.B.length:Nat))),(7,.a (.row 3 A0.length (T.N.length+1) true)),(2,vl (.int .i64 (e:Nat))),(1,vl (.int .i64 (r:Nat))),(0,.a (.ptr 0 0))],
   [(0,.box 67 (tbA T.n T.m 0 T.B.length T.N.length T.B.length (.row 3 oa (T.N.length+1) fo) (T.p+1))),inH' 1 (T.B.set r (gn T.N e)),inH' 2 (T.N.set e (gn T.B r)),ttH 3 (oI ix) ar],4⟩) (fun b=>b.1≤T.B.length∧IOk T ⟨ix,(oa,T.N.length+1,fo),A0⟩ r e b.1 (pvL (T.r r) e) b.2) (fun b=>T.B.length-b.1) (0,A0++[tQ (pvL (T.r r) e)])
   Wk.go ⟨zL_ _,IOk.start h⟩ fun⟨i,ar⟩ hi=> ?_
  obtain⟨hi,hI⟩:=hi;simp only at hi hI;have bF:∀j,j<T.N.length+1→Bt 2000000 (gq (pvL (T.r r) e) j):=fun j hj=>(pvL_bt (k:=1000000) bO (by omega) ha (by omega)).mono (by omega);conv=>whnf
  refine bs (fun h2=> ?_) (fun h2=> ?_)
  ·conv=>whnf
   have h2':i<T.B.length:=by have:=of_decide_eq_true h2;omega
   refine bs (fun h3=> ?_) (fun h3=> ?_)
   ·conv=>whnf
    have h3':i≠r:=fun e1=>by subst e1;simp at h3
    obtain⟨⟨ai,mi,fi⟩,hqi,hmi,_⟩:=h.rw i h2';have hmi':mi=T.N.length+1:=Eq.trans hmi (k.rl i h2');subst hmi';obtain⟨ro,g1,g2⟩:=hI.rw i _ hqi;rw[if_neg fun q=>Nat.lt_irrefl i q.1]at g2;have hne:ai≠A0.length:=Nat.ne_of_lt (h.get hqi).2.lt;refine .mk i hil rfl h2' ?_;conv=>whnf
    refine .row ai (T.N.length+1) fi hil (oI_at hqi) ?_;conv=>whnf
    refine .lD [3] [] _ (ly_sub (m:=T.N.length+1) g1 hI.f hne g2 (rw_tQ _) (k.rl i h2') (by rw[pvL_len,hol]) (by omega) (by omega) (fun j hj=>k.fq i h2' j (by omega)) bF) ?_;rintro _ _ ⟨rfl,rows2,q1,q2,rfl⟩;refine⟨rfl,(fun k hk=>by cases hk),?_⟩;conv=>whnf
    exact⟨(i+1,ar.set ai rows2),Wk.go,⟨h2',hI.step h h3' hqi q1⟩,by simp only;omega⟩
   ·conv=>whnf
    have h3':i=r:=by have:(i:Int)=(r:Int):=by simpa using h3
                     omega
    exact⟨(i+1,ar),Wk.go,⟨h2',hI.skip h3'⟩,by simp only;omega⟩
  ·conv=>whnf
   have h2':i=T.B.length:=by have:=of_decide_eq_false h2;omega
   subst h2';obtain⟨ro,g1,g2⟩:=hI.ob;have hne:oa≠A0.length:=Nat.ne_of_lt h.ob.lt;refine .lD [3] [] _ (ly_sub (m:=T.N.length+1) g1 hI.f hne g2 (rw_tQ _) k.ol (by rw[pvL_len,hol]) (by omega) (by omega) (fun j hj=>k.oq j (by omega)) bF) ?_;rintro _ _ ⟨rfl,rows2,q1,q2,rfl⟩;refine⟨rfl,(fun k hk=>by cases hk),?_⟩;conv=>whnf
   refine .mk r hil rfl hr ?_;conv=>whnf
   refine .mk (oI (ix.set r (A0.length,T.N.length+1,true))) hil hr (by rw[oI,List.map_set]) ?_;conv=>whnf
   exact .mk _ [(0,.box 67 (tbA T.n T.m 0 T.B.length T.N.length T.B.length (.row 3 oa (T.N.length+1) fo) (T.p+1))),inH' 1 (T.B.set r (gn T.N e)),inH' 2 (T.N.set e (gn T.B r)),ttH 3 (oI (ix.set r (A0.length,T.N.length+1,true))) (ar.set oa rows2)]
    ⟨rfl,⟨ix.set r (A0.length,T.N.length+1,true),(oa,T.N.length+1,fo),ar.set oa rows2⟩,hI.fin h k hr he q1,hI.kept rows2,by simp only[tH,Tb.pv,List.length_set]⟩ (vR_ _) rfl
    ⟨⟨_,rfl,wke_refl _,rfl⟩,⟨_,rfl,wke_refl _,rfl⟩,⟨_,rfl,wke_refl _,rfl⟩,⟨_,rfl,wke_refl _,rfl⟩,trivial⟩ rfl
section
variable {T:Tb} {X:Ar}
theorem tH_lt:∀p∈tH 0 T X,p.1<4:=by
 intro p hp;simp only[List.mem_cons,List.not_mem_nil,or_false]at hp;rcases hp with rfl|rfl|rfl|rfl
 ·exact(by decide:0<4)
 ·exact(by decide:1<4)
 ·exact(by decide:2<4)
 ·exact(by decide:3<4)
theorem fr_in {H:List (Nat×Ent)}{key:Nat}{l:List Nat}(hl:l.length≤1000)(hk:look H key=some (inH' key l).2):FrA H (.th key l.length) (.sl 1 (tI l)):=by
 refine⟨_,_,_,_,_,hk,List.length_map _,by omega,fun x hx y e=> ?_,fun x hx=> ?_,?_⟩
 ·obtain⟨z,_,rfl⟩:=List.mem_map.1 hx;cases e
 ·obtain⟨z,_,rfl⟩:=List.mem_map.1 hx;rfl
 ·rw[List.map_map];rfl
theorem fr_rw {H:List (Nat×Ent)}{o:List (Sum (Nat×Nat×Bool) D)}(hk:look H 3=some (ttH 3 o X.ar).2){q:Nat×Nat×Bool}{l:List Rat}(h:At X q l)(hl:l.length≤2000):FrA H (.row 3 q.1 q.2.1 q.2.2) (.sl 3 (tQ l)):=by
 obtain⟨h1,rows,h2,h3,h4⟩:=h;refine⟨_,_,_,_,_,hk,by omega,?_⟩;rw[getD_at h2,h1,h3]
theorem fr_B (k:TOk T):FrW (tH 0 T X) (.a (.th 1 T.B.length)) (.a (.d (.sl 1 (tI T.B)))):=fr_in k.bl rfl
theorem fr_N (k:TOk T):FrW (tH 0 T X) (.a (.th 2 T.N.length)) (.a (.d (.sl 1 (tI T.N)))):=fr_in k.nl rfl
theorem fr_O (k:TOk T)(h:MOk T X):FrW (tH 0 T X) (.a (.row 3 X.ob.1 X.ob.2.1 X.ob.2.2)) (.a (.d (.sl 3 (tQ T.O)))):=fr_rw rfl h.ob (by have:=k.ol;have:=k.nl;omega)
theorem fr_R (k:TOk T)(h:MOk T X){i:Nat}{q:Nat×Nat×Bool}(hq:X.ix[i]? =some q):FrW (tH 0 T X) (.a (.row 3 q.1 q.2.1 q.2.2)) (.a (.d (.sl 3 (tQ (T.r i))))):=by
 obtain⟨hi,ha⟩:=h.get hq;exact fr_rw rfl ha (by have:=k.rl i hi;have:=k.nl;omega)
theorem fr_Fg {H:List (Nat×Ent)}(k:TOk T)(h:MOk T X)(h3:look H 3=some (ttH 3 (oI X.ix) X.ar).2):FrA H (.th 3 T.B.length) (.sl 1 (tF T.F)):=by
 have hb:=k.bl;have hn:=k.nl;refine⟨_,_,_,_,_,h3,h.il,by omega,fun x hx y e=> ?_,fun x hx=> ?_,?_⟩
 ·obtain⟨z,hz,rfl⟩:=List.mem_map.1 hx;injection e with e;subst e;obtain⟨j,hj⟩:=List.mem_iff_getElem?.1 hz;obtain⟨h1,h2⟩:=h.get hj;have:=h2.1;have:=k.rl j h1;omega
 ·obtain⟨z,hz,rfl⟩:=List.mem_map.1 hx;rfl
 ·congr 1
  refine List.ext_getElem? fun i=> ?_;rw[List.getElem?_map,List.getElem?_map,tF,List.getElem?_map]
  by_cases hi:i<T.B.length
  ·obtain⟨q,hq,h1,rows,h2,h3,h4⟩:=h.rw i hi;have hF:T.F[i]? =some (T.r i):=by rw[Tb.r,List.getD_eq_getElem?_getD,List.getElem?_eq_getElem (by rw[k.fl];exact hi)];rfl
   rw[hq,hF];show some [D.sl 3 (tQ (T.r i))]=some [frC 3 X.ar (.inl q)];show some [D.sl 3 (tQ (T.r i))]=some [D.sl 3 ((X.ar.getD q.1 []).take q.2.1)];rw[getD_at h2,h1,h3]
  ·rw[List.getElem?_eq_none (by rw[k.fl];omega),List.getElem?_eq_none (by rw[h.len];omega)];rfl
theorem fr_Tg {H:List (Nat×Ent)}(k:TOk T)(h:MOk T X)(h0:look H 0=some (.box 67 (tbA T.n T.m 0 T.B.length T.N.length T.B.length (.row 3 X.ob.1 X.ob.2.1 X.ob.2.2) T.p)))(h1:look H 1=some (inH' 1 T.B).2)(h2:look H 2=some (inH' 2 T.N).2)(h3:look H 3=some (ttH 3 (oI X.ix) X.ar).2):FrW H (.a (.ptr 0 0)) (.a (.elt (tD T) 0)):=
 ⟨_,_,h0,⟨rfl,rfl,fr_in k.bl h1,fr_in k.nl h2,fr_Fg k h h3,fr_rw h3 h.ob (by have:=k.ol;have:=k.nl;omega),rfl,trivial⟩⟩
theorem fr_T (k:TOk T)(h:MOk T X):FrW (tH 0 T X) (.a (.ptr 0 0)) (.a (.elt (tD T) 0)):=fr_Tg k h rfl rfl rfl rfl
end
theorem fr_i {H:List (Nat×Ent)}{z:Int}:FrW H (vl (.int .i64 z)) (vl (.int .i64 z)):=rfl
theorem fr_q {H:List (Nat×Ent)}{q:Rat}:FrW H (ratV q) (ratV q):=⟨⟨_,rfl,rfl⟩,⟨_,rfl,rfl⟩,⟨_,rfl,rfl⟩,trivial⟩
theorem LX.rdH {P:Program}{F:FuncId}{xs gs:List V}{H:List (Nat×Ent)}{v:V}(s:Nat)(hs:∀p∈H,p.1<s)(hc:LV P F gs v)(hg:All2 (FrW H) xs gs)(hv:okV [] v)(hk:renV (· +s) v=v):LX P F xs H fun v' H'=>v'=v∧H'=H:=by
 have:=LX.frzA s (show LX P F gs [] fun v' H'=>v'=v∧H'=[]from hc) hg hs hv (fun p hp=>by cases hp);rw[hk]at this;simpa using this
theorem LX.rd {P:Program}{F:FuncId}{xs gs:List V}{T:Tb}{X:Ar}{v:V}(hc:LV P F gs v)(hg:All2 (FrW (tH 0 T X)) xs gs)(hv:okV [] v)(hk:renV (· +4) v=v):LX P F xs (tH 0 T X) fun v' H'=>v'=v∧H'=tH 0 T X:=by
 have:=LX.frzA 4 (show LX P F gs [] fun v' H=>v'=v∧H=[]from hc) hg tH_lt hv (fun p hp=>by cases hp);rw[hk]at this;simpa using this
theorem ly_cloneI {x:Nat}{l:List Nat}(hl:(x::l).length≤1000000):LX Tryz.prog 33 [.a (.d (.sl 1 (tI (x::l))))] [] fun v H=>v= .a (.own 0 1 (tI (x::l)))∧H=[(0,.arr 3 1 (tI (x::l)).length)]:=by
 refine LX_run (m:=0) (n0:=0) mix Tryz.func33 rfl rfl rfl rfl ?_;conv=>whnf
 refine .own ?_;conv=>whnf
 refine .mk (tI (x::l)) rfl rfl (by rw[tI_len];omega) ?_;conv=>whnf
 exact⟨_,_,⟨rfl,rfl⟩,vR_ _,rfl,⟨⟨_,rfl,wke_refl _,rfl⟩,trivial⟩,rfl⟩
theorem ly_cloneI' {l:List Nat}(h0:l≠[])(hl:l.length≤1000000):LX Tryz.prog 33 [.a (.d (.sl 1 (tI l)))] [] fun v H=>v= .a (.own 0 1 (tI l))∧H=[(0,.arr 3 1 (tI l).length)]:=by
 cases l with
 |nil=>exact absurd rfl h0
 |cons x l=>exact ly_cloneI hl
theorem pl_tI (l:List Nat):∀row∈tI l,∀d∈row,plD d:=by
 intro row hr d hd;obtain⟨x,_,rfl⟩:=List.mem_map.1 hr;rw[List.mem_singleton]at hd;subst hd;trivial
theorem fd_at {T:Tb}{e r:Nat}(hr:r<T.B.length)(h1:¬gn T.B r<T.n)(h2:gq (T.r r) e≠0)(hb:∀j,j<r→gn T.B j<T.n∨gq (T.r j) e=0):T.fd e=some r:=by
 unfold Tb.fd;rw[List.find?_range_eq_some];refine⟨by rw[decide_eq_true h1,decide_eq_true h2];rfl,List.mem_range.2 hr,fun j hj=> ?_⟩;rcases hb j hj with h|h
 ·rw[decide_eq_false (fun k:¬gn T.B j<T.n=>k h),Bool.false_and];rfl
 ·rw[decide_eq_false (fun k:gq (T.r j) e≠0=>k h),Bool.and_false];rfl
theorem fd_no {T:Tb}{e:Nat}(hb:∀j,j<T.B.length→gn T.B j<T.n∨gq (T.r j) e=0):T.fd e=none:=by
 unfold Tb.fd;rw[List.find?_eq_none];intro j hj;rcases hb j (List.mem_range.1 hj)with h|h
 ·rw[decide_eq_false (fun k:¬gn T.B j<T.n=>k h),Bool.false_and];exact Bool.false_ne_true
 ·rw[decide_eq_false (fun k:gq (T.r j) e≠0=>k h),Bool.and_false];exact Bool.false_ne_true
theorem ly_release {T:Tb}{X0:Ar}(hne:T.N≠[])(hT:∀e,e≤T.N.length→TOk (T.rls e)∧(T.rls e).N.length=T.N.length∧(T.rls e).n=T.n)(h:MOk T X0):
  LX Tryz.prog 23 [.a (.ptr 0 0)] (tH 0 T X0) fun v H=>v= .tup []∧∃X',MOk (T.rls T.N.length) X'∧Kept X0 X'∧H=tH 0 (T.rls T.N.length) X':=by
 have k0:TOk T:=(hT 0 (zL_ _)).1;have hnl:=k0.nl;refine LX_run (m:=4) (n0:=4) mix Tryz.func23 rfl rfl rfl rfl ?_;conv=>whnf
 refine .lE [0,1,2,3] [0,1,2,3] (LX.frzA 4 (ly_cloneI' hne (by omega)) ⟨fr_N k0,trivial⟩ tH_lt ⟨⟨_,rfl⟩,pl_tI _⟩ (fun p hp=>by rw[List.mem_singleton]at hp;subst hp;trivial)) ?_;conv=>whnf
 refine .mk (Nat×Ar) (fun(e,X)=>⟨[(12,vl (.int .i64 (e:Nat))),(11,vl (.int .i64 ((tI T.N).length:Nat))),(10,.a (.own 4 1 (tI T.N))),(0,.a (.ptr 0 0))],(4,.arr 3 1 (tI T.N).length)::tH 0 (T.rls e) X,5⟩) (fun b=>b.1≤T.N.length∧MOk (T.rls b.1) b.2∧Kept X0 b.2) (fun b=>T.N.length-b.1) (0,X0)
  Wk.go ⟨zL_ _,h,Kept.refl _⟩ fun⟨e,X⟩ he=> ?_
 obtain⟨he,hX,hkp0⟩:=he;simp only at he hX hkp0;obtain⟨k,kN,kn⟩:=hT e he;conv=>whnf
 refine bs (fun h1=> ?_) (fun h1=> ?_)
 ·conv=>whnf
  have h1':e<T.N.length:=by have:=of_decide_eq_true h1;rw[tI_len]at this;omega
  refine .mk (e) ([.lit (.int .i64 (gn T.N e:Nat))]) (rfl) (tI_at h1') ?_;conv=>whnf
  refine .lE [0,1,2,3] [0,1,2,3] (LX.rd ly_free ⟨fr_T k hX,fr_i,trivial⟩ trivial rfl) ?_;conv=>whnf
  have hkb:=k.bl
  have hU:∀U,T.rls e=U→U.n=T.n→(gn T.N e<T.n→T.rls (e+1)=match U.fd e with
   |some r=>U.pv r e
   |none=>U):=fun U hU _ hf=>by rw[Tb.rls,if_pos hf,hU];cases U.fd e<;>rfl
  have hU0:¬gn T.N e<T.n→T.rls (e+1)=T.rls e:=fun hf=>by rw[Tb.rls,if_neg hf]
  have hU:=hU _ rfl kn;generalize T.rls e=U at *
  refine bs (fun h2=> ?_) (fun h2=> ?_)
  ·conv=>whnf
   have h2':gn T.N e<T.n:=by have:=of_decide_eq_true h2;omega
   have hU:=hU h2';refine .mk Nat (fun r=>⟨[(26,vl (.int .i64 (r:Nat))),(25,vl (.int .i64 (U.B.length:Nat))),(24,.a (.th 1 U.B.length)),(2,vl (.int .i64 (e:Nat))),(12,vl (.int .i64 (e:Nat))),(11,vl (.int .i64 ((tI T.N).length:Nat))),(10,.a (.own 4 1 (tI T.N))),(0,.a (.ptr 0 0))],(4,.arr 3 1 (tI T.N).length)::tH 0 U X,5⟩) (fun r=>r≤U.B.length∧∀j,j<r→gn U.B j<U.n∨gq (U.r j) e=0) (fun r=>U.B.length-r) 0
    Wk.go ⟨zL_ _,fun j hj=>by omega⟩ fun r hr=> ?_
   obtain⟨hr,hb⟩:=hr;conv=>whnf
   refine bs (fun h3=> ?_) (fun h3=> ?_)
   ·conv=>whnf
    have h3':r<U.B.length:=by have:=of_decide_eq_true h3;omega
    have next:(gn U.B r<U.n∨gq (U.r r) e=0)→∀j,j<r+1→gn U.B j<U.n∨gq (U.r j) e=0:=fun h j hj=>by
     rcases Nat.lt_or_ge j r with h5|h5
     ·exact hb j h5
     ·rw[show j=r by omega];exact h
    refine .mk r in_len rfl h3' ?_;conv=>whnf
    refine .dat (.lit (.int .i64 (gn U.B r:Nat))) in_len (in_at h3') ?_;conv=>whnf
    refine .lE [0,1,2,3] [0,1,2,3] (LX.rd ly_free ⟨fr_T k hX,fr_i,trivial⟩ trivial rfl) ?_;conv=>whnf
    refine bs (fun h4=> ?_) (fun h4=> ?_)
    ·conv=>whnf
     have h4':gn U.B r<U.n:=by have:=of_decide_eq_true h4;omega
     exact⟨r+1,Wk.go,⟨h3',next (.inl h4')⟩,by omega⟩
    ·conv=>whnf
     have h4':¬gn U.B r<U.n:=fun q=>by have:=of_decide_eq_false h4;omega
     obtain⟨⟨a,m,f⟩,hq,hm,rows,g1,g2⟩:=hX.rw r h3';have hm':m=U.N.length+1:=Eq.trans hm (k.rl r h3');subst hm';have hs:=(k.fq r h3' e (by omega)).sz (by omega);refine .mk r hX.il rfl h3' ?_;conv=>whnf
     refine .row a (U.N.length+1) f hX.il (oI_at hq) ?_;conv=>whnf
     refine .mk e rfl (by omega) ?_;conv=>whnf
     refine .mk rows e 0 (ratD (gq (U.r r) e)) g1 rfl (g2.at (by rw[k.rl r h3'];omega)) ?_;conv=>whnf
     refine .c (lx_rsign (.c hs)) ?_;conv=>whnf
     rw[sg_ne0];refine bs (fun h5=> ?_) (fun h5=> ?_)
     ·conv=>whnf
      have h5':=of_decide_eq_true h5;refine .lD [0,1,2,3] [] _ (ly_pivot k hX h3' (by omega) h5') ?_;rintro _ _ ⟨rfl,X',hm,hkp,rfl⟩;refine⟨rfl,(fun k hk=>by cases hk),?_⟩;conv=>whnf
      have e1:T.rls (e+1)=U.pv r e:=by rw[hU,fd_at h3' h4' h5' hb]
      exact⟨(e+1,X'),by simp only[e1];exact Wk.go,⟨h1',by simp only[e1];exact hm,hkp0.trans hkp⟩,by simp only;omega⟩
     ·conv=>whnf
      have h5':gq (U.r r) e=0:=by have:=of_decide_eq_false h5;exact Classical.not_not.1 this
      exact⟨r+1,Wk.go,⟨h3',next (.inr h5')⟩,by omega⟩
   ·conv=>whnf
    have h3':r=U.B.length:=by have:=of_decide_eq_false h3;omega
    subst h3';have e1:T.rls (e+1)=U:=by rw[hU,fd_no hb]
    exact⟨(e+1,X),by simp only[e1];exact Wk.go,⟨h1',by simp only[e1];exact hX,hkp0⟩,by simp only;omega⟩
  ·conv=>whnf
   have h2':¬gn T.N e<T.n:=fun q=>by have:=of_decide_eq_false h2;omega
   have e1:T.rls (e+1)=U:=hU0 h2';exact⟨(e+1,X),by simp only[e1];exact Wk.go,⟨h1',by simp only[e1];exact hX,hkp0⟩,by simp only;omega⟩
 ·conv=>whnf
  have h1':e=T.N.length:=by have:=of_decide_eq_false h1;rw[tI_len]at this;omega
  subst h1';exact .mk _ (tH 0 (T.rls T.N.length) X) ⟨rfl,X,hX,hkp0,rfl⟩ (vR_ _) rfl ⟨⟨_,rfl,wke_refl _,rfl⟩,⟨_,rfl,wke_refl _,rfl⟩,⟨_,rfl,wke_refl _,rfl⟩,⟨_,rfl,wke_refl _,rfl⟩,trivial⟩ rfl
abbrev tH5 (T:Tb)(X:Ar):List (Nat×Ent):=
 [(0,.box 67 (tbA T.n T.m 0 T.B.length T.N.length T.B.length (.row 3 X.ob.1 X.ob.2.1 X.ob.2.2) T.p)),inH' 1 T.B,inH' 2 T.N,ttH 3 (oI X.ix) X.ar,(4,.box 61 [.ptr 0 0])]
theorem ly_line2 {T:Tb}{X:Ar}:LX Tryz.prog 31 [.a (.ptr 4 0)] (tH5 T X) fun v H=>v= .a (.row 3 X.ob.1 X.ob.2.1 X.ob.2.2)∧H=tH5 T X:=by
 refine LX_run (m:=5) (n0:=5) mix Tryz.func31 rfl rfl rfl rfl ?_;conv=>whnf
 exact .mk _ (tH5 T X) ⟨rfl,rfl⟩ (vR_ _) rfl ⟨⟨_,rfl,wke_refl _,rfl⟩,⟨_,rfl,wke_refl _,rfl⟩,⟨_,rfl,wke_refl _,rfl⟩,⟨_,rfl,wke_refl _,rfl⟩,⟨_,rfl,wke_refl _,rfl⟩,trivial⟩ rfl
def mnV (U:Tb)(l:List Rat):V:= .tup [.s (.d (.lit (.int .i64 (bI (enB U l U.N.length))))),.s (.d (.lit (.bool true)))]
theorem it_le {L:Tb→List Rat}{T U V V':Tb}{k j:Nat}(hk:itT L T k=some U)(hn:nxt L U=none)(hj:itT L T j=some V)(h:nxt L V=some V')(hle:j≤k):j+1≤k:=by
 rcases Nat.lt_or_eq_of_le hle with h1|h1
 ·exact h1
 ·subst h1;rw[hk]at hj;injection hj with hj;subst hj;rw[hn]at h;cases h
theorem it_end {L:Tb→List Rat}{T U V:Tb}{k j:Nat}(hk:itT L T k=some U)(hj:itT L T j=some V)(h:nxt L V=none)(hle:j≤k):V=U:=by
 rcases Nat.lt_or_eq_of_le hle with h2|h2
 ·exfalso
  have key:∀m,itT L T (j+1+m)=none:=fun m=>by
   induction m with
   |zero=>rw[Nat.add_zero,itT,hj];exact h
   |succ m ih=>rw[←Nat.add_assoc,itT,ih];rfl
  have:=key (k-(j+1));rw[show j+1+(k-(j+1))=k by omega,hk]at this;cases this
 ·subst h2;rw[hk]at hj;injection hj with hj;exact hj.symm
theorem ly_min2 {T U:Tb}{X:Ar}{k:Nat}(hk:itT Tb.O T k=some U)(hn:nxt Tb.O U=none)(hT:∀j,j≤k→∀V,itT Tb.O T j=some V→TOk V∧V.p≤65536)(h:MOk T X):
  LX Tryz.prog 30 [.a (.ptr 0 0),.a (.fn (.func 31) [] [.ptr 4 0])] (tH5 T X) fun v H=>v=mnV U U.O∧∃X',MOk U X'∧H=tH5 U X':=by
 refine LX_run (m:=5) (n0:=5) mix Tryz.func30 rfl rfl rfl rfl ?_;conv=>whnf
 refine .mk (Nat×Tb×Ar) (fun(j,V,X)=>⟨[(5,vl (.bool false)),(4,vl (.int .i64 0)),(1,.a (.fn (.func 31) [] [.ptr 4 0])),(0,.a (.ptr 0 0))],tH5 V X,5⟩) (fun b=>b.1≤k∧itT Tb.O T b.1=some b.2.1∧MOk b.2.1 b.2.2) (fun b=>k-b.1) (0,T,X)
  Wk.go ⟨zL_ _,rfl,h⟩ fun⟨j,V,X⟩ hb=> ?_
 obtain⟨hj,hi,hX⟩:=hb;simp only at hj hi hX;obtain⟨kV,hp⟩:=hT j hj V hi;conv=>whnf
 refine bs (fun h1=> ?_) (fun h1=> ?_)
 ·conv=>whnf
  refine .lE [0,1,2,3,4] [0,1,2,3,4] (ly_line2 (T:=V) (X:=X)) ?_;conv=>whnf
  refine .lE [0,1,2,3] [0,1,2,3] (LX.rd (ly_enter kV kV.ol kV.oq) ⟨fr_T kV hX,fr_O kV hX,trivial⟩ trivial rfl) ?_;conv=>whnf
  cases he:enB V V.O V.N.length with
  |none=>
   have hnx:nxt Tb.O V=none:=by unfold nxt;rw[he]
   have hVU:=it_end hk hi hnx hj;subst hVU;conv=>whnf
   refine bs (fun h5=> ?_) (fun h5=> ?_)
   ·conv=>whnf
    refine .mk (by kernel_rfl) ?_;conv=>whnf
    exact .mk _ (tH5 V X) ⟨by unfold mnV;rw[he];try rfl,X,hX,rfl⟩ (vR_ _) rfl ⟨⟨_,rfl,wke_refl _,rfl⟩,⟨_,rfl,wke_refl _,rfl⟩,⟨_,rfl,wke_refl _,rfl⟩,⟨_,rfl,wke_refl _,rfl⟩,⟨_,rfl,wke_refl _,rfl⟩,trivial⟩ rfl
   ·exfalso;have:=of_decide_eq_false h5;omega
  |some e=>
   have he0:=(enB_some he).1;conv=>whnf
   refine .lE [0,1,2,3] [0,1,2,3] (LX.rd (ly_leave kV he0) ⟨fr_T kV hX,fr_i,trivial⟩ trivial rfl) ?_;conv=>whnf
   cases hl:leB V e V.B.length with
   |none=>
    have hnx:nxt Tb.O V=none:=by unfold nxt;rw[he];simp only;rw[hl]
    have hVU:=it_end hk hi hnx hj;subst hVU;conv=>whnf
    exact .mk _ (tH5 V X) ⟨by unfold mnV;rw[he];try rfl,X,hX,rfl⟩ (vR_ _) rfl ⟨⟨_,rfl,wke_refl _,rfl⟩,⟨_,rfl,wke_refl _,rfl⟩,⟨_,rfl,wke_refl _,rfl⟩,⟨_,rfl,wke_refl _,rfl⟩,⟨_,rfl,wke_refl _,rfl⟩,trivial⟩ rfl
   |some r=>
    have hl0:=leB_some hl;have hnx:nxt Tb.O V=some (V.pv r e):=by unfold nxt;rw[he];simp only;rw[hl]
    conv=>whnf
    refine .lD [0,1,2,3] [] _ (ly_pivot kV hX hl0.1 he0 (by have:=hl0.2.2.1;grind)) ?_;rintro _ _ ⟨rfl,X',hm,hkp,rfl⟩;refine⟨rfl,(fun k hk=>by cases hk),?_⟩;conv=>whnf
    exact⟨(j+1,V.pv r e,X'),Wk.go,⟨it_le hk hn hi hnx hj,by simp only[itT,hi];exact hnx,hm⟩,by have:=it_le hk hn hi hnx hj;simp only;omega⟩
 ·exfalso;have:=of_decide_eq_false h1;omega
def untL (T:Tb)(a:Nat):List Rat:=(List.replicate (T.N.length+1) 0).set (T.N.idxOf a) 1
def vioL (a:Nat)(T:Tb):List Rat:=if a∈T.B then T.r (T.B.idxOf a)else untL T a
theorem untL_len (T:Tb)(a:Nat):(untL T a).length=T.N.length+1:=by simp[untL]
theorem untL_nn (T:Tb)(a j:Nat):0≤gq (untL T a) j:=by
 unfold untL
 by_cases h:T.N.idxOf a<(List.replicate (T.N.length+1) (0:Rat)).length
 ·rw[gq_set h,gq_rep];split<;>decide
 ·rw[List.set_eq_of_length_le (by omega),gq_rep];exact Rat.le_refl
theorem bt_unt (T:Tb)(a j:Nat):Bt 1000000 (gq (untL T a) j):=by
 unfold untL
 by_cases h:T.N.idxOf a<(List.replicate (T.N.length+1) (0:Rat)).length
 ·rw[gq_set h,gq_rep];split
  ·exact bt1 _
  ·exact bt0 _
 ·rw[List.set_eq_of_length_le (by omega),gq_rep];exact bt0 _
theorem untL_none {T:Tb}{a:Nat}(h:a∉T.B):nxt (vioL a) T=none:=by
 unfold nxt
 cases he:enB T (vioL a T) T.N.length with
 |none=>rfl
 |some e=>
  exfalso;have:=(enB_some he).2.2.1;have h2:=untL_nn T a e;rw[vioL,if_neg h]at this;grind
theorem ly_cloneQ {l:List Rat}(h0:l≠[])(hl:l.length≤1000000):LX Tryz.prog 52 [.a (.d (.sl 3 (tQ l)))] [] fun v H=>v= .a (.tab 0 l.length)∧H=rbH 0 l:=by
 cases l with
 |nil=>exact absurd rfl h0
 |cons x l=>
  refine LX_run (m:=0) (n0:=0) mix Tryz.func52 rfl rfl rfl rfl ?_;conv=>whnf
  refine .full ?_;conv=>whnf
  refine .tab (tQ (x::l)) rfl (by rw[tQ_len];omega) (fun row hr d hd=> ?_) ?_
  ·have:=pl_tQ (x::l) row hr d hd;obtain⟨q,_,rfl⟩:=List.mem_map.1 hr;simp only[List.mem_cons,List.not_mem_nil,or_false]at hd;rcases hd with rfl|rfl|rfl<;>rfl
  rw[tQ_len];conv=>whnf
  exact⟨_,_,⟨rfl,rfl⟩,vR_ _,rfl,⟨⟨_,rfl,wke_refl _,rfl⟩,trivial⟩,rfl⟩
abbrev tH7 (T:Tb)(X:Ar)(a u nl:Nat):List (Nat×Ent):=
 [(0,.box 67 (tbA T.n T.m 0 T.B.length T.N.length T.B.length (.row 3 X.ob.1 X.ob.2.1 X.ob.2.2) T.p)),inH' 1 T.B,inH' 2 T.N,ttH 3 (oI X.ix) X.ar,(4,.box 61 [.ptr 0 0]),(5,.box 3 [.d (.lit (.int .i64 (a:Nat)))]),(6,.box 36 [.row 3 u (nl+1) true])]
abbrev zR (n:Nat):List Rat:=List.replicate (n+1) 0
theorem ix_some {l:List Nat}{x:Nat}(h:x∈l):ixS l x=some (l.idxOf x):=if_pos h
theorem ly_vioA {T:Tb}{X:Ar}{a u nl:Nat}(k:TOk T)(h:MOk T X)(ha:a∈T.B){q:Nat×Nat×Bool}(hq:X.ix[T.B.idxOf a]? =some q):
  LX Tryz.prog 64 [.a (.ptr 4 0),.a (.ptr 5 0),.a (.ptr 6 0)] (tH7 T X a u nl) fun v H=>v= .a (.row 3 q.1 q.2.1 q.2.2)∧H=tH7 T X a u nl:=by
 have hbl:=k.bl;have hi:T.B.idxOf a<T.B.length:=List.idxOf_lt_length_of_mem ha;refine LX_run (m:=7) (n0:=7) mix Tryz.func64 rfl rfl rfl rfl ?_;conv=>whnf
 refine .lE [0,1,2,3] [0,1,2,3] (LX.rd (ly_index (x:=a) (by omega)) ⟨fr_B k,fr_i,trivial⟩ trivial rfl) ?_;conv=>whnf
 refine .mk (by kernel_rfl) ?_;conv=>whnf
 rw[ix_some ha];conv=>whnf
 refine .mk (T.B.idxOf a) h.il rfl hi ?_;conv=>whnf
 refine .row q.1 q.2.1 q.2.2 h.il (oI_at hq) ?_;conv=>whnf
 exact .mk _ (tH7 T X a u nl) ⟨rfl,rfl⟩ (vR_ _) rfl ⟨⟨_,rfl,wke_refl _,rfl⟩,⟨_,rfl,wke_refl _,rfl⟩,⟨_,rfl,wke_refl _,rfl⟩,⟨_,rfl,wke_refl _,rfl⟩,⟨_,rfl,wke_refl _,rfl⟩,⟨_,rfl,wke_refl _,rfl⟩,⟨_,rfl,wke_refl _,rfl⟩,trivial⟩ rfl
abbrev tH8 (T:Tb)(X:Ar)(a u nl:Nat):List (Nat×Ent):=
 [(0,.box 67 (tbA T.n T.m 0 T.B.length T.N.length T.B.length (.row 3 X.ob.1 X.ob.2.1 X.ob.2.2) T.p)),inH' 1 T.B,inH' 2 T.N,ttH 3 (oI X.ix) X.ar,(4,.box 61 [.ptr 0 0]),(5,.box 3 [.d (.lit (.int .i64 (a:Nat)))]),(6,.box 36 [.row 3 u (nl+1) true]),(11,.tab 30 3 (tQ (untL T a)))]
theorem ly_vioB {T:Tb}{X:Ar}{a u nl:Nat}(k:TOk T)(hnn:T.N.length=nl)(h:MOk T X)(ha:a∉T.B)(hN:a∈T.N)(hu:X.ar[u]? =some (tQ (zR T.N.length))):
  LX Tryz.prog 64 [.a (.ptr 4 0),.a (.ptr 5 0),.a (.ptr 6 0)] (tH7 T X a u nl) fun v H=>v= .a (.tab 11 (nl+1))∧H=tH8 T X a u nl:=by
 have hbl:=k.bl;have hnl:=k.nl;subst hnn;have hi:T.N.idxOf a<T.N.length:=List.idxOf_lt_length_of_mem hN;have hne:zR T.N.length≠[]:=by simp
 have hzl:(zR T.N.length).length=T.N.length+1:=by simp
 have e1:ixS T.B a=none:=if_neg ha;refine LX_run (m:=7) (n0:=7) mix Tryz.func64 rfl rfl rfl rfl ?_;conv=>whnf
 refine .lE [0,1,2,3] [0,1,2,3] (LX.rd (ly_index (x:=a) (by omega)) ⟨fr_B k,fr_i,trivial⟩ trivial rfl) ?_;conv=>whnf
 refine .mk (by kernel_rfl) ?_;conv=>whnf
 rw[e1];conv=>whnf
 refine .lE [0,1,2,3] [0,1,2,3] (LX.frzA (H:=tH 0 T X) 4 (ly_cloneQ hne (by omega)) ⟨fr_rw (q:=(u,T.N.length+1,true)) rfl ⟨hzl.symm,_,hu,rw_tQ _⟩ (by omega),trivial⟩ tH_lt ⟨_,_,_,rfl⟩ (fun p hp=>by rw[List.mem_singleton]at hp;subst hp;exact pl_tQ _)) ?_;conv=>whnf
 refine .lE [0,1,2,3] [0,1,2,3] (LX.rd (T:=T) (X:=X) (ly_index (l:=T.N) (x:=a) (by omega)) ⟨fr_N k,fr_i,trivial⟩ trivial rfl) ?_;conv=>whnf
 refine .c (lx_rof (z:=1) (by decide) (by decide)) ?_;conv=>whnf
 rw[ix_some hN,hzl];conv=>whnf
 refine .mk (T.N.idxOf a) rfl (by omega) ?_;conv=>whnf
 refine .mk (T.N.idxOf a) 0 (ratD (gq (zR T.N.length) (T.N.idxOf a))) (tQ (untL T a)) rfl (tQ_at (by omega)) (lR_ 3) (by rw[untL,←tQ_set];rfl) ?_;conv=>whnf
 refine .mk (by kernel_rfl) ?_;conv=>whnf
 exact .mk _ (tH8 T X a u T.N.length) ⟨rfl,rfl⟩ (vR_ _) rfl ⟨⟨_,rfl,wke_refl _,rfl⟩,⟨_,rfl,wke_refl _,rfl⟩,⟨_,rfl,wke_refl _,rfl⟩,⟨_,rfl,wke_refl _,rfl⟩,⟨_,rfl,wke_refl _,rfl⟩,⟨_,rfl,wke_refl _,rfl⟩,⟨_,rfl,wke_refl _,rfl⟩,⟨_,rfl,wke_refl _,rfl⟩,trivial⟩ rfl
theorem ly_min1 {T U:Tb}{X0:Ar}{k a u:Nat}(hk:itT (vioL a) T k=some U)(hn:nxt (vioL a) U=none)(hT:∀j,j≤k→∀V,itT (vioL a) T j=some V→TOk V∧V.p≤65536∧(a∈V.B∨a∈V.N)∧V.N.length=T.N.length)(h:MOk T X0)
  (hu:X0.ar[u]? =some (tQ (zR T.N.length))) (hux:u∉X0.ix.map (·.1)) (huo:u≠X0.ob.1):
  LX Tryz.prog 30 [.a (.ptr 0 0),.a (.fn (.func 64) [] [.ptr 4 0,.ptr 5 0,.ptr 6 0])] (tH7 T X0 a u T.N.length) fun v H=>v=mnV U (vioL a U)∧∃X',MOk U X'∧Kept X0 X'∧H=tH7 U X' a u T.N.length:=by
 refine LX_run (m:=7) (n0:=7) mix Tryz.func30 rfl rfl rfl rfl ?_;conv=>whnf
 refine .mk (Nat×Tb×Ar) (fun(j,V,X)=>⟨[(5,vl (.bool false)),(4,vl (.int .i64 0)),(1,.a (.fn (.func 64) [] [.ptr 4 0,.ptr 5 0,.ptr 6 0])),(0,.a (.ptr 0 0))],tH7 V X a u T.N.length,7⟩) (fun b=>b.1≤k∧itT (vioL a) T b.1=some b.2.1∧MOk b.2.1 b.2.2∧Kept X0 b.2.2) (fun b=>k-b.1) (0,T,X0)
  Wk.go ⟨zL_ _,rfl,h,Kept.refl _⟩ fun⟨j,V,X⟩ hb=> ?_
 obtain⟨hj,hi,hX,hkp⟩:=hb;simp only at hj hi hX hkp;obtain⟨kV,hp,hav,hVN⟩:=hT j hj V hi;obtain⟨hu',hux',huo'⟩:=hkp.1 u _ hu hux huo;conv=>whnf
 refine bs (fun h1=> ?_) (fun h1=> ?_)
 ·conv=>whnf
  by_cases ha:a∈V.B
  ·obtain⟨q,hq,hA⟩:=hX.rw (V.B.idxOf a) (List.idxOf_lt_length_of_mem ha);have hil:=List.idxOf_lt_length_of_mem ha;have eL:vioL a V=V.r (V.B.idxOf a):=if_pos ha;refine .lE [0,1,2,3,4,5,6] [0,1,2,3,4,5,6] (ly_vioA (u:=u) (nl:=T.N.length) kV hX ha hq) ?_;conv=>whnf
   refine .lE [0,1,2,3] [0,1,2,3] (LX.rd (ly_enter kV (kV.rl _ hil) (kV.fq _ hil)) ⟨fr_T kV hX,fr_R kV hX hq,trivial⟩ trivial rfl) ?_;conv=>whnf
   rw[←eL]
   cases he:enB V (vioL a V) V.N.length with
   |none=>
    have hnx:nxt (vioL a) V=none:=by unfold nxt;rw[he]
    have hVU:=it_end hk hi hnx hj;subst hVU;conv=>whnf
    refine bs (fun h5=> ?_) (fun h5=> ?_)
    ·conv=>whnf
     refine .mk (by kernel_rfl) ?_;conv=>whnf
     exact .mk _ (tH7 V X a u T.N.length) ⟨by unfold mnV;rw[he];try rfl,X,hX,hkp,rfl⟩ (vR_ _) rfl ⟨⟨_,rfl,wke_refl _,rfl⟩,⟨_,rfl,wke_refl _,rfl⟩,⟨_,rfl,wke_refl _,rfl⟩,⟨_,rfl,wke_refl _,rfl⟩,⟨_,rfl,wke_refl _,rfl⟩,⟨_,rfl,wke_refl _,rfl⟩,⟨_,rfl,wke_refl _,rfl⟩,trivial⟩ rfl
    ·exfalso;have:=of_decide_eq_false h5;omega
   |some e=>
    have he0:=(enB_some he).1;conv=>whnf
    refine .lE [0,1,2,3] [0,1,2,3] (LX.rd (ly_leave kV he0) ⟨fr_T kV hX,fr_i,trivial⟩ trivial rfl) ?_;conv=>whnf
    cases hl:leB V e V.B.length with
    |none=>
     have hnx:nxt (vioL a) V=none:=by unfold nxt;rw[he];simp only;rw[hl]
     have hVU:=it_end hk hi hnx hj;subst hVU;conv=>whnf
     exact .mk _ (tH7 V X a u T.N.length) ⟨by unfold mnV;rw[he];try rfl,X,hX,hkp,rfl⟩ (vR_ _) rfl ⟨⟨_,rfl,wke_refl _,rfl⟩,⟨_,rfl,wke_refl _,rfl⟩,⟨_,rfl,wke_refl _,rfl⟩,⟨_,rfl,wke_refl _,rfl⟩,⟨_,rfl,wke_refl _,rfl⟩,⟨_,rfl,wke_refl _,rfl⟩,⟨_,rfl,wke_refl _,rfl⟩,trivial⟩ rfl
    |some r=>
     have hl0:=leB_some hl;have hnx:nxt (vioL a) V=some (V.pv r e):=by unfold nxt;rw[he];simp only;rw[hl]
     conv=>whnf
     refine .lD [0,1,2,3] [] _ (ly_pivot kV hX hl0.1 he0 (by have:=hl0.2.2.1;grind)) ?_;rintro _ _ ⟨rfl,X',hm,hkp',rfl⟩;refine⟨rfl,(fun k hk=>by cases hk),?_⟩;conv=>whnf
     exact⟨(j+1,V.pv r e,X'),Wk.go,⟨it_le hk hn hi hnx hj,by simp only[itT,hi];exact hnx,hm,hkp.trans hkp'⟩,by have:=it_le hk hn hi hnx hj;simp only;omega⟩
  ·have hN:a∈V.N:=hav.resolve_left ha;have hnx:=untL_none ha;have hVU:=it_end hk hi hnx hj;subst hVU;have eL:vioL a V=untL V a:=if_neg ha;have he:enB V (vioL a V) V.N.length=none:=by
    cases he:enB V (vioL a V) V.N.length with
    |none=>rfl
    |some e=>have h5:=(enB_some he).2.2.1;have h6:=untL_nn V a e;rw[eL]at h5;grind
   refine .lE [0,1,2,3,4,5,6] [0,1,2,3,4,5,6] (ly_vioB (u:=u) kV hVN hX ha hN (by rw[hVN];exact hu')) ?_;conv=>whnf
   refine .lE [0,1,2,3,11] [0,1,2,3,11] (LX.rdH (H:=tH 0 V X++[(4,.tab 30 3 (tQ (untL V a)))]) 5 (fun p hp=>(List.mem_append.1 hp).elim (fun q=>Nat.lt_succ_of_lt (tH_lt p q)) (fun q=>by rw[List.mem_singleton]at q;subst q;exact(by decide:4<5))) (ly_enter kV (untL_len V a) (fun j _=>bt_unt V a j)) ⟨fr_Tg kV hX rfl rfl rfl rfl,⟨_,_,_,rfl,(by rw[tQ_len,untL_len];have:=kV.nl;omega),rfl⟩,trivial⟩ trivial rfl) ?_;conv=>whnf
   rw[←eL,he];conv=>whnf
   refine bs (fun h5=> ?_) (fun h5=> ?_)
   ·conv=>whnf
    refine .mk (by kernel_rfl) ?_;conv=>whnf
    exact .mk _ (tH7 V X a u T.N.length) ⟨by unfold mnV;rw[he];try rfl,X,hX,hkp,rfl⟩ (vR_ _) rfl ⟨⟨_,rfl,wke_refl _,rfl⟩,⟨_,rfl,wke_refl _,rfl⟩,⟨_,rfl,wke_refl _,rfl⟩,⟨_,rfl,wke_refl _,rfl⟩,⟨_,rfl,wke_refl _,rfl⟩,⟨_,rfl,wke_refl _,rfl⟩,⟨_,rfl,wke_refl _,rfl⟩,trivial⟩ rfl
   ·exfalso;have:=of_decide_eq_false h5;omega
 ·exfalso;have:=of_decide_eq_false h1;omega
end Go.Proofs.YthdoopaenanibaaGreatDoor.Lf
