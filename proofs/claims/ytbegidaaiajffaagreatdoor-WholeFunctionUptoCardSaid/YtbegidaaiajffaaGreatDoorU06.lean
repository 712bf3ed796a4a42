/- Texts LgO LgP LgQ LgS LgT LgU LgV LgW LgX LmA LmB LqA LrA LrB LrC LqB LqC LqD LqE LqF LqG LqH LqI LrD LrE LrF LrG LrH LrI of this proof, in this order. -/
import Derived.Test.YtbegidaaiajffaaGreatDoorU05
import Derived.Lib.ItoaNum
import Derived.Maps.OwnIn
import Derived.Laws.EntriesVeiled
import Derived.WideMake
set_option linter.unusedVariables false
set_option linter.unusedSimpArgs false
set_option maxRecDepth 100000
set_option maxHeartbeats 4000000
namespace Go.Proofs.YtbegidaaiajffaaGreatDoor.Lf
open Go.RowKit Nt
abbrev bysD (raw:List Nat):D:= .sl 1 (raw.map fun b=>[.lit (.int .u8 (b:Nat))])
abbrev fdH (raw:List Nat)(a:Nat):List (Nat×Ent):=[(0,.box 144 [.d (bysD raw),.d (.lit (.int .i64 (a:Nat)))])]
structure RawOk (raw:List Nat):Prop where
 len:raw.length≤1000000
 by_:∀b∈raw,b<256
theorem lx_new2 {raw:List Nat}(h:RawOk raw):LX Tryz.prog 54 [.a (.d (bysD raw))] [] fun v H=>v= .a (.ptr 2 0)∧H=[(2,.box 144 [.d (bysD raw),.d (.lit (.int .i64 (0:Nat)))])]:=by
 have hl:=h.len;refine LX_run (m:=0) (n0:=0) mix Tryz.func54 rfl rfl rfl rfl ?_;conv=>whnf
 refine .own ?_;conv=>whnf
 refine .mk (raw.map fun b=>[.lit (.int .u8 (b:Nat))]) rfl rfl (by simp;omega) ?_;conv=>whnf
 exact⟨_,_,⟨rfl,rfl⟩,vR_ _,rfl,⟨⟨_,rfl,⟨_,rfl,WkA.own,aR_ _,trivial⟩,rfl⟩,trivial⟩,rfl⟩
theorem all2_dd {γ γ':Gh}{h h':Hp}{M:MS}{w:World}:∀{ds:List D} {vs:List Value},All2 (RdA γ h M w) (ds.map A.d) vs→All2 (RdA γ' h' M w) (ds.map A.d) vs
 |[],[],_=>trivial
 |d::ds,v::vs,k=>⟨k.1,all2_dd k.2⟩
 |[],_::_,k=>k.elim
 |_::_,[],k=>k.elim
theorem LC.key0 {P:Program}{F:FuncId}{args:List V}{j:Nat}{t:TypeId}{ds:List D}(hc:LC P F args [] (.a (.ptr j 0)) [(j,.box t (ds.map A.d))]):LC P F args [] (.a (.ptr 0 0)) [(0,.box t (ds.map A.d))]:=by
 intro γ M w rs hr ha;refine cM (hc γ M w rs hr ha) ?_;rintro e w' ⟨r,γ',M',h1,h2,h3,h4⟩
 have hl0:∀key e',look [(0,Ent.box t (ds.map A.d))] key=some e'→key=0∧e'= .box t (ds.map A.d):=fun key e' h=>by
  simp only[look]at h;split at h
  ·injection h with h;exact⟨by omega,h.symm⟩
  ·cases h
 have hlj:look [(j,Ent.box t (ds.map A.d))] j=some (.box t (ds.map A.d)):=by simp[look]
 have ho:∀key b i,Owns (fun _=>γ' j) (look [(0,Ent.box t (ds.map A.d))]) key b i→Owns γ' (look [(j,Ent.box t (ds.map A.d))]) j b i:=fun key b i h=>by
  unfold Owns at h
  cases h5:look [(0,Ent.box t (ds.map A.d))] key with
  |none=>rw[h5]at h;exact h.elim
  |some e'=>
   obtain⟨rfl,rfl⟩:=hl0 key e' h5;rw[h5]at h;simp only[Owns,hlj];exact h
 refine⟨r,fun _=>γ' j,M',h1,⟨fun key e' h=> ?_,fun key b i h=>h2.own j b i (ho key b i h),fun k1 k2 b l1 l2 _ _=> ?_,h2.u32,h2.dom,h2.glb⟩,?_,⟨h4.os,h4.tape,h4.output,h4.size,h4.fx,h4.other,h4.keep,fun key b i h hb=>h4.new j b i (ho key b i h) hb,fun key e h=>by simp[look]at h⟩⟩
 ·obtain⟨rfl,rfl⟩:=hl0 key e' h;obtain⟨g,vs,q1,q2,q3⟩:=h2.ent j _ hlj;exact⟨g,vs,q1,q2,all2_dd q3⟩
 ·cases h5:look [(0,Ent.box t (ds.map A.d))] k1 with
  |none=>rw[h5]at l1;cases l1
  |some e1=>
   cases h6:look [(0,Ent.box t (ds.map A.d))] k2 with
   |none=>rw[h6]at l2;cases l2
   |some e2=>rw[(hl0 _ _ h5).1,(hl0 _ _ h6).1]
 ·obtain⟨_,g,q1,q2⟩:=h3;exact⟨rfl,g,q1,q2⟩
theorem lx_new {raw:List Nat}(h:RawOk raw):LX Tryz.prog 54 [.a (.d (bysD raw))] [] fun v H=>v= .a (.ptr 0 0)∧H=fdH raw 0:=by
 obtain⟨v,H,⟨rfl,rfl⟩,hc⟩:=lx_new2 h;exact⟨_,_,⟨rfl,rfl⟩,LC.key0 (ds:=[bysD raw,.lit (.int .i64 (0:Nat))]) hc⟩
theorem lx_next {raw:List Nat}{a n:Nat}(h:RawOk raw)(ha:a≤raw.length)(hn:1≤n∧n≤9):∃a' m:Nat,a'≤raw.length∧m<n∧LX Tryz.prog 96 [.a (.ptr 0 0),vl (.int .i64 (n:Nat))] (fdH raw a) fun v H=>v=vl (.int .i64 (m:Nat))∧H=fdH raw a':=by
 have hl:=h.len;rcases Nat.lt_or_ge a raw.length with h1|h1
 ·obtain⟨b,hb⟩:=at_some h1;have hbb:=h.by_ b (mG_ hb);refine⟨a+1,b % n,h1,Nat.mod_lt _ (by omega),?_⟩;have hw:IntKind.i64.wrap ((a:Int)+1)=((a+1:Nat):Int):=by rw[wr64 (by omega) (by omega)];omega
  have hw2:IntKind.i64.wrap (((a+1:Nat):Int)-1)=(a:Int):=by rw[wr64 (by omega) (by omega)];omega
  have hw3:IntKind.i64.wrap (b:Int)=(b:Int):=wr64 (by omega) (by omega);obtain rfl|rfl|rfl|rfl|rfl|rfl|rfl|rfl|rfl:n=1∨n=2∨n=3∨n=4∨n=5∨n=6∨n=7∨n=8∨n=9:=by omega
  all_goals refine LX_run (m:=1) (n0:=1) mix Tryz.func96 rfl rfl rfl rfl ?_
            conv=>whnf
  all_goals refine bF (decide_eq_false (by simp;omega)) ?_
            conv=>whnf
  all_goals refine .mk (by kernel_rfl) ?_
            conv=>whnf
  all_goals rw[hw,hw2]
  all_goals refine .mk (a) ([.lit (.int .u8 (b:Nat))]) (rfl) (at_map hb) ?_
            conv=>whnf
  all_goals conv=>whnf
  all_goals refine .mk _ ⟨by decide,rfl⟩ rfl ?_
  all_goals conv=>whnf
  all_goals refine .mk (by kernel_rfl) ?_
            conv=>whnf
  all_goals exact⟨_,_,⟨rfl,rfl⟩,WkV.int (by rw[hw3];rfl),rfl,⟨⟨_,rfl,wke_refl _,rfl⟩,trivial⟩,rfl⟩
 ·refine⟨a,0,ha,by omega,?_⟩;refine LX_run (m:=1) (n0:=1) mix Tryz.func96 rfl rfl rfl rfl ?_;conv=>whnf
  refine bT (decide_eq_true (by simp;omega)) ?_;conv=>whnf
  refine .mk (by kernel_rfl) ?_;conv=>whnf
  exact⟨_,_,⟨rfl,rfl⟩,vR_ _,rfl,⟨⟨_,rfl,wke_refl _,rfl⟩,trivial⟩,rfl⟩
theorem frac_b {z d:Int}(hz:z.natAbs≤2^3)(hd:d=1∨d=2∨d=4):Bt 5 ((z:Rat)/(d:Rat)):=by
 have h1:Bt 3 (z:Rat):=Bt.int hz;have h2:Bt 2 (d:Rat):=Bt.int (by rcases hd with rfl|rfl|rfl<;>decide);exact h1.div h2 (by rcases hd with rfl|rfl|rfl<;>decide)
theorem lx_number {raw:List Nat}{a:Nat}(h:RawOk raw)(ha:a≤raw.length):∃(a':Nat) (q:Rat),a'≤raw.length∧Bt 5 q∧LX Tryz.prog 55 [.a (.ptr 0 0)] (fdH raw a) fun v H=>v=ratV q∧H=fdH raw a':=by
 obtain⟨a1,m1,h1,h2,c1⟩:=lx_next (n:=9) h ha (by omega);obtain⟨a2,m2,h3,h4,c2⟩:=lx_next (n:=4) h h1 (by omega);have hw:IntKind.i64.wrap ((m1:Int)-4)=(m1:Int)-4:=wr64 (by omega) (by omega);have hz:((m1:Int)-4).natAbs≤2^3:=by omega
 have go:∀d:Int,(d=1∨d=2∨d=4)→∃(a':Nat) (q:Rat),q=(((m1:Int)-4:Int):Rat)/(d:Rat)∧a'≤raw.length∧Bt 5 q∧a'=a2:=fun d hd=>⟨a2,_,rfl,h3,frac_b hz hd,rfl⟩;obtain⟨d,hd,hm⟩:∃d:Int,(d=1∨d=2∨d=4)∧((m2=0∧d=1)∨(m2=1∧d=1)∨(m2=2∧d=2)∨(m2=3∧d=4)):=by
  obtain e|e|e|e:m2=0∨m2=1∨m2=2∨m2=3:=by omega
  ·exact⟨1,by omega,by omega⟩
  ·exact⟨1,by omega,by omega⟩
  ·exact⟨2,by omega,by omega⟩
  ·exact⟨4,by omega,by omega⟩
 refine⟨a2,_,h3,frac_b hz hd,?_⟩;obtain⟨rfl,rfl⟩|⟨rfl,rfl⟩|⟨rfl,rfl⟩|⟨rfl,rfl⟩:=hm
 all_goals refine LX_run (m:=1) (n0:=1) mix Tryz.func55 rfl rfl rfl rfl ?_
           conv=>whnf
 all_goals refine .l [0] (c1) ?_
           conv=>whnf
 all_goals refine .l [0] (c2) ?_
           conv=>whnf
 all_goals rw[hw]
 ·refine .c (lx_zfrac (z:=1) (by omega) (by omega) (by omega) (by omega) (by omega)) ?_;conv=>whnf
  exact⟨_,_,⟨rfl,rfl⟩,vR_ _,rfl,⟨⟨_,rfl,wke_refl _,rfl⟩,trivial⟩,rfl⟩
 ·refine .c (lx_zfrac (z:=1) (by omega) (by omega) (by omega) (by omega) (by omega)) ?_;conv=>whnf
  exact⟨_,_,⟨rfl,rfl⟩,vR_ _,rfl,⟨⟨_,rfl,wke_refl _,rfl⟩,trivial⟩,rfl⟩
 ·refine .c (lx_zfrac (z:=2) (by omega) (by omega) (by omega) (by omega) (by omega)) ?_;conv=>whnf
  exact⟨_,_,⟨rfl,rfl⟩,vR_ _,rfl,⟨⟨_,rfl,wke_refl _,rfl⟩,trivial⟩,rfl⟩
 ·refine .c (lx_zfrac (z:=4) (by omega) (by omega) (by omega) (by omega) (by omega)) ?_;conv=>whnf
  exact⟨_,_,⟨rfl,rfl⟩,vR_ _,rfl,⟨⟨_,rfl,wke_refl _,rfl⟩,trivial⟩,rfl⟩
structure FsB (n:Int)(fs:List Af):Prop where
 fb:∀f∈fs,FB 5 n f
structure GrB (g:Gr):Prop where
 n1:1≤g.n
 n2:g.n≤3
 u1:g.us.length≤4
 o1:1≤g.os.length
 o2:g.os.length≤3
 us:∀(j:Nat) (f:Af),g.us[j]? =some f→FB 5 (g.n+j:Nat) f
 os:∀f∈g.os,FB 5 (g.n+g.us.length:Nat) f
structure RgB (r:Rg)(n:Nat):Prop where
 lo:r.lo.length=n
 hi:r.hi.length=n
 rl:r.rs.length≤2
 sl:∀q∈r.lo,Bt 11 q
 sh:∀q∈r.hi,Bt 11 q
 le:∀(i:Nat) (a b:Rat),r.lo[i]? =some a→r.hi[i]? =some b→a≤b
 rs:∀f∈r.rs,FB 5 n f
structure QuB (q:Qu):Prop where
 g:GrB q.g
 r:RgB q.r q.g.n
 goal:FB 5 (q.g.n+q.g.us.length:Nat) q.goal
def cU (n:Nat)(P:List Dc):Nat:=((List.range n).filter fun u:Nat=>seenB P (u:Int)).length
structure PathI (q:Qu)(P:List Dc):Prop where
 fit:∀d∈P,fitB q d=true
 tw:twB P=false
 c4:cntI P≤4
 len:P.length=cU q.g.us.length P+cntI P
 bt:∀d∈P,Bt (16^(cntI P+1)) d.at_.q
 sm:∀d∈P,d.at_.sm
structure Ro where
 k:Int
 i:Int
 l:Int
 h:Int
deriving DecidableEq
structure Mu where
 r:Ro
 c:Rat
theorem numS0_A:(numS 0).A=[.d (.sl 4 []),.d (.lit (.bool false)),.d (.nat 0),.d (.nat 0)]:=by
 show A.d _::(can 0).A=_;rw[can0];rfl
def m1:Rat:=((-1:Int):Rat)
theorem m1_b:Bt 0 m1:=Bt.int (by decide)
def lmOk (s:Sp)(n u:Int)(up:Bool):Bool:=decide (1≤n)&&decide (n≤(s.ls.length:Int))&&decide ((atL s.ls n).u=u)&&((atL s.ls n).up==up)
def lmV (s:Sp)(n u:Int)(up:Bool):Rat:=bif lmOk s n u up then vAt s.ls n else 0
def RoU (r:Ro):Prop:=(r.k=5∧r.l=0∧r.h=0)∨(r.k=8∧1≤r.l∧r.h=0)∨(r.k=10∧r.l=0∧1≤r.h)∨(r.k=12∧r.l=0∧1≤r.h)∨(r.k=13∧1≤r.l∧1≤r.h)
structure RoV (s:Sp)(B:Nat)(r:Ro):Prop where
 u:RoU r
 i0:0≤r.i
 i1:r.i<s.q.g.us.length
 l:r.l≤1000000
 h:r.h≤1000000
 bl:Bt B (lmV s r.l r.i false)
 bu:Bt B (lmV s r.h r.i true)
def q1:Rat:=((1:Int):Rat)
theorem q1_b:Bt 0 q1:=Bt.int (by decide)
theorem TsOk.ext {n n':Int}:∀{a b:List Tm} {lo lo':Int},TsOk n lo a→TsOk n' lo' b→(∀w,cof a w=cof b w)→a=b
 |[],[],_,_,_,_,_=>rfl
 |[],t::b,_,_,_,hb,h=>by
  have:=h t.v;rw[(hb.cof_mem t (by simp)).1]at this;exact absurd this.symm hb.2.2.1
 |t::a,[],_,_,ha,_,h=>by
  have:=h t.v;rw[(ha.cof_mem t (by simp)).1]at this;exact absurd this ha.2.2.1
 |t::a,u::b,lo,lo',ha,hb,h=>by
  have e1:t.v=u.v:=by
   rcases Int.lt_trichotomy t.v u.v with h1|h1|h1
   ·have:=h t.v;rw[(ha.cof_mem t (by simp)).1,cof,if_neg (by omega),hb.2.2.2.cof_lt (by omega),Rat.zero_add]at this;exact absurd this ha.2.2.1
   ·exact h1
   ·have:=h u.v;rw[(hb.cof_mem u (by simp)).1,cof,if_neg (by omega),ha.2.2.2.cof_lt (by omega),Rat.zero_add]at this;exact absurd this.symm hb.2.2.1
  have e2:t.q=u.q:=by
   have:=h t.v;rw[(ha.cof_mem t (by simp)).1,e1,(hb.cof_mem u (by simp)).1]at this;exact this
  have e3:t=u:=by obtain⟨a,b⟩:=t;obtain⟨c,d⟩:=u;simp only at e1 e2;rw[e1,e2]
  subst e3
  rw[TsOk.ext ha.2.2.2 hb.2.2.2 fun w=>by
   have:=h w;rw[cof,cof]at this
   by_cases hw:t.v=w
   ·rw[ha.2.2.2.cof_lt (by omega),hb.2.2.2.cof_lt (by omega)]
   ·rw[if_neg hw]at this;simpa [Rat.zero_add]using this]
theorem Af.ext' {n n':Int}{f g:Af}(hf:TsOk n 0 f.ts)(hg:TsOk n' 0 g.ts)(h:∀w,cof f.ts w=cof g.ts w)(hc:f.c=g.c):f=g:=by
 obtain⟨a,b⟩:=f;obtain⟨c,d⟩:=g;simp only at hc hf hg h;subst hc;rw[TsOk.ext hf hg h]
def mrgT (c:Rat):List Tm→List Tm→List Tm
 |[],[]=>[]
 |[],b::ys=>nz1 ⟨b.v,b.q*c⟩++mrgT c [] ys
 |a::xs,[]=>nz1 a++mrgT c xs []
 |a::xs,b::ys=>if a.v<b.v then nz1 a++mrgT c xs (b::ys)else if b.v<a.v then nz1 ⟨b.v,b.q*c⟩++mrgT c (a::xs) ys else nz1 ⟨a.v,a.q+b.q*c⟩++mrgT c xs ys
 termination_by xs ys=>xs.length+ys.length
theorem cof_mrg (c:Rat)(w:Int):∀xs ys:List Tm,cof (mrgT c xs ys) w=cof xs w+cof ys w*c
 |[],[]=>by rw[mrgT];simp[cof,Rat.add_zero]
 |[],b::ys=>by
  rw[mrgT,cof_app,cof_nz1,cof_mrg c w [] ys,cof,cof];split<;>grind
 |a::xs,[]=>by
  rw[mrgT,cof_app,cof_nz1,cof_mrg c w xs [],cof,cof];split<;>grind
 |a::xs,b::ys=>by
  rw[mrgT];split
  ·rw[cof_app,cof_nz1,cof_mrg c w xs (b::ys)];simp only[cof];split<;>grind
  ·split
   ·rw[cof_app,cof_nz1,cof_mrg c w (a::xs) ys];simp only[cof];split<;>grind
   ·rw[cof_app,cof_nz1,cof_mrg c w xs ys];have e:b.v=a.v:=by omega
    simp only[cof,e];split<;>grind
 termination_by xs ys=>xs.length+ys.length
theorem TsOk.mrg {n:Int}(c:Rat):∀{xs ys:List Tm} {lo:Int},TsOk n lo xs→TsOk n lo ys→TsOk n lo (mrgT c xs ys)
 |[],[],lo,_,_=>by rw[mrgT];trivial
 |[],b::ys,lo,ha,hb=>by
  rw[mrgT];exact TsOk.nz (TsOk.mrg c (xs:=[]) trivial hb.2.2.2) hb.1 hb.2.1
 |a::xs,[],lo,ha,hb=>by
  rw[mrgT];obtain⟨av,aq⟩:=a;exact TsOk.nz (TsOk.mrg c (ys:=[]) ha.2.2.2 trivial) ha.1 ha.2.1
 |a::xs,b::ys,lo,ha,hb=>by
  rw[mrgT];obtain⟨av,aq⟩:=a;split
  ·rename_i h;exact TsOk.nz (TsOk.mrg c ha.2.2.2 ⟨by simp only at h ⊢;omega,hb.2⟩) ha.1 ha.2.1
  ·split
   ·rename_i h;exact TsOk.nz (TsOk.mrg c (xs:=⟨av,aq⟩::xs) ⟨by simp only at h ⊢;omega,ha.2⟩ hb.2.2.2) hb.1 hb.2.1
   ·rename_i h h';simp only at h h';have e:av=b.v:=by omega
    exact TsOk.nz (TsOk.mrg c ha.2.2.2 (by simp only;rw[e];exact hb.2.2.2)) ha.1 ha.2.1
 termination_by xs ys=>xs.length+ys.length
theorem mrg_eq {n:Int}{f g:Af}{c:Rat}{k l:Nat}(hf:FB k n f)(hg:FB l n g):(⟨mrgT c f.ts g.ts,f.c+g.c*c⟩:Af)=addS f (scaleS g c):=
 Af.ext' (n:=n) (n':=n) (TsOk.mrg c hf.ts hg.ts) (ok_fold (fun t ht=>let h:=(ok_scale c hg.ts).cof_mem t ht;⟨h.2.1,h.2.2.1⟩) hf.ts)
  (fun w=>by rw[cof_mrg,addS,cof_fold,scaleS,cof_scale]) rfl
abbrev ptH (l:List Tm):List (Nat×Ent):=[(0,.arr 107 4 (l.map Tm.D).length)]
theorem lx_put {l:List Tm}{c q:Rat}{v:Int}(hl:l.length≤1000000)(hq:Sz q):
  LX Tryz.prog 137 [.agg (.own 0 4 (l.map Tm.D)::(can c).A),vl (.int .i64 v),.agg (can q).A] (ptH l) fun r H=>r= .agg (.own 0 4 ((l++nz1 ⟨v,q⟩).map Tm.D)::(can c).A)∧H=ptH (l++nz1 ⟨v,q⟩):=by
 refine LX_run (m:=1) (n0:=1) mix Tryz.func137 rfl rfl rfl rfl ?_;conv=>whnf
 refine .c (lx_rsign (.c hq)) ?_;conv=>whnf
 refine bs (fun h1=> ?_) (fun h1=> ?_)
 ·conv=>whnf
  have h0:¬q=0:=by simpa [Int.sign_eq_zero_iff_zero]using h1
  have e:l++nz1 ⟨v,q⟩=l++[⟨v,q⟩]:=by rw[nz1,if_neg h0]
  rw[e];refine .c (lx_rcanon (.c hq)) ?_;conv=>whnf
  refine .mk ((l++[(⟨v,q⟩:Tm)]).map Tm.D) rfl (by rw[List.map_append];rfl) (by simp;omega) ?_;conv=>whnf
  refine .mk (by kernel_rfl) ?_;conv=>whnf
  exact⟨_,_,⟨rfl,rfl⟩,vR_ _,rfl,⟨⟨_,rfl,wke_refl _,rfl⟩,trivial⟩,rfl⟩
 ·conv=>whnf
  have h0:q=0:=by simpa [Int.sign_eq_zero_iff_zero]using h1
  have e:l++nz1 ⟨v,q⟩=l:=by rw[nz1,if_pos h0,List.append_nil]
  rw[e];exact⟨_,_,⟨rfl,rfl⟩,vR_ _,rfl,⟨⟨_,rfl,wke_refl _,rfl⟩,trivial⟩,rfl⟩
structure MgI (R:List Tm)(c:Rat)(k l:Nat)(o xs ys:List Tm):Prop where
 eq:o++mrgT c xs ys=R
 x:∀t∈xs,Bt k t.q
 y:∀t∈ys,Bt l t.q
 n:o.length+xs.length+ys.length≤900000
theorem pl_merge {f g:Af}{n:Int}{c:Rat}{k l m:Nat}(h:FB k n f)(h':FB l n g)(hc:Bt m c)(h0:0≤n)(hn:n≤100000)(hk:k+l+m+1≤1000000000):
  LV Tryz.prog 82 [.agg f.A,.agg g.A,.agg (can c).A] (.agg (addS f (scaleS g c)).A):=by
 have hlf:=h.ts.len h0;have hlg:=h'.ts.len h0;have hcz:Sz c:=hc.mono (by omega);rw[←mrg_eq h h'];refine LX_run (m:=0) (n0:=0) mix Tryz.func82 rfl rfl rfl rfl ?_;conv=>whnf
 refine .c (lx_rmul (.c (h'.c.mono (by omega))) (.c hcz)) ?_;conv=>whnf
 refine .c (lx_radd (.c (h.c.mono (by omega))) (.c ((h'.c.mul hc).mono (by omega)))) ?_;conv=>whnf
 refine .mk (by kernel_rfl) ?_;conv=>whnf
 refine .mk (by kernel_rfl) ?_;conv=>whnf
 refine .mk (List Tm×List Tm×List Tm) (fun(o,xs,ys)=>⟨[(9,.a (.d (.sl 4 (ys.map Tm.D)))),(8,.a (.d (.sl 4 (xs.map Tm.D)))),(7,.a (.ptr 4 0)),(6,.a (.ptr 3 0)),(5,.a (.ptr 2 0))],
  [(2,.box 56 (can c).A),(3,.box 79 [.d (.lit (.slice none 0 0)),.d (.lit (.bool false)),.d (.nat 0),.d (.nat 0)]),(4,.box 79 (.own 5 4 (o.map Tm.D)::(can (f.c+g.c*c)).A)),(5,.arr 107 4 (o.map Tm.D).length)],6⟩)
  (fun b=>MgI (mrgT c f.ts g.ts) c k l b.1 b.2.1 b.2.2) (fun b=>b.2.1.length+b.2.2.length) ([],f.ts,g.ts)
  (Wk.trans (Wk.ownB 4 5 0 107 4 rfl rfl rfl) Wk.go) ⟨rfl,fun t ht=>(h.tm t ht).2.2.2,fun t ht=>(h'.tm t ht).2.2.2,by simp only[List.length_nil];omega⟩ fun⟨o,xs,ys⟩ hb=> ?_
 obtain⟨he,hx,hy,hl⟩:=hb;simp only at he hx hy hl;have hz:∀t:Tm,(nz1 t).length≤1:=fun t=>by unfold nz1;split<;>simp
 have lp:∀(t:Tm) (ts:List Tm),decide (((List.map Tm.D (t::ts)).length:Int)>0)=true:=fun t ts=>decide_eq_true (by rw[List.length_map,List.length_cons];omega);have lt:∀(t:Tm) (ts:List Tm),((t::ts).map Tm.D).length=ts.length+1:=fun t ts=>by rw[List.length_map,List.length_cons]
 cases xs with
 |nil=>cases ys with
  |nil=>
   conv=>whnf
   rw[mrgT,List.append_nil]at he;exact .s ⟨by rw[←he];rfl,rfl⟩
  |cons b ys=>
   have bb:=hy b (by simp);have bz:=(bb.mul hc);conv=>whnf
   refine bT (lp b ys) ?_;conv=>whnf
   refine .mk (by kernel_rfl) ?_;conv=>whnf
   refine .mk (by kernel_rfl) ?_;conv=>whnf
   refine .mk (0) (b.D) (rfl) (rfl) ?_;conv=>whnf
   conv=>whnf
   refine .mk (0) (b.D) (rfl) (rfl) ?_;conv=>whnf
   conv=>whnf
   refine .c (lx_rmul (.c (bb.mono (by omega))) (.c hcz)) ?_;conv=>whnf
   refine Cn.o [5] (lx_put (l:=o) (v:=b.v) (by omega) (bz.mono (by omega))) ?_;conv=>whnf
   refine .mk (by kernel_rfl) ?_;conv=>whnf
   refine .mk 1 (ys.length+1) (ys.map Tm.D) rfl (by rw[lt];rfl) (by omega) (by rw[lt];omega) (by rw[List.take_of_length_le (by rw[lt];omega)];rfl) ?_;conv=>whnf
   have z1:=hz ⟨b.v,b.q*c⟩;exact⟨(o++nz1 ⟨b.v,b.q*c⟩,[],ys),Wk.go,⟨by rw[List.append_assoc,←he,mrgT],hx,fun t ht=>hy t (by simp[ht]),by simp only[List.length_append,List.length_cons]at *;omega⟩,by simp only[List.length_cons];omega⟩
 |cons a xs=>cases ys with
  |nil=>
   have ab:=hx a (by simp);conv=>whnf
   refine bT (lp a xs) ?_;conv=>whnf
   refine .mk (by kernel_rfl) ?_;conv=>whnf
   refine .mk (0) (a.D) (rfl) (rfl) ?_;conv=>whnf
   conv=>whnf
   refine .mk (0) (a.D) (rfl) (rfl) ?_;conv=>whnf
   conv=>whnf
   refine Cn.o [5] (lx_put (l:=o) (v:=a.v) (by omega) (ab.mono (by omega))) ?_;conv=>whnf
   refine .mk (by kernel_rfl) ?_;conv=>whnf
   refine .mk 1 (xs.length+1) (xs.map Tm.D) rfl (by rw[lt];rfl) (by omega) (by rw[lt];omega) (by rw[List.take_of_length_le (by rw[lt];omega)];rfl) ?_;conv=>whnf
   have z1:=hz a;exact⟨(o++nz1 a,xs,[]),Wk.go,⟨by rw[List.append_assoc,←he,mrgT],fun t ht=>hx t (by simp[ht]),hy,by simp only[List.length_append,List.length_cons]at *;omega⟩,by simp only[List.length_cons];omega⟩
  |cons b ys=>
   have ab:=hx a (by simp);have bb:=hy b (by simp);have bz:=(bb.mul hc);have az:=(ab.add bz);conv=>whnf
   refine bT (lp a xs) ?_;conv=>whnf
   refine bT (lp a xs) ?_;conv=>whnf
   refine .mk (0) (a.D) (rfl) (rfl) ?_;conv=>whnf
   conv=>whnf
   refine .mk (0) (b.D) (rfl) (rfl) ?_;conv=>whnf
   conv=>whnf
   refine bs (fun h1=> ?_) (fun h1=> ?_)
   ·conv=>whnf
    refine .mk (by kernel_rfl) ?_;conv=>whnf
    have h1':a.v<b.v:=by simpa using h1
    refine .mk (0) (a.D) (rfl) (rfl) ?_;conv=>whnf
    conv=>whnf
    refine .mk (0) (a.D) (rfl) (rfl) ?_;conv=>whnf
    conv=>whnf
    refine Cn.o [5] (lx_put (l:=o) (v:=a.v) (by omega) (ab.mono (by omega))) ?_;conv=>whnf
    refine .mk (by kernel_rfl) ?_;conv=>whnf
    refine .mk 1 (xs.length+1) (xs.map Tm.D) rfl (by rw[lt];rfl) (by omega) (by rw[lt];omega) (by rw[List.take_of_length_le (by rw[lt];omega)];rfl) ?_;conv=>whnf
    have z1:=hz a;exact⟨(o++nz1 a,xs,b::ys),Wk.go,⟨by rw[List.append_assoc,←he,mrgT.eq_4,if_pos h1'],fun t ht=>hx t (by simp[ht]),hy,by simp only[List.length_append,List.length_cons]at *;omega⟩,by simp only[List.length_cons];omega⟩
   ·conv=>whnf
    refine .mk (by kernel_rfl) ?_;conv=>whnf
    have h1':¬a.v<b.v:=by simpa using h1
    refine .mk (0) (b.D) (rfl) (rfl) ?_;conv=>whnf
    conv=>whnf
    refine .mk (0) (a.D) (rfl) (rfl) ?_;conv=>whnf
    conv=>whnf
    refine bs (fun h2=> ?_) (fun h2=> ?_)
    ·conv=>whnf
     refine .mk (by kernel_rfl) ?_;conv=>whnf
     have h2':b.v<a.v:=by simpa using h2
     refine .mk (0) (b.D) (rfl) (rfl) ?_;conv=>whnf
     conv=>whnf
     refine .mk (0) (b.D) (rfl) (rfl) ?_;conv=>whnf
     conv=>whnf
     refine .c (lx_rmul (.c (bb.mono (by omega))) (.c hcz)) ?_;conv=>whnf
     refine Cn.o [5] (lx_put (l:=o) (v:=b.v) (by omega) (bz.mono (by omega))) ?_;conv=>whnf
     refine .mk (by kernel_rfl) ?_;conv=>whnf
     refine .mk 1 (ys.length+1) (ys.map Tm.D) rfl (by rw[lt];rfl) (by omega) (by rw[lt];omega) (by rw[List.take_of_length_le (by rw[lt];omega)];rfl) ?_;conv=>whnf
     have z1:=hz ⟨b.v,b.q*c⟩;exact⟨(o++nz1 ⟨b.v,b.q*c⟩,a::xs,ys),Wk.go,⟨by rw[List.append_assoc,←he,mrgT.eq_4,if_neg h1',if_pos h2'],hx,fun t ht=>hy t (by simp[ht]),by simp only[List.length_append,List.length_cons]at *;omega⟩,by simp only[List.length_cons];omega⟩
    ·conv=>whnf
     refine .mk (by kernel_rfl) ?_;conv=>whnf
     have h2':¬b.v<a.v:=by simpa using h2
     refine .mk (0) (a.D) (rfl) (rfl) ?_;conv=>whnf
     conv=>whnf
     refine .mk (0) (a.D) (rfl) (rfl) ?_;conv=>whnf
     conv=>whnf
     refine .mk (0) (b.D) (rfl) (rfl) ?_;conv=>whnf
     conv=>whnf
     refine .c (lx_rmul (.c (bb.mono (by omega))) (.c hcz)) ?_;conv=>whnf
     refine .c (lx_radd (.c (ab.mono (by omega))) (.c (bz.mono (by omega)))) ?_;conv=>whnf
     refine Cn.o [5] (lx_put (l:=o) (v:=a.v) (by omega) (az.mono (by omega))) ?_;conv=>whnf
     refine .mk (by kernel_rfl) ?_;conv=>whnf
     refine .mk 1 (xs.length+1) (xs.map Tm.D) rfl (by rw[lt];rfl) (by omega) (by rw[lt];omega) (by rw[List.take_of_length_le (by rw[lt];omega)];rfl) ?_;conv=>whnf
     refine .mk 1 (ys.length+1) (ys.map Tm.D) rfl (by rw[lt];rfl) (by omega) (by rw[lt];omega) (by rw[List.take_of_length_le (by rw[lt];omega)];rfl) ?_;conv=>whnf
     refine .mk (by kernel_rfl) ?_;conv=>whnf
     have z1:=hz ⟨a.v,a.q+b.q*c⟩;exact⟨(o++nz1 ⟨a.v,a.q+b.q*c⟩,xs,ys),Wk.go,⟨by rw[List.append_assoc,←he,mrgT.eq_4,if_neg h1',if_neg h2'],fun t ht=>hx t (by simp[ht]),fun t ht=>hy t (by simp[ht]),by simp only[List.length_append,List.length_cons]at *;omega⟩,by simp only[List.length_cons];omega⟩
theorem lx_rofm:LV Tryz.prog 47 [vl (.int .i64 (-1))] (ratV m1):=lx_rof (z:= -1) (by decide) (by decide)
theorem lx_rofp:LV Tryz.prog 47 [vl (.int .i64 1)] (ratV q1):=lx_rof (z:=1) (by decide) (by decide)
theorem scale_one {n:Int}{k:Nat}{f:Af}(h:FB k n f):scaleS f q1=f:=
 Af.ext' (n:=n) (n':=n) (ok_scale _ h.ts) h.ts (fun w=>by rw[scaleS,cof_scale];exact Rat.mul_one _) (Rat.mul_one _)
theorem add_zeroL {n:Int}{k:Nat}{f:Af}(h:FB k n f):addS (numS 0) f=f:=
 Af.ext' (n:=n) (n':=n) (ok_fold (fun t ht=>let q:=h.tm t ht;⟨q.1,q.2.1⟩) trivial) h.ts (fun w=>by rw[addS,cof_fold];exact Rat.zero_add _) (Rat.zero_add _)
theorem pl_add {f g:Af}{n:Int}{k l:Nat}(h:FB k n f)(h':FB l n g)(h0:0≤n)(hn:n≤100000)(hk:k+l+1≤1000000000):LV Tryz.prog 65 [.agg f.A,.agg g.A] (.agg (addS f g).A):=by
 refine LX_run (m:=0) (n0:=0) mix Tryz.func65 rfl rfl rfl rfl ?_;conv=>whnf
 refine .c (lx_rofp) ?_;conv=>whnf
 refine .c (pl_merge (c:=q1) h h' q1_b h0 hn (by omega)) ?_;conv=>whnf
 refine .mk (by kernel_rfl) ?_;conv=>whnf
 exact .q ⟨by rw[scale_one h'],rfl⟩
theorem pl_sub {f g:Af}{n:Int}{k l:Nat}(h:FB k n f)(h':FB l n g)(h0:0≤n)(hn:n≤100000)(hk:k+l+1≤1000000000):LV Tryz.prog 116 [.agg f.A,.agg g.A] (.agg (subS f g).A):=by
 refine LX_run (m:=0) (n0:=0) mix Tryz.func116 rfl rfl rfl rfl ?_;conv=>whnf
 refine .c (lx_rofm) ?_;conv=>whnf
 refine .c (pl_merge (c:=m1) h h' m1_b h0 hn (by omega)) ?_;conv=>whnf
 refine .mk (by kernel_rfl) ?_;conv=>whnf
 exact .q ⟨rfl,rfl⟩
theorem nil_A:All2 WkV [V.agg [A.d (.lit (.slice none 0 0)),.d (.lit (.bool false)),.d (.nat 0),.d (.nat 0)]] [V.agg (numS 0).A]:=⟨WkV.agg (by rw[numS0_A];exact⟨WkA.nil,aR_ _,aR_ _,aR_ _,trivial⟩),trivial⟩
theorem pl_scale {f:Af}{n:Int}{c:Rat}{k m:Nat}(h:FB k n f)(hc:Bt m c)(h0:0≤n)(hn:n≤100000)(hk:k+m+1≤1000000000):LV Tryz.prog 46 [.agg f.A,.agg (can c).A] (.agg (scaleS f c).A):=by
 refine LX_run (m:=0) (n0:=0) mix Tryz.func46 rfl rfl rfl rfl ?_;conv=>whnf
 refine Cn.as (pl_merge (FB.num (n:=n) (bt0 0)) h hc h0 hn (by omega)) rfl ⟨nil_A.1,vR_ _,vR_ _,trivial⟩ rfl rfl ?_;conv=>whnf
 exact .q ⟨by rw[add_zeroL (h.scale hc)],rfl⟩
def without (ts:List Tm)(v:Int):List Tm:=ts.filter fun t=> !(t.v==v)
theorem cof_without (v w:Int):∀ts:List Tm,cof (without ts v) w=if w=v then 0 else cof ts w
 |[]=>by simp[without,cof]
 |t::ts=>by
  have ih:=cof_without v w ts;unfold without at ih ⊢;rw[List.filter_cons]
  by_cases h:t.v=v
  ·rw[if_neg (by simp[h]),ih];split
   ·rfl
   ·rename_i hw;rw[cof,if_neg (by rw[h];exact fun e=>hw e.symm),Rat.zero_add]
  ·rw[if_pos (by simp[h]),cof,ih,cof]
   by_cases hw:w=v
   ·rw[if_pos hw,if_pos hw,if_neg (fun e=>h (e.trans hw)),Rat.zero_add]
   ·rw[if_neg hw,if_neg hw]
theorem TsOk.without {n v:Int}:∀{ts:List Tm} {lo:Int},TsOk n lo ts→TsOk n lo (Lf.without ts v)
 |[],_,_=>trivial
 |t::ts,lo,h=>by
  unfold Lf.without;rw[List.filter_cons];have ih:=TsOk.without (v:=v) h.2.2.2;split
  ·exact⟨h.1,h.2.1,h.2.2.1,ih⟩
  ·exact ih.lo (by have:=h.1;omega)
def restS (f:Af)(v:Int):Af:=⟨without f.ts v,f.c⟩
theorem FB.rest {k:Nat}{n:Int}{f:Af}(h:FB k n f)(v:Int):FB k n (restS f v):=⟨h.ts.without,fun w=>by
 rw[restS,cof_without];split
 ·exact bt0 k
 ·exact h.co w,h.c⟩
def substS (f:Af)(v:Int)(g:Af):Af:=addS (restS f v) (scaleS g (cof f.ts v))
theorem take_filter {ts:List Tm}{i:Nat}{t:Tm}(h:ts[i]? =some t)(v:Int):without (ts.take (i+1)) v=without (ts.take i) v++if t.v=v then []else [t]:=by
 rw[take_snoc h];unfold without;rw[List.filter_append,List.filter_cons]
 by_cases e:t.v=v<;>simp[e]
theorem cof_take {n lo:Int}{ts:List Tm}(h:TsOk n lo ts){i:Nat}{t:Tm}(ht:ts[i]? =some t)(v:Int):cof (ts.take (i+1)) v=if t.v=v then t.q else cof (ts.take i) v:=by
 have h2:=h.take (i+1);split
 ·rename_i e;have hm:t∈ts.take (i+1):=by rw[take_snoc ht];simp
  rw[←e,(h2.cof_mem t hm).1]
 ·rename_i e;rw[take_snoc ht,cof_app,cof,cof,if_neg e,Rat.add_zero,Rat.add_zero]
theorem pl_subst {f g:Af}{n v:Int}{k l:Nat}(h:FB k n f)(h':FB l n g)(h0:0≤n)(hn:n≤100000)(hk:k+l+k+1≤1000000000):LV Tryz.prog 173 [.agg f.A,vl (.int .i64 v),.agg g.A] (.agg (substS f v g).A):=by
 have hlf:=h.ts.len h0;have hwl:∀i,(without (f.ts.take i) v).length≤i:=fun i=>tL_ (List.length_filter_le _ _) (List.length_take_le _ _);have hlast:addS (restS f v) (scaleS g (cof f.ts v))=substS f v g:=rfl;refine LX_run (m:=0) (n0:=0) mix Tryz.func173 rfl rfl rfl rfl ?_;conv=>whnf
 refine .mk Nat (fun i=>⟨[(18,vl (.int .i64 i)),(17,vl (.int .i64 (f.ts.map Tm.D).length)),(16,.a (.d (.sl 4 (f.ts.map Tm.D)))),(8,.a (.ptr 4 0)),(7,.a (.ptr 3 0)),(6,.a (.ptr 2 0)),(5,.a (.ptr 1 0)),(1,vl (.int .i64 v))],
  [(1,.box 79 g.A),(2,.box 79 [.d (.lit (.slice none 0 0)),.d (.lit (.bool false)),.d (.nat 0),.d (.nat 0)]),(3,.box 79 (.own 5 4 ((without (f.ts.take i) v).map Tm.D)::(can f.c).A)),(4,.box 56 (can (cof (f.ts.take i) v)).A),(5,.arr 107 4 ((without (f.ts.take i) v).map Tm.D).length)],6⟩)
  (fun i=>i≤f.ts.length) (fun i=>f.ts.length-i) 0
  (Wk.trans (Wk.ownB 3 5 0 107 4 rfl rfl rfl) (by rw[show cof (f.ts.take 0) v=0 from rfl,can0];exact Wk.go)) (zL_ _) fun i hi=> ?_
 have hw:=hwl i;conv=>whnf
 refine bs (fun h1=> ?_) (fun h1=> ?_)
 ·conv=>whnf
  have h1':i<f.ts.length:=by simpa using h1
  obtain⟨t,ht⟩:=at_some h1';have tf:=take_filter ht v;have tc:=cof_take h.ts ht v;refine .mk (i) (t.D) (rfl) (at_map ht) ?_;conv=>whnf
  conv=>whnf
  refine bs (fun h2=> ?_) (fun h2=> ?_)
  ·conv=>whnf
   have h2':t.v=v:=by simpa using h2
   rw[if_pos h2',List.append_nil]at tf;rw[if_pos h2']at tc;exact⟨i+1,by rw[tf,tc];exact Wk.go,h1',by omega⟩
  ·conv=>whnf
   have h2':¬t.v=v:=by simpa using h2
   rw[if_neg h2']at tf tc;refine .mk ((without (f.ts.take i) v++[t]).map Tm.D) rfl (by rw[List.map_append];rfl) (by simp;omega) ?_;conv=>whnf
   exact⟨i+1,by rw[tf,tc];exact Wk.go,h1',by omega⟩
 ·conv=>whnf
  have e:i=f.ts.length:=by simp at h1;omega
  subst e;rw[List.take_length];refine .c (pl_merge (f:=restS f v) (h.rest v) h' (h.co v) h0 hn (by omega)) ?_;conv=>whnf
  exact .q ⟨rfl,rfl⟩
def lsum (ξ:Int→Rat):List Tm→Rat
 |[]=>0
 |t::ts=>t.q*ξ t.v+lsum ξ ts
theorem lsum_app (ξ:Int→Rat):∀a b:List Tm,lsum ξ (a++b)=lsum ξ a+lsum ξ b
 |[],b=>by simp[lsum,Rat.zero_add]
 |t::a,b=>by simp only[List.cons_append,lsum,lsum_app ξ a b,Rat.add_assoc]
theorem lsum_nz1 (ξ:Int→Rat)(t:Tm):lsum ξ (nz1 t)=t.q*ξ t.v:=by
 unfold nz1;split
 ·rename_i h;rw[h];simp[lsum]
 ·simp[lsum,Rat.add_zero]
theorem lsum_ins (ξ:Int→Rat)(v:Int)(c:Rat):∀ts:List Tm,lsum ξ (ins v c ts)=lsum ξ ts+c*ξ v
 |[]=>by simp[ins,lsum_nz1,lsum,Rat.zero_add]
 |t::ts=>by
  simp only[ins];split
  ·rename_i h;rw[lsum_app,lsum_nz1,lsum,h];grind
  ·split
   ·rw[lsum_app,lsum_nz1];grind
   ·simp only[lsum,lsum_ins ξ v c ts,Rat.add_assoc]
theorem lsum_fold (ξ:Int→Rat):∀b a:List Tm,lsum ξ (b.foldl (fun a t=>ins t.v t.q a) a)=lsum ξ a+lsum ξ b
 |[],a=>by simp[lsum,Rat.add_zero]
 |t::b,a=>by rw[List.foldl_cons,lsum_fold ξ b,lsum_ins,lsum,Rat.add_assoc]
theorem lsum_scale (ξ:Int→Rat)(c:Rat):∀ts:List Tm,lsum ξ (ts.flatMap fun t=>nz1 ⟨t.v,t.q*c⟩)=lsum ξ ts*c
 |[]=>by simp[lsum]
 |t::ts=>by
  rw[List.flatMap_cons,lsum_app,lsum_nz1,lsum_scale ξ c ts,lsum];grind
def ph (κ:Rat)(ξ:Int→Rat)(f:Af):Rat:=lsum ξ f.ts+κ*f.c
section
variable {κ:Rat} {ξ:Int→Rat}
theorem ph_add {f g:Af}:ph κ ξ (addS f g)=ph κ ξ f+ph κ ξ g:=by
 unfold ph addS;simp only[lsum_fold];grind
theorem ph_scale {f:Af}{c:Rat}:ph κ ξ (scaleS f c)=ph κ ξ f*c:=by
 unfold ph scaleS;simp only[lsum_scale];grind
theorem m1_r:((-1:Int):Rat)= -1:=by decide
theorem ph_sub {f g:Af}:ph κ ξ (subS f g)=ph κ ξ f-ph κ ξ g:=by
 rw[subS,ph_add,ph_scale,m1_r];grind
theorem ph_num {c:Rat}:ph κ ξ (numS c)=κ*c:=by
 unfold ph numS;simp[lsum,Rat.zero_add]
theorem ph_var {v:Int}:ph κ ξ (varS v)=ξ v:=by
 unfold ph varS;simp only[lsum];grind
theorem lsum_without (v:Int):∀ts:List Tm,lsum ξ (without ts v)=lsum ξ ts-cof ts v*ξ v
 |[]=>by simp[without,lsum,cof];grind
 |t::ts=>by
  have ih:=lsum_without v ts;unfold without at ih ⊢;rw[List.filter_cons]
  by_cases h:t.v=v
  ·rw[if_neg (by simp[h]),ih,lsum,cof,if_pos h,h];grind
  ·rw[if_pos (by simp[h]),lsum,ih,lsum,cof,if_neg h];grind
theorem ph_rest {f:Af}{v:Int}:ph κ ξ (restS f v)=ph κ ξ f-cof f.ts v*ξ v:=by
 unfold ph restS;simp only[lsum_without];grind
theorem ph_subst {f g:Af}{v:Int}:ph κ ξ (substS f v g)=ph κ ξ f-cof f.ts v*ξ v+cof f.ts v*ph κ ξ g:=by
 rw[substS,ph_add,ph_rest,ph_scale];grind
end
def Lv (L e:Nat)(q:Rat):Prop:=∃z:Int,q*((L^e:Nat):Rat)=(z:Rat)∧z.natAbs≤2^(30000*e)
structure LOk (L:Nat):Prop where
 pos:0<L
 le:∃b,b≤28000∧L≤2^b
section
variable {L e f:Nat} {a b:Rat}
theorem LOk.pw (h:LOk L)(e:Nat):L^e≤2^(28000*e):=by
 obtain⟨b,h1,h2⟩:=h.le;refine tL_ (Nat.pow_le_pow_left h2 e) ?_;rw[←Nat.pow_mul];exact Nat.pow_le_pow_right (by decide) (Nat.mul_le_mul_right _ h1)
theorem LOk.nz (h:LOk L)(e:Nat):((L^e:Nat):Rat)≠0:=by
 have:=Nat.pow_pos (n:=e) h.pos
 exact_mod_cast Nat.ne_of_gt this
theorem Lv.bt (h:LOk L)(k:Lv L e a):Bt (30000*e) a:=by
 obtain⟨z,h1,h2⟩:=k;have e1:a=mkRat z (L^e):=by
  rw[Rat.mkRat_eq_div,←h1,Rat.div_def,Rat.mul_assoc];show a=a*(((L^e:Nat):Rat)*((L^e:Nat):Rat)⁻¹);rw[Rat.mul_inv_cancel _ (h.nz e),Rat.mul_one]
 rw[e1];exact bt_mk (Nat.pow_pos h.pos) h2 (tL_ (h.pw e) (Nat.pow_le_pow_right (by decide) (by omega)))
theorem Lv.zero:Lv L e 0:=⟨0,by simp,by simp⟩
theorem Lv.mul (k:Lv L e a)(k':Lv L f b):Lv L (e+f) (a*b):=by
 obtain⟨z,h1,h2⟩:=k;obtain⟨y,h3,h4⟩:=k';refine⟨z*y,?_,?_⟩
 ·rw[Rat.intCast_mul,←h1,←h3,Nat.pow_add,Rat.natCast_mul];grind
 ·rw[Int.natAbs_mul,Nat.mul_add,Nat.pow_add];exact Nat.mul_le_mul h2 h4
theorem Lv.up1 (h:LOk L){m:Nat}{z:Int}(h1:a*((L^e:Nat):Rat)=(z:Rat))(h2:z.natAbs≤m*2^(30000*e))(hm:m≤2^100):Lv L (e+1) a:=by
 refine⟨z*L,?_,?_⟩
 ·rw[Rat.intCast_mul,←h1,Nat.pow_succ,Rat.natCast_mul];show a*(_*(L:Rat))=a*_*(L:Rat);grind
 ·rw[Int.natAbs_mul,Int.natAbs_natCast];obtain⟨b,h3,h4⟩:=h.le;refine tL_ (Nat.mul_le_mul h2 h4) ?_;refine tL_ (Nat.mul_le_mul_right _ (Nat.mul_le_mul_right _ hm)) ?_;rw[←Nat.pow_add,←Nat.pow_add];exact Nat.pow_le_pow_right (by decide) (by omega)
theorem Lv.up (h:LOk L)(k:Lv L e a):∀n,Lv L (e+n) a
 |0=>k
 |n+1=>let ⟨z,h1,h2⟩:=Lv.up h k n;Lv.up1 h (m:=1) h1 (by rw[Nat.one_mul];exact h2) Nat.one_le_two_pow
theorem Lv.mono (h:LOk L)(k:Lv L e a)(he:e≤f):Lv L f a:=by
 have:=k.up h (f-e);rwa [show e+(f-e)=f by omega]at this
theorem Lv.add (h:LOk L)(k:Lv L e a)(k':Lv L e b):Lv L (e+1) (a+b):=by
 obtain⟨z,h1,h2⟩:=k;obtain⟨y,h3,h4⟩:=k';refine Lv.up1 h (m:=2) (z:=z+y) (by rw[Rat.intCast_add,←h1,←h3];grind) ?_ (tL_ (by decide:2≤2^1) (Nat.pow_le_pow_right (by decide) (by decide)));rw[Nat.two_mul];exact tL_ (Int.natAbs_add_le _ _) (Nat.add_le_add h2 h4)
theorem Lv.neg (k:Lv L e a):Lv L e (-a):=by
 obtain⟨z,h1,h2⟩:=k;exact⟨-z,by rw[Rat.intCast_neg,←h1];grind,by rw[Int.natAbs_neg];exact h2⟩
theorem Lv.max (k:Lv L e a)(k':Lv L e b):Lv L e (if b≤a then a else b):=by split<;>assumption
theorem Lv.of (h:LOk L)(hd:a.den∣L)(hn:a.num.natAbs≤2^100)(he:e=1):Lv L e a:=by
 obtain⟨c,hc⟩:=hd;refine⟨a.num*c,?_,?_⟩
 ·rw[he,Nat.pow_one,hc,Rat.natCast_mul,Rat.intCast_mul,←Rat.mul_assoc]
  congr 1
  have:=Rat.mkRat_eq_div a.num a.den;rw[Rat.mkRat_self]at this;have h0:((a.den:Nat):Rat)≠0:=by have:=a.den_pos;exact_mod_cast Nat.ne_of_gt this
  refine(congrArg (· *((a.den:Nat):Rat)) this).trans ?_;show(a.num:Rat)/(a.den:Rat)*(a.den:Rat)=_;rw[Rat.div_def,Rat.mul_assoc,Rat.inv_mul_cancel _ h0,Rat.mul_one]
 ·rw[Int.natAbs_mul,Int.natAbs_natCast];have h1:c≤L:=by rw[hc];exact Nat.le_mul_of_pos_left _ a.den_pos
  obtain⟨b,h3,h4⟩:=h.le;have h5:=Nat.mul_le_mul hn (tL_ h1 h4);rw[←Nat.pow_add]at h5;exact tL_ h5 (Nat.pow_le_pow_right (by decide) (by omega))
theorem Lv.int {z:Int}(h:LOk L)(hz:z.natAbs≤2^100)(he:1≤e):Lv L e (z:Rat):=
 (Lv.of h (show((z:Int):Rat).den∣L by rw[Rat.den_intCast];exact Nat.one_dvd L) (show((z:Int):Rat).num.natAbs≤2^100 by rw[Rat.num_intCast];exact hz) rfl).mono h he
end
structure FLv (L e k:Nat)(n:Int)(f:Af):Prop where
 ts:TsOk n 0 f.ts
 co:∀w,Lv L e (cof f.ts w)
 c:Lv L k f.c
section
variable {L e k e' k' m:Nat} {n n':Int} {f g:Af} {c:Rat}
theorem FLv.fb (hL:LOk L)(h:FLv L e k n f)(he:e≤m)(hk:k≤m):FB (30000*m) n f:=⟨h.ts,fun w=>((h.co w).mono hL he).bt hL,(h.c.mono hL hk).bt hL⟩
theorem FLv.mono (hL:LOk L)(h:FLv L e k n f)(he:e≤e')(hk:k≤k')(hn:n≤n'):FLv L e' k' n' f:=⟨h.ts.up hn,fun w=>(h.co w).mono hL he,h.c.mono hL hk⟩
theorem FLv.add (hL:LOk L)(h:FLv L e k n f)(h':FLv L e k n g):FLv L (e+1) (k+1) n (addS f g):=
 ⟨ok_fold (fun t ht=>let ⟨k1,k2,k3,k4⟩:=h'.ts.cof_mem t ht;⟨k2,k3⟩) h.ts,fun w=>by rw[addS,cof_fold];exact(h.co w).add hL (h'.co w),h.c.add hL h'.c⟩
theorem FLv.scale (h:FLv L e k n f)(hc:Lv L m c):FLv L (e+m) (k+m) n (scaleS f c):=
 ⟨ok_scale c h.ts,fun w=>by rw[scaleS,cof_scale];exact(h.co w).mul hc,h.c.mul hc⟩
theorem FLv.zero:FLv L e k n ⟨[],0⟩:=⟨trivial,fun w=>Lv.zero,Lv.zero⟩
theorem FLv.var (hL:LOk L){v:Int}(h:0≤v)(h2:v<n)(he:1≤e):FLv L e k n (varS v):=by
 refine⟨⟨h,h2,by show((1:Int):Rat)≠0;decide,trivial⟩,fun w=> ?_,Lv.zero⟩;rw[varS,cof,cof,Rat.add_zero];split
 ·exact Lv.int hL (by decide) he
 ·exact Lv.zero
theorem FLv.sub (hL:LOk L)(h:FLv L e k n f)(h':FLv L e k n g):FLv L (e+1) (k+1) n (subS f g):=by
 refine h.add hL ⟨ok_scale _ h'.ts,fun w=> ?_,?_⟩
 ·rw[scaleS,cof_scale,show((-1:Int):Rat)= -1 from by decide,show cof g.ts w* -1= -(cof g.ts w) by grind];exact(h'.co w).neg
 ·rw[scaleS,show((-1:Int):Rat)= -1 from by decide,show g.c* -1= -g.c by grind];exact h'.c.neg
end
abbrev inR (xs:List Int):List (List D):=xs.map fun z=>[D.lit (.int .i64 z)]
abbrev inD (xs:List Int):D:= .sl 1 (inR xs)
abbrev nI (s:List Nat):List Int:=s.map fun(n:Nat)=>(n:Int)
abbrev shD (s:List Nat):D:=inD (nI s)
def szS (s:List Nat):Nat:=s.foldl (fun a b=>a*b) 1
theorem szS_snoc (a:List Nat)(d:Nat):szS (a++[d])=szS a*d:=by simp[szS,List.foldl_append]
theorem szS_app (a b:List Nat):szS (a++b)=szS a*szS b:=by
 have key:∀(b:List Nat) (k:Nat),b.foldl (fun a b=>a*b) k=k*b.foldl (fun a b=>a*b) 1:=by
  intro b
  induction b with
  |nil=>intro k;simp
  |cons d b ih=>intro k;rw[List.foldl_cons,List.foldl_cons,ih,ih (1*d)];simp[Nat.mul_assoc]
 unfold szS;rw[List.foldl_append];exact key b _
theorem szS_pos:∀{s:List Nat},(∀d∈s,1≤d)→1≤szS s
 |[],_=>lR_ _
 |d::s,h=>by
  rw[show d::s=[d]++s from rfl,szS_app];exact Nat.mul_pos (by simp[szS];exact h d List.mem_cons_self) (szS_pos fun e he=>h e (List.mem_cons_of_mem _ he))
structure ShG (s:List Nat):Prop where
 l1:1≤s.length
 l4:s.length≤4
 pos:∀d∈s,1≤d
 sz:szS s≤16384
theorem ShG.to {s:List Nat}(h:ShG s)(i:Nat):szS (s.take i)≤16384:=by
 refine tL_ ?_ h.sz;have:=szS_app (s.take i) (s.drop i);rw[List.take_append_drop]at this;rw[this];exact Nat.le_mul_of_pos_right _ (szS_pos fun d hd=>h.pos d (List.mem_of_mem_drop hd))
theorem ShG.snoc {s:List Nat}(h:ShG s){i d:Nat}(hd:s[i]? =some d):szS (s.take i)*d≤16384:=by
 rw[←szS_snoc,←take_snoc hd];exact h.to _
theorem ShG.d {s:List Nat}(h:ShG s){i d:Nat}(hd:s[i]? =some d):1≤d∧d≤16384:=by
 have h1:=h.pos d (mG_ hd);have h2:=h.snoc hd;have h3:=szS_pos (s:=s.take i) fun e he=>h.pos e (List.mem_of_mem_take he);exact⟨h1,tL_ (Nat.le_mul_of_pos_left _ h3) h2⟩
theorem at_nI {s:List Nat}{i d:Nat}(h:s[i]? =some d):(inR (nI s))[i]? =some [D.lit (.int .i64 (d:Nat))]:=at_map (f:=fun z=>[D.lit (.int .i64 z)]) (at_map (f:=fun n:Nat=>(n:Int)) h)
theorem at_inR {s:List Int}{i:Nat}{d:Int}(h:s[i]? =some d):(inR s)[i]? =some [D.lit (.int .i64 d)]:=at_map (f:=fun z=>[D.lit (.int .i64 z)]) h
theorem lx_tvalid {s:List Nat}(h:ShG s):LV Tryz.prog 59 [.a (.d (shD s))] (vl (.bool true)):=by
 have l1:=h.l1;have l4:=h.l4;refine LX_run (m:=0) (n0:=0) mix Tryz.func59 rfl rfl rfl rfl ?_;conv=>whnf
 refine bF (decide_eq_false (by simp;omega)) ?_;conv=>whnf
 refine bF (decide_eq_false (by simp;omega)) ?_;conv=>whnf
 refine .mk Nat (fun i=>⟨[(16,vl (.int .i64 i)),(15,vl (.int .i64 (inR (nI s)).length)),(14,.a (.d (shD s))),(3,vl (.int .i64 (szS (s.take i):Nat)))],[],0⟩) (fun i=>i≤s.length) (fun i=>s.length-i) 0 Wk.go (zL_ _) fun i hi=> ?_;conv=>whnf
 refine bs (fun h1=> ?_) (fun h1=> ?_)
 ·conv=>whnf
  have h1':i<s.length:=by simpa using h1
  obtain⟨d,hd⟩:=at_some h1';have k1:=h.d hd;have k2:=h.snoc hd;have e:IntKind.i64.wrap (((szS (s.take i):Nat):Int)*(d:Int))=((szS (s.take (i+1)):Nat):Int):=by
   rw[take_snoc hd,szS_snoc,←Int.natCast_mul,wr64 (by omega) (by omega)]
  have k3:=h.to (i+1);refine .mk (i) ([D.lit (.int .i64 (d:Nat))]) (rfl) (at_nI hd) ?_;conv=>whnf
  conv=>whnf
  refine bF (decide_eq_false (by omega)) ?_;conv=>whnf
  refine bF (decide_eq_false (by omega)) ?_;conv=>whnf
  rw[e];refine bF (decide_eq_false (by omega)) ?_;conv=>whnf
  rw[e];exact⟨i+1,Wk.go,by omega,by omega⟩
 ·conv=>whnf
  exact .q ⟨rfl,rfl⟩
theorem lx_tsize {s:List Nat}(h:ShG s):LV Tryz.prog 27 [.a (.d (shD s))] (vl (.int .i64 (szS s:Nat))):=by
 have l1:=h.l1;have l4:=h.l4;refine LX_run (m:=0) (n0:=0) mix Tryz.func27 rfl rfl rfl rfl ?_;conv=>whnf
 refine .c (lx_tvalid h) ?_;conv=>whnf
 refine .mk Nat (fun i=>⟨[(11,vl (.int .i64 i)),(10,vl (.int .i64 (inR (nI s)).length)),(9,.a (.d (shD s))),(3,vl (.int .i64 (szS (s.take i):Nat)))],[],0⟩) (fun i=>i≤s.length) (fun i=>s.length-i) 0 Wk.go (zL_ _) fun i hi=> ?_;conv=>whnf
 refine bs (fun h1=> ?_) (fun h1=> ?_)
 ·conv=>whnf
  have h1':i<s.length:=by simpa using h1
  obtain⟨d,hd⟩:=at_some h1';have k1:=h.d hd;have k3:=h.to (i+1);have e:IntKind.i64.wrap (((szS (s.take i):Nat):Int)*(d:Int))=((szS (s.take (i+1)):Nat):Int):=by
   have k2:=h.snoc hd;rw[take_snoc hd,szS_snoc,←Int.natCast_mul,wr64 (by omega) (by omega)]
  refine .mk (i) ([D.lit (.int .i64 (d:Nat))]) (rfl) (at_nI hd) ?_;conv=>whnf
  conv=>whnf
  rw[e];exact⟨i+1,Wk.go,by omega,by omega⟩
 ·conv=>whnf
  have ei:i=s.length:=by simp at h1;omega
  exact .q ⟨by rw[ei,List.take_length],rfl⟩
theorem lx_tside {n:Int}(h:1≤n)(h':n≤64):LV Tryz.prog 198 [vl (.int .i64 n)] (vl (.bool true)):=by
 refine LX_run (m:=0) (n0:=0) mix Tryz.func198 rfl rfl rfl rfl ?_;conv=>whnf
 refine bT (decide_eq_true (by omega)) ?_;conv=>whnf
 refine bT (decide_eq_true (by omega)) ?_;conv=>whnf
 exact .q ⟨rfl,rfl⟩
def ShI (xs:List Int):Prop:=∃s:List Nat,xs=nI s∧ShG s
theorem lx_zvalidS {xs:List Int}(hl:xs.length≤1000):∃b,(b=true↔ShI xs)∧LV Tryz.prog 53 [.a (.d (inD xs))] (vl (.bool b)):=by
 suffices hh:LX Tryz.prog 53 [.a (.d (inD xs))] [] fun v H=>∃b,(b=true↔ShI xs)∧v=vl (.bool b)∧H=[] by
  obtain⟨v,H',⟨b,h1,rfl,rfl⟩,hc⟩:=hh;exact⟨b,h1,_,_,⟨rfl,rfl⟩,hc⟩
 have fin:∀H:List (Nat×Ent),¬ShI xs→Rt 0 H (vl (.bool false)) fun v H=>∃b,(b=true↔ShI xs)∧v=vl (.bool b)∧H=[]:=fun H hn=> .q ⟨false,⟨fun h=>(by cases h),fun h=>absurd h hn⟩,rfl,rfl⟩;refine LX_run (m:=0) (n0:=0) mix Tryz.func53 rfl rfl rfl rfl ?_;conv=>whnf
 refine bs (fun h0=> ?_) (fun h0=> ?_)
 ·conv=>whnf
  refine fin _ fun⟨s,e,h⟩=> ?_;have:=of_decide_eq_true h0;have:=h.l1;simp[e]at *;omega
 ·conv=>whnf
  refine bs (fun h0'=> ?_) (fun h0'=> ?_)
  ·conv=>whnf
   refine fin _ fun⟨s,e,h⟩=> ?_;have:=of_decide_eq_true h0';have:=h.l4;simp[e]at *;omega
  ·conv=>whnf
   have l1:1≤xs.length:=by have:=of_decide_eq_false h0;simp at this;omega
   have l4:xs.length≤4:=by have:=of_decide_eq_false h0';simp at this;omega
   refine .mk (Nat×List Nat) (fun(i,a)=>⟨[(4,vl (.int .i64 (i:Nat))),(3,vl (.int .i64 (szS a:Nat))),(0,.a (.d (inD xs)))],[],0⟩) (fun b=>b.1≤xs.length∧xs.take b.1=nI b.2∧(∀d∈b.2,1≤d)∧szS b.2≤16384) (fun b=>xs.length-b.1) (0,[]) Wk.go ⟨zL_ _,rfl,fun d hd=>(by cases hd),by decide⟩ fun⟨i,a⟩ hb=> ?_;obtain⟨hi,h2,h3,h4⟩:=hb;simp only at hi h2 h3 h4;conv=>whnf
   refine bs (fun h1=> ?_) (fun h1=> ?_)
   ·conv=>whnf
    have h1':i<xs.length:=by simpa using h1
    obtain⟨d,hd⟩:=at_some h1'
    have pre:∀s,xs=nI s→ShG s→∃n:Nat,d=n∧1≤n∧n≤16384∧szS a*n≤16384:=fun s e h=>by
     obtain⟨n,hn⟩:=at_some (l:=s) (i:=i) (by rw[e]at h1';simpa using h1');have hd':=at_map (f:=fun n:Nat=>(n:Int)) hn;rw[e]at hd h2;rw[hd]at hd';injection hd' with hd';have ea:a=s.take i:=by
      rw[←List.map_take]at h2;exact(List.map_inj_right fun x y h=>by omega).1 h2.symm
     obtain⟨k1,k2⟩:=h.d hn;exact⟨n,hd',k1,k2,by rw[ea];exact h.snoc hn⟩
    refine .mk (i) ([D.lit (.int .i64 d)]) (rfl) (at_inR hd) ?_;conv=>whnf
    conv=>whnf
    refine bs (fun g1=> ?_) (fun g1=> ?_)
    ·conv=>whnf
     refine fin _ fun⟨s,e,h⟩=> ?_;obtain⟨n,rfl,k1,k2,k3⟩:=pre s e h;have:=of_decide_eq_true g1;omega
    ·conv=>whnf
     refine .mk (i) ([D.lit (.int .i64 d)]) (rfl) (at_inR hd) ?_;conv=>whnf
     conv=>whnf
     refine bs (fun g2=> ?_) (fun g2=> ?_)
     ·conv=>whnf
      refine fin _ fun⟨s,e,h⟩=> ?_;obtain⟨n,rfl,k1,k2,k3⟩:=pre s e h;have:=of_decide_eq_true g2;omega
     ·conv=>whnf
      have q1:=of_decide_eq_false g1;have q2:=of_decide_eq_false g2;obtain⟨n,rfl⟩:∃n:Nat,d=n:=⟨d.toNat,by omega⟩;have hm:szS a*n≤16384*16384:=Nat.mul_le_mul h4 (by omega);have e1:IntKind.i64.wrap (((szS a:Nat):Int)*(n:Int))=((szS (a++[n]):Nat):Int):=by
       rw[szS_snoc,←Int.natCast_mul,wr64 (by omega) (by omega)]
      refine .mk (i) ([D.lit (.int .i64 (n:Nat))]) (rfl) (at_inR hd) ?_;conv=>whnf
      conv=>whnf
      rw[e1];refine bs (fun g3=> ?_) (fun g3=> ?_)
      ·conv=>whnf
       refine fin _ fun⟨s,e,h⟩=> ?_;obtain⟨m,em,k1,k2,k3⟩:=pre s e h;have:=of_decide_eq_true g3;rw[szS_snoc]at this;have:m=n:=by omega
       subst this;omega
      ·conv=>whnf
       have q3:=of_decide_eq_false g3
       exact⟨(i+1,a++[n]),Wk.go,⟨h1',by simp only;rw[take_snoc hd,h2,nI,nI,List.map_append];rfl,fun x hx=>by
        rcases List.mem_append.1 hx with hx|hx
        ·exact h3 x hx
        ·rw[List.mem_singleton.1 hx];omega,by simp only;omega⟩,by simp only;omega⟩
   ·conv=>whnf
    have ei:i=xs.length:=by simp at h1;omega
    subst ei;rw[List.take_length]at h2;exact .q ⟨true,⟨fun _=>⟨a,h2,by rw[h2]at l1;simpa using l1,by rw[h2]at l4;simpa using l4,h3,h4⟩,fun _=>rfl⟩,rfl,rfl⟩
theorem lx_zvalidT {s:List Nat}(h:ShG s):LV Tryz.prog 53 [.a (.d (shD s))] (vl (.bool true)):=by
 have l4:=h.l4;obtain⟨b,h1,h2⟩:=lx_zvalidS (xs:=nI s) (by simp;omega)
 rwa [h1.2 ⟨s,rfl,h⟩]at h2
theorem lx_zsize {s:List Nat}(h:ShG s):LV Tryz.prog 22 [.a (.d (shD s))] (vl (.int .i64 (szS s:Nat))):=by
 have l1:=h.l1;have l4:=h.l4;refine LX_run (m:=0) (n0:=0) mix Tryz.func22 rfl rfl rfl rfl ?_;conv=>whnf
 refine .c (lx_zvalidT h) ?_;conv=>whnf
 refine .mk Nat (fun i=>⟨[(4,vl (.int .i64 (i:Nat))),(3,vl (.int .i64 (szS (s.take i):Nat))),(0,.a (.d (shD s)))],[],0⟩) (fun i=>i≤s.length) (fun i=>s.length-i) 0 Wk.go (zL_ _) fun i hi=> ?_;conv=>whnf
 refine bs (fun h1=> ?_) (fun h1=> ?_)
 ·conv=>whnf
  have h1':i<s.length:=by simpa using h1
  obtain⟨d,hd⟩:=at_some h1';have k1:=h.d hd;have k3:=h.to (i+1);have e:IntKind.i64.wrap (((szS (s.take i):Nat):Int)*(d:Int))=((szS (s.take (i+1)):Nat):Int):=by
   have k2:=h.snoc hd;rw[take_snoc hd,szS_snoc,←Int.natCast_mul,wr64 (by omega) (by omega)]
  refine .mk (i) ([D.lit (.int .i64 (d:Nat))]) (rfl) (at_nI hd) ?_;conv=>whnf
  conv=>whnf
  rw[e];exact⟨i+1,Wk.go,by omega,by omega⟩
 ·conv=>whnf
  have ei:i=s.length:=by simp at h1;omega
  exact .q ⟨by rw[ei,List.take_length],rfl⟩
theorem lx_ints {xs ys:List Int}(hl:xs.length≤1000)(hl':ys.length≤1000):∃b,(b=true↔xs=ys)∧LV Tryz.prog 94 [.a (.d (inD xs)),.a (.d (inD ys))] (vl (.bool b)):=by
 suffices hh:LX Tryz.prog 94 [.a (.d (inD xs)),.a (.d (inD ys))] [] fun v H=>∃b,(b=true↔xs=ys)∧v=vl (.bool b)∧H=[] by
  obtain⟨v,H',⟨b,h1,rfl,rfl⟩,hc⟩:=hh;exact⟨b,h1,_,_,⟨rfl,rfl⟩,hc⟩
 have fin:∀H:List (Nat×Ent),xs≠ys→Rt 0 H (vl (.bool false)) fun v H=>∃b,(b=true↔xs=ys)∧v=vl (.bool b)∧H=[]:=fun H hn=> .q ⟨false,⟨fun h=>(by cases h),fun h=>absurd h hn⟩,rfl,rfl⟩;refine LX_run (m:=0) (n0:=0) mix Tryz.func94 rfl rfl rfl rfl ?_;conv=>whnf
 refine bs (fun h0=> ?_) (fun h0=> ?_)
 ·conv=>whnf
  exact fin _ fun e=>by subst e;simp at h0
 ·conv=>whnf
  have hlen:xs.length=ys.length:=by simp at h0;omega
  refine .mk Nat (fun i=>⟨[(5,vl (.int .i64 (i:Nat))),(1,.a (.d (inD ys))),(0,.a (.d (inD xs)))],[],0⟩) (fun i=>i≤xs.length∧xs.take i=ys.take i) (fun i=>xs.length-i) 0 Wk.go ⟨zL_ _,rfl⟩ fun i hb=> ?_;obtain⟨hi,h2⟩:=hb;conv=>whnf
  refine bs (fun h1=> ?_) (fun h1=> ?_)
  ·conv=>whnf
   have h1':i<xs.length:=by simpa using h1
   obtain⟨x,hx⟩:=at_some h1';obtain⟨y,hy⟩:=at_some (l:=ys) (i:=i) (by omega);refine .mk (i) ([D.lit (.int .i64 x)]) (rfl) (at_inR hx) ?_;conv=>whnf
   conv=>whnf
   refine .mk (i) ([D.lit (.int .i64 y)]) (rfl) (at_inR hy) ?_;conv=>whnf
   conv=>whnf
   refine bs (fun g1=> ?_) (fun g1=> ?_)
   ·conv=>whnf
    refine .mk (by kernel_rfl) ?_;conv=>whnf
    exact fin _ fun e=>by rw[e,hy]at hx;injection hx with hx;simp[hx]at g1
   ·conv=>whnf
    refine .mk (by kernel_rfl) ?_;conv=>whnf
    have e1:x=y:=by simpa using g1
    exact⟨i+1,Wk.go,⟨h1',by rw[take_snoc hx,take_snoc hy,h2,e1]⟩,by omega⟩
  ·conv=>whnf
   have ei:i=xs.length:=by simp at h1;omega
   subst ei;rw[List.take_length,List.take_of_length_le (by omega)]at h2;exact .q ⟨true,⟨fun _=>h2,fun _=>rfl⟩,rfl,rfl⟩
structure Wn where
 c:Nat
 h:Nat
 w:Nat
 kh:Nat
 kw:Nat
 st:Nat
 pad:Nat
namespace Wn
variable (W:Wn)
def rows:Nat:=(W.h+2*W.pad-W.kh)/W.st+1
def cols:Nat:=(W.w+2*W.pad-W.kw)/W.st+1
def idx (ch y x:Int):Int:=if 0≤y∧y<W.h∧0≤x∧x<W.w then(ch*W.h+y)*W.w+x else -1
def el (r q ch i k:Nat):Int:=W.idx ch ((r*W.st+i:Nat)-(W.pad:Int)) ((q*W.st+k:Nat)-(W.pad:Int))
def l1 (r q ch i:Nat)(n:Nat):List Int:=(List.range n).map fun k=>W.el r q ch i k
def l2 (r q ch:Nat)(n:Nat):List Int:=(List.range n).flatMap fun i=>W.l1 r q ch i W.kw
def l3 (r q:Nat)(n:Nat):List Int:=(List.range n).flatMap fun ch=>W.l2 r q ch W.kh
def l4 (r:Nat)(n:Nat):List (List Int):=(List.range n).map fun q=>W.l3 r q W.c
def l5 (n:Nat):List (List Int):=(List.range n).flatMap fun r=>W.l4 r W.cols
def all:List (List Int):=W.l5 W.rows
structure Ok:Prop where
 c:1≤W.c
 h:1≤W.h
 w:1≤W.w
 kh:1≤W.kh∧W.kh≤6
 kw:1≤W.kw∧W.kw≤6
 st:1≤W.st∧W.st≤6
 ph:W.pad<W.kh
 pw:W.pad<W.kw
 fh:W.kh≤W.h+2*W.pad
 fw:W.kw≤W.w+2*W.pad
 sz:W.c*W.h*W.w≤24
end Wn
theorem range_map_snoc {α:Type}(f:Nat→α)(n:Nat):(List.range (n+1)).map f=(List.range n).map f++[f n]:=by rw[List.range_succ,List.map_append];rfl
theorem range_fm_snoc {α:Type}(f:Nat→List α)(n:Nat):(List.range (n+1)).flatMap f=(List.range n).flatMap f++f n:=by rw[List.range_succ,List.flatMap_append];simp
theorem fm_len {α:Type}{f:Nat→List α}{m:Nat}(h:∀i,(f i).length=m):∀n,((List.range n).flatMap f).length=n*m
 |0=>by simp
 |n+1=>by rw[range_fm_snoc,List.length_append,fm_len h n,h,Nat.succ_mul]
namespace Wn
variable {W:Wn}
theorem l1_len {r q ch i n:Nat}:(W.l1 r q ch i n).length=n:=by simp[l1]
theorem l2_len {r q ch n:Nat}:(W.l2 r q ch n).length=n*W.kw:=fm_len (fun i=>l1_len) n
theorem l3_len {r q n:Nat}:(W.l3 r q n).length=n*(W.kh*W.kw):=fm_len (fun i=>l2_len) n
theorem l4_len {r n:Nat}:(W.l4 r n).length=n:=by simp[l4]
theorem l5_len {n:Nat}:(W.l5 n).length=n*W.cols:=fm_len (fun i=>l4_len) n
theorem mem_all {w:List Int}(h:w∈W.all):∃r q,r<W.rows∧q<W.cols∧w=W.l3 r q W.c:=by
 unfold all l5 at h;obtain⟨r,hr,h⟩:=List.mem_flatMap.1 h;unfold l4 at h;obtain⟨q,hq,rfl⟩:=List.mem_map.1 h;exact⟨r,q,List.mem_range.1 hr,List.mem_range.1 hq,rfl⟩
theorem mem_l3 {r q n:Nat}{z:Int}(h:z∈W.l3 r q n):∃ch i k,ch<n∧i<W.kh∧k<W.kw∧z=W.el r q ch i k:=by
 unfold l3 at h;obtain⟨ch,h1,h⟩:=List.mem_flatMap.1 h;unfold l2 at h;obtain⟨i,h2,h⟩:=List.mem_flatMap.1 h;unfold l1 at h;obtain⟨k,h3,rfl⟩:=List.mem_map.1 h;exact⟨ch,i,k,List.mem_range.1 h1,List.mem_range.1 h2,List.mem_range.1 h3,rfl⟩
theorem idx_b {ch:Nat}{y x:Int}(h:ch<W.c): -1≤W.idx ch y x∧W.idx ch y x<(W.c*W.h*W.w:Nat):=by
 unfold idx;split
 ·rename_i k;obtain⟨k1,k2,k3,k4⟩:=k;obtain⟨y',rfl⟩:∃n:Nat,y=n:=⟨y.toNat,by omega⟩;obtain⟨x',rfl⟩:∃n:Nat,x=n:=⟨x.toNat,by omega⟩;have h1:(ch*W.h+y'+1)*W.w≤W.c*W.h*W.w:=by
   refine Nat.mul_le_mul_right _ ?_;have:=Nat.mul_le_mul_right W.h (show ch+1≤W.c from h);rw[Nat.add_mul]at this;omega
  rw[Nat.add_mul,Nat.one_mul]at h1;have h2:(((ch:Int)*W.h+y')*W.w+x':Int)=((ch*W.h+y')*W.w+x':Nat):=by simp
  omega
 ·have:=zL_ (W.c*W.h*W.w);omega
theorem mem_b {w:List Int}(h:w∈W.all){z:Int}(hz:z∈w): -1≤z∧z<(W.c*W.h*W.w:Nat):=by
 obtain⟨r,q,_,_,rfl⟩:=mem_all h;obtain⟨ch,i,k,h1,_,_,rfl⟩:=mem_l3 hz;exact idx_b h1
theorem all_len {w:List Int}(h:w∈W.all):w.length=W.c*(W.kh*W.kw):=by
 obtain⟨r,q,_,_,rfl⟩:=mem_all h;exact l3_len
theorem mem_nn (hp:W.pad=0)(ok:W.Ok){w:List Int}(h:w∈W.all){z:Int}(hz:z∈w):0≤z:=by
 obtain⟨r,q,hr,hq,rfl⟩:=mem_all h;obtain⟨ch,i,k,h1,h2,h3,rfl⟩:=mem_l3 hz;have b:∀(st kh h r i:Nat),kh≤h→r<(h+2*0-kh)/st+1→i<kh→r*st+i<h:=by
  intro st kh h r i e1 e2 e3;have h4:r*st≤h+2*0-kh:=tL_ (Nat.mul_le_mul_right _ (Nat.lt_succ_iff.1 e2)) (Nat.div_mul_le_self _ _);omega
 have f1:=ok.fh;have f2:=ok.fw;unfold rows at hr;unfold cols at hq;rw[hp]at hr hq f1 f2;have b1:=b _ _ _ _ _ f1 hr h2;have b2:=b _ _ _ _ _ f2 hq h3;unfold el idx;rw[hp,if_pos (by omega)];have:=Int.mul_nonneg (Int.add_nonneg (Int.mul_nonneg (Int.natCast_nonneg ch) (Int.natCast_nonneg W.h)) (Int.natCast_nonneg (r*W.st+i))) (Int.natCast_nonneg W.w);simp only[Int.natCast_zero,Int.sub_zero]at *
 omega
structure Bd (W:Wn):Prop where
 c:W.c≤24
 h:W.h≤24
 w:W.w≤24
 r:W.rows≤30
 q:W.cols≤30
 r1:1≤W.rows
 q1:1≤W.cols
 p1:W.rows*W.cols≤900
 p2:W.rows*W.cols*W.c≤1000
 p3:W.rows*W.cols*W.c*W.kh≤6000
 p4:W.rows*W.cols*W.c*W.kh*W.kw≤36000
 len:W.c*(W.kh*W.kw)≤864
theorem div6 (a b:Nat):a/b≤a:=Nat.div_le_self _ _
theorem Ok.bd (ok:W.Ok):Bd W:=by
 obtain⟨c1,h1,w1,⟨k1,k2⟩,⟨k3,k4⟩,⟨s1,s2⟩,p1,p2,f1,f2,sz⟩:=ok;have hc:W.c≤24:=tL_ (tL_ (Nat.le_mul_of_pos_right _ h1) (Nat.le_mul_of_pos_right _ w1)) sz;have hh:W.h≤24:=tL_ (tL_ (Nat.le_mul_of_pos_left _ c1) (Nat.le_mul_of_pos_right _ w1)) sz;have hw:W.w≤24:=tL_ (Nat.le_mul_of_pos_left _ (Nat.mul_pos c1 h1)) sz;have d1:=div6 (W.h+2*W.pad-W.kh) W.st;have d2:=div6 (W.w+2*W.pad-W.kw) W.st;have r6:W.rows≤6*W.h:=by unfold rows;omega
 have q6:W.cols≤6*W.w:=by unfold cols;omega
 have r30:W.rows≤30:=by unfold rows;omega
 have q30:W.cols≤30:=by unfold cols;omega
 have m1:W.rows*W.cols≤30*30:=Nat.mul_le_mul r30 q30;have m2:W.rows*W.cols*W.c≤36*24:=by
  refine tL_ (Nat.mul_le_mul_right _ (Nat.mul_le_mul r6 q6)) ?_;have e:6*W.h*(6*W.w)*W.c=36*(W.c*W.h*W.w):=by
   simp only[Nat.mul_assoc,Nat.mul_comm,Nat.mul_left_comm]
  rw[e];omega
 have m3:W.rows*W.cols*W.c*W.kh≤864*6:=Nat.mul_le_mul m2 k2;have m4:W.rows*W.cols*W.c*W.kh*W.kw≤5184*6:=Nat.mul_le_mul m3 k4;have m5:W.c*(W.kh*W.kw)≤24*36:=Nat.mul_le_mul hc (Nat.mul_le_mul k2 k4);exact⟨hc,hh,hw,r30,q30,Nat.succ_le_succ (zL_ _),Nat.succ_le_succ (zL_ _),by omega,by omega,by omega,by omega,by omega⟩
end Wn
abbrev wnR (l:List (List Int)):List (List D):=l.map fun w=>[inD w]
abbrev wnD (l:List (List Int)):D:= .sl 1 (wnR l)
theorem ShG.of3 {W:Wn}(ok:W.Ok):ShG [W.c,W.h,W.w]:=by
 refine⟨by simp,by simp,fun d hd=> ?_,?_⟩
 ·simp at hd;rcases hd with rfl|rfl|rfl
  ·exact ok.c
  ·exact ok.h
  ·exact ok.w
 ·have:=ok.sz;simp[szS];omega
theorem wn_el {W:Wn}(ok:W.Ok){r q ch i k:Nat}(hr:r<W.rows)(hq:q<W.cols)(hc:ch<W.c)(hi:i<W.kh)(hk:k<W.kw):
  ∀y x:Int,y=(r*W.st+i:Nat)-(W.pad:Int)→x=(q*W.st+k:Nat)-(W.pad:Int)→(-1000≤y∧y≤1000)∧(-1000≤x∧x≤1000)∧r*W.st≤180∧q*W.st≤180∧ch*W.h≤576:=by
 have b:=ok.bd;have h1:r*W.st≤30*6:=Nat.mul_le_mul (by have:=b.r;omega) ok.st.2;have h2:q*W.st≤30*6:=Nat.mul_le_mul (by have:=b.q;omega) ok.st.2;have h3:ch*W.h≤24*24:=Nat.mul_le_mul (by have:=b.c;omega) b.h;have:=ok.kh;have:=ok.kw;have:=ok.ph;have:=ok.pw;intro y x ey ex;omega
abbrev wnT (W:Wn):List (Nat×V):=[(18,vl (.int .i64 (W.cols:Nat))),(17,vl (.int .i64 (W.rows:Nat))),(16,vl (.int .i64 (W.w:Nat))),(15,vl (.int .i64 (W.h:Nat))),(14,vl (.int .i64 (W.c:Nat))),(4,vl (.int .i64 (W.pad:Nat))),(3,vl (.int .i64 (W.st:Nat))),(2,vl (.int .i64 (W.kw:Nat))),(1,vl (.int .i64 (W.kh:Nat)))]
theorem wrN {n:Nat}(h:n<9223372036854775808):IntKind.i64.wrap (n:Int)=n:=wr64 (by omega) (by omega)
theorem wn_dim {a p k s:Nat}(h1:k≤a+2*p)(hs:1≤s)(ha:a≤1000)(hp:p≤1000):IntKind.i64.wrap (2*(p:Int))=((2*p:Nat):Int)∧IntKind.i64.wrap ((a:Int)+((2*p:Nat):Int))=((a+2*p:Nat):Int)∧IntKind.i64.wrap (((a+2*p:Nat):Int)-(k:Int))=((a+2*p-k:Nat):Int)∧IntKind.i64.wrap ((((a+2*p-k:Nat):Int)).tdiv (s:Int))=(((a+2*p-k)/s:Nat):Int)∧IntKind.i64.wrap ((((a+2*p-k)/s:Nat):Int)+1)=(((a+2*p-k)/s+1:Nat):Int):=by
 have d:=Nat.div_le_self (a+2*p-k) s;refine⟨?_,?_,?_,?_,?_⟩
 ·rw[wr64 (by omega) (by omega)];omega
 ·rw[wr64 (by omega) (by omega)];omega
 ·rw[wr64 (by omega) (by omega)];omega
 ·rw[Int.tdiv_eq_ediv_of_nonneg (by omega),←Int.natCast_ediv];generalize (a+2*p-k)/s=X at *
  rw[wr64 (by omega) (by omega)]
 ·generalize (a+2*p-k)/s=X at *
  rw[wr64 (by omega) (by omega)];omega
theorem wr_yx {a b c:Nat}(ha:a≤1000000)(hb:b≤1000000)(hc:c≤1000000):IntKind.i64.wrap (IntKind.i64.wrap (IntKind.i64.wrap (a:Int)+(b:Int))-(c:Int))=(a+b:Nat)-(c:Int):=by
 rw[wrN (n:=a) (by omega),←Int.natCast_add,wrN (n:=a+b) (by omega),wr64 (by omega) (by omega)]
theorem lx_windows {W:Wn}(ok:W.Ok):LV Tryz.prog 171 [.a (.d (shD [W.c,W.h,W.w])),vl (.int .i64 (W.kh:Nat)),vl (.int .i64 (W.kw:Nat)),vl (.int .i64 (W.st:Nat)),vl (.int .i64 (W.pad:Nat))]
  (.tup [.s (.d (wnD W.all)),.s (.d (.lit (.int .i64 (W.rows:Nat)))),.s (.d (.lit (.int .i64 (W.cols:Nat)))),.s (.d (.lit (.int .i64 0)))]):=by
 have b:=ok.bd;obtain⟨b1,b2,b3,b4,b5,b6,b7,b8,b9,b10,b11,b12⟩:=b;obtain⟨c1,h1,w1,⟨k1,k2⟩,⟨k3,k4⟩,⟨s1,s2⟩,p1,p2,f1,f2,sz⟩:=id ok;obtain⟨u1,u2,u3,u4,u5⟩:=wn_dim (a:=W.h) f1 s1 (by omega) (by omega);obtain⟨v1,v2,v3,v4,v5⟩:=wn_dim (a:=W.w) f2 s1 (by omega) (by omega);have ur:(W.h+2*W.pad-W.kh)/W.st+1=W.rows:=rfl;have vq:(W.w+2*W.pad-W.kw)/W.st+1=W.cols:=rfl;rw[ur]at u5;rw[vq]at v5;have m1:IntKind.i64.wrap ((W.rows:Int)*(W.cols:Int))=((W.rows*W.cols:Nat):Int):=by rw[←Int.natCast_mul,wrN (by omega)]
 have m2:IntKind.i64.wrap (((W.rows*W.cols:Nat):Int)*(W.c:Int))=((W.rows*W.cols*W.c:Nat):Int):=by rw[←Int.natCast_mul,wrN (by omega)]
 have m3:IntKind.i64.wrap (((W.rows*W.cols*W.c:Nat):Int)*(W.kh:Int))=((W.rows*W.cols*W.c*W.kh:Nat):Int):=by rw[←Int.natCast_mul,wrN (by omega)]
 have m4:IntKind.i64.wrap (((W.rows*W.cols*W.c*W.kh:Nat):Int)*(W.kw:Int))=((W.rows*W.cols*W.c*W.kh*W.kw:Nat):Int):=by rw[←Int.natCast_mul,wrN (by omega)]
 refine LX_run (m:=0) (n0:=0) mix Tryz.func171 rfl rfl rfl rfl ?_;conv=>whnf
 refine .c (lx_tvalid (ShG.of3 ok)) ?_;conv=>whnf
 refine .c (lx_tside (n:=(W.kh:Nat)) (by omega) (by omega)) ?_;conv=>whnf
 refine .c (lx_tside (n:=(W.kw:Nat)) (by omega) (by omega)) ?_;conv=>whnf
 refine .c (lx_tside (n:=(W.st:Nat)) (by omega) (by omega)) ?_;conv=>whnf
 refine bF (decide_eq_false (by omega)) ?_;conv=>whnf
 refine bF (decide_eq_false (by omega)) ?_;conv=>whnf
 refine .mk (1) ([D.lit (.int .i64 (W.h:Nat))]) (rfl) (rfl) ?_;conv=>whnf
 conv=>whnf
 rw[u1,u2];refine bF (decide_eq_false (by omega)) ?_;conv=>whnf
 refine .mk (2) ([D.lit (.int .i64 (W.w:Nat))]) (rfl) (rfl) ?_;conv=>whnf
 conv=>whnf
 rw[v1,v2];refine bF (decide_eq_false (by omega)) ?_;conv=>whnf
 refine .mk (0) ([D.lit (.int .i64 (W.c:Nat))]) (rfl) (rfl) ?_;conv=>whnf
 conv=>whnf
 refine .mk (1) ([D.lit (.int .i64 (W.h:Nat))]) (rfl) (rfl) ?_;conv=>whnf
 conv=>whnf
 refine .mk (2) ([D.lit (.int .i64 (W.w:Nat))]) (rfl) (rfl) ?_;conv=>whnf
 conv=>whnf
 refine .mk (by kernel_rfl) ?_;conv=>whnf
 rw[u1,u2,u3];refine .mk _ ⟨by omega,rfl⟩ u4 ?_;conv=>whnf
 rw[v1,v2,v3];refine .mk _ ⟨by omega,rfl⟩ v4 ?_;conv=>whnf
 refine .mk (by kernel_rfl) ?_;conv=>whnf
 rw[u5,v5,m1,m2,m3,m4];refine bF (decide_eq_false (by omega)) ?_;conv=>whnf
 refine .mk Nat (fun r=>⟨[(122,vl (.int .i64 (r:Nat))),(121,vl (.int .i64 (W.rows:Nat))),(19,.a (.own 0 1 (wnR (W.l5 r))))]++wnT W,[(0,.arr 22 1 (wnR (W.l5 r)).length)],1⟩) (fun r=>r≤W.rows) (fun r=>W.rows-r) 0
  (Wk.trans (Wk.own 19 0 22 1 rfl rfl (zL_ _)) Wk.go) (zL_ _) fun r hr=> ?_
 conv=>whnf
 refine bs (fun g0=> ?_) (fun g0=> ?_)
 ·conv=>whnf
  have hr':r<W.rows:=by simpa using g0
  refine .mk Nat (fun q=>⟨[(126,vl (.int .i64 (q:Nat))),(125,vl (.int .i64 (W.cols:Nat))),(20,vl (.int .i64 (r:Nat))),(122,vl (.int .i64 (r:Nat))),(121,vl (.int .i64 (W.rows:Nat))),(19,.a (.own 0 1 (wnR (W.l5 r++W.l4 r q))))]++wnT W,[(0,.arr 22 1 (wnR (W.l5 r++W.l4 r q)).length)],1⟩) (fun q=>q≤W.cols) (fun q=>W.cols-q) 0
   (by rw[show W.l5 r++W.l4 r 0=W.l5 r from List.append_nil _];exact Wk.go) (zL_ _) fun q hq=> ?_
  conv=>whnf
  refine bs (fun g1=> ?_) (fun g1=> ?_)
  ·conv=>whnf
   have hq':q<W.cols:=by simpa using g1
   refine .mk Nat (fun ch=>⟨[(130,vl (.int .i64 (ch:Nat))),(129,vl (.int .i64 (W.c:Nat))),(21,vl (.int .i64 (q:Nat))),(22,.a (.own 1 1 (inR (W.l3 r q ch)))),(126,vl (.int .i64 (q:Nat))),(125,vl (.int .i64 (W.cols:Nat))),(20,vl (.int .i64 (r:Nat))),(122,vl (.int .i64 (r:Nat))),(121,vl (.int .i64 (W.rows:Nat))),(19,.a (.own 0 1 (wnR (W.l5 r++W.l4 r q))))]++wnT W,
     [(1,.arr 3 1 (inR (W.l3 r q ch)).length),(0,.arr 22 1 (wnR (W.l5 r++W.l4 r q)).length)],2⟩) (fun ch=>ch≤W.c) (fun ch=>W.c-ch) 0
    (Wk.trans (Wk.own 22 1 3 1 rfl rfl (zL_ _)) Wk.go) (zL_ _) fun ch hc=> ?_
   conv=>whnf
   refine bs (fun g2=> ?_) (fun g2=> ?_)
   ·conv=>whnf
    have hc':ch<W.c:=by simpa using g2
    refine .mk Nat (fun i=>⟨[(134,vl (.int .i64 (i:Nat))),(133,vl (.int .i64 (W.kh:Nat))),(23,vl (.int .i64 (ch:Nat))),(130,vl (.int .i64 (ch:Nat))),(129,vl (.int .i64 (W.c:Nat))),(21,vl (.int .i64 (q:Nat))),(22,.a (.own 1 1 (inR (W.l3 r q ch++W.l2 r q ch i)))),(126,vl (.int .i64 (q:Nat))),(125,vl (.int .i64 (W.cols:Nat))),(20,vl (.int .i64 (r:Nat))),(122,vl (.int .i64 (r:Nat))),(121,vl (.int .i64 (W.rows:Nat))),(19,.a (.own 0 1 (wnR (W.l5 r++W.l4 r q))))]++wnT W,
      [(1,.arr 3 1 (inR (W.l3 r q ch++W.l2 r q ch i)).length),(0,.arr 22 1 (wnR (W.l5 r++W.l4 r q)).length)],2⟩) (fun i=>i≤W.kh) (fun i=>W.kh-i) 0
     (by rw[show W.l3 r q ch++W.l2 r q ch 0=W.l3 r q ch from List.append_nil _];exact Wk.go) (zL_ _) fun i hi=> ?_
    conv=>whnf
    refine bs (fun g3=> ?_) (fun g3=> ?_)
    ·conv=>whnf
     have hi':i<W.kh:=by simpa using g3
     refine .mk Nat (fun k=>⟨[(138,vl (.int .i64 (k:Nat))),(137,vl (.int .i64 (W.kw:Nat))),(24,vl (.int .i64 (i:Nat))),(134,vl (.int .i64 (i:Nat))),(133,vl (.int .i64 (W.kh:Nat))),(23,vl (.int .i64 (ch:Nat))),(130,vl (.int .i64 (ch:Nat))),(129,vl (.int .i64 (W.c:Nat))),(21,vl (.int .i64 (q:Nat))),(22,.a (.own 1 1 (inR (W.l3 r q ch++W.l2 r q ch i++W.l1 r q ch i k)))),(126,vl (.int .i64 (q:Nat))),(125,vl (.int .i64 (W.cols:Nat))),(20,vl (.int .i64 (r:Nat))),(122,vl (.int .i64 (r:Nat))),(121,vl (.int .i64 (W.rows:Nat))),(19,.a (.own 0 1 (wnR (W.l5 r++W.l4 r q))))]++wnT W,
       [(1,.arr 3 1 (inR (W.l3 r q ch++W.l2 r q ch i++W.l1 r q ch i k)).length),(0,.arr 22 1 (wnR (W.l5 r++W.l4 r q)).length)],2⟩) (fun k=>k≤W.kw) (fun k=>W.kw-k) 0
      (by rw[show W.l3 r q ch++W.l2 r q ch i++W.l1 r q ch i 0=W.l3 r q ch++W.l2 r q ch i from List.append_nil _];exact Wk.go) (zL_ _) fun k hk=> ?_
     conv=>whnf
     refine bs (fun g4=> ?_) (fun g4=> ?_)
     ·conv=>whnf
      have hk':k<W.kw:=by simpa using g4
      obtain⟨y,hy⟩:∃y:Int,y=(r*W.st+i:Nat)-(W.pad:Int):=⟨_,rfl⟩;obtain⟨x,hx⟩:∃x:Int,x=(q*W.st+k:Nat)-(W.pad:Int):=⟨_,rfl⟩;obtain⟨⟨y1,y2⟩,⟨x1,x2⟩,z1,z2,z3⟩:=wn_el ok hr' hq' hc' hi' hk' y x hy hx;have ey:IntKind.i64.wrap (IntKind.i64.wrap (IntKind.i64.wrap ((r:Int)*(W.st:Int))+(i:Int))-(W.pad:Int))=y:=by
       rw[←Int.natCast_mul,wr_yx (by omega) (by omega) (by omega),hy]
      have ex:IntKind.i64.wrap (IntKind.i64.wrap (IntKind.i64.wrap ((q:Int)*(W.st:Int))+(k:Int))-(W.pad:Int))=x:=by
       rw[←Int.natCast_mul,wr_yx (by omega) (by omega) (by omega),hx]
      have el:W.el r q ch i k=if 0≤y∧y<W.h∧0≤x∧x<W.w then(ch*W.h+y)*W.w+x else -1:=by rw[hy,hx];rfl
      have hlen:(W.l3 r q ch++W.l2 r q ch i++W.l1 r q ch i k++[W.el r q ch i k]).length≤100000:=by
       have q1:ch*(W.kh*W.kw)≤24*36:=Nat.mul_le_mul (by omega) (Nat.mul_le_mul k2 k4);have q2:i*W.kw≤6*6:=Nat.mul_le_mul (by omega) k4;simp only[List.length_append,Wn.l3_len,Wn.l2_len,Wn.l1_len,List.length_singleton];omega
      have nxt:W.l3 r q ch++W.l2 r q ch i++W.l1 r q ch i (k+1)=W.l3 r q ch++W.l2 r q ch i++W.l1 r q ch i k++[W.el r q ch i k]:=by
       rw[show W.l1 r q ch i (k+1)=W.l1 r q ch i k++[W.el r q ch i k]from range_map_snoc _ _,←List.append_assoc]
      rw[ey,ex];have app:∀z:Int,W.el r q ch i k=z→inR (W.l3 r q ch++W.l2 r q ch i++W.l1 r q ch i k++[W.el r q ch i k])=inR (W.l3 r q ch++W.l2 r q ch i++W.l1 r q ch i k)++[[D.lit (.int .i64 z)]]:=fun z h=>by rw[h,inR,List.map_append];rfl
      refine bs (fun t1=> ?_) (fun t1=> ?_)
      ·conv=>whnf
       refine bs (fun t2=> ?_) (fun t2=> ?_)
       ·conv=>whnf
        refine bs (fun t3=> ?_) (fun t3=> ?_)
        ·conv=>whnf
         refine bs (fun t4=> ?_) (fun t4=> ?_)
         ·conv=>whnf
          have a1:=of_decide_eq_true t1;have a2:=of_decide_eq_true t2;have a3:=of_decide_eq_true t3;have a4:=of_decide_eq_true t4;have el1:W.el r q ch i k=(ch*W.h+y)*W.w+x:=by rw[el,if_pos ⟨a1,a2,a3,a4⟩]
          obtain⟨yn,rfl⟩:∃n:Nat,y=n:=⟨y.toNat,by omega⟩;have z4:(ch*W.h+yn)*W.w≤2000*24:=Nat.mul_le_mul (by omega) (by omega);have e5:IntKind.i64.wrap (IntKind.i64.wrap (IntKind.i64.wrap (IntKind.i64.wrap ((ch:Int)*(W.h:Int))+(yn:Int))*(W.w:Int))+x)=W.el r q ch i k:=by
           have c1:IntKind.i64.wrap ((ch:Int)*(W.h:Int))=((ch*W.h:Nat):Int):=by rw[←Int.natCast_mul,wrN (by omega)]
           have c2:IntKind.i64.wrap (((ch*W.h:Nat):Int)+(yn:Int))=((ch*W.h+yn:Nat):Int):=by rw[←Int.natCast_add,wrN (by omega)]
           have c3:IntKind.i64.wrap (((ch*W.h+yn:Nat):Int)*(W.w:Int))=(((ch*W.h+yn)*W.w:Nat):Int):=by rw[←Int.natCast_mul];exact wrN (Nat.lt_of_le_of_lt z4 (by decide))
           have e6:(((ch:Int)*W.h+yn)*W.w+x:Int)=(((ch*W.h+yn)*W.w:Nat):Int)+x:=by simp
           rw[c1,c2,c3,el1,e6];generalize (ch*W.h+yn)*W.w=A at z4 ⊢;exact wr64 (by omega) (by omega)
          rw[e5];refine .mk _ rfl (app _ rfl) (by rw[inR,List.length_map];omega) ?_;conv=>whnf
          exact⟨k+1,by rw[nxt];exact Wk.go,hk',by omega⟩
         ·conv=>whnf
          have a4:=of_decide_eq_false t4;refine .mk _ rfl (app _ (by rw[el,if_neg (by omega)])) (by rw[inR,List.length_map];omega) ?_;conv=>whnf
          exact⟨k+1,by rw[nxt];exact Wk.go,hk',by omega⟩
        ·conv=>whnf
         have a3:=of_decide_eq_false t3;refine .mk _ rfl (app _ (by rw[el,if_neg (by omega)])) (by rw[inR,List.length_map];omega) ?_;conv=>whnf
         exact⟨k+1,by rw[nxt];exact Wk.go,hk',by omega⟩
       ·conv=>whnf
        have a2:=of_decide_eq_false t2;refine .mk _ rfl (app _ (by rw[el,if_neg (by omega)])) (by rw[inR,List.length_map];omega) ?_;conv=>whnf
        exact⟨k+1,by rw[nxt];exact Wk.go,hk',by omega⟩
      ·conv=>whnf
       have a1:=of_decide_eq_false t1;refine .mk _ rfl (app _ (by rw[el,if_neg (by omega)])) (by rw[inR,List.length_map];omega) ?_;conv=>whnf
       exact⟨k+1,by rw[nxt];exact Wk.go,hk',by omega⟩
     ·conv=>whnf
      have e:k=W.kw:=by simp at g4;omega
      subst e;exact⟨i+1,by rw[show W.l3 r q ch++W.l2 r q ch (i+1)=W.l3 r q ch++W.l2 r q ch i++W.l1 r q ch i W.kw by rw[show W.l2 r q ch (i+1)=W.l2 r q ch i++W.l1 r q ch i W.kw from range_fm_snoc _ _,←List.append_assoc]];exact Wk.go,hi',by omega⟩
    ·conv=>whnf
     have e:i=W.kh:=by simp at g3;omega
     subst e;exact⟨ch+1,by rw[show W.l3 r q (ch+1)=W.l3 r q ch++W.l2 r q ch W.kh from range_fm_snoc _ _];exact Wk.go,hc',by omega⟩
   ·conv=>whnf
    have e:ch=W.c:=by simp at g2;omega
    subst e;have nxt:W.l5 r++W.l4 r (q+1)=W.l5 r++W.l4 r q++[W.l3 r q W.c]:=by rw[show W.l4 r (q+1)=W.l4 r q++[W.l3 r q W.c]from range_map_snoc _ _,←List.append_assoc]
    have hlen:(W.l5 r++W.l4 r q++[W.l3 r q W.c]).length≤100000:=by
     have q1:r*W.cols≤30*30:=Nat.mul_le_mul (by omega) (by omega);simp only[List.length_append,Wn.l5_len,Wn.l4_len,List.length_singleton];omega
    refine .mk (wnR (W.l5 r++W.l4 r q++[W.l3 r q W.c])) rfl (by rw[wnR,List.map_append];rfl) (by rw[wnR,List.length_map];omega) ?_;conv=>whnf
    exact⟨q+1,by rw[nxt];exact Wk.go,hq',by omega⟩
  ·conv=>whnf
   have e:q=W.cols:=by simp at g1;omega
   subst e;exact⟨r+1,by rw[show W.l5 (r+1)=W.l5 r++W.l4 r W.cols from range_fm_snoc _ _];exact Wk.go,hr',by omega⟩
 ·conv=>whnf
  have e:r=W.rows:=by simp at g0;omega
  subst e;exact .s ⟨rfl,rfl⟩
structure Op (α:Type) where
 num:Rat→α
 add:α→α→α
 sc:α→Rat→α
structure Hm {α β:Type}(o:Op α)(p:Op β)(h:α→β):Prop where
 num:∀q,h (o.num q)=p.num q
 add:∀a b,h (o.add a b)=p.add (h a) (h b)
 sc:∀a q,h (o.sc a q)=p.sc (h a) q
def ratO:Op Rat:=⟨fun q=>q,fun a b=>a+b,fun a w=>w*a⟩
def afO:Op Af:=⟨numS,addS,scaleS⟩
section
variable {α β:Type} (o:Op α)
abbrev atO (x:List α)(k:Nat):α:=x.getD k (o.num 0)
def dotN (ws:List Rat)(off:Nat)(x:List α)(b:Rat):Nat→α
 |0=>o.num b
 |k+1=>o.add (dotN ws off x b k) (o.sc (atO o x k) (ws.getD (off+k) 0))
def denseG (ws bs:List Rat)(x:List α):List α:=(List.range bs.length).map fun r=>dotN o ws (r*x.length) x (bs.getD r 0) x.length
def cvN (ws:List Rat)(off:Nat)(w:List Int)(x:List α)(b:Rat):Nat→α
 |0=>o.num b
 |k+1=>if 0≤w.getD k 0 then o.add (cvN ws off w x b k) (o.sc (atO o x (w.getD k 0).toNat) (ws.getD (off+k) 0))else cvN ws off w x b k
def convG (W:List (List Int))(ws bs:List Rat)(x:List α):List α:=(List.range bs.length).flatMap fun c=>W.map fun w=>cvN o ws (c*w.length) w x (bs.getD c 0) w.length
def pick (x:List α)(n:Nat)(w:List Int)(ch:Nat):List α:=((w.take ((ch+1)*n)).drop (ch*n)).map fun i=>atO o x i.toNat
def picks (W:List (List Int))(c n:Nat)(x:List α):List (List α):=(List.range c).flatMap fun ch=>W.map fun w=>pick o x n w ch
def sumG (l:List α):α:=l.foldl o.add (o.num 0)
def meanG (l:List α):α:=o.sc (sumG o l) (1/(l.length:Rat))
def addG (x y:List α):List α:=(List.range x.length).map fun i=>o.add (atO o x i) (atO o y i)
end
section
variable {α β:Type} {o:Op α} {p:Op β} {h:α→β}
theorem Hm.at (H:Hm o p h)(x:List α)(k:Nat):h (atO o x k)=atO p (x.map h) k:=by
 unfold atO;rw[List.getD_eq_getElem?_getD,List.getD_eq_getElem?_getD,List.getElem?_map]
 cases x[k]? with
 |none=>exact H.num 0
 |some y=>rfl
theorem Hm.dotN (H:Hm o p h)(ws:List Rat)(off:Nat)(x:List α)(b:Rat):∀k,h (Lf.dotN o ws off x b k)=Lf.dotN p ws off (x.map h) b k
 |0=>H.num b
 |k+1=>by simp only[Lf.dotN,H.add,H.sc,H.at,H.dotN ws off x b k]
theorem Hm.cvN (H:Hm o p h)(ws:List Rat)(off:Nat)(w:List Int)(x:List α)(b:Rat):∀k,h (Lf.cvN o ws off w x b k)=Lf.cvN p ws off w (x.map h) b k
 |0=>H.num b
 |k+1=>by
  simp only[Lf.cvN];split
  ·simp only[H.add,H.sc,H.at,H.cvN ws off w x b k]
  ·exact H.cvN ws off w x b k
theorem Hm.dense (H:Hm o p h)(ws bs:List Rat)(x:List α):(denseG o ws bs x).map h=denseG p ws bs (x.map h):=by
 simp only[denseG,List.map_map,List.length_map];exact List.map_congr_left fun r _=>H.dotN ..
theorem Hm.conv (H:Hm o p h)(W:List (List Int))(ws bs:List Rat)(x:List α):(convG o W ws bs x).map h=convG p W ws bs (x.map h):=by
 simp only[convG,List.map_flatMap,List.map_map]
 congr 1;funext c
 exact List.map_congr_left fun w _=>H.cvN ..
theorem Hm.pick (H:Hm o p h)(x:List α)(n:Nat)(w:List Int)(ch:Nat):(Lf.pick o x n w ch).map h=Lf.pick p (x.map h) n w ch:=by
 simp only[Lf.pick,List.map_map];exact List.map_congr_left fun i _=>H.at ..
theorem Hm.picks (H:Hm o p h)(W:List (List Int))(c n:Nat)(x:List α):(Lf.picks o W c n x).map (List.map h)=Lf.picks p W c n (x.map h):=by
 simp only[Lf.picks,List.map_flatMap,List.map_map]
 congr 1;funext c
 exact List.map_congr_left fun w _=>H.pick ..
theorem Hm.fold (H:Hm o p h):∀(l:List α) (a:α),h (l.foldl o.add a)=(l.map h).foldl p.add (h a)
 |[],_=>rfl
 |x::l,a=>by rw[List.foldl_cons,H.fold l,H.add];rfl
theorem Hm.mean (H:Hm o p h)(l:List α):h (meanG o l)=meanG p (l.map h):=by
 simp only[meanG,sumG,H.sc,H.fold,H.num,List.length_map]
theorem Hm.addl (H:Hm o p h)(x y:List α):(addG o x y).map h=addG p (x.map h) (y.map h):=by
 simp only[addG,List.map_map,List.length_map];exact List.map_congr_left fun i _=>by simp only[Function.comp,H.add,H.at]
end
theorem hmPh (ξ:Int→Rat):Hm afO ratO (ph 1 ξ):=⟨fun q=>by rw[show afO.num q=numS q from rfl,ph_num];show 1*q=q;grind,fun a b=>ph_add,fun a q=>by rw[show afO.sc a q=scaleS a q from rfl,ph_scale];show _=q*_;grind⟩
def Lw (L e m:Nat)(q:Rat):Prop:=∃z:Int,q*((L^e:Nat):Rat)=(z:Rat)∧z.natAbs≤m*2^(30000*e)
section
variable {L e m n:Nat} {a b:Rat}
theorem Lv.w (k:Lv L e a):Lw L e 1 a:=by obtain⟨z,h1,h2⟩:=k;exact⟨z,h1,by rw[Nat.one_mul];exact h2⟩
theorem Lw.mono (k:Lw L e m a)(h:m≤n):Lw L e n a:=by obtain⟨z,h1,h2⟩:=k;exact⟨z,h1,tL_ h2 (Nat.mul_le_mul_right _ h)⟩
theorem Lw.add (k:Lw L e m a)(k':Lw L e n b):Lw L e (m+n) (a+b):=by
 obtain⟨z,h1,h2⟩:=k;obtain⟨y,h3,h4⟩:=k';refine⟨z+y,by rw[Rat.intCast_add,←h1,←h3];grind,?_⟩;rw[Nat.add_mul];exact tL_ (Int.natAbs_add_le _ _) (Nat.add_le_add h2 h4)
theorem le_w {m:Nat}(h:m≤1000000):m≤2^100:=tL_ h (tL_ (by decide:1000000≤2^20) (Nat.pow_le_pow_right (by decide) (by decide)))
theorem Lw.up (h:LOk L)(k:Lw L e m a)(hm:m≤1000000):Lv L (e+1) a:=let ⟨_,h1,h2⟩:=k;Lv.up1 h h1 h2 (le_w hm)
theorem Lv.at {x:List Rat}(h:∀v∈x,Lv L e v)(k:Nat):Lv L e (x.getD k 0):=by
 rw[List.getD_eq_getElem?_getD]
 cases hk:x[k]? with
 |none=>exact Lv.zero
 |some v=>exact h v (mG_ hk)
end
structure Pt (p:Op Rat):Prop where
 num:∀q,p.num q=q∨p.num q=0
 z:p.num 0=0
 add:∀a b,p.add a b=a+b
 sc:∀a w,p.sc a w=w*a
theorem pt_rat:Pt ratO:=⟨fun _=> .inl rfl,rfl,fun _ _=>rfl,fun _ _=>rfl⟩
def zO:Op Rat:=⟨fun _=>0,fun a b=>a+b,fun a w=>w*a⟩
theorem pt_z:Pt zO:=⟨fun _=> .inr rfl,rfl,fun _ _=>rfl,fun _ _=>rfl⟩
theorem hmCof (w:Int):Hm afO zO (fun f=>cof f.ts w):=⟨fun q=>rfl,fun a b=>by rw[show afO.add a b=addS a b from rfl,addS,cof_fold];rfl,fun a q=>by rw[show afO.sc a q=scaleS a q from rfl,scaleS,cof_scale];show _=q*_;grind⟩
theorem hmC:Hm afO ratO (fun f=>f.c):=⟨fun q=>rfl,fun a b=>rfl,fun a q=>by show a.c*q=q*a.c;grind⟩
section
variable {L e:Nat} {p:Op Rat}
theorem Pt.lv (P:Pt p){b:Rat}(h:Lv L e b):Lv L e (p.num b):=by
 rcases P.num b with k|k<;>rw[k]
 ·exact h
 ·exact Lv.zero
theorem Pt.at (P:Pt p){x:List Rat}(h:∀v∈x,Lv L e v)(k:Nat):Lv L e (atO p x k):=by unfold atO;rw[P.z];exact Lv.at h k
theorem Pt.dotN (P:Pt p)(hL:LOk L){ws x:List Rat}{b:Rat}(off:Nat)(hw:∀q∈ws,Lv L 1 q)(hx:∀v∈x,Lv L e v)(hb:Lv L 1 b):∀k,Lw L (e+1) (k+1) (Lf.dotN p ws off x b k)
 |0=>by rw[Lf.dotN];exact((P.lv hb).mono hL (by omega)).w
 |k+1=>by
  rw[Lf.dotN,P.add,P.sc];have h2:=(Lv.at hw (off+k)).mul (P.at hx k);rw[Nat.add_comm 1 e]at h2;exact(P.dotN hL off hw hx hb k).add h2.w
theorem Pt.cvN (P:Pt p)(hL:LOk L){ws x:List Rat}{b:Rat}(off:Nat)(w:List Int)(hw:∀q∈ws,Lv L 1 q)(hx:∀v∈x,Lv L e v)(hb:Lv L 1 b):∀k,Lw L (e+1) (k+1) (Lf.cvN p ws off w x b k)
 |0=>by rw[Lf.cvN];exact((P.lv hb).mono hL (by omega)).w
 |k+1=>by
  rw[Lf.cvN];split
  ·rw[P.add,P.sc];have h2:=(Lv.at hw (off+k)).mul (P.at hx (w.getD k 0).toNat);rw[Nat.add_comm 1 e]at h2;exact(P.cvN hL off w hw hx hb k).add h2.w
  ·exact(P.cvN hL off w hw hx hb k).mono (by omega)
theorem Pt.sum (P:Pt p):∀{x:List Rat} (hx:∀v∈x,Lv L e v) {a:Rat} {m:Nat} (ha:Lw L e m a),Lw L e (m+x.length) (x.foldl p.add a)
 |[],_,a,m,ha=>ha
 |v::x,hx,a,m,ha=>by
  rw[List.foldl_cons,List.length_cons,P.add];have:=P.sum (x:=x) (fun y hy=>hx y (List.mem_cons_of_mem _ hy)) (ha.add (hx v List.mem_cons_self).w)
  rwa [show m+1+x.length=m+(x.length+1) by omega]at this
theorem Pt.sum0 (P:Pt p){x:List Rat}(hx:∀v∈x,Lv L e v):Lw L e (x.length+1) (sumG p x):=by
 have:=P.sum hx (a:=p.num 0) (m:=1) (by rw[P.z];exact Lv.zero.w)
 rwa [Nat.add_comm]at this
theorem Pt.mean (P:Pt p)(hL:LOk L){x:List Rat}(hx:∀v∈x,Lv L e v)(hn:x.length≤1000)(hq:Lv L 1 (1/(x.length:Rat))):Lv L (e+2) (meanG p x):=by
 have h1:=(P.sum0 hx).up hL (by omega);rw[meanG,P.sc];have h2:=hq.mul h1
 rwa [show 1+(e+1)=e+2 by omega]at h2
end
inductive Lay where
 |dense (ws bs:List Rat)
 |conv (kh kw st pad:Nat) (ws bs:List Rat)
 |mx (kh kw st:Nat)
 |av (kh kw st:Nat)
 |relu
 |flat
 |add (fr:Int)
def maxQ (a b:Rat):Rat:=if b≤a then a else b
def maxL (l:List Rat):Rat:=l.tail.foldl maxQ (l.headD 0)
def winS (s:List Nat)(kh kw st pad:Nat):Wn:=⟨s.getD 0 0,s.getD 1 0,s.getD 2 0,kh,kw,st,pad⟩
def outS (l:Lay)(s:List Nat):List Nat:=match l with
 | .dense _ bs=>[bs.length]
 | .conv kh kw st pad _ bs=>[bs.length,(winS s kh kw st pad).rows,(winS s kh kw st pad).cols]
 | .mx kh kw st=>[s.getD 0 0,(winS s kh kw st 0).rows,(winS s kh kw st 0).cols]
 | .av kh kw st=>[s.getD 0 0,(winS s kh kw st 0).rows,(winS s kh kw st 0).cols]
 | .relu=>s
 | .flat=>[szS s]
 | .add _=>s
def eLay (l:Lay)(s:List Nat)(all:List (List Rat))(x:List Rat):List Rat:=match l with
 | .dense ws bs=>denseG ratO ws bs x
 | .conv kh kw st pad ws bs=>convG ratO (winS s kh kw st pad).all ws bs x
 | .mx kh kw st=>(picks ratO (winS s kh kw st 0).all (s.getD 0 0) (kh*kw) x).map maxL
 | .av kh kw st=>(picks ratO (winS s kh kw st 0).all (s.getD 0 0) (kh*kw) x).map (meanG ratO)
 | .relu=>x.map fun q=>maxQ q 0
 | .flat=>x
 | .add fr=>addG ratO x (all.getD (fr+1).toNat [])
def unS (l:Lay)(s:List Nat):Nat:=match l with
 | .mx kh kw st=>(kh*kw-1)*szS (outS l s)
 | .relu=>szS s
 |_=>0
structure ShOk (s:List Nat):Prop where
 l1:1≤s.length
 l4:s.length≤4
 pos:∀d∈s,1≤d
 sz:szS s≤24
def Fit (l:Lay)(i:Nat)(ss:List (List Nat))(s:List Nat):Prop:=match l with
 | .dense ws bs=>1≤bs.length∧ws.length=bs.length*szS s
 | .conv kh kw st pad ws bs=>(winS s kh kw st pad).Ok∧s.length=3∧1≤bs.length∧ws.length=bs.length*(s.getD 0 0*(kh*kw))
 | .mx kh kw st=>(winS s kh kw st 0).Ok∧s.length=3
 | .av kh kw st=>(winS s kh kw st 0).Ok∧s.length=3
 | .relu=>True
 | .flat=>True
 | .add fr=> -1≤fr∧fr<i∧ss.getD (fr+1).toNat []=s
def parS (l:Lay):List Rat:=match l with
 | .dense ws bs=>ws++bs
 | .conv _ _ _ _ ws bs=>ws++bs
 |_=>[]
structure Mo where
 inp:List Nat
 ls:List Lay
def Mo.lay (m:Mo)(i:Nat):Lay:=m.ls.getD i .flat
def Mo.sh (m:Mo):Nat→List Nat
 |0=>m.inp
 |i+1=>outS (m.lay i) (m.sh i)
def Mo.shs (m:Mo)(n:Nat):List (List Nat):=(List.range n).map m.sh
def Mo.un (m:Mo):Nat→Nat
 |0=>0
 |i+1=>m.un i+unS (m.lay i) (m.sh i)
def Mo.al (m:Mo)(x:List Rat):Nat→List (List Rat)
 |0=>[x]
 |i+1=>m.al x i++[eLay (m.lay i) (m.sh i) (m.al x i) ((m.al x i).getD i [])]
def Mo.out (m:Mo)(x:List Rat):List Rat:=(m.al x m.ls.length).getD m.ls.length []
structure MoOk (m:Mo):Prop where
 n:m.ls.length≤6
 sh:∀i,i≤m.ls.length→ShOk (m.sh i)
 fit:∀i,i<m.ls.length→Fit (m.lay i) i (m.shs (i+1)) (m.sh i)
 par:∀l∈m.ls,∀q∈parS l,q.num.natAbs≤4294967296∧q.den≤4294967296
 pn:∀l∈m.ls,(parS l).length≤104
 un:m.un m.ls.length≤20
theorem szS1 (a:Nat):szS [a]=a:=by simp[szS]
theorem szS3 (a b c:Nat):szS [a,b,c]=a*b*c:=by simp[szS]
theorem len3 {s:List Nat}(h:s.length=3):s=[s.getD 0 0,s.getD 1 0,s.getD 2 0]:=by
 match s,h with
 |[a,b,c],_=>rfl
theorem Wn.all_ln (W:Wn):W.all.length=W.rows*W.cols:=Wn.l5_len
section
variable {α:Type} {o:Op α}
theorem conv_ln (W:List (List Int))(ws bs:List Rat)(x:List α):(convG o W ws bs x).length=bs.length*W.length:=fm_len (fun i=>List.length_map ..) _
theorem picks_ln (W:List (List Int))(c n:Nat)(x:List α):(picks o W c n x).length=c*W.length:=fm_len (fun i=>List.length_map ..) _
theorem pick_ln {x:List α}{n ch c:Nat}{w:List Int}(hw:w.length=c*n)(hc:ch<c):(pick o x n w ch).length=n:=by
 have h1:(ch+1)*n≤c*n:=Nat.mul_le_mul_right _ hc;simp only[pick,List.length_map,List.length_drop,List.length_take,hw,Nat.min_eq_left h1];rw[Nat.add_mul];omega
theorem picks_mem {W:List (List Int)}{c n:Nat}{x l:List α}(h:l∈picks o W c n x):∃ch w,ch<c∧w∈W∧l=pick o x n w ch:=by
 unfold picks at h;obtain⟨ch,h1,h⟩:=List.mem_flatMap.1 h;obtain⟨w,h2,rfl⟩:=List.mem_map.1 h;exact⟨ch,w,List.mem_range.1 h1,h2,rfl⟩
end
theorem out_ln (l:Lay)(s:List Nat)(i:Nat)(ss:List (List Nat))(all:List (List Rat))(x:List Rat)(hx:x.length=szS s)(hf:Fit l i ss s):(eLay l s all x).length=szS (outS l s):=by
 cases l with
 |dense ws bs=>simp only[eLay,outS,szS1,denseG,List.length_map,List.length_range]
 |conv kh kw st pad ws bs=>simp only[eLay,outS,szS3,conv_ln,Wn.all_ln,Nat.mul_assoc]
 |mx kh kw st=>simp only[eLay,outS,szS3,List.length_map,picks_ln,Wn.all_ln,Nat.mul_assoc]
 |av kh kw st=>simp only[eLay,outS,szS3,List.length_map,picks_ln,Wn.all_ln,Nat.mul_assoc]
 |relu=>simp only[eLay,outS,List.length_map,hx]
 |flat=>simp only[eLay,outS,szS1,hx]
 |add fr=>simp only[eLay,outS,addG,List.length_map,List.length_range,hx]
structure LvO (L:Nat)(l:Lay):Prop where
 ok:LOk L
 par:∀q∈parS l,Lv L 1 q
 inv:∀n:Nat,n≤36→Lv L 1 (1/(n:Rat))
theorem maxL_mem:∀{l:List Rat},l≠[]→maxL l∈l
 |[],h=>absurd rfl h
 |a::l,_=>by
  have:∀(l:List Rat) (a:Rat),l.foldl maxQ a∈a::l:=by
   intro l
   induction l with
   |nil=>intro a;simp
   |cons b l ih=>
    intro a;rw[List.foldl_cons];rcases List.mem_cons.1 (ih (maxQ a b))with h|h
    ·rw[h];unfold maxQ;split<;>simp
    ·simp[h]
  exact this l a
theorem pick_lv {L e:Nat}{p:Op Rat}(P:Pt p){x:List Rat}(hx:∀v∈x,Lv L e v){n ch:Nat}{w:List Int}:∀v∈pick p x n w ch,Lv L e v:=fun v hv=>by
 obtain⟨i,_,rfl⟩:=List.mem_map.1 hv;exact P.at hx _
theorem khw {kh kw:Nat}(h1:kh≤6)(h2:kw≤6):kh*kw≤36:=Nat.mul_le_mul h1 h2
theorem Wn.Ok.n {W:Wn}(h:W.Ok):1≤W.kh*W.kw∧W.kh*W.kw≤36:=⟨Nat.mul_pos h.kh.1 h.kw.1,khw h.kh.2 h.kw.2⟩
theorem Wn.Ok.cn {W:Wn}(h:W.Ok):W.c*(W.kh*W.kw)≤864:=by
 have h1:=h.n.2;have h2:W.c≤24:=tL_ (tL_ (Nat.le_mul_of_pos_right _ h.h) (Nat.le_mul_of_pos_right _ h.w)) h.sz;exact Nat.mul_le_mul h2 h1
theorem ev_lv {L e:Nat}{l:Lay}{s:List Nat}{i:Nat}{ss:List (List Nat)}{all:List (List Rat)}{x:List Rat}(hl:LvO L l)(hs:szS s≤24)(hx:∀v∈x,Lv L e v)(hln:x.length=szS s)(ha:∀y∈all,∀v∈y,Lv L e v)(hf:Fit l i ss s):∀v∈eLay l s all x,Lv L (e+2) v:=by
 have hL:=hl.ok;have up:∀{v},Lv L e v→Lv L (e+2) v:=fun h=>h.mono hL (by omega);intro v hv
 cases l with
 |dense ws bs=>
  obtain⟨r,_,rfl⟩:=List.mem_map.1 hv;exact(pt_rat.dotN hL _ (fun q hq=>hl.par q (List.mem_append_left _ hq)) hx (Lv.at (fun q hq=>hl.par q (List.mem_append_right _ hq)) r) x.length).up hL (by omega)
 |conv kh kw st pad ws bs=>
  obtain⟨c,_,hv⟩:=List.mem_flatMap.1 hv;obtain⟨w,hw,rfl⟩:=List.mem_map.1 hv;have h1:=Wn.all_len hw;have h2:=hf.1.cn;exact(pt_rat.cvN hL _ w (fun q hq=>hl.par q (List.mem_append_left _ hq)) hx (Lv.at (fun q hq=>hl.par q (List.mem_append_right _ hq)) c) w.length).up hL (by omega)
 |mx kh kw st=>
  obtain⟨y,hy,rfl⟩:=List.mem_map.1 hv;obtain⟨ch,w,h1,h2,rfl⟩:=picks_mem hy;have h3:(pick ratO x (kh*kw) w ch).length=kh*kw:=pick_ln (Wn.all_len h2) h1;exact up (pick_lv pt_rat hx _ (maxL_mem fun h=>by rw[h]at h3;have h4:1≤kh*kw:=hf.1.n.1;rw[←h3]at h4;cases h4))
 |av kh kw st=>
  obtain⟨y,hy,rfl⟩:=List.mem_map.1 hv;obtain⟨ch,w,h1,h2,rfl⟩:=picks_mem hy;have h3:(pick ratO x (kh*kw) w ch).length=kh*kw:=pick_ln (Wn.all_len h2) h1;have h4:kh*kw≤36:=hf.1.n.2;exact pt_rat.mean hL (pick_lv pt_rat hx) (by rw[h3];omega) (by rw[h3];exact hl.inv _ h4)
 |relu=>
  obtain⟨q,hq,rfl⟩:=List.mem_map.1 hv;exact up ((hx q hq).max Lv.zero)
 |flat=>exact up (hx v hv)
 |add fr=>
  obtain⟨j,_,rfl⟩:=List.mem_map.1 hv;have:∀v∈all.getD (fr+1).toNat [],Lv L e v:=by
   rw[List.getD_eq_getElem?_getD]
   cases hk:all[(fr+1).toNat]? with
   |none=>intro v hv;cases hv
   |some y=>exact ha y (mG_ hk)
  exact((Lv.at hx j).add hL (Lv.at this j)).mono hL (by omega)
def fac:Nat→Nat
 |0=>1
 |n+1=>(n+1)*fac n
theorem fac_dvd:∀{n k:Nat},1≤k→k≤n→k∣fac n
 |0,k,h1,h2=>by omega
 |n+1,k,h1,h2=>by
  rw[fac];rcases Nat.lt_or_ge k (n+1)with h|h
  ·exact Nat.dvd_mul_left_of_dvd (fac_dvd h1 (by omega)) _
  ·rw[show k=n+1 by omega];exact Nat.dvd_mul_right _ _
def prodD:List Rat→Nat
 |[]=>1
 |q::l=>q.den*prodD l
theorem prodD_pos:∀l,0<prodD l
 |[]=>Nat.one_pos
 |q::l=>Nat.mul_pos q.den_pos (prodD_pos l)
theorem prodD_dvd {q:Rat}:∀{l},q∈l→q.den∣prodD l
 |[],h=>by cases h
 |p::l,h=>by
  rw[prodD];rcases List.mem_cons.1 h with rfl|h
  ·exact Nat.dvd_mul_right _ _
  ·exact Nat.dvd_mul_left_of_dvd (prodD_dvd h) _
theorem prodD_le:∀{l:List Rat},(∀q∈l,q.den≤4294967296)→prodD l≤2^(32*l.length)
 |[],_=>lR_ _
 |q::l,h=>by
  rw[prodD,List.length_cons,Nat.mul_succ,Nat.pow_add,Nat.mul_comm];exact Nat.mul_le_mul (prodD_le fun p hp=>h p (List.mem_cons_of_mem _ hp)) (h q List.mem_cons_self)
def Mo.L (m:Mo):Nat:=fac 36*prodD (m.ls.flatMap parS)
theorem fm_le {α β:Type}{f:α→List β}{k:Nat}:∀{l:List α},(∀a∈l,(f a).length≤k)→(l.flatMap f).length≤l.length*k
 |[],_=>by simp
 |a::l,h=>by
  rw[List.flatMap_cons,List.length_append,List.length_cons,Nat.succ_mul];have:=fm_le (l:=l) fun b hb=>h b (List.mem_cons_of_mem _ hb);have:=h a List.mem_cons_self;omega
theorem MoOk.L {m:Mo}(h:MoOk m):LOk m.L:=by
 refine⟨Nat.mul_pos (by decide) (prodD_pos _),160+32*(m.ls.flatMap parS).length,?_,?_⟩
 ·have h1:=fm_le (f:=parS) (l:=m.ls) h.pn;have h2:=h.n;omega
 ·rw[Nat.pow_add];refine Nat.mul_le_mul (by decide) (prodD_le fun q hq=> ?_);obtain⟨l,hl,hq⟩:=List.mem_flatMap.1 hq;exact(h.par l hl q hq).2
theorem MoOk.lv {m:Mo}(h:MoOk m){i:Nat}(hi:i<m.ls.length):LvO m.L (m.lay i):=by
 have e:m.lay i∈m.ls:=by
  rw[Mo.lay,List.getD_eq_getElem?_getD,List.getElem?_eq_getElem hi];exact List.getElem_mem hi
 refine⟨h.L,fun q hq=>Lv.of h.L (Nat.dvd_mul_left_of_dvd (prodD_dvd (List.mem_flatMap.2 ⟨_,e,hq⟩)) _) (tL_ (h.par _ e q hq).1 (tL_ (by decide:4294967296≤2^32) (Nat.pow_le_pow_right (by decide) (by decide)))) rfl,fun n hn=> ?_⟩;rcases eP_ n with h0|h0
 ·rw[h0];rw[show(1:Rat)/((0:Nat):Rat)=0 by rw[Rat.div_def,show((0:Nat):Rat)=0 from rfl,Rat.inv_zero,Rat.mul_zero]];exact Lv.zero
 ·have e1:(1:Rat)/(n:Rat)=mkRat 1 n:=by rw[Rat.mkRat_eq_div];rfl
  rw[e1];refine Lv.of h.L (Nat.dvd_mul_right_of_dvd ?_ _) ?_ rfl
  ·rw[Rat.den_mkRat,if_neg (by omega)];exact Nat.dvd_trans (Nat.div_dvd_of_dvd (Nat.gcd_dvd_left _ _)) (fac_dvd h0 hn)
  ·rw[Rat.num_mkRat,if_neg (by omega)];rw[show Nat.gcd n (1:Int).natAbs=1 from Nat.gcd_one_right n];exact tL_ (by decide:((1:Int)/((1:Nat):Int)).natAbs≤1) Nat.one_le_two_pow
def Sat (n:Nat)(us:List Af)(ξ:Int→Rat):Prop:=∀(j:Nat) (f:Af),us[j]? =some f→ξ ((n+j:Nat):Int)=maxQ (ph 1 ξ f) 0
def UsOk (L e n:Nat)(us:List Af):Prop:=∀(j:Nat) (f:Af),us[j]? =some f→FLv L e e ((n+j:Nat):Int) f
def z0:Af:=⟨[],0⟩
def mxF (n:Nat):Nat→List Af→List Af→List Af×Af
 |0,us,l=>(us,l.headD z0)
 |k+1,us,l=>
  if l.length=1 then(us,l.headD z0)
  else
   ((mxF n k (mxF n k us (l.take ((l.length+1)/2))).1 (l.drop ((l.length+1)/2))).1++[subS (mxF n k (mxF n k us (l.take ((l.length+1)/2))).1 (l.drop ((l.length+1)/2))).2 (mxF n k us (l.take ((l.length+1)/2))).2],
     addS (mxF n k us (l.take ((l.length+1)/2))).2 (varS ((n+(mxF n k (mxF n k us (l.take ((l.length+1)/2))).1 (l.drop ((l.length+1)/2))).1.length:Nat):Int)))
def mxs (n:Nat):List Af→List (List Af)→List Af×List Af
 |us,[]=>(us,[])
 |us,l::r=>((mxs n (mxF n l.length us l).1 r).1,(mxF n l.length us l).2::(mxs n (mxF n l.length us l).1 r).2)
def lowL (l:Lay)(s:List Nat)(n:Nat)(us:List Af)(all:List (List Af))(x:List Af):List Af×List Af:=match l with
 | .dense ws bs=>(us,denseG afO ws bs x)
 | .conv kh kw st pad ws bs=>(us,convG afO (winS s kh kw st pad).all ws bs x)
 | .mx kh kw st=>mxs n us (picks afO (winS s kh kw st 0).all (s.getD 0 0) (kh*kw) x)
 | .av kh kw st=>(us,(picks afO (winS s kh kw st 0).all (s.getD 0 0) (kh*kw) x).map (meanG afO))
 | .relu=>(us++x,(List.range x.length).map fun j=>varS ((n+(us.length+j):Nat):Int))
 | .flat=>(us,x)
 | .add fr=>(us,addG afO x (all.getD (fr+1).toNat []))
theorem Sat.pre {n:Nat}{us ex:List Af}{ξ:Int→Rat}(h:Sat n (us++ex) ξ):Sat n us ξ:=fun j f hj=>h j f (by rw[List.getElem?_append_left (List.getElem?_eq_some_iff.1 hj).1];exact hj)
theorem UsOk.snoc {L e n:Nat}{us:List Af}{f:Af}(h:UsOk L e n us)(hf:FLv L e e ((n+us.length:Nat):Int) f):UsOk L e n (us++[f]):=fun j g hj=>by
 rcases Nat.lt_trichotomy j us.length with h1|h1|h1
 ·rw[List.getElem?_append_left h1]at hj;exact h j g hj
 ·subst h1;simp at hj;subst hj;exact hf
 ·rw[List.getElem?_eq_none (by simp;omega)]at hj;cases hj
theorem FLv.up {L e e':Nat}{n n':Nat}{f:Af}(hL:LOk L)(h:FLv L e e (n:Int) f)(he:e≤e')(hn:n≤n'):FLv L e' e' (n':Int) f:=h.mono hL he he (Int.ofNat_le.2 hn)
theorem maxQ_assoc (a b c:Rat):maxQ (maxQ a b) c=maxQ a (maxQ b c):=by unfold maxQ;grind
theorem maxL_app:∀{l r:List Rat},l≠[]→r≠[]→maxL (l++r)=maxQ (maxL l) (maxL r)
 |[],_,h,_=>absurd rfl h
 |_::_,[],_,h=>absurd rfl h
 |a::l,b::r,_,_=>by
  have key:∀(r:List Rat) (a b:Rat),r.foldl maxQ (maxQ a b)=maxQ a (r.foldl maxQ b):=by
   intro r
   induction r with
   |nil=>intros;rfl
   |cons c r ih=>intro a b;rw[List.foldl_cons,maxQ_assoc,ih];rfl
  show(l++b::r).foldl maxQ a=maxQ (l.foldl maxQ a) (r.foldl maxQ b);rw[List.foldl_append,List.foldl_cons,key]
theorem maxQ_un (a b:Rat):maxQ a b=a+maxQ (b-a) 0:=by unfold maxQ;grind
structure MxR (L e E n:Nat)(us l:List Af)(r:List Af×Af):Prop where
 ex:∃ex,r.1=us++ex∧ex.length=l.length-1
 us:UsOk L E n r.1
 f:FLv L (e+l.length) (e+l.length) ((n+r.1.length:Nat):Int) r.2
 v:∀ξ,Sat n r.1 ξ→ph 1 ξ r.2=maxL (l.map (ph 1 ξ))
theorem mxF_ok {L E n:Nat}(hL:LOk L):∀(k:Nat) (e:Nat) (us l:List Af),1≤e→e+l.length≤E→1≤l.length→l.length≤k+1→UsOk L E n us→(∀f∈l,FLv L e e ((n+us.length:Nat):Int) f)→MxR L e E n us l (mxF n k us l):=by
 have one:∀(e:Nat) (us l:List Af),l.length=1→UsOk L E n us→(∀f∈l,FLv L e e ((n+us.length:Nat):Int) f)→MxR L e E n us l (us,l.headD z0):=by
  intro e us l h1 hu hl
  match l,h1 with
  |[f],_=>exact⟨⟨[],by simp,rfl⟩,hu,(hl f (by simp)).up hL (by omega) (lR_ _),fun ξ _=>rfl⟩
 intro k
 induction k with
 |zero=>intro e us l _ _ h1 h2 hu hl;exact one e us l (by omega) hu hl
 |succ k ih=>
  intro e us l he hE h1 h2 hu hl;rw[mxF];split
  ·rename_i h3;exact one e us l h3 hu hl
  ·rename_i h3;generalize hm:(l.length+1)/2=m;have m1:1≤m∧m+1≤l.length∧m≤k+1∧l.length-m≤k+1:=by omega
   have t1:(l.take m).length=m:=by rw[List.length_take];omega
   have t2:(l.drop m).length=l.length-m:=List.length_drop;obtain⟨⟨ea,e1,e2⟩,ua,fa,va⟩:=ih e us (l.take m) he (by omega) (by omega) (by omega) hu fun f hf=>hl f (List.mem_of_mem_take hf);generalize mxF n k us (l.take m)=A at *
   obtain⟨uA,gA⟩:=A;simp only at e1 ua fa va ⊢;have lA:uA.length=us.length+(m-1):=by rw[e1,List.length_append,e2,t1]
   obtain⟨⟨eb,e3,e4⟩,ub,fb,vb⟩:=ih e uA (l.drop m) he (by omega) (by omega) (by omega) ua fun f hf=>(hl f (List.mem_of_mem_drop hf)).up hL (lR_ _) (by omega);generalize mxF n k uA (l.drop m)=B at *
   obtain⟨uB,gB⟩:=B;simp only at e3 ub fb vb ⊢;have lB:uB.length=uA.length+(l.length-m-1):=by rw[e3,List.length_append,e4,t2]
   rw[t1]at fa;rw[t2]at fb
   have fs:FLv L (e+l.length) (e+l.length) ((n+uB.length:Nat):Int) (subS gB gA):=
    ((fb.up (e':=e+(l.length-1)) hL (by omega) (lR_ _)).sub hL (fa.up (e':=e+(l.length-1)) hL (by omega) (by omega))).up hL (by omega) (lR_ _)
   refine⟨⟨ea++eb++[subS gB gA],by rw[e3,e1];simp,by simp[e2,e4,t1,t2];omega⟩,ub.snoc (fs.up hL hE (lR_ _)),?_,fun ξ hξ=> ?_⟩
   ·rw[List.length_append];have f1:=fa.up (e':=e+(l.length-1)) (n':=n+(uB.length+1)) hL (by omega) (by omega);have f2:FLv L (e+(l.length-1)) (e+(l.length-1)) ((n+(uB.length+1):Nat):Int) (varS ((n+uB.length:Nat):Int)):=FLv.var hL (Int.natCast_nonneg _) (Int.ofNat_lt.2 (by omega)) (by omega);exact(f1.add hL f2).up hL (by omega) (lR_ _)
   ·have s1:Sat n uB ξ:=hξ.pre;have s2:Sat n uA ξ:=Sat.pre (by rw[←e3];exact s1);have hx:=hξ uB.length (subS gB gA) (by simp);rw[ph_add,ph_var,hx,ph_sub,va ξ s2,vb ξ s1,←maxQ_un,←maxL_app,←List.map_append,List.take_append_drop]
    ·intro h;rw[List.map_eq_nil_iff]at h;rw[h]at t1;simp at t1;omega
    ·intro h;rw[List.map_eq_nil_iff]at h;rw[h]at t2;simp at t2;omega
structure MsR (L e E n:Nat)(us:List Af)(ls:List (List Af))(r:List Af×List Af):Prop where
 ex:∃ex,r.1=us++ex
 len:r.1.length=us.length+(ls.map fun l=>l.length-1).sum
 us:UsOk L E n r.1
 ln:r.2.length=ls.length
 f:∀f∈r.2,FLv L e e ((n+r.1.length:Nat):Int) f
 v:∀ξ,Sat n r.1 ξ→r.2.map (ph 1 ξ)=ls.map fun l=>maxL (l.map (ph 1 ξ))
theorem mxs_ok {L e K E n:Nat}(hL:LOk L)(he:1≤e)(hE:e+K≤E):∀(ls:List (List Af)) (us:List Af),(∀l∈ls,1≤l.length∧l.length≤K)→UsOk L E n us→(∀l∈ls,∀f∈l,FLv L e e ((n+us.length:Nat):Int) f)→MsR L (e+K) E n us ls (mxs n us ls)
 |[],us,_,hu,_=>⟨⟨[],by simp[mxs]⟩,by simp[mxs],hu,rfl,fun f hf=>(by cases hf),fun ξ _=>rfl⟩
 |l::r,us,hl,hu,hf=>by
  have h1:=hl l List.mem_cons_self;obtain⟨⟨ex,e1,e2⟩,u1,f1,v1⟩:=mxF_ok hL l.length e us l he (by omega) h1.1 (by omega) hu (hf l List.mem_cons_self);rw[mxs];generalize mxF n l.length us l=A at *
  obtain⟨uA,gA⟩:=A;simp only at e1 u1 f1 v1 ⊢;have lA:uA.length=us.length+(l.length-1):=by rw[e1,List.length_append,e2]
  obtain⟨⟨ex2,e3⟩,ln,u2,l2,f2,v2⟩:=mxs_ok hL he hE r uA (fun y hy=>hl y (List.mem_cons_of_mem _ hy)) u1 fun y hy f h=>(hf y (List.mem_cons_of_mem _ hy) f h).up hL (lR_ _) (by omega);refine⟨⟨ex++ex2,by rw[e3,e1,List.append_assoc]⟩,by rw[ln,lA,List.map_cons,List.sum_cons];omega,u2,by simp[l2],fun f h=> ?_,fun ξ hξ=> ?_⟩
  ·rcases List.mem_cons.1 h with rfl|h
   ·exact f1.up hL (by omega) (by simp only[ln];omega)
   ·exact f2 f h
  ·have s1:Sat n uA ξ:=Sat.pre (by rw[←e3];exact hξ);simp only[List.map_cons,v1 ξ s1,v2 ξ hξ]
abbrev Ts (n:Int)(f:Af):Prop:=TsOk n 0 f.ts
section
variable {n:Int}
theorem Ts.num (q:Rat):Ts n (afO.num q):=trivial
theorem Ts.add {f g:Af}(h:Ts n f)(h':Ts n g):Ts n (afO.add f g):=ok_fold (fun t ht=>let ⟨k1,k2,k3,k4⟩:=h'.cof_mem t ht;⟨k2,k3⟩) h
theorem Ts.sc {f:Af}(h:Ts n f)(c:Rat):Ts n (afO.sc f c):=ok_scale c h
theorem Ts.at {x:List Af}(h:∀f∈x,Ts n f)(k:Nat):Ts n (atO afO x k):=by
 unfold atO;rw[List.getD_eq_getElem?_getD]
 cases hk:x[k]? with
 |none=>exact Ts.num 0
 |some v=>exact h v (mG_ hk)
theorem Ts.dotN {x:List Af}(h:∀f∈x,Ts n f)(ws:List Rat)(off:Nat)(b:Rat):∀k,Ts n (Lf.dotN afO ws off x b k)
 |0=>Ts.num b
 |k+1=>(Ts.dotN h ws off b k).add ((Ts.at h k).sc _)
theorem Ts.cvN {x:List Af}(h:∀f∈x,Ts n f)(ws:List Rat)(off:Nat)(w:List Int)(b:Rat):∀k,Ts n (Lf.cvN afO ws off w x b k)
 |0=>Ts.num b
 |k+1=>by
  rw[Lf.cvN];split
  ·exact(Ts.cvN h ws off w b k).add ((Ts.at h _).sc _)
  ·exact Ts.cvN h ws off w b k
theorem Ts.fold:∀{x:List Af} (h:∀f∈x,Ts n f) {a:Af},Ts n a→Ts n (x.foldl afO.add a)
 |[],_,a,ha=>ha
 |f::x,h,a,ha=>Ts.fold (x:=x) (fun g hg=>h g (List.mem_cons_of_mem _ hg)) (ha.add (h f List.mem_cons_self))
end
section
variable {L e k:Nat} {n:Int} {f:Af} {x:List Af}
theorem FLv.mk' {p:Nat}(h1:Ts n f)(h2:∀w,Lv L p (cof f.ts w))(h3:Lv L p f.c):FLv L p p n f:=⟨h1,h2,h3⟩
theorem fl_co (h:∀f∈x,FLv L e e n f)(w:Int):∀v∈x.map (fun f=>cof f.ts w),Lv L e v:=fun v hv=>by
 obtain⟨f,hf,rfl⟩:=List.mem_map.1 hv;exact(h f hf).co w
theorem fl_c (h:∀f∈x,FLv L e e n f):∀v∈x.map (fun f=>f.c),Lv L e v:=fun v hv=>by
 obtain⟨f,hf,rfl⟩:=List.mem_map.1 hv;exact(h f hf).c
theorem FLv.dotN (hL:LOk L){ws:List Rat}{b:Rat}(off:Nat)(hw:∀q∈ws,Lv L 1 q)(hx:∀f∈x,FLv L e e n f)(hb:Lv L 1 b)(hk:k≤100000):FLv L (e+2) (e+2) n (Lf.dotN afO ws off x b k):=
 .mk' (Ts.dotN (fun f hf=>(hx f hf).ts) ..) (fun w=>by rw[(hmCof w).dotN];exact(pt_z.dotN hL off hw (fl_co hx w) hb k).up hL (by omega)) (by rw[hmC.dotN];exact(pt_rat.dotN hL off hw (fl_c hx) hb k).up hL (by omega))
theorem FLv.cvN (hL:LOk L){ws:List Rat}{b:Rat}(off:Nat)(w:List Int)(hw:∀q∈ws,Lv L 1 q)(hx:∀f∈x,FLv L e e n f)(hb:Lv L 1 b)(hk:k≤100000):FLv L (e+2) (e+2) n (Lf.cvN afO ws off w x b k):=
 .mk' (Ts.cvN (fun f hf=>(hx f hf).ts) ..) (fun v=>by rw[(hmCof v).cvN];exact(pt_z.cvN hL off w hw (fl_co hx v) hb k).up hL (by omega)) (by rw[hmC.cvN];exact(pt_rat.cvN hL off w hw (fl_c hx) hb k).up hL (by omega))
theorem FLv.sumTo (hL:LOk L)(hx:∀f∈x,FLv L e e n f)(hk:x.length≤100000):FLv L (e+1) (e+1) n (sumG afO x):=
 .mk' (Ts.fold (fun f hf=>(hx f hf).ts) (Ts.num 0)) (fun v=>by rw[sumG,(hmCof v).fold];exact(pt_z.sum0 (fl_co hx v)).up hL (by simp;omega)) (by rw[sumG,hmC.fold];exact(pt_rat.sum0 (fl_c hx)).up hL (by simp;omega))
theorem FLv.mean (hL:LOk L)(hx:∀f∈x,FLv L e e n f)(hk:x.length≤100000)(hq:Lv L 1 (1/(x.length:Rat))):FLv L (e+2) (e+2) n (meanG afO x):=(FLv.sumTo hL hx hk).scale hq
theorem FLv.at (h:∀f∈x,FLv L e e n f)(k:Nat):FLv L e e n (atO afO x k):=by
 unfold atO;rw[List.getD_eq_getElem?_getD]
 cases hk:x[k]? with
 |none=>exact FLv.zero
 |some v=>exact h v (mG_ hk)
theorem fl_pick (h:∀f∈x,FLv L e e n f){m ch:Nat}{w:List Int}:∀f∈pick afO x m w ch,FLv L e e n f:=fun v hv=>by
 obtain⟨i,_,rfl⟩:=List.mem_map.1 hv;exact FLv.at h _
end
structure LwR (L e E n:Nat)(l:Lay)(s:List Nat)(us:List Af)(all:List (List Af))(x:List Af)(r:List Af×List Af):Prop where
 ex:∃ex,r.1=us++ex
 len:r.1.length=us.length+unS l s
 us:UsOk L E n r.1
 f:∀f∈r.2,FLv L (e+40) (e+40) ((n+r.1.length:Nat):Int) f
 v:∀ξ,Sat n r.1 ξ→r.2.map (ph 1 ξ)=eLay l s (all.map (List.map (ph 1 ξ))) (x.map (ph 1 ξ))
theorem getD_map {α β:Type}(h:α→β)(l:List α)(k:Nat)(d:α):(l.map h).getD k (h d)=h (l.getD k d):=by
 rw[List.getD_eq_getElem?_getD,List.getD_eq_getElem?_getD,List.getElem?_map]
 cases l[k]?<;>rfl
theorem lowL_ok {L e E n i:Nat}{l:Lay}{s:List Nat}{ss:List (List Nat)}{us:List Af}{all:List (List Af)}{x:List Af}(hl:LvO L l)(he:1≤e)(hE:e+40≤E)(hs:szS s≤24)(hf:Fit l i ss s)(hxl:x.length=szS s)
  (hu:UsOk L E n us) (hx:∀f∈x,FLv L e e ((n+us.length:Nat):Int) f) (ha:∀y∈all,∀f∈y,FLv L e e ((n+us.length:Nat):Int) f):LwR L e E n l s us all x (lowL l s n us all x):=by
 have hL:=hl.ok
 have same:∀{l':Lay} {y:List Af},unS l' s=0→(∀f∈y,FLv L (e+2) (e+2) ((n+us.length:Nat):Int) f)→(∀ξ,y.map (ph 1 ξ)=eLay l' s (all.map (List.map (ph 1 ξ))) (x.map (ph 1 ξ)))→LwR L e E n l' s us all x (us,y):=
  fun h0 h1 h2=>⟨⟨[],by simp⟩,by simp only[h0];omega,hu,fun f hf=>(h1 f hf).up hL (by omega) (lR_ _),fun ξ _=>h2 ξ⟩
 cases l with
 |dense ws bs=>
  refine same rfl (fun f hf=> ?_) fun ξ=>(hmPh ξ).dense ..;obtain⟨r,_,rfl⟩:=List.mem_map.1 hf;exact FLv.dotN hL _ (fun q hq=>hl.par q (List.mem_append_left _ hq)) hx (Lv.at (fun q hq=>hl.par q (List.mem_append_right _ hq)) r) (by omega)
 |conv kh kw st pad ws bs=>
  refine same rfl (fun f hf'=> ?_) fun ξ=>(hmPh ξ).conv ..;obtain⟨c,_,hf'⟩:=List.mem_flatMap.1 hf';obtain⟨w,hw,rfl⟩:=List.mem_map.1 hf';have h1:=Wn.all_len hw;have h2:=hf.1.cn;exact FLv.cvN hL _ w (fun q hq=>hl.par q (List.mem_append_left _ hq)) hx (Lv.at (fun q hq=>hl.par q (List.mem_append_right _ hq)) c) (by omega)
 |mx kh kw st=>
  have b1:1≤kh*kw:=hf.1.n.1;have b2:kh*kw≤36:=hf.1.n.2
  have hp:∀y∈picks afO (winS s kh kw st 0).all (s.getD 0 0) (kh*kw) x,y.length=kh*kw:=fun y hy=>by
   obtain⟨ch,w,h1,h2,rfl⟩:=picks_mem hy;exact pick_ln (Wn.all_len h2) h1
  obtain⟨h1,h2,h3,h4,h5,h6⟩:=mxs_ok hL he (K:=36) (E:=E) (by omega) (picks afO (winS s kh kw st 0).all (s.getD 0 0) (kh*kw) x) us (fun y hy=>by rw[hp y hy];omega) hu (fun y hy f hf=>by
   obtain⟨ch,w,_,_,rfl⟩:=picks_mem hy;exact fl_pick hx f hf)
  refine⟨h1,?_,h3,fun f hf=>(h5 f hf).up hL (by omega) (lR_ _),fun ξ hξ=> ?_⟩
  ·have hm:∀(ls:List (List Af)),(∀y∈ls,y.length=kh*kw)→(ls.map fun l=>l.length-1).sum=ls.length*(kh*kw-1):=by
    intro ls
    induction ls with
    |nil=>intro _;simp
    |cons y ls ih=>intro h;rw[List.map_cons,List.sum_cons,ih fun z hz=>h z (List.mem_cons_of_mem _ hz),h y List.mem_cons_self,List.length_cons,Nat.succ_mul];omega
   show(mxs n us _).1.length=_;rw[h2,hm _ hp,picks_ln,Wn.all_ln];simp only[unS,outS,szS3];rw[Nat.mul_comm (kh*kw-1),←Nat.mul_assoc (s.getD 0 0)]
  ·show(mxs n us _).2.map _=_;rw[h6 ξ hξ,eLay,←(hmPh ξ).picks,List.map_map];rfl
 |av kh kw st=>
  refine same rfl (fun f hf'=> ?_) fun ξ=>by rw[eLay,←(hmPh ξ).picks,List.map_map,List.map_map];exact List.map_congr_left fun y _=>(hmPh ξ).mean y
  obtain⟨y,hy,rfl⟩:=List.mem_map.1 hf';obtain⟨ch,w,h1,h2,rfl⟩:=picks_mem hy;have h3:(pick afO x (kh*kw) w ch).length=kh*kw:=pick_ln (Wn.all_len h2) h1;have b2:kh*kw≤36:=hf.1.n.2;exact FLv.mean hL (fl_pick hx) (by omega) (by rw[h3];exact hl.inv _ b2)
 |relu=>
  refine⟨⟨x,rfl⟩,by simp only[lowL,List.length_append,hxl,unS],?_,fun f hf=> ?_,fun ξ hξ=> ?_⟩
  ·have:∀(x us:List Af),UsOk L E n us→(∀f∈x,FLv L e e ((n+us.length:Nat):Int) f)→UsOk L E n (us++x):=by
    intro x
    induction x with
    |nil=>intro us h _;rwa [List.append_nil]
    |cons f x ih=>
     intro us h hx;have:=ih (us++[f]) (h.snoc ((hx f List.mem_cons_self).up hL (by omega) (lR_ _))) fun g hg=>(hx g (List.mem_cons_of_mem _ hg)).up hL (lR_ _) (by rw[List.length_append];omega)
     rwa [List.append_assoc]at this
   exact this x us hu hx
  ·obtain⟨j,hj,rfl⟩:=List.mem_map.1 hf;rw[List.mem_range]at hj;exact FLv.var hL (Int.natCast_nonneg _) (Int.ofNat_lt.2 (by simp only[lowL,List.length_append];omega)) (by omega)
  ·refine List.ext_getElem? fun j=> ?_;simp only[lowL,eLay,List.getElem?_map]
   by_cases hj:j<x.length
   ·rw[List.getElem?_range hj,List.getElem?_eq_getElem hj];simp only[Option.map_some];rw[ph_var,hξ (us.length+j) x[j] (by simp only[lowL];rw[List.getElem?_append_right (by omega),Nat.add_sub_cancel_left,List.getElem?_eq_getElem hj])]
   ·rw[List.getElem?_eq_none (by rw[List.length_range];omega),List.getElem?_eq_none (by omega)];rfl
 |flat=>exact same rfl (fun f hf=>(hx f hf).up hL (by omega) (lR_ _)) fun ξ=>rfl
 |add fr=>
  refine same rfl (fun f hf'=> ?_) fun ξ=>by
   rw[eLay,(hmPh ξ).addl];exact congrArg _ (getD_map (List.map (ph 1 ξ)) all (fr+1).toNat []).symm
  obtain⟨j,_,rfl⟩:=List.mem_map.1 hf';have:∀f∈all.getD (fr+1).toNat [],FLv L e e ((n+us.length:Nat):Int) f:=by
   rw[List.getD_eq_getElem?_getD]
   cases hk:all[(fr+1).toNat]? with
   |none=>intro v hv;cases hv
   |some y=>exact ha y (mG_ hk)
  exact((FLv.at hx j).add hL (FLv.at this j)).up hL (by omega) (lR_ _)
def renF (v:Int)(f:Af):Af:=⟨f.ts.map fun t=>⟨if v<t.v then t.v-1 else t.v,t.q⟩,f.c⟩
def repF (v:Int)(b f:Af):Af:=renF v (substS f v b)
def repU (n j:Nat)(b:Af)(us:List Af):List Af:=us.take j++(us.drop (j+1)).map (repF ((n+j:Nat):Int) b)
theorem lsum_congr {ξ ζ:Int→Rat}:∀{ts:List Tm},(∀t∈ts,ξ t.v=ζ t.v)→lsum ξ ts=lsum ζ ts
 |[],_=>rfl
 |t::ts,h=>by rw[lsum,lsum,h t List.mem_cons_self,lsum_congr (ts:=ts) fun s hs=>h s (List.mem_cons_of_mem _ hs)]
theorem ph_congr {ξ ζ:Int→Rat}{n:Int}{f:Af}(hf:Ts n f)(h:∀v,0≤v→v<n→ξ v=ζ v):ph 1 ξ f=ph 1 ζ f:=by
 unfold ph;rw[lsum_congr fun t ht=>let ⟨_,k2,k3,_⟩:=hf.cof_mem t ht;h t.v k2 k3]
def shf (v:Int)(ξ:Int→Rat):Int→Rat:=fun w=>if w<v then ξ w else ξ (w+1)
theorem lsum_ren {v:Int}{ξ:Int→Rat}:∀{ts:List Tm},(∀t∈ts,t.v≠v)→lsum (shf v ξ) (ts.map fun t=>⟨if v<t.v then t.v-1 else t.v,t.q⟩)=lsum ξ ts
 |[],_=>rfl
 |t::ts,h=>by
  rw[List.map_cons,lsum,lsum,lsum_ren (ts:=ts) fun s hs=>h s (List.mem_cons_of_mem _ hs)]
  congr 2
  have:=h t List.mem_cons_self;unfold shf;simp only;split
  ·rw[if_neg (by omega)];congr 1;omega
  ·rw[if_pos (by omega)]
section
variable {n v:Int} {f b:Af}
theorem cof_none' {w:Int}:∀{ts:List Tm},(∀t∈ts,t.v≠w)→cof ts w=0
 |[],_=>rfl
 |t::ts,h=>by rw[cof,if_neg (h t List.mem_cons_self),cof_none' (ts:=ts) fun s hs=>h s (List.mem_cons_of_mem _ hs),Rat.zero_add]
theorem Ts.subst (hf:Ts n f)(hb:Ts v b)(hv:v≤n):Ts n (substS f v b):=
 ok_fold (fun t ht=>let ⟨k1,k2,k3,k4⟩:=(ok_scale _ (hb.up hv)).cof_mem t ht;⟨k2,k3⟩) hf.without
theorem cof_subst (w:Int):cof (substS f v b).ts w=(if w=v then 0 else cof f.ts w)+cof b.ts w*cof f.ts v:=by
 unfold substS addS scaleS;rw[cof_fold,cof_scale]
 congr 1
 exact cof_without v w f.ts
theorem subst_out (hf:Ts n f)(hb:Ts v b)(hv:v≤n):∀t∈(substS f v b).ts,t.v≠v:=fun t ht e=>by
 obtain⟨k1,_,_,k4⟩:=(Ts.subst hf hb hv).cof_mem t ht;rw[e,cof_subst,if_pos rfl,cof_none' fun s hs=> ?_]at k1
 ·exact k4 (by rw[←k1];grind)
 ·have:=(hb.cof_mem s hs).2.2.1;omega
theorem ph_rep {ξ:Int→Rat}(hf:Ts n f)(hb:Ts v b)(hv:v≤n):ph 1 (shf v ξ) (repF v b f)=ph 1 ξ f+cof f.ts v*(ph 1 ξ b-ξ v):=by
 have h1:ph 1 (shf v ξ) (repF v b f)=ph 1 ξ (substS f v b):=by
  unfold repF renF ph;simp only;rw[lsum_ren (subst_out hf hb hv)]
 rw[h1,ph_subst];grind
theorem Ts.ren:∀{ts:List Tm} {lo:Int},TsOk n lo ts→(∀t∈ts,t.v≠v)→v<n→TsOk (n-1) (if v<lo then lo-1 else lo) (ts.map fun t=>⟨if v<t.v then t.v-1 else t.v,t.q⟩)
 |[],_,_,_,_=>trivial
 |t::ts,lo,h,ho,hv=>by
  have h0:=ho t List.mem_cons_self;have ih:=Ts.ren h.2.2.2 (fun s hs=>ho s (List.mem_cons_of_mem _ hs)) hv;have h1:=h.1;have h2:=h.2.1;refine⟨?_,?_,h.2.2.1,ih.lo ?_⟩
  ·simp only;split<;>split<;>omega
  ·simp only;split<;>omega
  ·simp only;split<;>split<;>omega
theorem Ts.rep (hf:Ts n f)(hb:Ts v b)(h0:0≤v)(hv:v<n):Ts (n-1) (repF v b f):=by
 have:=Ts.ren (Ts.subst hf hb (by omega)) (subst_out hf hb (by omega)) hv
 rwa [if_neg (by omega)]at this
theorem cof_ren {w:Int}:∀{ts:List Tm},(∀t∈ts,t.v≠v)→cof (ts.map fun t=>⟨if v<t.v then t.v-1 else t.v,t.q⟩) w=if w<v then cof ts w else cof ts (w+1)
 |[],_=>by simp[cof]
 |t::ts,h=>by
  have h0:=h t List.mem_cons_self;rw[List.map_cons,cof,cof_ren (ts:=ts) fun s hs=>h s (List.mem_cons_of_mem _ hs),cof,cof];simp only;split<;>split<;>split<;>first|rfl|(split<;>first|rfl|omega)|omega
theorem cof_rep (hf:Ts n f)(hb:Ts v b)(hv:v≤n)(w:Int):cof (repF v b f).ts w=if w<v then cof f.ts w+cof b.ts w*cof f.ts v else cof f.ts (w+1):=by
 unfold repF renF;simp only;rw[cof_ren (subst_out hf hb hv),cof_subst,cof_subst];split
 ·rw[if_neg (by omega)]
 ·rw[if_neg (by omega),cof_none' (ts:=b.ts) fun s hs=> ?_]
  ·grind
  ·have:=(hb.cof_mem s hs).2.2.1;omega
end
structure By (L k:Nat)(v:Int)(b:Af):Prop where
 ts:Ts v b
 co:∀w,cof b.ts w=0∨cof b.ts w=1
 c:Lv L k b.c
theorem FLv.rep {L e k:Nat}{n v:Int}{f b:Af}(hL:LOk L)(hf:FLv L e k n f)(hb:By L k v b)(h0:0≤v)(hv:v<n):FLv L (e+2) (k+e+2) (n-1) (repF v b f):=by
 refine⟨Ts.rep hf.ts hb.ts h0 hv,fun w=> ?_,?_⟩
 ·rw[cof_rep hf.ts hb.ts (by omega)];split
  ·rcases hb.co w with h|h<;>rw[h]
   ·exact((hf.co w).add hL (by rw[Rat.zero_mul];exact Lv.zero)).mono hL (by omega)
   ·exact((hf.co w).add hL (by rw[Rat.one_mul];exact hf.co v)).mono hL (by omega)
  ·exact(hf.co _).mono hL (by omega)
 ·show Lv L _ (f.c+b.c*cof f.ts v);have h1:=hb.c.mul (hf.co v);exact((hf.c.mono hL (by omega:k≤k+e)).add hL h1).mono hL (by omega)
def eL (m:Nat):Nat:=300+2*(20-m)
def kL (m:Nat):Nat:=300+400*(20-m)
structure Gk (L n:Nat)(us os:List Af):Prop where
 u:us.length≤20
 uf:∀(j:Nat) (f:Af),us[j]? =some f→FLv L (eL us.length) (kL us.length) ((n+j:Nat):Int) f
 of:∀f∈os,FLv L (eL us.length) (kL us.length) ((n+us.length:Nat):Int) f
def Eqg (n:Nat)(us os us' os':List Af):Prop:=∀ξ,Sat n us ξ→∃ξ',Sat n us' ξ'∧(∀i:Int,i<n→ξ' i=ξ i)∧os'.map (ph 1 ξ')=os.map (ph 1 ξ)
theorem Eqg.refl (n:Nat)(us os:List Af):Eqg n us os us os:=fun ξ h=>⟨ξ,h,fun _ _=>rfl,rfl⟩
theorem Eqg.trans {n:Nat}{us os us' os' us'' os'':List Af}(h:Eqg n us os us' os')(k:Eqg n us' os' us'' os''):Eqg n us os us'' os'':=fun ξ hξ=>by
 obtain⟨ξ1,s1,i1,o1⟩:=h ξ hξ;obtain⟨ξ2,s2,i2,o2⟩:=k ξ1 s1;exact⟨ξ2,s2,fun i hi=>(i2 i hi).trans (i1 i hi),o2.trans o1⟩
theorem repU_at {n j:Nat}{b:Af}{us:List Af}(hj:j<us.length)(i:Nat):(repU n j b us)[i]? =if i<j then us[i]? else us[i+1]?.map (repF ((n+j:Nat):Int) b):=by
 unfold repU;have h1:(us.take j).length=j:=by rw[List.length_take];omega
 split
 ·rename_i h;rw[List.getElem?_append_left (by omega),List.getElem?_take,if_pos h]
 ·rename_i h;rw[List.getElem?_append_right (by omega),h1,List.getElem?_map,List.getElem?_drop]
  congr 2;omega
theorem repU_len {n j:Nat}{b:Af}{us:List Af}(hj:j<us.length):(repU n j b us).length=us.length-1:=by
 unfold repU;simp;omega
theorem Gk.rep {L n j:Nat}{us os:List Af}{b:Af}(hL:LOk L)(h:Gk L n us os)(hj:j<us.length)(hb:By L (kL us.length) ((n+j:Nat):Int) b):Gk L n (repU n j b us) (os.map (repF ((n+j:Nat):Int) b)):=by
 have hl:=repU_len (n:=n) (b:=b) hj;have hu:=h.u;have e1:eL us.length+2=eL (us.length-1):=by unfold eL;omega
 have e2:kL us.length+eL us.length+2≤kL (us.length-1):=by unfold kL eL;omega
 have e3:kL us.length≤kL (us.length-1):=by omega
 refine⟨by omega,fun i f hi=> ?_,fun f hf=> ?_⟩
 ·rw[hl];rw[repU_at hj]at hi;split at hi
  ·exact(h.uf i f hi).mono hL (by omega) e3 (Int.le_refl _)
  ·obtain⟨g,hg,rfl⟩:=Option.map_eq_some_iff.1 hi;have:=FLv.rep hL (h.uf (i+1) g hg) hb (Int.natCast_nonneg _) (Int.ofNat_lt.2 (by omega));exact this.mono hL (by omega) e2 (by omega)
 ·rw[hl];obtain⟨g,hg,rfl⟩:=List.mem_map.1 hf;have:=FLv.rep hL (h.of g hg) hb (Int.natCast_nonneg _) (Int.ofNat_lt.2 (by omega));exact this.mono hL (by omega) e2 (by omega)
theorem Eqg.rep {L n j:Nat}{us os:List Af}{b:Af}(h:Gk L n us os)(hj:j<us.length)(hb:Ts ((n+j:Nat):Int) b)
  (hc:(∀ξ,Sat n us ξ→ξ ((n+j:Nat):Int)=ph 1 ξ b)∨((∀(i:Nat) f,j<i→us[i]? =some f→cof f.ts ((n+j:Nat):Int)=0)∧∀f∈os,cof f.ts ((n+j:Nat):Int)=0)):
  Eqg n us os (repU n j b us) (os.map (repF ((n+j:Nat):Int) b)):=by
 intro ξ hξ;have key:∀f (m:Int),Ts m f→((n+j:Nat):Int)≤m→((∀ξ,Sat n us ξ→ξ ((n+j:Nat):Int)=ph 1 ξ b)∨cof f.ts ((n+j:Nat):Int)=0)→ph 1 (shf ((n+j:Nat):Int) ξ) (repF ((n+j:Nat):Int) b f)=ph 1 ξ f:=by
  intro f m hf hm hor;rw[ph_rep hf hb hm];rcases hor with h|h
  ·rw[h ξ hξ];grind
  ·rw[h];grind
 refine⟨shf ((n+j:Nat):Int) ξ,fun i f hi=> ?_,fun i hi=>by unfold shf;rw[if_pos (by omega)],?_⟩
 ·rw[repU_at hj]at hi;split at hi
  ·rename_i hij;rw[ph_congr (h.uf i f hi).ts (ζ:=ξ) fun v h1 h2=>by unfold shf;rw[if_pos (by omega)]];have:=hξ i f hi;unfold shf;rw[if_pos (by omega)];exact this
  ·rename_i hij;obtain⟨g,hg,rfl⟩:=Option.map_eq_some_iff.1 hi;rw[key g _ (h.uf (i+1) g hg).ts (by omega) (hc.imp id fun h=>h.1 (i+1) g (by omega) hg),←hξ (i+1) g hg];unfold shf;rw[if_neg (by omega)];exact congrArg ξ (by omega)
 ·rw[List.map_map];exact List.map_congr_left fun f hf=>key f _ (h.of f hf).ts (by omega) (hc.imp id fun h=>h.2 f hf)
theorem By.num {L k:Nat}{v:Int}{c:Rat}(h:Lv L k c):By L k v (numS c):=⟨trivial,fun w=> .inl rfl,h⟩
theorem By.var {L k:Nat}{v w:Int}(h0:0≤w)(h:w<v):By L k v (varS w):=by
 refine⟨⟨h0,h,by show((1:Int):Rat)≠0;decide,trivial⟩,fun x=> ?_,Lv.zero⟩;rw[varS,cof,cof,Rat.add_zero];split
 ·exact .inr (show((1:Int):Rat)=1 by decide)
 ·exact .inl rfl
open Go.Lib (decDigits)
def dval (l:List UInt8):Nat:=l.foldl (fun a d=>a*10+(d.toNat-48)) 0
theorem dval_app (a b:List UInt8):dval (a++b)=dval a*10^b.length+dval b:=by
 have key:∀(b:List UInt8) (m:Nat),b.foldl (fun a d=>a*10+(d.toNat-48)) m=m*10^b.length+b.foldl (fun a d=>a*10+(d.toNat-48)) 0:=by
  intro b
  induction b with
  |nil=>intro m;simp
  |cons d b ih=>intro m;rw[List.foldl_cons,List.foldl_cons,ih,ih (0*10+_),List.length_cons,Nat.pow_succ];simp only[Nat.zero_mul,Nat.zero_add,Nat.add_mul,Nat.mul_assoc,Nat.mul_comm 10];omega
 unfold dval;rw[List.foldl_append];exact key b _
abbrev dig (d:UInt8):Prop:=48≤d.toNat∧d.toNat≤57
theorem dig_of {u:Nat}(h:u<10):dig (UInt8.ofNat (48+u))∧(UInt8.ofNat (48+u)).toNat-48=u:=by
 have:(UInt8.ofNat (48+u)).toNat=48+u:=by rw[UInt8.toNat_ofNat'];omega
 rw[dig,this];omega
theorem dd_ok (u:Nat):dval (decDigits u)=u∧(∀d∈decDigits u,dig d)∧1≤(decDigits u).length:=by
 induction u using Nat.strongRecOn with
 |_ u ih=>
  rw[decDigits];split
  ·rename_i h;obtain⟨h1,h2⟩:=dig_of h;refine⟨?_,fun d hd=> ?_,lR_ _⟩
   ·show 0*10+((UInt8.ofNat (48+u)).toNat-48)=u;omega
   ·rw[List.mem_singleton.1 hd];exact h1
  ·rename_i h;obtain⟨k1,k2,k3⟩:=ih (u/10) (by omega);obtain⟨h1,h2⟩:=dig_of (show u % 10<10 by omega);refine⟨?_,fun d hd=> ?_,by simp⟩
   ·rw[dval_app,k1];show u/10*10^1+(0*10+((UInt8.ofNat (48+u % 10)).toNat-48))=u;omega
   ·rcases List.mem_append.1 hd with hd|hd
    ·exact k2 d hd
    ·rw[List.mem_singleton.1 hd];exact h1
theorem dd_len {u:Nat}:∀{k:Nat},u<10^(k+1)→(decDigits u).length≤k+1:=by
 induction u using Nat.strongRecOn with
 |_ u ih=>
  intro k h;rw[decDigits];split
  ·simp
  ·rename_i h1
   cases k with
   |zero=>simp at h;omega
   |succ k=>
    have:=ih (u/10) (by omega) (k:=k) (by rw[Nat.pow_succ]at h;omega);simp only[List.length_append,List.length_singleton];omega
def chk (n:Nat):List (List UInt8):=
 if h:n<1000000000 then(if n=0 then []else [decDigits n])
 else(List.replicate (9-(decDigits (n % 1000000000)).length) 48++decDigits (n % 1000000000))::chk (n/1000000000)
def dcS (n:Nat):List UInt8:=if n=0 then [48]else(chk n).reverse.flatten
theorem dval_zeros (l:List UInt8):∀k,dval (List.replicate k 48++l)=dval l
 |0=>by simp
 |k+1=>by
  rw[List.replicate_succ,List.cons_append];show(List.replicate k 48++l).foldl _ (0*10+((48:UInt8).toNat-48))=_;exact dval_zeros l k
theorem chk_ok (n:Nat):dval (chk n).reverse.flatten=n∧(∀d∈(chk n).reverse.flatten,dig d)∧(n≠0→1≤(chk n).reverse.flatten.length):=by
 induction n using Nat.strongRecOn with
 |_ n ih=>
  rw[chk];split
  ·rename_i h;split
   ·rename_i h0;subst h0;exact⟨rfl,fun d hd=>(by cases hd),fun h=>absurd rfl h⟩
   ·obtain⟨h1,h2,h3⟩:=dd_ok n;simp only[List.reverse_singleton,List.flatten_cons,List.flatten_nil,List.append_nil];exact⟨h1,h2,fun _=>h3⟩
  ·rename_i h;obtain⟨k1,k2,k3⟩:=ih (n/1000000000) (by omega);obtain⟨h1,h2,h3⟩:=dd_ok (n % 1000000000);have hl:=dd_len (u:=n % 1000000000) (k:=8) (by omega);have e:(List.replicate (9-(decDigits (n % 1000000000)).length) (48:UInt8)++decDigits (n % 1000000000)).length=9:=by simp;omega
   simp only[List.reverse_cons,List.flatten_append,List.flatten_cons,List.flatten_nil,List.append_nil];refine⟨?_,fun d hd=> ?_,fun _=>by rw[List.length_append,e];omega⟩
   ·rw[dval_app,k1,e,dval_zeros,h1];omega
   ·rcases List.mem_append.1 hd with hd|hd
    ·exact k2 d hd
    ·rcases List.mem_append.1 hd with hd|hd
     ·rw[List.eq_of_mem_replicate hd];decide
     ·exact h2 d hd
theorem dcS_ok (n:Nat):dval (dcS n)=n∧(∀d∈dcS n,dig d)∧1≤(dcS n).length:=by
 unfold dcS;split
 ·rename_i h;subst h;exact⟨rfl,fun d hd=>by rw[List.mem_singleton.1 hd];decide,lR_ _⟩
 ·rename_i h;obtain⟨h1,h2,h3⟩:=chk_ok n;exact⟨h1,h2,h3 h⟩
def szT (q:Rat):List UInt8:=dcS q.num.natAbs++if q.den=1 then []else 47::dcS q.den
def tmT (t:Tm):List UInt8:=(if szT t.q=[49]then []else szT t.q++[42])++120::decDigits t.v.toNat
def ptT (f:Af):List (Bool×List UInt8):=f.ts.map (fun t=>(decide (t.q<0),tmT t))++if f.c≠0∨f.ts=[]then [(decide (f.c<0),szT f.c)]else []
def sgT (first neg:Bool):List UInt8:=if first then(if neg then [45]else [])else [32,if neg then 45 else 43,32]
def tlT (l:List (Bool×List UInt8)):List UInt8:=l.flatMap fun p=>sgT false p.1++p.2
def rdT:List (Bool×List UInt8)→List UInt8
 |[]=>[]
 |p::l=>sgT true p.1++p.2++tlT l
def txt (f:Af):List UInt8:=rdT (ptT f)
theorem cutB (c:UInt8):∀{a a' b b':List UInt8},c∉a→c∉a'→(b=[]∨∃r,b=c::r)→(b'=[]∨∃r,b'=c::r)→a++b=a'++b'→a=a'∧b=b'
 |[],[],b,b',_,_,_,_,h=>⟨rfl,h⟩
 |x::a,y::a',b,b',h1,h2,h3,h4,h=>by
  simp only[List.cons_append,List.cons.injEq]at h;obtain⟨k1,k2⟩:=cutB c (fun k=>h1 (List.mem_cons_of_mem _ k)) (fun k=>h2 (List.mem_cons_of_mem _ k)) h3 h4 h.2;exact⟨by rw[h.1,k1],k2⟩
 |[],y::a',b,b',_,h2,h3,_,h=>by
  exfalso;rcases h3 with rfl|⟨r,rfl⟩
  ·simp at h
  ·simp only[List.nil_append,List.cons_append,List.cons.injEq]at h;exact h2 (by rw[h.1];exact List.mem_cons_self)
 |x::a,[],b,b',h1,_,_,h4,h=>by
  exfalso;rcases h4 with rfl|⟨r,rfl⟩
  ·simp at h
  ·simp only[List.nil_append,List.cons_append,List.cons.injEq]at h;exact h1 (by rw[←h.1];exact List.mem_cons_self)
theorem dig_ne {c:UInt8}(hc:c.toNat<48∨57<c.toNat){l:List UInt8}(h:∀d∈l,dig d):c∉l:=fun k=>by have:=h c k;unfold dig at this;omega
theorem dcS_inj {a b:Nat}(h:dcS a=dcS b):a=b:=by rw[←(dcS_ok a).1,←(dcS_ok b).1,h]
theorem szT_ch {q:Rat}:∀d∈szT q,dig d∨d=47:=fun d hd=>by
 unfold szT at hd;rcases List.mem_append.1 hd with hd|hd
 ·exact .inl ((dcS_ok _).2.1 d hd)
 ·split at hd
  ·cases hd
  ·rcases List.mem_cons.1 hd with rfl|hd
   ·exact .inr rfl
   ·exact .inl ((dcS_ok _).2.1 d hd)
theorem szT_ne {c:UInt8}(hc:(c.toNat<48∨57<c.toNat)∧c≠47){q:Rat}:c∉szT q:=fun k=>by
 rcases szT_ch c k with h|h
 ·unfold dig at h;omega
 ·exact hc.2 h
theorem szT_head {q:Rat}:∃d r,szT q=d::r∧dig d:=by
 obtain⟨_,h2,h3⟩:=dcS_ok q.num.natAbs;unfold szT
 cases hd:dcS q.num.natAbs with
 |nil=>rw[hd]at h3;simp at h3
 |cons d r=>exact⟨d,_,rfl,h2 d (by rw[hd];exact List.mem_cons_self)⟩
theorem rat_eq {p q:Rat}(h1:p.num.natAbs=q.num.natAbs)(h2:p.den=q.den)(h3:decide (p<0)=decide (q<0)):p=q:=by
 have e:∀r:Rat,r<0↔r.num<0:=fun r=>by rw[←Rat.not_le,←Rat.num_nonneg];omega
 have h4:p.num<0↔q.num<0:=by rw[←e,←e];simpa using h3
 exact Rat.ext (by omega) h2
theorem szT_inj {p q:Rat}(h:szT p=szT q):p.num.natAbs=q.num.natAbs∧p.den=q.den:=by
 unfold szT at h;have n1:=dig_ne (c:=47) (by decide) (dcS_ok p.num.natAbs).2.1;have n2:=dig_ne (c:=47) (by decide) (dcS_ok q.num.natAbs).2.1;obtain⟨h1,h2⟩:=cutB 47 n1 n2 (by split<;>simp) (by split<;>simp) h;refine⟨dcS_inj h1,?_⟩;split at h2<;>split at h2
 ·omega
 ·cases h2
 ·cases h2
 ·exact dcS_inj (by simpa using h2)
theorem tmT_inj {s t:Tm}(hs:0≤s.v)(ht:0≤t.v)(h:tmT s=tmT t)(hn:decide (s.q<0)=decide (t.q<0)):s=t:=by
 unfold tmT at h
 have n:∀t:Tm,(120:UInt8)∉(if szT t.q=[49]then []else szT t.q++[42]):=fun t=>by
  split
  ·simp
  ·rw[List.mem_append];rintro(h|h)
   ·exact szT_ne (by decide) h
   ·simp at h
 obtain⟨h1,h2⟩:=cutB 120 (n s) (n t) (.inr ⟨_,rfl⟩) (.inr ⟨_,rfl⟩) h;have hv:s.v=t.v:=by
  have h3:decDigits s.v.toNat=decDigits t.v.toNat:=by simpa using h2
  have h4:=congrArg dval h3;rw[(dd_ok _).1,(dd_ok _).1]at h4;omega
 have hq:szT s.q=szT t.q:=by
  split at h1<;>split at h1
  ·simp_all
  ·simp at h1
  ·simp at h1
  ·simpa using h1
 obtain⟨k1,k2⟩:=szT_inj hq;have:=rat_eq k1 k2 hn
 cases s;cases t;simp_all
theorem tmT_ch {t:Tm}:(32:UInt8)∉tmT t∧∃d r,tmT t=d::r∧d≠45:=by
 unfold tmT;have h1:=dig_ne (c:=32) (by decide) (dd_ok t.v.toNat).2.1;obtain⟨d,r,e,hd⟩:=szT_head (q:=t.q);refine⟨fun h=> ?_,?_⟩
 ·rcases List.mem_append.1 h with h|h
  ·split at h
   ·cases h
   ·rcases List.mem_append.1 h with h|h
    ·exact szT_ne (by decide) h
    ·simp at h
  ·rcases List.mem_cons.1 h with h|h
   ·simp at h
   ·exact h1 h
 ·split
  ·exact⟨120,_,rfl,by decide⟩
  ·rw[e];exact⟨d,_,rfl,fun h=>by rw[h]at hd;exact absurd hd (by decide)⟩
structure PtOkT (p:Bool×List UInt8):Prop where
 sp:(32:UInt8)∉p.2
 hd:∃d r,p.2=d::r∧d≠45
theorem ptT_ok {f:Af}:∀p∈ptT f,PtOkT p:=fun p hp=>by
 unfold ptT at hp;rcases List.mem_append.1 hp with hp|hp
 ·obtain⟨t,_,rfl⟩:=List.mem_map.1 hp;exact⟨tmT_ch.1,tmT_ch.2⟩
 ·split at hp
  ·rw[List.mem_singleton.1 hp];obtain⟨d,r,e,hd⟩:=szT_head (q:=f.c);exact⟨szT_ne (by decide),d,r,e,fun h=>by rw[h]at hd;exact absurd hd (by decide)⟩
  ·cases hp
theorem tlT_inj:∀{l m:List (Bool×List UInt8)},(∀p∈l,PtOkT p)→(∀p∈m,PtOkT p)→tlT l=tlT m→l=m
 |[],[],_,_,_=>rfl
 |[],q::m,_,_,h=>by simp[tlT,sgT]at h
 |p::l,[],_,_,h=>by simp[tlT,sgT]at h
 |p::l,q::m,hl,hm,h=>by
  have st:∀l:List (Bool×List UInt8),tlT l=[]∨∃r,tlT l=32::r:=fun l=>by
   cases l with
   |nil=>exact .inl rfl
   |cons p l=>exact .inr ⟨_,rfl⟩
  have h':(32:UInt8)::(if p.1 then 45 else 43)::32::(p.2++tlT l)=32::(if q.1 then 45 else 43)::32::(q.2++tlT m):=by
   simpa [tlT,sgT]using h
  simp only[List.cons.injEq,true_and]at h';obtain⟨h1,h2⟩:=cutB 32 (hl p List.mem_cons_self).sp (hm q List.mem_cons_self).sp (st l) (st m) h'.2;have h3:p.1=q.1:=by
   have:=h'.1
   cases hp:p.1<;>cases hq:q.1<;>simp_all
  rw[tlT_inj (fun x hx=>hl x (List.mem_cons_of_mem _ hx)) (fun x hx=>hm x (List.mem_cons_of_mem _ hx)) h2,Prod.ext h3 h1]
theorem rdT_inj:∀{l m:List (Bool×List UInt8)},(∀p∈l,PtOkT p)→(∀p∈m,PtOkT p)→rdT l=rdT m→l=m:=by
 intro l m hl hm h
 have ne:∀{p:Bool×List UInt8} {l},PtOkT p→rdT (p::l)≠[]:=fun {p l} hp h=>by
  obtain⟨d,r,e,_⟩:=hp.hd;simp[rdT,e]at h
 cases l with
 |nil=>cases m with
  |nil=>rfl
  |cons q m=>exact absurd h.symm (ne (hm q List.mem_cons_self))
 |cons p l=>cases m with
  |nil=>exact absurd h (ne (hl p List.mem_cons_self))
  |cons q m=>
   have hp:=hl p List.mem_cons_self;have hq:=hm q List.mem_cons_self
   have st:∀l:List (Bool×List UInt8),tlT l=[]∨∃r,tlT l=32::r:=fun l=>by
    cases l with
    |nil=>exact .inl rfl
    |cons p l=>exact .inr ⟨_,rfl⟩
   have go:p.1=q.1→p.2++tlT l=q.2++tlT m→p::l=q::m:=fun e h=>by
    obtain⟨h1,h2⟩:=cutB 32 hp.sp hq.sp (st l) (st m) h;rw[tlT_inj (fun x hx=>hl x (List.mem_cons_of_mem _ hx)) (fun x hx=>hm x (List.mem_cons_of_mem _ hx)) h2,Prod.ext e h1]
   obtain⟨d,r,e,hd⟩:=hp.hd;obtain⟨d',r',e',hd'⟩:=hq.hd;simp only[rdT,sgT,if_true,List.append_assoc]at h
   cases h1:p.1<;>cases h2:q.1<;>rw[h1,h2]at h
   ·exact go (by rw[h1,h2]) (by simpa using h)
   ·rw[e]at h;simp at h;exact absurd h.1 hd
   ·rw[e']at h;simp at h;exact absurd h.1.symm hd'
   ·exact go (by rw[h1,h2]) (by simpa using h)
theorem tm_ne_c {t:Tm}{q:Rat}:tmT t≠szT q:=fun h=>by
 have:(120:UInt8)∈szT q:=by rw[←h];unfold tmT;simp
 exact szT_ne (by decide) this
theorem txt_inj {f g:Af}(hf:∀t∈f.ts,0≤t.v)(hg:∀t∈g.ts,0≤t.v)(h:txt f=txt g):f=g:=by
 have h1:=rdT_inj ptT_ok ptT_ok h;unfold ptT at h1
 have key:∀(l m:List Tm) (a b:List (Bool×List UInt8)),(∀t∈l,0≤t.v)→(∀t∈m,0≤t.v)→(∀p∈a,∃q:Rat,p.2=szT q)→(∀p∈b,∃q:Rat,p.2=szT q)→
   l.map (fun t=>(decide (t.q<0),tmT t))++a=m.map (fun t=>(decide (t.q<0),tmT t))++b→l=m∧a=b:=by
  intro l
  induction l with
  |nil=>
   intro m a b _ _ ha _ h
   cases m with
   |nil=>exact⟨rfl,h⟩
   |cons t m=>
    exfalso;simp only[List.map_nil,List.nil_append,List.map_cons,List.cons_append]at h;obtain⟨q,hq⟩:=ha _ (by rw[h];exact List.mem_cons_self);exact tm_ne_c hq
  |cons s l ih=>
   intro m a b hl hm ha hb h
   cases m with
   |nil=>
    exfalso;simp only[List.map_nil,List.nil_append,List.map_cons,List.cons_append]at h;obtain⟨q,hq⟩:=hb _ (by rw[←h];exact List.mem_cons_self);exact tm_ne_c hq
   |cons t m=>
    simp only[List.map_cons,List.cons_append,List.cons.injEq,Prod.mk.injEq]at h;obtain⟨k1,k2⟩:=ih m a b (fun x hx=>hl x (List.mem_cons_of_mem _ hx)) (fun x hx=>hm x (List.mem_cons_of_mem _ hx)) ha hb h.2;exact⟨by rw[tmT_inj (hl s List.mem_cons_self) (hm t List.mem_cons_self) h.1.2 h.1.1,k1],k2⟩
 have cs:∀f:Af,∀p∈(if f.c≠0∨f.ts=[]then [(decide (f.c<0),szT f.c)]else []),∃q:Rat,p.2=szT q:=fun f p hp=>by
  split at hp
  ·rw[List.mem_singleton.1 hp];exact⟨_,rfl⟩
  ·cases hp
 obtain⟨e1,e2⟩:=key _ _ _ _ hf hg (cs f) (cs g) h1;have e3:f.c=g.c:=by
  split at e2<;>split at e2
  ·simp only[List.cons.injEq,Prod.mk.injEq,and_true]at e2;obtain⟨k1,k2⟩:=szT_inj e2.2;exact rat_eq k1 k2 e2.1
  ·cases e2
  ·cases e2
  ·rename_i a b;have a':f.c=0:=Classical.byContradiction fun h=>a (.inl h);have b':g.c=0:=Classical.byContradiction fun h=>b (.inl h);rw[a',b']
 cases f;cases g;simp_all
def Mo.n (m:Mo):Nat:=szS m.inp
def Mo.lw (m:Mo):Nat→List Af×List (List Af)
 |0=>([],[(List.range m.n).map fun(i:Nat)=>varS (i:Int)])
 |i+1=>((lowL (m.lay i) (m.sh i) m.n (m.lw i).1 (m.lw i).2 ((m.lw i).2.getD i [])).1,(m.lw i).2++[(lowL (m.lay i) (m.sh i) m.n (m.lw i).1 (m.lw i).2 ((m.lw i).2.getD i [])).2])
def Mo.us (m:Mo):List Af:=(m.lw m.ls.length).1
def Mo.os (m:Mo):List Af:=(m.lw m.ls.length).2.getD m.ls.length []
theorem getD_snoc {α:Type}{l:List α}{a d:α}{i:Nat}(h:l.length=i):(l++[a]).getD i d=a:=by
 rw[List.getD_eq_getElem?_getD,List.getElem?_append_right (by omega),h];simp
theorem getD_snoc' {α:Type}{l:List α}{a d:α}{i:Nat}(h:i<l.length):(l++[a]).getD i d=l.getD i d:=by
 rw[List.getD_eq_getElem?_getD,List.getElem?_append_left h,List.getD_eq_getElem?_getD]
structure AlI (m:Mo)(x:List Rat)(i:Nat):Prop where
 len:(m.al x i).length=i+1
 ln:∀k,k≤i→((m.al x i).getD k []).length=szS (m.sh k)
 lv:∀y∈m.al x i,∀v∈y,Lv m.L (1+2*i) v
theorem mxs_len (n:Nat):∀(ls:List (List Af)) (us:List Af),(mxs n us ls).2.length=ls.length
 |[],_=>rfl
 |l::r,us=>by rw[mxs,List.length_cons,List.length_cons,mxs_len n r]
theorem low_ln (l:Lay)(s:List Nat)(n:Nat)(us:List Af)(all:List (List Af))(x:List Af)(hx:x.length=szS s):(lowL l s n us all x).2.length=szS (outS l s):=by
 cases l with
 |dense ws bs=>simp only[lowL,outS,szS1,denseG,List.length_map,List.length_range]
 |conv kh kw st pad ws bs=>simp only[lowL,outS,szS3,conv_ln,Wn.all_ln,Nat.mul_assoc]
 |mx kh kw st=>simp only[lowL,outS,szS3,mxs_len,picks_ln,Wn.all_ln,Nat.mul_assoc]
 |av kh kw st=>simp only[lowL,outS,szS3,List.length_map,picks_ln,Wn.all_ln,Nat.mul_assoc]
 |relu=>simp only[lowL,outS,List.length_map,List.length_range,hx]
 |flat=>simp only[lowL,outS,szS1,hx]
 |add fr=>simp only[lowL,outS,addG,List.length_map,List.length_range,hx]
structure LwI (m:Mo)(i:Nat):Prop where
 len:(m.lw i).2.length=i+1
 ul:(m.lw i).1.length=m.un i
 ln:∀k,k≤i→((m.lw i).2.getD k []).length=szS (m.sh k)
 us:UsOk m.L 241 m.n (m.lw i).1
 lv:∀y∈(m.lw i).2,∀f∈y,FLv m.L (1+40*i) (1+40*i) ((m.n+(m.lw i).1.length:Nat):Int) f
 v:∀ξ,Sat m.n (m.lw i).1 ξ→(m.lw i).2.map (List.map (ph 1 ξ))=m.al ((List.range m.n).map fun(k:Nat)=>ξ (k:Int)) i
theorem Mo.lw_ok {m:Mo}(h:MoOk m):∀i,i≤m.ls.length→LwI m i
 |0,_=>by
  refine⟨rfl,rfl,fun k hk=> ?_,fun j f hj=>by simp[Mo.lw]at hj,fun y hy f hf=> ?_,fun ξ _=> ?_⟩
  ·rw[show k=0 by omega];simp[Mo.lw,Mo.n,Mo.sh]
  ·rw[Mo.lw,List.mem_singleton]at hy;subst hy;obtain⟨k,hk,rfl⟩:=List.mem_map.1 hf;rw[List.mem_range]at hk;exact FLv.var h.L (Int.natCast_nonneg _) (Int.ofNat_lt.2 (by omega)) (lR_ _)
  ·simp only[Mo.lw,Mo.al,List.map_cons,List.map_nil,List.map_map]
   congr 1
   exact List.map_congr_left fun k _=>ph_var
 |i+1,hi=>by
  obtain⟨h1,h2,h3,h4,h5,h6⟩:=Mo.lw_ok h i (by omega);have hf:=h.fit i (by omega);have hn:=h.n;have hmem:∀f∈(m.lw i).2.getD i [],FLv m.L (1+40*i) (1+40*i) ((m.n+(m.lw i).1.length:Nat):Int) f:=by
   rw[List.getD_eq_getElem?_getD,List.getElem?_eq_getElem (by omega)];exact h5 _ (List.getElem_mem _)
  obtain⟨⟨ex,k1⟩,k2,k3,k4,k5⟩:=lowL_ok (h.lv (by omega)) (E:=241) (by omega) (by omega) (h.sh i (by omega)).sz hf (h3 i (lR_ _)) h4 hmem h5
  have hval:∀ξ,Sat m.n (m.lw (i+1)).1 ξ→(lowL (m.lay i) (m.sh i) m.n (m.lw i).1 (m.lw i).2 ((m.lw i).2.getD i [])).2.map (ph 1 ξ)=eLay (m.lay i) (m.sh i) (m.al ((List.range m.n).map fun(k:Nat)=>ξ (k:Int)) i) ((m.al ((List.range m.n).map fun(k:Nat)=>ξ (k:Int)) i).getD i []):=fun ξ hξ=>by
   have hξ':Sat m.n (m.lw i).1 ξ:=Sat.pre (ex:=ex) (by rw[←k1];exact hξ);rw[k5 ξ hξ,←h6 ξ hξ',←getD_map (List.map (ph 1 ξ)) (m.lw i).2 i []];rfl
  refine⟨by rw[Mo.lw,List.length_append,h1];rfl,by rw[Mo.un,←h2];exact k2,fun k hk=> ?_,k3,fun y hy f hy'=> ?_,fun ξ hξ=> ?_⟩
  ·rw[Mo.lw];simp only;rcases Nat.lt_or_ge k (i+1)with hk'|hk'
   ·rw[getD_snoc' (by omega)];exact h3 k (by omega)
   ·rw[show k=i+1 by omega,getD_snoc h1];exact low_ln _ _ _ _ _ _ (h3 i (lR_ _))
  ·rw[Mo.lw]at hy;rcases List.mem_append.1 hy with hy|hy
   ·refine(h5 y hy f hy').up h.L (by omega) ?_;show m.n+(m.lw i).1.length≤m.n+(lowL (m.lay i) (m.sh i) m.n (m.lw i).1 (m.lw i).2 ((m.lw i).2.getD i [])).1.length;rw[k1,List.length_append];omega
   ·rw[List.mem_singleton.1 hy]at hy';exact(k4 f hy').up h.L (by omega) (lR_ _)
  ·have hξ':Sat m.n (m.lw i).1 ξ:=Sat.pre (ex:=ex) (by rw[←k1];exact hξ);rw[Mo.al,←hval ξ hξ,←h6 ξ hξ',Mo.lw,List.map_append];rfl
theorem MoOk.gk {m:Mo}(h:MoOk m):Gk m.L m.n m.us m.os∧m.os.length=szS (m.sh m.ls.length)∧∀ξ,Sat m.n m.us ξ→m.os.map (ph 1 ξ)=m.out ((List.range m.n).map fun(k:Nat)=>ξ (k:Int)):=by
 obtain⟨h1,h2,h3,h4,h5,h6⟩:=Mo.lw_ok h m.ls.length (lR_ _);have hu:m.us.length≤20:=by show(m.lw m.ls.length).1.length≤20;rw[h2];exact h.un
 have hn:=h.n;have hmem:∀f∈m.os,FLv m.L (1+40*m.ls.length) (1+40*m.ls.length) ((m.n+m.us.length:Nat):Int) f:=by
  unfold Mo.os;rw[List.getD_eq_getElem?_getD,List.getElem?_eq_getElem (by omega)];exact h5 _ (List.getElem_mem _)
 have e1:241≤eL m.us.length:=by unfold eL;omega
 have e2:241≤kL m.us.length:=by unfold kL;omega
 refine⟨⟨hu,fun j f hj=>(h4 j f hj).mono h.L e1 e2 (Int.le_refl _),fun f hf=>(hmem f hf).mono h.L (by omega) (by omega) (Int.le_refl _)⟩,h3 _ (lR_ _),fun ξ hξ=> ?_⟩;rw[Mo.out,←h6 ξ hξ];exact(getD_map (List.map (ph 1 ξ)) (m.lw m.ls.length).2 m.ls.length []).symm
def xi (v:List Rat):Int→Rat:=fun i=>v.getD i.toNat 0
def gv (us:List Af)(x:List Rat):Nat→List Rat
 |0=>x
 |j+1=>gv us x j++[maxQ 0 (ph 1 (xi (gv us x j)) (us.getD j z0))]
def gOut (us os:List Af)(x:List Rat):List Rat:=os.map (ph 1 (xi (gv us x us.length)))
theorem gv_len {us:List Af}{x:List Rat}:∀j,(gv us x j).length=x.length+j
 |0=>rfl
 |j+1=>by rw[gv,List.length_append,gv_len j];rfl
theorem xi_snoc {v:List Rat}{a:Rat}{i:Int}(h0:0≤i)(h:i<v.length):xi (v++[a]) i=xi v i:=by
 unfold xi;exact getD_snoc' (by omega)
theorem gv_at {us:List Af}{x:List Rat}{j:Nat}{i:Int}(h0:0≤i)(h:i<(x.length+j:Nat)):∀k,j≤k→xi (gv us x k) i=xi (gv us x j) i
 |0,hk=>by rw[show j=0 by omega]
 |k+1,hk=>by
  rcases Nat.lt_or_ge k j with h1|h1
  ·rw[show k+1=j by omega]
  ·rw[gv,xi_snoc h0 (by rw[gv_len];omega),gv_at h0 h k h1]
theorem maxQ_comm (a b:Rat):maxQ a b=maxQ b a:=by unfold maxQ;grind
theorem Gk.ts {L n:Nat}{us os:List Af}(h:Gk L n us os)(j:Nat)(f:Af)(hj:us[j]? =some f):Ts ((n+j:Nat):Int) f:=(h.uf j f hj).ts
theorem gv_sat {n:Nat}{us:List Af}{x:List Rat}(ht:∀(j:Nat) f,us[j]? =some f→Ts ((n+j:Nat):Int) f)(hx:x.length=n):Sat n us (xi (gv us x us.length)):=fun j f hj=>by
 have hl:=at_lt hj;rw[gv_at (j:=j+1) (Int.natCast_nonneg _) (by omega) us.length (by omega),gv];have e:xi (gv us x j++[maxQ 0 (ph 1 (xi (gv us x j)) (us.getD j z0))]) ((n+j:Nat):Int)=maxQ 0 (ph 1 (xi (gv us x j)) (us.getD j z0)):=by
  unfold xi;exact getD_snoc (by rw[gv_len,hx,Int.toNat_natCast])
 rw[e,maxQ_comm,List.getD_eq_getElem?_getD,hj]
 congr 1
 exact(ph_congr (ht j f hj) fun v h0 hv=>gv_at h0 (by omega) us.length (by omega)).symm
theorem sat_uniq {n:Nat}{us:List Af}{x:List Rat}(ht:∀(j:Nat) f,us[j]? =some f→Ts ((n+j:Nat):Int) f)(hx:x.length=n){ξ:Int→Rat}(hs:Sat n us ξ)(hi:∀i:Int,0≤i→i<n→ξ i=xi x i):
  ∀j,j≤us.length→∀v:Int,0≤v→v<(n+j:Nat)→ξ v=xi (gv us x j) v
 |0,_,v,h0,hv=>hi v h0 (by omega)
 |j+1,hj,v,h0,hv=>by
  have ih:=sat_uniq ht hx hs hi j (by omega);rcases(show v<(n+j:Nat)∨((n+j:Nat):Int)≤v by omega)with h|h
  ·rw[ih v h0 h,gv,xi_snoc h0 (by rw[gv_len];omega)]
  ·rw[show v=((n+j:Nat):Int) by omega];obtain⟨f,hf⟩:=at_some (l:=us) (i:=j) (by omega);rw[hs j f hf,gv];unfold xi;rw[getD_snoc (by rw[gv_len,hx,Int.toNat_natCast]),maxQ_comm,List.getD_eq_getElem?_getD,hf]
   congr 1
   exact ph_congr (ht j f hf) fun w k0 kw=>ih w k0 kw
theorem xi_list {n:Nat}{us:List Af}{x:List Rat}(hx:x.length=n)(k:Nat):(List.range n).map (fun(i:Nat)=>xi (gv us x k) (i:Int))=x:=by
 refine List.ext_getElem? fun i=> ?_
 by_cases h:i<n
 ·rw[List.getElem?_map,List.getElem?_range h];simp only[Option.map_some];rw[gv_at (j:=0) (Int.natCast_nonneg _) (by omega) k (by omega),gv];unfold xi;rw[Int.toNat_natCast,List.getD_eq_getElem?_getD,List.getElem?_eq_getElem (by omega)];rfl
 ·rw[List.getElem?_eq_none (by rw[List.length_map,List.length_range];omega),List.getElem?_eq_none (by omega)]
theorem MoOk.outs {m:Mo}(h:MoOk m){x:List Rat}(hx:x.length=m.n):gOut m.us m.os x=m.out x:=by
 obtain⟨h1,_,h2⟩:=h.gk;have:=h2 _ (gv_sat (x:=x) h1.ts hx)
 rwa [xi_list hx]at this
theorem Eqg.outs {L L' n:Nat}{us os us' os':List Af}(h:Eqg n us os us' os')(h1:Gk L n us os)(h2:Gk L' n us' os'){x:List Rat}(hx:x.length=n):gOut us' os' x=gOut us os x:=by
 obtain⟨ξ,s,hi,ho⟩:=h _ (gv_sat (x:=x) h1.ts hx);unfold gOut;rw[←ho];have hu:=sat_uniq h2.ts hx s (fun i h0 hn=>by rw[hi i hn,gv_at (j:=0) h0 (by omega) us.length (by omega)];rfl) us'.length (lR_ _);exact List.map_congr_left fun f hf=>ph_congr (h2.of f hf).ts fun v h0 hv=>(hu v h0 hv).symm
structure Ly where
 kind:Int
 fr:Int
 out:Int
 kh:Int
 kw:Int
 st:Int
 pad:Int
 ws:List Rat
 bs:List Rat
abbrev rqR (l:List Rat):List (List D):=l.map fun q=>(can q).D
abbrev trR (t:List (List Rat)):List (List D):=t.map fun y=>[rqsD y]
abbrev Ly.D (l:Ly):List D:=[.lit (.int .i64 l.kind),.lit (.int .i64 l.fr),.lit (.int .i64 l.out),.lit (.int .i64 l.kh),.lit (.int .i64 l.kw),.lit (.int .i64 l.st),.lit (.int .i64 l.pad),rqsD l.ws,rqsD l.bs]
abbrev Ly.A (l:Ly):List A:=[.d (.lit (.int .i64 l.kind)),.d (.lit (.int .i64 l.fr)),.d (.lit (.int .i64 l.out)),.d (.lit (.int .i64 l.kh)),.d (.lit (.int .i64 l.kw)),.d (.lit (.int .i64 l.st)),.d (.lit (.int .i64 l.pad)),.d (rqsD l.ws),.d (rqsD l.bs)]
abbrev stA (l:Ly)(s:List Nat)(x inp:List Rat)(tr:List (List Rat)):List A:=[.d (.lit (.int .i64 l.kind)),.d (.lit (.int .i64 l.fr)),.d (.lit (.int .i64 l.out)),.d (.lit (.int .i64 l.kh)),.d (.lit (.int .i64 l.kw)),.d (.lit (.int .i64 l.st)),.d (.lit (.int .i64 l.pad)),.d (rqsD l.ws),.d (rqsD l.bs),.d (shD s),.d (rqsD x),.d (rqsD inp),.d (.sl 1 (trR tr))]
theorem at_rq {l:List Rat}{i:Nat}{q:Rat}(h:l[i]? =some q):(rqR l)[i]? =some (can q).D:=at_map (f:=fun q=>(can q).D) h
theorem getD_of {α:Type}{l:List α}{i:Nat}{q d:α}(h:l[i]? =some q):l.getD i d=q:=by rw[List.getD_eq_getElem?_getD,h];rfl
theorem Lv.z {L e:Nat}{q:Rat}(hL:LOk L)(h:Lv L e q)(he:e≤100000):Sz q:=(h.bt hL).mono (by omega)
theorem Lw.z {L e m:Nat}{q:Rat}(hL:LOk L)(h:Lw L e m q)(he:e≤90000)(hm:m≤1000000):Sz q:=(h.up hL hm).z hL (by omega)
def Ll (L e:Nat)(l:List Rat):Prop:=∀v∈l,Lv L e v
theorem Ll.at {L e:Nat}{l:List Rat}{i:Nat}{q:Rat}(h:Ll L e l)(hi:l[i]? =some q):Lv L e q:=h q (mG_ hi)
theorem ev_dense {l:Ly}{s:List Nat}{x inp:List Rat}{tr:List (List Rat)}{L e:Nat}(hL:LOk L)(he:e≤10000)(hx:Ll L e x)(hw:Ll L 1 l.ws)(hb:Ll L 1 l.bs)(hn:x.length≤24)(hbl:l.bs.length≤24)(hwl:l.ws.length=l.bs.length*x.length):
  LV Tryz.prog 97 [.agg (stA l s x inp tr)] (.a (.d (rqsD (denseG ratO l.ws l.bs x)))):=by
 refine LX_run (m:=0) (n0:=0) mix Tryz.func97 rfl rfl rfl rfl ?_;conv=>whnf
 refine .mk Nat (fun r=>⟨[(16,vl (.int .i64 (r:Nat))),(15,vl (.int .i64 (rqR l.bs).length)),(14,.a (.d (rqsD l.bs))),(4,vl (.int .i64 (rqR x).length)),(3,.a (.own 1 3 (rqR ((List.range r).map fun r=>dotN ratO l.ws (r*x.length) x (l.bs.getD r 0) x.length)))),(1,.a (.ptr 0 0))],
  [(0,.box 104 (stA l s x inp tr)),(1,.arr 56 3 (rqR ((List.range r).map fun r=>dotN ratO l.ws (r*x.length) x (l.bs.getD r 0) x.length)).length)],2⟩) (fun r=>r≤l.bs.length) (fun r=>l.bs.length-r) 0
  (Wk.trans (Wk.own 3 1 56 3 rfl rfl (zL_ _)) Wk.go) (zL_ _) fun r hr=> ?_
 generalize hO:(List.range r).map (fun r=>dotN ratO l.ws (r*x.length) x (l.bs.getD r 0) x.length)=O;conv=>whnf
 refine bs (fun g0=> ?_) (fun g0=> ?_)
 ·conv=>whnf
  have hr':r<l.bs.length:=by simpa using g0
  obtain⟨b,hb'⟩:=at_some hr';have eb:l.bs.getD r 0=b:=getD_of hb';have zb:=hb.at hb';refine .mk (r) ((can b).D) (rfl) (at_rq hb') ?_;conv=>whnf
  conv=>whnf
  refine .mk Nat (fun k=>⟨[(24,vl (.int .i64 (k:Nat))),(23,vl (.int .i64 (rqR x).length)),(22,.a (.d (rqsD x))),(5,vl (.int .i64 (r:Nat))),(6,.a (.ptr 2 0)),(16,vl (.int .i64 (r:Nat))),(15,vl (.int .i64 (rqR l.bs).length)),(14,.a (.d (rqsD l.bs))),(4,vl (.int .i64 (rqR x).length)),(3,.a (.own 1 3 (rqR O))),(1,.a (.ptr 0 0))],
   [(2,.box 56 (can (dotN ratO l.ws (r*x.length) x b k)).A),(0,.box 104 (stA l s x inp tr)),(1,.arr 56 3 (rqR O).length)],3⟩) (fun k=>k≤x.length) (fun k=>x.length-k) 0
   Wk.go (zL_ _) fun k hk=> ?_
  have hd:=pt_rat.dotN hL (r*x.length) hw hx zb k;conv=>whnf
  refine bs (fun g1=> ?_) (fun g1=> ?_)
  ·conv=>whnf
   have hk':k<x.length:=by simpa using g1
   obtain⟨v,hv⟩:=at_some hk';have hix:r*x.length+k<l.ws.length:=by
    rw[hwl];have:=Nat.mul_le_mul_right x.length (show r+1≤l.bs.length from hr');rw[Nat.add_mul]at this;omega
   obtain⟨w,hw'⟩:=at_some hix;have zv:=hx.at hv;have zw:=hw.at hw';have hm:r*x.length≤24*24:=Nat.mul_le_mul (by omega) hn;have ei:IntKind.i64.wrap (IntKind.i64.wrap ((r:Int)*((rqR x).length:Int))+(k:Int))=((r*x.length+k:Nat):Int):=by
    rw[List.length_map,←Int.natCast_mul,wrN (n:=r*x.length) (by omega),←Int.natCast_add,wrN (by omega)]
   have es:dotN ratO l.ws (r*x.length) x b (k+1)=dotN ratO l.ws (r*x.length) x b k+w*v:=by
    rw[dotN,atO,getD_of hv,getD_of hw'];rfl
   generalize dotN ratO l.ws (r*x.length) x b k=y at *
   refine .mk (k) ((can v).D) (rfl) (at_rq hv) ?_;conv=>whnf
   conv=>whnf
   rw[ei];refine .mk ((r*x.length+k)) ((can w).D) (rfl) (at_rq hw') ?_;conv=>whnf
   conv=>whnf
   refine .c (lx_rmul (.c (zw.z hL (by omega))) (.c (zv.z hL (by omega)))) ?_;conv=>whnf
   refine .c (lx_radd (.c (hd.z hL (by omega) (by omega))) (.c ((zw.mul zv).z hL (by omega)))) ?_;conv=>whnf
   refine .mk (by kernel_rfl) ?_;conv=>whnf
   exact⟨k+1,by rw[es];exact Wk.go,hk',by omega⟩
  ·conv=>whnf
   have ek:k=x.length:=by simp at g1;omega
   subst ek;refine .mk (rqR (O++[dotN ratO l.ws (r*x.length) x b x.length])) rfl (by rw[rqR,List.map_append];rfl) (by rw[rqR,List.length_map,List.length_append,←hO];simp;omega) ?_;conv=>whnf
   exact⟨r+1,by rw[range_map_snoc,hO,eb];exact Wk.go,hr',by omega⟩
 ·conv=>whnf
  have er:r=l.bs.length:=by simp at g0;omega
  subst er;exact .s ⟨by rw[←hO];rfl,rfl⟩
theorem shD3 {s:List Nat}(h:s.length=3)(kh kw st pad:Nat):shD s=shD [(winS s kh kw st pad).c,(winS s kh kw st pad).h,(winS s kh kw st pad).w]:=congrArg shD (len3 h)
theorem ev_windows {l:Ly}{s:List Nat}{x inp:List Rat}{tr:List (List Rat)}{kh kw st pad:Nat}(h1:l.kh=kh)(h2:l.kw=kw)(h3:l.st=st)(h4:l.pad=pad)(hs:s.length=3)(ok:(winS s kh kw st pad).Ok):
  LV Tryz.prog 150 [.agg (stA l s x inp tr)] (.a (.d (wnD (winS s kh kw st pad).all))):=by
 have hc:=lx_windows ok;rw[←shD3 hs]at hc;refine LX_run (m:=0) (n0:=0) mix Tryz.func150 rfl rfl rfl rfl ?_;conv=>whnf
 rw[h1,h2,h3,h4];refine .c (hc) ?_;conv=>whnf
 exact .q ⟨rfl,rfl⟩
theorem at_wn {l:List (List Int)}{i:Nat}{w:List Int}(h:l[i]? =some w):(wnR l)[i]? =some [inD w]:=at_map (f:=fun w=>[inD w]) h
def cvTo {α:Type}(o:Op α)(W:List (List Int))(ws bs:List Rat)(x:List α)(c j:Nat):List α:=((List.range c).flatMap fun c=>W.map fun w=>cvN o ws (c*w.length) w x (bs.getD c 0) w.length)++(W.take j).map fun w=>cvN o ws (c*w.length) w x (bs.getD c 0) w.length
theorem cvTo_end {α:Type}(o:Op α)(W:List (List Int))(ws bs:List Rat)(x:List α)(c:Nat):cvTo o W ws bs x c W.length=cvTo o W ws bs x (c+1) 0:=by
 unfold cvTo;rw[range_fm_snoc,List.take_length,List.take_zero,List.map_nil,List.append_nil]
theorem cvTo_snoc {α:Type}(o:Op α)(W:List (List Int))(ws bs:List Rat)(x:List α)(c j:Nat){w:List Int}(h:W[j]? =some w):cvTo o W ws bs x c (j+1)=cvTo o W ws bs x c j++[cvN o ws (c*w.length) w x (bs.getD c 0) w.length]:=by
 unfold cvTo;rw[take_snoc h,List.map_append,←List.append_assoc];rfl
theorem cvTo_all {α:Type}(o:Op α)(W:List (List Int))(ws bs:List Rat)(x:List α):cvTo o W ws bs x bs.length 0=convG o W ws bs x:=by
 unfold cvTo convG;rw[List.take_zero,List.map_nil,List.append_nil]
theorem cvTo_len {α:Type}(o:Op α)(W:List (List Int))(ws bs:List Rat)(x:List α)(c j:Nat):(cvTo o W ws bs x c j).length≤c*W.length+j:=by
 unfold cvTo;rw[List.length_append,fm_len (fun i=>List.length_map ..),List.length_map,List.length_take];omega
theorem ev_conv {l:Ly}{s:List Nat}{x inp:List Rat}{tr:List (List Rat)}{L e:Nat}{kh kw st pad:Nat}(hL:LOk L)(he:e≤10000)(hx:Ll L e x)(hw:Ll L 1 l.ws)(hb:Ll L 1 l.bs)(hbl:l.bs.length≤24)
  (h1:l.kh=kh) (h2:l.kw=kw) (h3:l.st=st) (h4:l.pad=pad) (hs:s.length=3) (ok:(winS s kh kw st pad).Ok) (hn:x.length=szS s) (hwl:l.ws.length=l.bs.length*(s.getD 0 0*(kh*kw))):
  LV Tryz.prog 98 [.agg (stA l s x inp tr)] (.a (.d (rqsD (convG ratO (winS s kh kw st pad).all l.ws l.bs x)))):=by
 have hwin:=ev_windows (l:=l) (x:=x) (inp:=inp) (tr:=tr) h1 h2 h3 h4 hs ok;have bd:=ok.bd;have hal:∀w∈(winS s kh kw st pad).all,w.length=s.getD 0 0*(kh*kw):=fun w h=>Wn.all_len h
 have hmb:∀w∈(winS s kh kw st pad).all,∀z∈w,-1≤z∧z<(x.length:Int):=fun w h z hz=>by
  have:=Wn.mem_b h hz;rw[hn,len3 hs,szS3];exact this
 have hm1:s.getD 0 0*(kh*kw)≤864:=bd.len;have hWl:(winS s kh kw st pad).all.length≤900:=by rw[Wn.all_ln];exact bd.p1
 generalize (winS s kh kw st pad).all=W at *
 generalize s.getD 0 0*(kh*kw)=m at *
 refine LX_run (m:=0) (n0:=0) mix Tryz.func98 rfl rfl rfl rfl ?_;conv=>whnf
 refine .c (hwin) ?_;conv=>whnf
 refine .mk Nat (fun c=>⟨[(18,vl (.int .i64 (c:Nat))),(17,vl (.int .i64 (rqR l.bs).length)),(16,.a (.d (rqsD l.bs))),(4,.a (.d (wnD W))),(3,.a (.own 1 3 (rqR (cvTo ratO W l.ws l.bs x c 0)))),(1,.a (.ptr 0 0))],
  [(0,.box 104 (stA l s x inp tr)),(1,.arr 56 3 (rqR (cvTo ratO W l.ws l.bs x c 0)).length)],2⟩) (fun c=>c≤l.bs.length) (fun c=>l.bs.length-c) 0
  (Wk.trans (Wk.own 3 1 56 3 rfl rfl (zL_ _)) Wk.go) (zL_ _) fun c hc=> ?_
 conv=>whnf
 refine bs (fun g0=> ?_) (fun g0=> ?_)
 ·conv=>whnf
  have hc':c<l.bs.length:=by simpa using g0
  obtain⟨b,hb'⟩:=at_some hc';have eb:l.bs.getD c 0=b:=getD_of hb';have zb:=hb.at hb';refine .mk (c) ((can b).D) (rfl) (at_rq hb') ?_;conv=>whnf
  conv=>whnf
  refine .mk Nat (fun j=>⟨[(25,vl (.int .i64 (j:Nat))),(24,vl (.int .i64 (wnR W).length)),(23,.a (.d (wnD W))),(5,vl (.int .i64 (c:Nat))),(6,.a (.ptr 2 0)),(18,vl (.int .i64 (c:Nat))),(17,vl (.int .i64 (rqR l.bs).length)),(16,.a (.d (rqsD l.bs))),(4,.a (.d (wnD W))),(3,.a (.own 1 3 (rqR (cvTo ratO W l.ws l.bs x c j)))),(1,.a (.ptr 0 0))],
   [(2,.box 56 (can b).A),(0,.box 104 (stA l s x inp tr)),(1,.arr 56 3 (rqR (cvTo ratO W l.ws l.bs x c j)).length)],3⟩) (fun j=>j≤W.length) (fun j=>W.length-j) 0
   Wk.go (zL_ _) fun j hj=> ?_
  conv=>whnf
  refine bs (fun g1=> ?_) (fun g1=> ?_)
  ·conv=>whnf
   have hj':j<W.length:=by simpa using g1
   obtain⟨w,hw'⟩:=at_some hj';have hwm:=mG_ hw';have hwlen:=hal w hwm;refine .mk (j) ([inD w]) (rfl) (at_wn hw') ?_;conv=>whnf
   conv=>whnf
   refine .mk Nat (fun k=>⟨[(32,vl (.int .i64 (k:Nat))),(31,vl (.int .i64 (inR w).length)),(30,.a (.d (inD w))),(9,.a (.ptr 3 0)),(8,.a (.d (inD w))),(25,vl (.int .i64 (j:Nat))),(24,vl (.int .i64 (wnR W).length)),(23,.a (.d (wnD W))),(5,vl (.int .i64 (c:Nat))),(6,.a (.ptr 2 0)),(18,vl (.int .i64 (c:Nat))),(17,vl (.int .i64 (rqR l.bs).length)),(16,.a (.d (rqsD l.bs))),(4,.a (.d (wnD W))),(3,.a (.own 1 3 (rqR (cvTo ratO W l.ws l.bs x c j)))),(1,.a (.ptr 0 0))],
    [(3,.box 56 (can (cvN ratO l.ws (c*w.length) w x b k)).A),(2,.box 56 (can b).A),(0,.box 104 (stA l s x inp tr)),(1,.arr 56 3 (rqR (cvTo ratO W l.ws l.bs x c j)).length)],4⟩) (fun k=>k≤w.length) (fun k=>w.length-k) 0
    Wk.go (zL_ _) fun k hk=> ?_
   have hd:=pt_rat.cvN hL (c*w.length) w hw hx zb k;conv=>whnf
   refine bs (fun g2=> ?_) (fun g2=> ?_)
   ·conv=>whnf
    have hk':k<w.length:=by simpa using g2
    obtain⟨z,hz⟩:=at_some hk';obtain⟨z1,z2⟩:=hmb w hwm z (mG_ hz);have ez:w.getD k 0=z:=getD_of hz;refine .mk (k) ([D.lit (.int .i64 z)]) (rfl) (at_inR hz) ?_;conv=>whnf
    conv=>whnf
    refine bs (fun g3=> ?_) (fun g3=> ?_)
    ·conv=>whnf
     have hz0:0≤z:=of_decide_eq_true g3;obtain⟨zn,rfl⟩:∃n:Nat,z=n:=⟨z.toNat,by omega⟩;obtain⟨v,hv⟩:=at_some (l:=x) (i:=zn) (by omega);have hix:c*w.length+k<l.ws.length:=by
      rw[hwl,hwlen];have:=Nat.mul_le_mul_right m (show c+1≤l.bs.length from hc');rw[Nat.add_mul]at this;omega
     obtain⟨u,hu⟩:=at_some hix;have zv:=hx.at hv;have zu:=hw.at hu;have hm:c*w.length≤24*864:=Nat.mul_le_mul (by omega) (by omega);have ei:IntKind.i64.wrap (IntKind.i64.wrap ((c:Int)*((inR w).length:Int))+(k:Int))=((c*w.length+k:Nat):Int):=by
      rw[List.length_map,←Int.natCast_mul,wrN (n:=c*w.length) (by omega),←Int.natCast_add,wrN (by omega)]
     have es:cvN ratO l.ws (c*w.length) w x b (k+1)=cvN ratO l.ws (c*w.length) w x b k+u*v:=by
      rw[cvN,ez,if_pos hz0,atO,Int.toNat_natCast,getD_of hv,getD_of hu];rfl
     generalize cvN ratO l.ws (c*w.length) w x b k=y at *
     rw[ei];refine .mk ((c*w.length+k)) ((can u).D) (rfl) (at_rq hu) ?_;conv=>whnf
     conv=>whnf
     refine .mk (zn) ((can v).D) (rfl) (at_rq hv) ?_;conv=>whnf
     conv=>whnf
     refine .c (lx_rmul (.c (zu.z hL (by omega))) (.c (zv.z hL (by omega)))) ?_;conv=>whnf
     refine .c (lx_radd (.c (hd.z hL (by omega) (by omega))) (.c ((zu.mul zv).z hL (by omega)))) ?_;conv=>whnf
     refine .mk (by kernel_rfl) ?_;conv=>whnf
     exact⟨k+1,by rw[es];exact Wk.go,hk',by omega⟩
    ·conv=>whnf
     have hz0:=of_decide_eq_false g3;exact⟨k+1,by rw[cvN,ez,if_neg hz0];exact Wk.go,hk',by omega⟩
   ·conv=>whnf
    have ek:k=w.length:=by simp at g2;omega
    subst ek;have hln:=cvTo_len ratO W l.ws l.bs x c j;have hq:c*W.length≤24*900:=Nat.mul_le_mul (by omega) hWl;refine .mk (rqR (cvTo ratO W l.ws l.bs x c j++[cvN ratO l.ws (c*w.length) w x b w.length])) rfl (by rw[rqR,List.map_append];rfl) (by rw[rqR,List.length_map,List.length_append];simp only[List.length_singleton];omega) ?_;conv=>whnf
    exact⟨j+1,by rw[cvTo_snoc ratO W l.ws l.bs x c j hw',eb];exact Wk.go,hj',by omega⟩
  ·conv=>whnf
   have ej:j=W.length:=by simp at g1;omega
   subst ej;exact⟨c+1,by rw[←cvTo_end];exact Wk.go,hc',by omega⟩
 ·conv=>whnf
  have ec:c=l.bs.length:=by simp at g0;omega
  subst ec;exact .s ⟨by rw[cvTo_all];rfl,rfl⟩
theorem lit0_wk:WkV (.agg [.d (.lit (.bool false)),.d (.nat 0),.d (.nat 0)]) (ratV 0):=rat0V▸vR_ _
theorem ev_fold {F:FuncId}{φ:Rat→Rat→Rat}{l:List Rat}{a:Rat}{P:Nat→Rat→Prop}(he:entT Tryz.prog F=true)(hl:l.length≤1000000)(h0:P 0 a)
  (hF:∀(i:Nat) (a v:Rat),l[i]? =some v→P i a→P (i+1) (φ a v)∧LV Tryz.prog F [ratV a,ratV v] (ratV (φ a v))):LV Tryz.prog 102 [ratV a,.a (.d (rqsD l)),.a (.fn (.func F) [] [])] (ratV (l.foldl φ a)):=by
 refine LX_run (m:=0) (n0:=0) mix Tryz.func102 rfl rfl rfl rfl ?_;conv=>whnf
 refine .mk (Nat×Rat) (fun(i,a)=>⟨[(11,vl (.int .i64 (i:Nat))),(10,vl (.int .i64 (rqR l).length)),(9,.a (.d (rqsD l))),(2,.a (.fn (.func F) [] [])),(3,.a (.ptr 0 0)),(6,.a (.ptr 1 0))],
  [(0,.box 56 (can a).A),(1,.box 56 [.d (.lit (.bool false)),.d (.nat 0),.d (.nat 0)])],2⟩) (fun b=>b.1≤l.length∧P b.1 b.2∧b.2=(l.take b.1).foldl φ a) (fun b=>l.length-b.1) (0,a)
  Wk.go ⟨zL_ _,h0,rfl⟩ fun⟨i,y⟩ hb=> ?_
 obtain⟨hi,hP,hy⟩:=hb;simp only at hi hP hy;conv=>whnf
 refine bs (fun g0=> ?_) (fun g0=> ?_)
 ·conv=>whnf
  have hi':i<l.length:=by simpa using g0
  obtain⟨v,hv⟩:=at_some hi';obtain⟨p1,p2⟩:=hF i y v hv hP;refine .mk (i) ((can v).D) (rfl) (at_rq hv) ?_;conv=>whnf
  conv=>whnf
  refine Cn.c p2 ?_ he;conv=>whnf
  exact⟨(i+1,φ y v),Wk.go,⟨hi',p1,by simp only;rw[take_snoc hv,List.foldl_append,←hy];rfl⟩,by simp only;omega⟩
 ·conv=>whnf
  have ei:i=l.length:=by simp at g0;omega
  subst ei;rw[List.take_length]at hy;subst hy;exact .q ⟨rfl,rfl⟩
theorem ev_average {l:List Rat}{L e:Nat}(hL:LOk L)(he:e≤10000)(hx:Ll L e l)(hl:l.length≤1000)(h0:1≤l.length):LV Tryz.prog 104 [.a (.d (rqsD l))] (ratV (meanG ratO l)):=by
 have hsum:=pt_rat.sum0 hx
 have hc:LV Tryz.prog 102 [ratV 0,.a (.d (rqsD l)),.a (.fn (.func 74) [] [])] (ratV (sumG ratO l)):=
  ev_fold (φ:=fun a b=>a+b) (P:=fun i a=>Lw L e (i+1) a∧i≤l.length) rfl (by omega) ⟨Lv.zero.w,zL_ _⟩ fun i a v hv ⟨hp,_⟩=>by
   have hi:=at_lt hv;exact⟨⟨hp.add (hx.at hv).w,by omega⟩,lx_radd (.c (hp.z hL (by omega) (by omega))) (.c ((hx.at hv).z hL (by omega)))⟩
 have hn:((l.length:Int):Rat)≠0:=by
  have h1:(l.length:Int)≠0:=by omega
  exact_mod_cast h1
 have bn:Bt 10 ((l.length:Int):Rat):=Bt.int (show((l.length:Int)).natAbs≤2^10 by rw[Int.natAbs_natCast];omega);have e1:sumG ratO l/((l.length:Int):Rat)=meanG ratO l:=by
  show _=1/(l.length:Rat)*sumG ratO l;rw[Rat.div_def,Rat.div_def,Rat.one_mul,Rat.mul_comm];rfl
 refine LX_run (m:=0) (n0:=0) mix Tryz.func104 rfl rfl rfl rfl ?_;conv=>whnf
 refine Cn.as hc rfl ⟨lit0_wk,vR_ _,vR_ _,trivial⟩ rfl rfl ?_;conv=>whnf
 rw[List.length_map];refine .c (lx_rof (z:=(l.length:Int)) (by omega) (by omega)) ?_;conv=>whnf
 refine .c (lx_rdiv hn (.c (hsum.z hL (by omega) (by omega))) (.c (bn.mono (by omega)))) ?_;conv=>whnf
 exact .q ⟨by rw[e1],rfl⟩
theorem ev_max {l:List Rat}{L e:Nat}(hL:LOk L)(he:e≤10000)(hx:Ll L e l)(hl:l.length≤1000)(h0:1≤l.length):LV Tryz.prog 101 [.a (.d (rqsD l))] (ratV (maxL l)):=by
 match l,h0 with
 |a::l,_=>
  have hc:LV Tryz.prog 102 [ratV a,.a (.d (rqsD l)),.a (.fn (.func 68) [] [])] (ratV (l.foldl maxQ a)):=
   ev_fold (φ:=maxQ) (P:=fun i a=>Lv L e a) rfl (by simp only[List.length_cons]at hl;omega) (hx a (by simp)) fun i a v hv hp=>
    have hv':Lv L e v:=hx v (by simp[mG_ hv])
    ⟨hp.max hv',lx_rmax (.c (hp.z hL (by omega))) (.c (hv'.z hL (by omega)))⟩
  refine LX_run (m:=0) (n0:=0) mix Tryz.func101 rfl rfl rfl rfl ?_;conv=>whnf
  refine .mk (0) ((can a).D) (rfl) (rfl) ?_;conv=>whnf
  conv=>whnf
  refine .mk 1 (l.length+1) (rqR l) rfl (by rw[List.length_map,List.length_cons];rfl) (by omega) (by rw[List.length_map,List.length_cons];omega) (by rw[List.take_of_length_le (by rw[List.length_map,List.length_cons];omega)];rfl) ?_;conv=>whnf
  refine .c (hc) ?_;conv=>whnf
  refine .mk (by kernel_rfl) ?_;conv=>whnf
  exact .q ⟨rfl,rfl⟩
def pkTo (W:List (List Int))(n:Nat)(x:List Rat)(c j:Nat):List (List Rat):=((List.range c).flatMap fun ch=>W.map fun w=>pick ratO x n w ch)++(W.take j).map fun w=>pick ratO x n w c
theorem pkTo_end (W:List (List Int))(n:Nat)(x:List Rat)(c:Nat):pkTo W n x c W.length=pkTo W n x (c+1) 0:=by
 unfold pkTo;rw[range_fm_snoc,List.take_length,List.take_zero,List.map_nil,List.append_nil]
theorem pkTo_snoc (W:List (List Int))(n:Nat)(x:List Rat)(c j:Nat){w:List Int}(h:W[j]? =some w):pkTo W n x c (j+1)=pkTo W n x c j++[pick ratO x n w c]:=by
 unfold pkTo;rw[take_snoc h,List.map_append,←List.append_assoc];rfl
theorem pkTo_all (W:List (List Int))(n:Nat)(x:List Rat)(c:Nat):pkTo W n x c 0=picks ratO W c n x:=by
 unfold pkTo picks;rw[List.take_zero,List.map_nil,List.append_nil]
theorem pkTo_len (W:List (List Int))(n:Nat)(x:List Rat)(c j:Nat):(pkTo W n x c j).length≤c*W.length+j:=by
 unfold pkTo;rw[List.length_append,fm_len (fun i=>List.length_map ..),List.length_map,List.length_take];omega
theorem ev_pick1 {l:Ly}{s:List Nat}{x inp:List Rat}{tr:List (List Rat)}{o:List Rat}{z:Nat}{v:Rat}(hv:x[z]? =some v)(ho:o.length≤1000000):
  LX Tryz.prog 152 [.a (.own 1 3 (rqR o)),vl (.int .i64 (z:Nat)),.a (.ptr 0 0)] [(0,.box 104 (stA l s x inp tr)),(1,.arr 56 3 (rqR o).length)]
   fun v' H=>v'= .a (.own 1 3 (rqR (o++[v])))∧H=[(0,.box 104 (stA l s x inp tr)),(1,.arr 56 3 (rqR (o++[v])).length)]:=by
 refine LX_run (m:=2) (n0:=2) mix Tryz.func152 rfl rfl rfl rfl ?_;conv=>whnf
 refine .mk (z) ((can v).D) (rfl) (at_rq hv) ?_;conv=>whnf
 conv=>whnf
 refine .mk (rqR (o++[v])) rfl (by rw[rqR,List.map_append];rfl) (by simp;omega) ?_;conv=>whnf
 exact⟨_,_,⟨rfl,rfl⟩,vR_ _,rfl,⟨⟨_,rfl,wke_refl _,rfl⟩,⟨_,rfl,wke_refl _,rfl⟩,trivial⟩,rfl⟩
theorem ev_pick {l:Ly}{s:List Nat}{x inp:List Rat}{tr:List (List Rat)}{zs:List Int}(hz:∀z∈zs,0≤z∧z<(x.length:Int))(hl:zs.length≤1000):
  LX Tryz.prog 151 [vl (.slice none 0 0),.a (.d (inD zs)),.a (.fn (.func 152) [] [.ptr 0 0])] [(0,.box 104 (stA l s x inp tr))]
   fun v' H=>v'= .a (.d (rqsD (zs.map fun i=>atO ratO x i.toNat)))∧H=[(0,.box 104 (stA l s x inp tr))]:=by
 refine LX_run (m:=1) (n0:=1) mix Tryz.func151 rfl rfl rfl rfl ?_;conv=>whnf
 refine .mk Nat (fun i=>⟨[(11,vl (.int .i64 (i:Nat))),(10,vl (.int .i64 (inR zs).length)),(9,.a (.d (inD zs))),(2,.a (.fn (.func 152) [] [.ptr 0 0])),(0,.a (.own 1 3 (rqR ((zs.take i).map fun i=>atO ratO x i.toNat))))],
  [(0,.box 104 (stA l s x inp tr)),(1,.arr 56 3 (rqR ((zs.take i).map fun i=>atO ratO x i.toNat)).length)],2⟩) (fun i=>i≤zs.length) (fun i=>zs.length-i) 0
  (Wk.trans (Wk.own 0 1 56 3 rfl rfl (lR_ _)) Wk.go) (zL_ _) fun i hi=> ?_
 generalize hO:(zs.take i).map (fun i=>atO ratO x i.toNat)=O;conv=>whnf
 refine bs (fun g0=> ?_) (fun g0=> ?_)
 ·conv=>whnf
  have hi':i<zs.length:=by simpa using g0
  obtain⟨z,hz'⟩:=at_some hi';obtain⟨z1,z2⟩:=hz z (mG_ hz');obtain⟨zn,rfl⟩:∃n:Nat,z=n:=⟨z.toNat,by omega⟩;obtain⟨v,hv⟩:=at_some (l:=x) (i:=zn) (by omega);refine .mk (i) ([D.lit (.int .i64 (zn:Nat))]) (rfl) (at_inR hz') ?_;conv=>whnf
  conv=>whnf
  refine Cn.o [0,1] (ev_pick1 (o:=O) hv (by rw[←hO,List.length_map,List.length_take];omega)) ?_;conv=>whnf
  exact⟨i+1,by rw[take_snoc hz',List.map_append,hO,List.map_cons,List.map_nil,Int.toNat_natCast,atO,getD_of hv];exact Wk.go,hi',by omega⟩
 ·conv=>whnf
  have ei:i=zs.length:=by simp at g0;omega
  subst ei;rw[List.take_length]at hO;exact⟨_,_,⟨rfl,rfl⟩,by rw[hO];exact stripV_ok _,rfl,⟨⟨_,rfl,wke_refl _,rfl⟩,trivial⟩,rfl⟩
theorem ev_pool {F:FuncId}{φ:List Rat→Rat}{l:Ly}{s:List Nat}{x inp:List Rat}{tr:List (List Rat)}{kh kw st pad:Nat}(he:entT Tryz.prog F=true)(hp:pad=0)
  (h1:l.kh=kh) (h2:l.kw=kw) (h3:l.st=st) (h4:l.pad=pad) (hs:s.length=3) (ok:(winS s kh kw st pad).Ok) (hn:x.length=szS s)
  (hF:∀y∈picks ratO (winS s kh kw st pad).all (s.getD 0 0) (kh*kw) x,LV Tryz.prog F [.a (.d (rqsD y))] (ratV (φ y))):
  LV Tryz.prog 100 [.agg (stA l s x inp tr),.a (.fn (.func F) [] [])] (.a (.d (rqsD ((picks ratO (winS s kh kw st pad).all (s.getD 0 0) (kh*kw) x).map φ)))):=by
 have hwin:=ev_windows (l:=l) (x:=x) (inp:=inp) (tr:=tr) h1 h2 h3 h4 hs ok;obtain⟨lk,lf,lo,lkh,lkw,lst,lpad,lws,lbs⟩:=l;simp only at h1 h2 h3 h4;subst h1 h2 h3 h4;have bd:=ok.bd;have hal:∀w∈(winS s kh kw st pad).all,w.length=s.getD 0 0*(kh*kw):=fun w h=>Wn.all_len h
 have hmb:∀w∈(winS s kh kw st pad).all,∀z∈w,0≤z∧z<(x.length:Int):=fun w h z hz=>by
  have:=Wn.mem_b h hz;rw[hn,len3 hs,szS3];exact⟨Wn.mem_nn hp ok h hz,this.2⟩
 have hc24:s.getD 0 0≤24:=bd.c;have hkk:kh*kw≤36:=ok.n.2;have hm1:s.getD 0 0*(kh*kw)≤864:=bd.len;have hWl:(winS s kh kw st pad).all.length≤900:=by rw[Wn.all_ln];exact bd.p1
 have hk6:kh≤6∧kw≤6:=⟨ok.kh.2,ok.kw.2⟩;have hs0:s[0]? =some (s.getD 0 0):=by rw[len3 hs];rfl
 generalize (winS s kh kw st pad).all=W at *
 generalize hC:s.getD 0 0=C at *
 have ekk:IntKind.i64.wrap ((kh:Int)*(kw:Int))=((kh*kw:Nat):Int):=by rw[←Int.natCast_mul,wrN (by omega)]
 generalize hN:kh*kw=n at *
 refine LX_run (m:=0) (n0:=0) mix Tryz.func100 rfl rfl rfl rfl ?_;conv=>whnf
 refine .c (hwin) ?_;conv=>whnf
 rw[ekk];refine .mk (0) ([D.lit (.int .i64 (C:Nat))]) (rfl) (at_nI hs0) ?_;conv=>whnf
 conv=>whnf
 refine .mk Nat (fun c=>⟨[(24,vl (.int .i64 (c:Nat))),(23,vl (.int .i64 (C:Nat))),(7,vl (.int .i64 (n:Nat))),(6,.a (.d (wnD W))),(1,.a (.fn (.func F) [] [])),(5,.a (.own 1 3 (rqR ((pkTo W n x c 0).map φ)))),(2,.a (.ptr 0 0))],
  [(0,.box 104 (stA ⟨lk,lf,lo,kh,kw,st,pad,lws,lbs⟩ s x inp tr)),(1,.arr 56 3 (rqR ((pkTo W n x c 0).map φ)).length)],2⟩) (fun c=>c≤C) (fun c=>C-c) 0
  (Wk.trans (Wk.own 5 1 56 3 rfl rfl (zL_ _)) Wk.go) (zL_ _) fun c hc=> ?_
 conv=>whnf
 refine bs (fun g0=> ?_) (fun g0=> ?_)
 ·conv=>whnf
  have hc':c<C:=by simpa using g0
  refine .mk Nat (fun j=>⟨[(29,vl (.int .i64 (j:Nat))),(28,vl (.int .i64 (wnR W).length)),(27,.a (.d (wnD W))),(8,vl (.int .i64 (c:Nat))),(24,vl (.int .i64 (c:Nat))),(23,vl (.int .i64 (C:Nat))),(7,vl (.int .i64 (n:Nat))),(6,.a (.d (wnD W))),(1,.a (.fn (.func F) [] [])),(5,.a (.own 1 3 (rqR ((pkTo W n x c j).map φ)))),(2,.a (.ptr 0 0))],
   [(0,.box 104 (stA ⟨lk,lf,lo,kh,kw,st,pad,lws,lbs⟩ s x inp tr)),(1,.arr 56 3 (rqR ((pkTo W n x c j).map φ)).length)],2⟩) (fun j=>j≤W.length) (fun j=>W.length-j) 0
   Wk.go (zL_ _) fun j hj=> ?_
  conv=>whnf
  refine bs (fun g1=> ?_) (fun g1=> ?_)
  ·conv=>whnf
   have hj':j<W.length:=by simpa using g1
   obtain⟨w,hw'⟩:=at_some hj';have hwm:=mG_ hw';have hwlen:=hal w hwm;have b0:(c+1)*n≤C*n:=Nat.mul_le_mul_right _ hc';have b1:c*n≤(c+1)*n:=Nat.mul_le_mul_right _ (by omega);have b2:C*n≤24*36:=Nat.mul_le_mul hc24 hkk;have e1:IntKind.i64.wrap ((c:Int)*(n:Int))=((c*n:Nat):Int):=by rw[←Int.natCast_mul,wrN (by omega)]
   have e2:IntKind.i64.wrap ((c:Int)+1)=((c+1:Nat):Int):=by rw[wr64 (by omega) (by omega)];omega
   have e3:IntKind.i64.wrap (((c+1:Nat):Int)*(n:Int))=(((c+1)*n:Nat):Int):=by rw[←Int.natCast_mul,wrN (by omega)]
   have hpm:pick ratO x n w c∈picks ratO W C n x:=List.mem_flatMap.2 ⟨c,List.mem_range.2 hc',List.mem_map.2 ⟨w,hwm,rfl⟩⟩;have hpk:=ev_pick (l:=⟨lk,lf,lo,kh,kw,st,pad,lws,lbs⟩) (s:=s) (x:=x) (inp:=inp) (tr:=tr) (zs:=(w.take ((c+1)*n)).drop (c*n)) (fun z hz=>hmb w hwm z (List.mem_of_mem_take (List.mem_of_mem_drop hz))) (by rw[List.length_drop,List.length_take];omega);refine .mk (j) ([inD w]) (rfl) (at_wn hw') ?_;conv=>whnf
   conv=>whnf
   rw[e1,e2,e3];refine .mk (c*n) ((c+1)*n) (inR ((w.take ((c+1)*n)).drop (c*n))) rfl rfl (by omega) (by rw[List.length_map];omega) (by rw[inR,inR,List.map_drop,List.map_take]) ?_;conv=>whnf
   refine .l [0] (hpk) ?_;conv=>whnf
   refine Cn.c (hF _ hpm) ?_ he;conv=>whnf
   have hln:=pkTo_len W n x c j;have hq:c*W.length≤24*900:=Nat.mul_le_mul (by omega) hWl;refine .mk (rqR ((pkTo W n x c j).map φ++[φ (pick ratO x n w c)])) rfl (by rw[rqR,List.map_append];rfl) (by rw[rqR,List.length_map,List.length_append,List.length_map];simp only[List.length_singleton];omega) ?_;conv=>whnf
   exact⟨j+1,by rw[pkTo_snoc W n x c j hw',List.map_append];exact Wk.go,hj',by omega⟩
  ·conv=>whnf
   have ej:j=W.length:=by simp at g1;omega
   subst ej;exact⟨c+1,by rw[←pkTo_end];exact Wk.go,hc',by omega⟩
 ·conv=>whnf
  have ec:c=C:=by simp at g0;omega
  subst ec;exact .s ⟨by rw[pkTo_all];rfl,rfl⟩
theorem ev_same {l:Ly}{s:List Nat}{x inp:List Rat}{tr:List (List Rat)}(hx:x.length≤1000):LV Tryz.prog 108 [.agg (stA l s x inp tr)] (.a (.d (rqsD x))):=by
 refine LX_run (m:=0) (n0:=0) mix Tryz.func108 rfl rfl rfl rfl ?_;conv=>whnf
 refine .own ?_;conv=>whnf
 refine .mk (rqR x) rfl rfl (by rw[List.length_map];omega) ?_;conv=>whnf
 exact .s ⟨rfl,rfl⟩
def adTo (x y:List Rat)(i:Nat):List Rat:=(List.range i).map fun i=>ratO.add (atO ratO x i) (atO ratO y i)
theorem ev_add {l:Ly}{s:List Nat}{x inp y:List Rat}{tr:List (List Rat)}{L e:Nat}(hL:LOk L)(he:e≤10000)(hx:Ll L e x)(hy:Ll L e y)(hn:x.length≤1000)(hxy:y.length=x.length)
  (hfr:(l.fr<0∧inp=y)∨(0≤l.fr∧tr[l.fr.toNat]? =some y)):LV Tryz.prog 109 [.agg (stA l s x inp tr)] (.a (.d (rqsD (addG ratO x y)))):=by
 refine LX_run (m:=0) (n0:=0) mix Tryz.func109 rfl rfl rfl rfl ?_;conv=>whnf
 refine bs (fun g0=> ?_) (fun g0=> ?_)<;>conv=>whnf
 rotate_left
 have hin:inp=y:=by
  have:=of_decide_eq_false g0;rcases hfr with h|h
  ·exact h.2
  ·omega
 rw[hin]
 rotate_left
 obtain⟨hf,ht⟩:0≤l.fr∧tr[l.fr.toNat]? =some y:=by
  have:=of_decide_eq_true g0;rcases hfr with h|h
  ·omega
  ·exact h
 refine .mk (l.fr.toNat) ([rqsD y]) (by omega) (at_map (f:=fun y=>[rqsD y]) ht) ?_;conv=>whnf
 conv=>whnf
 all_goals
  refine .mk Nat (fun i=>⟨[(23,vl (.int .i64 (i:Nat))),(22,vl (.int .i64 (rqR x).length)),(21,.a (.d (rqsD x))),(3,.a (.d (rqsD y))),(4,.a (.own 1 3 (rqR (adTo x y i))))],
   [(1,.arr 56 3 (rqR (adTo x y i)).length)],2⟩) (fun i=>i≤x.length) (fun i=>x.length-i) 0
   (Wk.trans (Wk.own 4 1 56 3 rfl rfl (zL_ _)) Wk.go) (zL_ _) fun i hi=> ?_
  generalize hO:adTo x y i=O;conv=>whnf
  refine bs (fun g1=> ?_) (fun g1=> ?_)
  ·conv=>whnf
   have hi':i<x.length:=by simpa using g1
   obtain⟨u,hu⟩:=at_some hi';obtain⟨v,hv⟩:=at_some (l:=y) (i:=i) (by omega);have zu:=hx.at hu;have zv:=hy.at hv;refine .mk (i) ((can u).D) (rfl) (at_rq hu) ?_;conv=>whnf
   conv=>whnf
   refine .mk (i) ((can v).D) (rfl) (at_rq hv) ?_;conv=>whnf
   conv=>whnf
   refine .c (lx_radd (.c (zu.z hL (by omega))) (.c (zv.z hL (by omega)))) ?_;conv=>whnf
   refine .mk (rqR (O++[u+v])) rfl (by rw[rqR,List.map_append];rfl) (by rw[rqR,List.length_map,List.length_append,←hO,adTo,List.length_map,List.length_range];simp only[List.length_singleton];omega) ?_;conv=>whnf
   refine .mk (by kernel_rfl) ?_;conv=>whnf
   exact⟨i+1,by rw[adTo,range_map_snoc,show List.map (fun i=>ratO.add (atO ratO x i) (atO ratO y i)) (List.range i)=O from hO,atO,atO,getD_of hu,getD_of hv];exact Wk.go,hi',by omega⟩
  ·conv=>whnf
   have ei:i=x.length:=by simp at g1;omega
   subst ei;exact .s ⟨by rw[←hO];rfl,rfl⟩
theorem ev_relu1 {o:List Rat}{v:Rat}{L e:Nat}(hL:LOk L)(he:e≤10000)(hv:Lv L e v)(ho:o.length≤1000000):
  LX Tryz.prog 107 [.a (.own 0 3 (rqR o)),ratV v] [(0,.arr 56 3 (rqR o).length)]
   fun v' H=>v'= .a (.own 0 3 (rqR (o++[maxQ v 0])))∧H=[(0,.arr 56 3 (rqR (o++[maxQ v 0])).length)]:=by
 refine LX_run (m:=1) (n0:=1) mix Tryz.func107 rfl rfl rfl rfl ?_;conv=>whnf
 refine .c (lx_rmax (.c (hv.z hL (by omega))) ((RQ.c sz0).wk lit0_wk)) ?_;conv=>whnf
 refine .mk (rqR (o++[maxQ v 0])) rfl (by rw[rqR,List.map_append];rfl) (by simp;omega) ?_;conv=>whnf
 exact⟨_,_,⟨rfl,rfl⟩,vR_ _,rfl,⟨⟨_,rfl,wke_refl _,rfl⟩,trivial⟩,rfl⟩
theorem ev_relu {x:List Rat}{L e:Nat}(hL:LOk L)(he:e≤10000)(hx:Ll L e x)(hl:x.length≤1000):
  LV Tryz.prog 106 [vl (.slice none 0 0),.a (.d (rqsD x)),.a (.fn (.func 107) [] [])] (.a (.d (rqsD (x.map fun q=>maxQ q 0)))):=by
 refine LX_run (m:=0) (n0:=0) mix Tryz.func106 rfl rfl rfl rfl ?_;conv=>whnf
 refine .mk Nat (fun i=>⟨[(11,vl (.int .i64 (i:Nat))),(10,vl (.int .i64 (rqR x).length)),(9,.a (.d (rqsD x))),(2,.a (.fn (.func 107) [] [])),(0,.a (.own 0 3 (rqR ((x.take i).map fun q=>maxQ q 0))))],
  [(0,.arr 56 3 (rqR ((x.take i).map fun q=>maxQ q 0)).length)],1⟩) (fun i=>i≤x.length) (fun i=>x.length-i) 0
  (Wk.trans (Wk.own 0 0 56 3 rfl rfl (lR_ _)) Wk.go) (zL_ _) fun i hi=> ?_
 generalize hO:(x.take i).map (fun q=>maxQ q 0)=O;conv=>whnf
 refine bs (fun g0=> ?_) (fun g0=> ?_)
 ·conv=>whnf
  have hi':i<x.length:=by simpa using g0
  obtain⟨v,hv⟩:=at_some hi';refine .mk (i) ((can v).D) (rfl) (at_rq hv) ?_;conv=>whnf
  conv=>whnf
  refine Cn.o [0] (ev_relu1 (o:=O) hL he (hx.at hv) (by rw[←hO,List.length_map,List.length_take];omega)) ?_;conv=>whnf
  exact⟨i+1,by rw[take_snoc hv,List.map_append,hO];exact Wk.go,hi',by omega⟩
 ·conv=>whnf
  have ei:i=x.length:=by simp at g0;omega
  subst ei;rw[List.take_length]at hO;exact .s ⟨by rw[←hO];rfl,rfl⟩
def Lay.ly:Lay→Ly
 | .dense ws bs=>⟨1,0,bs.length,0,0,0,0,ws,bs⟩
 | .conv kh kw st pad ws bs=>⟨2,0,bs.length,kh,kw,st,pad,ws,bs⟩
 | .mx kh kw st=>⟨3,0,0,kh,kw,st,0,[],[]⟩
 | .av kh kw st=>⟨4,0,0,kh,kw,st,0,[],[]⟩
 | .relu=>⟨5,0,0,0,0,0,0,[],[]⟩
 | .flat=>⟨6,0,0,0,0,0,0,[],[]⟩
 | .add fr=>⟨7,fr,0,0,0,0,0,[],[]⟩
structure EvH (L e:Nat)(lay:Lay)(s:List Nat)(x inp:List Rat)(tr:List (List Rat)):Prop where
 lo:LvO L lay
 el:e≤9000
 xl:Ll L e x
 il:Ll L e inp
 tl:∀y∈tr,Ll L e y
 n:x.length=szS s
 s24:szS s≤24
 o24:szS (outS lay s)≤24
 fit:∃i ss,Fit lay i ss s
 add:∀fr,lay= .add fr→ -1≤fr∧(fr+1).toNat<(inp::tr).length∧((inp::tr).getD (fr+1).toNat []).length=x.length
abbrev stB (l:Ly)(s:List Nat)(x inp:List Rat)(tr:List (List Rat)):List (Nat×Ent):=[(0,.box 104 (stA l s x inp tr))]
theorem ev_out1 {l:Ly}{s:List Nat}{x inp y:List Rat}{tr:List (List Rat)}(hc:LV Tryz.prog 100 [.agg (stA l s x inp tr),.a (.fn (.func 101) [] [])] (.a (.d (rqsD y)))):
  LX Tryz.prog 99 [.a (.ptr 0 0)] (stB l s x inp tr) fun v H=>v= .a (.d (rqsD y))∧H=stB l s x inp tr:=by
 refine LX_run (m:=1) (n0:=1) mix Tryz.func99 rfl rfl rfl rfl ?_;conv=>whnf
 refine .c (hc) ?_;conv=>whnf
 exact⟨_,_,⟨rfl,rfl⟩,vR_ _,rfl,⟨⟨_,rfl,wke_refl _,rfl⟩,trivial⟩,rfl⟩
theorem ev_out2 {l:Ly}{s:List Nat}{x inp y:List Rat}{tr:List (List Rat)}(hc:LV Tryz.prog 100 [.agg (stA l s x inp tr),.a (.fn (.func 104) [] [])] (.a (.d (rqsD y)))):
  LX Tryz.prog 103 [.a (.ptr 0 0)] (stB l s x inp tr) fun v H=>v= .a (.d (rqsD y))∧H=stB l s x inp tr:=by
 refine LX_run (m:=1) (n0:=1) mix Tryz.func103 rfl rfl rfl rfl ?_;conv=>whnf
 refine .c (hc) ?_;conv=>whnf
 exact⟨_,_,⟨rfl,rfl⟩,vR_ _,rfl,⟨⟨_,rfl,wke_refl _,rfl⟩,trivial⟩,rfl⟩
theorem ev_out3 {l:Ly}{s:List Nat}{x inp y:List Rat}{tr:List (List Rat)}(hc:LV Tryz.prog 106 [vl (.slice none 0 0),.a (.d (rqsD x)),.a (.fn (.func 107) [] [])] (.a (.d (rqsD y)))):
  LX Tryz.prog 105 [.a (.ptr 0 0)] (stB l s x inp tr) fun v H=>v= .a (.d (rqsD y))∧H=stB l s x inp tr:=by
 refine LX_run (m:=1) (n0:=1) mix Tryz.func105 rfl rfl rfl rfl ?_;conv=>whnf
 refine .c (hc) ?_;conv=>whnf
 exact⟨_,_,⟨rfl,rfl⟩,vR_ _,rfl,⟨⟨_,rfl,wke_refl _,rfl⟩,trivial⟩,rfl⟩
theorem ll_pick {L e:Nat}{x:List Rat}(hx:Ll L e x){W:List (List Int)}{c n:Nat}:∀y∈picks ratO W c n x,Ll L e y:=fun y hy=>by
 obtain⟨ch,w,_,_,rfl⟩:=picks_mem hy;exact pick_lv pt_rat hx
theorem picks_ln1 {x:List Rat}{s:List Nat}{kh kw st pad:Nat}:∀y∈picks ratO (winS s kh kw st pad).all (s.getD 0 0) (kh*kw) x,y.length=kh*kw:=fun y hy=>by
 obtain⟨ch,w,h1,h2,rfl⟩:=picks_mem hy;exact pick_ln (Wn.all_len h2) h1
theorem ev_output {L e:Nat}{lay:Lay}{s:List Nat}{x inp:List Rat}{tr:List (List Rat)}(h:EvH L e lay s x inp tr):
  LV Tryz.prog 56 [.agg (stA lay.ly s x inp tr)] (.a (.d (rqsD (eLay lay s (inp::tr) x)))):=by
 obtain⟨lo,he,hx,hinp,htr,hn,hs,ho,⟨i,ss,hf⟩,hadd⟩:=h;have hL:=lo.ok
 cases lay with
 |dense ws bs=>
  have hb:bs.length≤24:=by simpa [outS,szS1]using ho
  have c:=ev_dense (l:=Lay.ly (.dense ws bs)) (s:=s) (inp:=inp) (tr:=tr) hL (by omega) hx (fun q hq=>lo.par q (List.mem_append_left _ hq)) (fun q hq=>lo.par q (List.mem_append_right _ hq)) (by omega) hb (by rw[hn];exact hf.2);refine LX_run (m:=0) (n0:=0) mix Tryz.func56 rfl rfl rfl rfl ?_;conv=>whnf
  refine .c (c) ?_;conv=>whnf
  exact .q ⟨rfl,rfl⟩
 |conv kh kw st pad ws bs=>
  have hb:bs.length≤24:=by
   have bd:=hf.1.bd;simp only[outS,szS3]at ho;exact tL_ (tL_ (Nat.le_mul_of_pos_right _ bd.r1) (Nat.le_mul_of_pos_right _ bd.q1)) ho
  have c:=ev_conv (l:=Lay.ly (.conv kh kw st pad ws bs)) (s:=s) (inp:=inp) (tr:=tr) hL (by omega) hx (fun q hq=>lo.par q (List.mem_append_left _ hq)) (fun q hq=>lo.par q (List.mem_append_right _ hq)) hb rfl rfl rfl rfl hf.2.1 hf.1 hn hf.2.2.2;refine LX_run (m:=0) (n0:=0) mix Tryz.func56 rfl rfl rfl rfl ?_;conv=>whnf
  refine .c (c) ?_;conv=>whnf
  exact .q ⟨rfl,rfl⟩
 |mx kh kw st=>
  have b1:1≤kh*kw:=hf.1.n.1;have b2:kh*kw≤36:=hf.1.n.2
  have c:=ev_pool (F:=101) (φ:=maxL) (l:=Lay.ly (.mx kh kw st)) (s:=s) (inp:=inp) (tr:=tr) rfl rfl rfl rfl rfl rfl hf.2 hf.1 hn fun y hy=>by
   have:=picks_ln1 y hy;exact ev_max hL (by omega) (ll_pick hx y hy) (by omega) (by omega)
  refine LX_run (m:=0) (n0:=0) mix Tryz.func56 rfl rfl rfl rfl ?_;conv=>whnf
  refine .l [0] (ev_out1 c) ?_;conv=>whnf
  exact .q ⟨rfl,rfl⟩
 |av kh kw st=>
  have b1:1≤kh*kw:=hf.1.n.1;have b2:kh*kw≤36:=hf.1.n.2
  have c:=ev_pool (F:=104) (φ:=meanG ratO) (l:=Lay.ly (.av kh kw st)) (s:=s) (inp:=inp) (tr:=tr) rfl rfl rfl rfl rfl rfl hf.2 hf.1 hn fun y hy=>by
   have:=picks_ln1 y hy;exact ev_average hL (by omega) (ll_pick hx y hy) (by omega) (by omega)
  refine LX_run (m:=0) (n0:=0) mix Tryz.func56 rfl rfl rfl rfl ?_;conv=>whnf
  refine .l [0] (ev_out2 c) ?_;conv=>whnf
  exact .q ⟨rfl,rfl⟩
 |relu=>
  refine LX_run (m:=0) (n0:=0) mix Tryz.func56 rfl rfl rfl rfl ?_;conv=>whnf
  refine .l [0] (ev_out3 (ev_relu hL (by omega) hx (by omega))) ?_;conv=>whnf
  exact .q ⟨rfl,rfl⟩
 |flat=>
  refine LX_run (m:=0) (n0:=0) mix Tryz.func56 rfl rfl rfl rfl ?_;conv=>whnf
  refine .c (ev_same (l:=Lay.ly .flat) (s:=s) (inp:=inp) (tr:=tr) (by omega)) ?_;conv=>whnf
  exact .q ⟨rfl,rfl⟩
 |add fr=>
  obtain⟨a1,a2,a3⟩:=hadd fr rfl;have hy:Ll L e ((inp::tr).getD (fr+1).toNat []):=by
   rw[List.getD_eq_getElem?_getD,List.getElem?_eq_getElem a2];rcases List.mem_cons.1 (List.getElem_mem a2)with h|h
   ·rw[h];exact hinp
   ·exact htr _ h
  have c:=ev_add (l:=Lay.ly (.add fr)) (s:=s) (inp:=inp) (tr:=tr) hL (by omega) hx hy (by omega) a3 (by
   by_cases hfr:fr<0
   ·refine .inl ⟨hfr,?_⟩;rw[show(fr+1).toNat=0 by omega];rfl
   ·refine .inr ⟨show(0:Int)≤fr by omega,?_⟩;have e1:(fr+1).toNat=fr.toNat+1:=by omega
    rw[e1]at a2;simp only[List.length_cons]at a2;rw[e1,List.getD_cons_succ,List.getD_eq_getElem?_getD,show(Lay.add fr).ly.fr=fr from rfl,List.getElem?_eq_getElem (by omega)];rfl)
  refine LX_run (m:=0) (n0:=0) mix Tryz.func56 rfl rfl rfl rfl ?_;conv=>whnf
  refine .c (c) ?_;conv=>whnf
  exact .q ⟨rfl,rfl⟩
end Go.Proofs.YtbegidaaiajffaaGreatDoor.Lf
namespace Go.Proofs.YtbegidaaiajffaaGreatDoor
open Go.RowKit Nt
theorem sleq_any (v v':Value)(xs:List Nat)(w:World)(h:Sl w v xs)(h':Sl w v' xs):Calls Tryz.prog 220 #[v,v'] w (Ret w (Val (.bool true))):=by
 obtain⟨ad,n,cap,rfl,hn,hnc,hm,-,hs⟩:=h;obtain⟨ad',n',cap',rfl,hn',hnc',hm',-,hs'⟩:=h';obtain rfl:n=n':=by omega
 have Hn:=lH hn;clear hn hn'
 go_enter Tryz.func220,Tryz.ntmps220
 go_wp2
 go_loopw [13] (fun i wr=>∃k:Nat,k≤n∧i= .int .i64 k∧Below w.heap.size w wr) (fun i _=>n-(intOf i).toNat)
 case atStart=>exact⟨0,zL_ _,rfl,bR_ _ _⟩
 case round=>
  obtain⟨k,hk,rfl,hb⟩:=hrel
  by_cases hkn:k<n
  ·obtain⟨b,off,rfl,hbw,hc⟩:=hs (by omega);obtain⟨b',off',rfl,hbw',hc'⟩:=hs' (by omega);have c1:=(hb.cell (p:=⟨b,off+k,none⟩) hbw).trans (hc k hkn);have c2:=(hb.cell (p:=⟨b',off'+k,none⟩) hbw').trans (hc' k hkn);clear hc hc' hs hs';go_wp2
   go_quiet (fail)
   go_wp2
   go_roundw
   case rel=>exact⟨k+1,by omega,by go_num,below_drewN hb _⟩
   case measure=>simp[intOf];omega
  ·clear hs hs';go_wp2
   go_ret
   exact⟨_,rfl,rfl,hb⟩
end Go.Proofs.YtbegidaaiajffaaGreatDoor
namespace Go.Proofs.YtbegidaaiajffaaGreatDoor.Lf
open Go.RowKit Nt
theorem lx_neq {xs:List Nat}:LV Tryz.prog 220 [.a (.d (.lm xs)),.a (.d (.lm xs))] (vl (.bool true)):=lv_of fun γ M w rs ha=>by
 obtain⟨r,s,rfl,k1,k2⟩:=all2_2 ha;exact Calls.ret (sleq_any _ _ _ _ (rd_sl k1) (rd_sl k2)) fun _ _=>Val.ov
theorem lx_rats1 {b:Bool}{xs ys:List Nat}:LV Tryz.prog 219 [rawV b xs ys,rawV b xs ys] (vl (.bool true)):=by
 cases b
 all_goals
  refine LX_run (m:=0) (n0:=0) mix Tryz.func219 rfl rfl rfl rfl ?_;conv=>whnf
  refine .c (lx_neq) ?_;conv=>whnf
  refine .c (lx_neq) ?_;conv=>whnf
  exact .q ⟨rfl,rfl⟩
theorem lx_eqf {l:List Rat}(hl:l.length≤1000000):LV Tryz.prog 218 [.a (.d (rqsD l)),.a (.d (rqsD l)),.a (.fn (.func 219) [] [])] (vl (.bool true)):=by
 refine LX_run (m:=0) (n0:=0) mix Tryz.func218 rfl rfl rfl rfl ?_;conv=>whnf
 refine bF (by simp) ?_;conv=>whnf
 refine .mk Nat (fun i=>⟨[(17,vl (.int .i64 (i:Nat))),(16,vl (.int .i64 (rqR l).length)),(15,.a (.d (rqsD l))),(2,.a (.fn (.func 219) [] [])),(1,.a (.d (rqsD l)))],[],0⟩) (fun i=>i≤l.length) (fun i=>l.length-i) 0 Wk.go (zL_ _) fun i hi=> ?_;conv=>whnf
 refine bs (fun g0=> ?_) (fun g0=> ?_)
 ·conv=>whnf
  have hi':i<l.length:=by simpa using g0
  obtain⟨v,hv⟩:=at_some hi';refine .mk (i) ((can v).D) (rfl) (at_rq hv) ?_;conv=>whnf
  conv=>whnf
  refine .mk (i) ((can v).D) (rfl) (at_rq hv) ?_;conv=>whnf
  conv=>whnf
  refine .c (lx_rats1) ?_;conv=>whnf
  exact⟨i+1,Wk.go,hi',by omega⟩
 ·conv=>whnf
  exact .q ⟨rfl,rfl⟩
theorem lx_mrats {l:List Rat}(hl:l.length≤1000000):LV Tryz.prog 195 [.a (.d (rqsD l)),.a (.d (rqsD l))] (vl (.bool true)):=by
 refine LX_run (m:=0) (n0:=0) mix Tryz.func195 rfl rfl rfl rfl ?_;conv=>whnf
 refine .c (lx_eqf hl) ?_;conv=>whnf
 exact .q ⟨rfl,rfl⟩
theorem lx_msame {l:Ly}(hw:l.ws.length≤1000000)(hb:l.bs.length≤1000000):LV Tryz.prog 156 [.agg l.A,.agg l.A] (vl (.bool true)):=by
 refine LX_run (m:=0) (n0:=0) mix Tryz.func156 rfl rfl rfl rfl ?_;conv=>whnf
 refine bT (by simp) ?_;conv=>whnf
 refine bT (by simp) ?_;conv=>whnf
 refine bT (by simp) ?_;conv=>whnf
 refine bT (by simp) ?_;conv=>whnf
 refine bT (by simp) ?_;conv=>whnf
 refine bT (by simp) ?_;conv=>whnf
 refine bT (by simp) ?_;conv=>whnf
 refine .c (lx_mrats hw) ?_;conv=>whnf
 refine .c (lx_mrats hb) ?_;conv=>whnf
 exact .q ⟨rfl,rfl⟩
theorem lx_monly {l:Ly}(hw:l.ws.length≤1000000)(hb:l.bs.length≤1000000):LV Tryz.prog 155 [.agg l.A,.agg ({l with kind:=0}:Ly).A] (vl (.bool true)):=by
 refine LX_run (m:=0) (n0:=0) mix Tryz.func155 rfl rfl rfl rfl ?_;conv=>whnf
 refine .c (lx_msame (l:=l) hw hb) ?_;conv=>whnf
 exact .q ⟨rfl,rfl⟩
theorem lx_mside {n:Int}(h:1≤n)(h':n≤64):LV Tryz.prog 196 [vl (.int .i64 n)] (vl (.bool true)):=by
 refine LX_run (m:=0) (n0:=0) mix Tryz.func196 rfl rfl rfl rfl ?_;conv=>whnf
 refine bT (decide_eq_true (by omega)) ?_;conv=>whnf
 refine bT (decide_eq_true (by omega)) ?_;conv=>whnf
 exact .q ⟨rfl,rfl⟩
theorem lx_kernel {l:Ly}(h1:1≤l.kh∧l.kh≤64)(h2:1≤l.kw∧l.kw≤64)(h3:1≤l.st∧l.st≤64):LV Tryz.prog 158 [.agg l.A] (vl (.bool true)):=by
 refine LX_run (m:=0) (n0:=0) mix Tryz.func158 rfl rfl rfl rfl ?_;conv=>whnf
 refine .c (lx_mside h1.1 h1.2) ?_;conv=>whnf
 refine .c (lx_mside h2.1 h2.2) ?_;conv=>whnf
 refine .c (lx_mside h3.1 h3.2) ?_;conv=>whnf
 exact .q ⟨rfl,rfl⟩
theorem lx_mout {l:Ly}(h:1≤l.out∧l.out≤16384):LV Tryz.prog 154 [.agg l.A] (vl (.bool true)):=by
 refine LX_run (m:=0) (n0:=0) mix Tryz.func154 rfl rfl rfl rfl ?_;conv=>whnf
 refine bT (decide_eq_true h.1) ?_;conv=>whnf
 refine bT (decide_eq_true h.2) ?_;conv=>whnf
 exact .q ⟨rfl,rfl⟩
theorem lx_weights {l:Ly}{m:Nat}(h1:(l.bs.length:Int)=l.out)(h2:1≤l.ws.length)(h3:l.ws.length≤16384)(h4:l.ws.length % m=0)(h5:1≤m):LV Tryz.prog 161 [.agg l.A,vl (.int .i64 (m:Nat))] (vl (.bool true)):=by
 refine LX_run (m:=0) (n0:=0) mix Tryz.func161 rfl rfl rfl rfl ?_;conv=>whnf
 refine bT (by simp[h1]) ?_;conv=>whnf
 refine bT (decide_eq_true (by rw[List.length_map];omega)) ?_;conv=>whnf
 refine bT (decide_eq_true (by rw[List.length_map];omega)) ?_;conv=>whnf
 refine .mk 0 ⟨by omega,rfl⟩ (by rw[List.length_map,Int.tmod_eq_emod_of_nonneg (by omega),←Int.natCast_emod,h4];rfl) ?_;conv=>whnf
 exact .q ⟨rfl,rfl⟩
abbrev F1:A:= .elt [D.lit (.func (.func 154) #[] #[])] 0
abbrev F2:A:= .elt [D.lit (.func (.func 155) #[] #[])] 0
def LayV (i:Nat):Lay→Prop
 | .dense ws bs=>(1≤bs.length∧bs.length≤16384)∧(1≤ws.length∧ws.length≤16384)∧ws.length % bs.length=0
 | .conv kh kw st pad ws bs=>(1≤bs.length∧bs.length≤16384)∧(1≤ws.length∧ws.length≤16384)∧ws.length % (bs.length*kh*kw)=0∧(1≤kh∧kh≤64)∧(1≤kw∧kw≤64)∧(1≤st∧st≤64)∧pad<kh∧pad<kw
 | .mx kh kw st=>(1≤kh∧kh≤64)∧(1≤kw∧kw≤64)∧(1≤st∧st≤64)
 | .av kh kw st=>(1≤kh∧kh≤64)∧(1≤kw∧kw≤64)∧(1≤st∧st≤64)
 | .relu=>True
 | .flat=>True
 | .add fr=> -1≤fr∧fr<i
theorem lx_cond5 {ws bs:List Rat}{i:Nat}(h:LayV i (.dense ws bs)):LV Tryz.prog 160 [.agg (Lay.ly (.dense ws bs)).A,vl (.int .i64 (i:Nat)),.a F1,.a F2] (vl (.bool true)):=by
 obtain⟨h1,h2,h3⟩:=h;refine LX_run (m:=0) (n0:=0) mix Tryz.func160 rfl rfl rfl rfl ?_;conv=>whnf
 refine .c (lx_mout (l:=Lay.ly (.dense ws bs)) (by simp only[Lay.ly];omega)) ?_;conv=>whnf
 refine .c (lx_weights (l:=Lay.ly (.dense ws bs)) (m:=bs.length) rfl h2.1 h2.2 h3 h1.1) ?_;conv=>whnf
 refine .c (lx_monly (l:=Lay.ly (.dense ws bs)) (by simp only[Lay.ly];omega) (by simp only[Lay.ly];omega)) ?_;conv=>whnf
 exact .q ⟨rfl,rfl⟩
theorem lx_cond6 {kh kw st pad:Nat}{ws bs:List Rat}{i:Nat}(h:LayV i (.conv kh kw st pad ws bs)):LV Tryz.prog 162 [.agg (Lay.ly (.conv kh kw st pad ws bs)).A,vl (.int .i64 (i:Nat)),.a F1,.a F2] (vl (.bool true)):=by
 obtain⟨h1,h2,h3,h4,h5,h6,h7,h8⟩:=h;have m1:bs.length*kh≤16384*64:=Nat.mul_le_mul h1.2 h4.2;have m2:bs.length*kh*kw≤16384*64*64:=Nat.mul_le_mul m1 h5.2;have e1:IntKind.i64.wrap ((bs.length:Int)*(kh:Int))=((bs.length*kh:Nat):Int):=by rw[←Int.natCast_mul,wrN (by omega)]
 have e2:IntKind.i64.wrap (((bs.length*kh:Nat):Int)*(kw:Int))=((bs.length*kh*kw:Nat):Int):=by rw[←Int.natCast_mul,wrN (by omega)]
 refine LX_run (m:=0) (n0:=0) mix Tryz.func162 rfl rfl rfl rfl ?_;conv=>whnf
 refine .c (lx_mout (l:=Lay.ly (.conv kh kw st pad ws bs)) (by simp only[Lay.ly];omega)) ?_;conv=>whnf
 refine .c (lx_kernel (l:=Lay.ly (.conv kh kw st pad ws bs)) (by simp only[Lay.ly];omega) (by simp only[Lay.ly];omega) (by simp only[Lay.ly];omega)) ?_;conv=>whnf
 refine bT (decide_eq_true (show(pad:Int)<(kh:Int) by omega)) ?_;conv=>whnf
 refine bT (decide_eq_true (show(pad:Int)<(kw:Int) by omega)) ?_;conv=>whnf
 have e3:IntKind.i64.wrap (IntKind.i64.wrap ((Lay.ly (.conv kh kw st pad ws bs)).out*(Lay.ly (.conv kh kw st pad ws bs)).kh)*(Lay.ly (.conv kh kw st pad ws bs)).kw)=((bs.length*kh*kw:Nat):Int):=by
  show IntKind.i64.wrap (IntKind.i64.wrap ((bs.length:Int)*(kh:Int))*(kw:Int))=_;rw[e1,e2]
 rw[e3];refine .c (lx_weights (l:=Lay.ly (.conv kh kw st pad ws bs)) (m:=bs.length*kh*kw) rfl h2.1 h2.2 h3 (Nat.mul_pos (Nat.mul_pos h1.1 h4.1) h5.1)) ?_;conv=>whnf
 refine .c (lx_monly (l:=Lay.ly (.conv kh kw st pad ws bs)) (by simp only[Lay.ly];omega) (by simp only[Lay.ly];omega)) ?_;conv=>whnf
 exact .q ⟨rfl,rfl⟩
theorem lx_cond3 {l:Ly}{i:Nat}(hk:l=⟨l.kind,0,0,l.kh,l.kw,l.st,0,[],[]⟩)(h1:1≤l.kh∧l.kh≤64)(h2:1≤l.kw∧l.kw≤64)(h3:1≤l.st∧l.st≤64):LV Tryz.prog 157 [.agg l.A,vl (.int .i64 (i:Nat)),.a F2] (vl (.bool true)):=by
 rw[hk];refine LX_run (m:=0) (n0:=0) mix Tryz.func157 rfl rfl rfl rfl ?_;conv=>whnf
 refine .c (lx_kernel (l:=⟨l.kind,0,0,l.kh,l.kw,l.st,0,[],[]⟩) h1 h2 h3) ?_;conv=>whnf
 refine .c (lx_monly (l:=⟨l.kind,0,0,l.kh,l.kw,l.st,0,[],[]⟩) (by simp) (by simp)) ?_;conv=>whnf
 exact .q ⟨rfl,rfl⟩
theorem lx_cond4 {k:Int}{i:Nat}:LV Tryz.prog 159 [.agg (Ly.A ⟨k,0,0,0,0,0,0,[],[]⟩),vl (.int .i64 (i:Nat)),.a F2] (vl (.bool true)):=by
 refine LX_run (m:=0) (n0:=0) mix Tryz.func159 rfl rfl rfl rfl ?_;conv=>whnf
 refine .c (lx_monly (l:=⟨k,0,0,0,0,0,0,[],[]⟩) (by simp) (by simp)) ?_;conv=>whnf
 exact .q ⟨rfl,rfl⟩
theorem lx_cond7 {fr:Int}{i:Nat}(h:LayV i (.add fr)):LV Tryz.prog 163 [.agg (Lay.ly (.add fr)).A,vl (.int .i64 (i:Nat)),.a F2] (vl (.bool true)):=by
 refine LX_run (m:=0) (n0:=0) mix Tryz.func163 rfl rfl rfl rfl ?_;conv=>whnf
 refine bT (decide_eq_true h.1) ?_;conv=>whnf
 refine bT (decide_eq_true h.2) ?_;conv=>whnf
 refine .c (lx_monly (l:=Lay.ly (.add fr)) (by simp[Lay.ly]) (by simp[Lay.ly])) ?_;conv=>whnf
 exact .q ⟨rfl,rfl⟩
end Go.Proofs.YtbegidaaiajffaaGreatDoor.Lf
namespace Go.Proofs.YtbegidaaiajffaaGreatDoor
open Go.RowKit Nt
theorem run_ins {P:Program}(W:World)(es:Array MapEntry)(c:Nat)(t kt et r:Nat)(k:Int)(val:Value)(hr:r=W.heap.size)(hm:P.underlying t=some (.map kt et))(hk:P.underlying kt=some (.int .i64))(hf:Instr.findNow (.int .i64) (.int .i64 k) es.toList 0=some none):
  (Instr.mapUpdate t (.map (some r)) (.int .i64 k) val).run P (W.alloc (.map es c))= .ok () (W.alloc (.map (es.push {key:= .int .i64 k,val:=val,born:=c}) (c+1))):=by
 subst hr;have hb:(W.alloc (.map es c)).heap[W.heap.size]? =some (.map es c):=(MapKept.heap_alloc W _).1;have hc:(Instr.checkKey false 10000 kt (.int .i64 k)).run P (W.alloc (.map es c))= .ok () (W.alloc (.map es c)):=MapKept.run_checkKey (k:= .int .i64 k) hk (by simp[MapKept.IsKey]) false 9999;simp[Instr.mapUpdate,run_underlying hm,MapKept.run_getObj_map hb,hc,MapKept.run_findKey hk hf,MapKept.run_setObj_map _ hb,Result.andThen];have e:∀o:Obj,W.alloc o={W with heap:=W.heap.push o}:=fun _=>rfl;rw[e,e]
 congr 1
 show(W.heap.push _).setIfInBounds _ _=W.heap.push _;apply Array.ext';simp
theorem run_ins' (W:World)(es:Array MapEntry)(c:Nat)(r:Nat)(k:Int)(val:Value)(hr:r=W.heap.size)(hf:Instr.findNow (.int .i64) (.int .i64 k) es.toList 0=some none):
  (Instr.mapUpdate 154 (.map (some r)) (.int .i64 k) val).run Tryz.prog (W.alloc (.map es c))= .ok () (W.alloc (.map (es.push {key:= .int .i64 k,val:=val,born:=c}) (c+1))):=
 run_ins W es c _ _ _ r k val hr Tryz.underlying154 Tryz.underlying3 hf
section
attribute [local go_sem] run_makeMap_plain
def condEs (b1 b2:Addr):Array MapEntry:= #[⟨.int .i64 1,.func (.func 160) #[] #[.pointer (some b1),.pointer (some b2)],0⟩,⟨.int .i64 2,.func (.func 162) #[] #[.pointer (some b1),.pointer (some b2)],1⟩,⟨.int .i64 3,.func (.func 157) #[] #[.pointer (some b2)],2⟩,⟨.int .i64 4,.func (.func 157) #[] #[.pointer (some b2)],3⟩,⟨.int .i64 5,.func (.func 159) #[] #[.pointer (some b2)],4⟩,⟨.int .i64 6,.func (.func 159) #[] #[.pointer (some b2)],5⟩,⟨.int .i64 7,.func (.func 163) #[] #[.pointer (some b2)],6⟩]
theorem cond_any (w:World):Calls Tryz.prog 110 #[] w fun e w'=>e= .returned (.map (some (w.heap.size+2)))∧w'=((w.alloc (.cells #[.func (.func 154) #[] #[]] 204)).alloc (.cells #[.func (.func 155) #[] #[]] 205)).alloc (.map (condEs ⟨w.heap.size,0,none⟩ ⟨w.heap.size+1,0,none⟩) 7):=by
 go_enter Tryz.func110,Tryz.ntmps110
 go_wp2
 (rw[run_ins' _ _ _ _ _ _ (by simp) (by simp[Instr.findNow,Instr.sameNow])];go_wp2)
 (rw[run_ins' _ _ _ _ _ _ (by simp) (by simp[Instr.findNow,Instr.sameNow])];go_wp2)
 (rw[run_ins' _ _ _ _ _ _ (by simp) (by simp[Instr.findNow,Instr.sameNow])];go_wp2)
 (rw[run_ins' _ _ _ _ _ _ (by simp) (by simp[Instr.findNow,Instr.sameNow])];go_wp2)
 (rw[run_ins' _ _ _ _ _ _ (by simp) (by simp[Instr.findNow,Instr.sameNow])];go_wp2)
 (rw[run_ins' _ _ _ _ _ _ (by simp) (by simp[Instr.findNow,Instr.sameNow])];go_wp2)
 (rw[run_ins' _ _ _ _ _ _ (by simp) (by simp[Instr.findNow,Instr.sameNow])];go_wp2)
 exact bodyPost_ret (results_tmp rfl _ _ _) rfl ⟨rfl,rfl⟩
end
theorem cond_look (w:World){es:Array MapEntry}{c b:Nat}{k:Int}{i:Nat}{v:Value}(hb:w.heap[b]? =some (.map es c))(hf:Instr.findNow (.int .i64) (.int .i64 k) es.toList 0=some (some (i,v))):
  (Instr.lookup 154 (.map (some b)) (.int .i64 k) true).run Tryz.prog w= .ok (.tuple #[v,.bool true]) w:=by
 have hm:=Tryz.underlying154;have hk:=Tryz.underlying3;have hc:=MapKept.run_checkKey (w:=w) (k:= .int .i64 k) hk (by simp[MapKept.IsKey]) es.isEmpty 9999;simp[Instr.lookup,run_underlying hm,MapKept.run_getObj_map hb,hc,MapKept.run_findKey hk hf,Result.andThen]
end Go.Proofs.YtbegidaaiajffaaGreatDoor
namespace Go.Proofs.YtbegidaaiajffaaGreatDoor.Lf
open Go.RowKit Nt Go.Proofs.YtbegidaaiajffaaGreatDoor
abbrev fF1:Value:= .func (.func 154) #[] #[]
abbrev fF2:Value:= .func (.func 155) #[] #[]
def condM:MPred:=⟨fun M w o=>∃b1 b2,o= .map (condEs ⟨b1,0,none⟩ ⟨b2,0,none⟩) 7∧Fx M w b1 0 fF1∧Fx M w b2 0 fF2,fun M M' w w' o h ⟨b1,b2,e,h1,h2⟩=>⟨b1,b2,e,h _ _ _ h1,h _ _ _ h2⟩⟩
theorem lx_conditions:LX Tryz.prog 110 [] [] fun v H=>v= .a (.mp 0)∧H=[(0,.mp condM)]:=by
 refine⟨_,_,⟨rfl,rfl⟩,fun γ M w rs hr ha=> ?_⟩
 match rs,ha with
 |[],_=>
 refine cM (cond_any w) ?_;rintro e w' ⟨rfl,rfl⟩;obtain⟨W,hW⟩:∃W,W=((w.alloc (.cells #[fF1] 204)).alloc (.cells #[fF2] 205)).alloc (.map (condEs ⟨w.heap.size,0,none⟩ ⟨w.heap.size+1,0,none⟩) 7):=⟨_,rfl⟩;have hsz:W.heap.size=w.heap.size+3:=by rw[hW];simp
 have hold:∀b,b<w.heap.size→W.heap[b]? =w.heap[b]?:=fun b hb=>by
  rw[hW,Below.heap_alloc _ _ _ (by simp;omega),Below.heap_alloc _ _ _ (by simp;omega),Below.heap_alloc _ _ _ hb]
 have h2:W.heap[w.heap.size+2]? =some (.map (condEs ⟨w.heap.size,0,none⟩ ⟨w.heap.size+1,0,none⟩) 7):=by
  have e:w.heap.size+2=((w.alloc (.cells #[fF1] 204)).alloc (.cells #[fF2] 205)).heap.size:=by simp
  rw[hW,e];exact(MapKept.heap_alloc ((w.alloc (.cells #[fF1] 204)).alloc (.cells #[fF2] 205)) _).1
 have h1:W.heap[w.heap.size+1]? =some (.cells #[fF2] 205):=by
  have e:w.heap.size+1=(w.alloc (.cells #[fF1] 204)).heap.size:=by simp
  rw[hW,Below.heap_alloc _ _ _ (by simp),e];exact(MapKept.heap_alloc (w.alloc (.cells #[fF1] 204)) _).1
 have h0:W.heap[w.heap.size]? =some (.cells #[fF1] 204):=by
  rw[hW,Below.heap_alloc _ _ _ (by simp;omega),Below.heap_alloc _ _ _ (by simp)];exact(MapKept.heap_alloc w _).1
 have os:W.os=w.os∧W.tape=w.tape∧W.output=w.output:=by rw[hW];exact⟨rfl,rfl,rfl⟩
 rw[←hW];clear hW;have hl:∀key e,look [(0,Ent.mp condM)] key=some e→key=0∧e= .mp condM:=by
  intro key e he;unfold look at he;split at he
  ·injection he with he;exact⟨by omega,he.symm⟩
  ·cases he
 have hO:∀key b i,Owns (fun _=>Value.map (some (w.heap.size+2))) (look [(0,Ent.mp condM)]) key b i→b=w.heap.size+2:=by
  intro key b i ho;obtain⟨_,k2⟩:=owns_live ho;simp[blk]at k2;omega
 have s:Stp γ (look []) M w (fun _=> .map (some (w.heap.size+2))) (look [(0,Ent.mp condM)]) (fun b i=>M b i∨b=w.heap.size+2) W:=by
  refine⟨os.1,os.2.1,os.2.2,by omega,fun b i u k=> ?_,fun b hb _=>hold b hb,fun b i k _=> .inl k,fun key b i ho hb=> ?_,fun key e' he=> ?_⟩
  ·have hlt:b<w.heap.size:=World.block_lt_of_cell? _ _ k.2;exact⟨fun k2=>k2.elim k.1 fun k3=>by omega,by rw[←k.2];exact World.cell?_of_block (a:=⟨b,i,none⟩) (hold b hlt)⟩
  ·have:=hO key b i ho;omega
  ·cases he
 have fx0:Fx (fun b i=>M b i∨b=w.heap.size+2) W w.heap.size 0 fF1:=by
  refine⟨fun k=>k.elim (fun k=> ?_) (fun k=>by omega),?_⟩
  ·have:=hr.dom _ _ k;omega
  ·simp[World.cell?,h0]
 have fx1:Fx (fun b i=>M b i∨b=w.heap.size+2) W (w.heap.size+1) 0 fF2:=by
  refine⟨fun k=>k.elim (fun k=> ?_) (fun k=>by omega),?_⟩
  ·have:=hr.dom _ _ k;omega
  ·simp[World.cell?,h1]
 refine⟨_,_,_,rfl,⟨fun key e he=> ?_,fun key b i ho=> .inr (hO key b i ho),fun key key' b l1 l2 _ _=> ?_,fun b i z k=> ?_,fun b i k=> ?_,hr.glb.fx s.fx⟩,⟨rfl,_,rfl,rfl⟩,s⟩
 ·obtain⟨rfl,rfl⟩:=hl key e he;exact⟨_,_,rfl,h2,⟨_,_,rfl,fx0,fx1⟩,_,_,rfl⟩
 ·cases he:look [(0,Ent.mp condM)] key with
  |none=>rw[he]at l1;cases l1
  |some e=>
   cases he':look [(0,Ent.mp condM)] key' with
   |none=>rw[he']at l2;cases l2
   |some e'=>rw[(hl _ _ he).1,(hl _ _ he').1]
 ·rcases k with k|rfl
  ·rw[World.cell?_of_block (w:=w) (a:=⟨b,i,none⟩) (hold b (hr.dom b i k))];exact hr.u32 b i z k
  ·intro h5;simp only[World.cell?]at h5;rw[h2]at h5;cases h5
 ·rcases k with k|rfl
  ·have:=hr.dom b i k;omega
  ·omega
abbrev E1:BA:= .e [D.lit fF1] 0
abbrev E2:BA:= .e [D.lit fF2] 0
theorem rd_E {γ:Gh}{h:Hp}{M:MS}{w:World}{b:Nat}{f:Value}(hf:Fx M w b 0 f):RdB γ h M w (.e [D.lit f] 0) (.pointer (some ⟨b,0,none⟩)):=by
 refine⟨b,0,fun _=>f,rfl,fun j d hj=> ?_⟩
 match j,hj with
 |0,hj=>injection hj with hj;subst hj;exact⟨hf,.lit _⟩
 |j+1,hj=>cases hj
theorem any_two {F:FuncId}{k:Int}{i:Nat}(hf:∀b1 b2:Addr,Instr.findNow (.int .i64) (.int .i64 k) (condEs b1 b2).toList 0=some (some (i,.func (.func F) #[] #[.pointer (some b1),.pointer (some b2)]))):
  LkAny Tryz.prog 154 condM (.int .i64 k) (.fn (.func F) [] [E1,E2]):=by
 rintro γ h M w b o hb ⟨b1,b2,rfl,f1,f2⟩;exact⟨_,cond_look w hb (hf _ _),⟨[],[_,_],rfl,trivial,rd_E f1,rd_E f2,trivial⟩⟩
theorem any_one {F:FuncId}{k:Int}{i:Nat}(hf:∀b1 b2:Addr,Instr.findNow (.int .i64) (.int .i64 k) (condEs b1 b2).toList 0=some (some (i,.func (.func F) #[] #[.pointer (some b2)]))):
  LkAny Tryz.prog 154 condM (.int .i64 k) (.fn (.func F) [] [E2]):=by
 rintro γ h M w b o hb ⟨b1,b2,rfl,f1,f2⟩;exact⟨_,cond_look w hb (hf _ _),⟨[],[_],rfl,trivial,rd_E f2,trivial⟩⟩
theorem any1:LkAny Tryz.prog 154 condM (.int .i64 1) (.fn (.func 160) [] [E1,E2]):=any_two (i:=0) fun _ _=>rfl
theorem any2:LkAny Tryz.prog 154 condM (.int .i64 2) (.fn (.func 162) [] [E1,E2]):=any_two (i:=1) fun _ _=>rfl
theorem any3:LkAny Tryz.prog 154 condM (.int .i64 3) (.fn (.func 157) [] [E2]):=any_one (i:=2) fun _ _=>rfl
theorem any4:LkAny Tryz.prog 154 condM (.int .i64 4) (.fn (.func 157) [] [E2]):=any_one (i:=3) fun _ _=>rfl
theorem any5:LkAny Tryz.prog 154 condM (.int .i64 5) (.fn (.func 159) [] [E2]):=any_one (i:=4) fun _ _=>rfl
theorem any6:LkAny Tryz.prog 154 condM (.int .i64 6) (.fn (.func 159) [] [E2]):=any_one (i:=5) fun _ _=>rfl
theorem any7:LkAny Tryz.prog 154 condM (.int .i64 7) (.fn (.func 163) [] [E2]):=any_one (i:=6) fun _ _=>rfl
end Go.Proofs.YtbegidaaiajffaaGreatDoor.Lf
namespace Go.Proofs.YtbegidaaiajffaaGreatDoor.Lf
open Go.RowKit Nt
abbrev lyR (l:List Lay):List (List D):=l.map fun x=>(Lay.ly x).D
abbrev lysD (l:List Lay):D:= .sl 9 (lyR l)
abbrev Mo.A (m:Mo):List A:=[.d (shD m.inp),.d (lysD m.ls)]
structure MoV (m:Mo):Prop where
 inp:ShG m.inp
 n:m.ls.length≤64
 lay:∀i l,m.ls[i]? =some l→LayV i l
 par:∀l∈m.ls,∀q∈parS l,Sz q
theorem at_ly {l:List Lay}{i:Nat}{x:Lay}(h:l[i]? =some x):(lyR l)[i]? =some (Lay.ly x).D:=at_map (f:=fun x=>(Lay.ly x).D) h
theorem lay_call {i:Nat}{x:Lay}(h:LayV i x):∃F,entT Tryz.prog F=true∧
  ((LkAny Tryz.prog 154 condM (.int .i64 (Lay.ly x).kind) (.fn (.func F) [] [E1,E2])∧LV Tryz.prog F [.agg (Lay.ly x).A,vl (.int .i64 (i:Nat)),.a F1,.a F2] (vl (.bool true)))∨
  (LkAny Tryz.prog 154 condM (.int .i64 (Lay.ly x).kind) (.fn (.func F) [] [E2])∧LV Tryz.prog F [.agg (Lay.ly x).A,vl (.int .i64 (i:Nat)),.a F2] (vl (.bool true)))):=by
 rcases x with⟨ws,bs⟩|⟨kh,kw,st,pad,ws,bs⟩|⟨kh,kw,st⟩|⟨kh,kw,st⟩|_|_|fr
 ·exact⟨_,rfl,.inl ⟨any1,lx_cond5 h⟩⟩
 ·exact⟨_,rfl,.inl ⟨any2,lx_cond6 h⟩⟩
 ·have h1:=h.1;have h2:=h.2.1;have h3:=h.2.2;exact⟨_,rfl,.inr ⟨any3,lx_cond3 (l:=Lay.ly (.mx kh kw st)) rfl (by simp only[Lay.ly];omega) (by simp only[Lay.ly];omega) (by simp only[Lay.ly];omega)⟩⟩
 ·have h1:=h.1;have h2:=h.2.1;have h3:=h.2.2;exact⟨_,rfl,.inr ⟨any4,lx_cond3 (l:=Lay.ly (.av kh kw st)) rfl (by simp only[Lay.ly];omega) (by simp only[Lay.ly];omega) (by simp only[Lay.ly];omega)⟩⟩
 ·exact⟨_,rfl,.inr ⟨any5,lx_cond4⟩⟩
 ·exact⟨_,rfl,.inr ⟨any6,lx_cond4⟩⟩
 ·exact⟨_,rfl,.inr ⟨any7,lx_cond7 h⟩⟩
theorem lay_len {i:Nat}{x:Lay}(h:LayV i x):∀y∈[(Lay.ly x).ws,(Lay.ly x).bs],y.length≤16384:=by
 intro y hy;simp only[List.mem_cons,List.not_mem_nil,or_false]at hy
 cases x with
 |dense ws bs=>
  obtain⟨h1,h2,_⟩:=h;simp only[Lay.ly]at hy;rcases hy with rfl|rfl<;>omega
 |conv kh kw st pad ws bs=>
  obtain⟨h1,h2,_⟩:=h;simp only[Lay.ly]at hy;rcases hy with rfl|rfl<;>omega
 |_=>simp only[Lay.ly]at hy;rcases hy with rfl|rfl<;>simp
theorem lx_mvalid {m:Mo}(h:MoV m):LV Tryz.prog 57 [.agg m.A] (vl (.bool true)):=by
 have h2:=h.n;refine LX_run (m:=0) (n0:=0) mix Tryz.func57 rfl rfl rfl rfl ?_;conv=>whnf
 refine .c (lx_tvalid h.inp) ?_;conv=>whnf
 refine bF (decide_eq_false (by simp;omega)) ?_;conv=>whnf
 refine .l [] (lx_conditions) ?_;conv=>whnf
 refine .mk Nat (fun i=>⟨[(26,vl (.int .i64 (i:Nat))),(25,vl (.int .i64 (lyR m.ls).length)),(24,.a (.d (lysD m.ls))),(3,.a (.mp 1)),(2,vl (.bool false))],[(0,.box 25 m.A),(1,.mp condM)],2⟩) (fun i=>i≤m.ls.length) (fun i=>m.ls.length-i) 0 Wk.go (zL_ _) fun i hi=> ?_;conv=>whnf
 refine bs (fun g0=> ?_) (fun g0=> ?_)
 ·conv=>whnf
  have hi':i<m.ls.length:=by simpa using g0
  obtain⟨x,hx⟩:=at_some hi';have hlv:=h.lay i x hx;have hpar:=h.par x (mG_ hx);refine .mk (i) ((Lay.ly x).D) (rfl) (at_ly hx) ?_;conv=>whnf
  have hws:∀y∈[(Lay.ly x).ws,(Lay.ly x).bs],∀q∈y,Sz q:=by
   intro y hy q hq;simp only[List.mem_cons,List.not_mem_nil,or_false]at hy
   cases x<;>simp only[Lay.ly,parS]at hy hpar<;>rcases hy with rfl|rfl<;>first|exact absurd hq List.not_mem_nil|exact hpar q (List.mem_append_left _ hq)|exact hpar q (List.mem_append_right _ hq)
  obtain⟨F,hF,⟨c1,c2⟩|⟨c1,c2⟩⟩:=lay_call hlv
  all_goals
   refine .any _ c1 ?_;conv=>whnf
   refine Cn.c c2 ?_ hF;conv=>whnf
   refine .mk Nat (fun j=>⟨[(53,vl (.int .i64 (j:Nat))),(52,vl (.int .i64 2)),(51,.a (.own 3 1 (trR [(Lay.ly x).ws,(Lay.ly x).bs]))),(26,vl (.int .i64 (i:Nat))),(25,vl (.int .i64 (lyR m.ls).length)),(24,.a (.d (lysD m.ls))),(3,.a (.mp 1)),(2,vl (.bool false))],[(0,.box 25 m.A),(1,.mp condM),(3,.arr 29 1 2)],4⟩) (fun j=>j≤2) (fun j=>2-j) 0 Wk.go (zL_ _) fun j hj=> ?_;conv=>whnf
   refine bs (fun g1=> ?_) (fun g1=> ?_)
   ·conv=>whnf
    have hj':j<2:=by have:=of_decide_eq_true g1;omega
    obtain⟨y,hy⟩:=at_some (l:=[_,_]) (i:=j) hj';have hyz:=hws y (mG_ hy);have hyl:=lay_len hlv y (mG_ hy);refine .mk (j) ([rqsD y]) (rfl) (at_map hy) ?_;conv=>whnf
    refine .mk Nat (fun k=>⟨[(59,vl (.int .i64 (k:Nat))),(58,vl (.int .i64 (rqR y).length)),(57,.a (.d (rqsD y))),(53,vl (.int .i64 (j:Nat))),(52,vl (.int .i64 2)),(51,.a (.own 3 1 (trR [(Lay.ly x).ws,(Lay.ly x).bs]))),(26,vl (.int .i64 (i:Nat))),(25,vl (.int .i64 (lyR m.ls).length)),(24,.a (.d (lysD m.ls))),(3,.a (.mp 1)),(2,vl (.bool false))],[(0,.box 25 m.A),(1,.mp condM),(3,.arr 29 1 2)],4⟩) (fun k=>k≤y.length) (fun k=>y.length-k) 0 Wk.go (zL_ _) fun k hk=> ?_;conv=>whnf
    refine bs (fun g2=> ?_) (fun g2=> ?_)
    ·conv=>whnf
     have hk':k<y.length:=by simpa using g2
     obtain⟨q,hq⟩:=at_some hk';refine .mk (k) ((can q).D) (rfl) (at_rq hq) ?_;conv=>whnf
     conv=>whnf
     refine .c (lx_okc (hyz q (mG_ hq))) ?_;conv=>whnf
     exact⟨k+1,Wk.go,hk',by omega⟩
    ·conv=>whnf
     exact⟨j+1,Wk.go,by omega,by omega⟩
   ·conv=>whnf
    exact⟨i+1,Wk.go,hi',by omega⟩
 ·conv=>whnf
  exact .q ⟨rfl,rfl⟩
end Go.Proofs.YtbegidaaiajffaaGreatDoor.Lf
