/- Texts LsL LsM LsN LtA LtB LtC LtD LtE LtF LtG LtH LtI LtJ LtK LtL LtM LtO LtN LtP LtQ LtR LtS LtT of this proof, in this order. -/
import Derived.Test.YtbegidaaiajffaaGreatDoorU07
import Derived.Shelf.Strings.Builder1
import Derived.Shelf.Strings.Builder2
import Derived.Shelf.Strings.OnBuilder
import Derived.Shelf.Small.Bits
import Derived.Shelf.Strings.BuilderF
import Derived.Shelf.Strconv.Itoa0
import Derived.Shelf.Strconv.Itoa1
import Derived.Shelf.LaysM
import Derived.Shelf.Strconv.Itoa2
import Derived.Shelf.Strconv.Itoa3
import Derived.Shelf.Strings.Prefix
import Derived.Shelf.Bits.Mul64
import Derived.Shelf.Strings.Repeat
import Derived.Ground.Names2Prog
import Derived.Shelf.Slices.ReverseS
import Derived.Shelf.Slices.Cells
import Derived.Lib.AppendIntMem
import Derived.Lib.Walk
import Derived.WalkKit
import Derived.BigCall
import Derived.BigGuard
import Derived.Deep.RegionHeld3
import Derived.Maps.Views
import Derived.StringKeys
import Derived.RangeFuncNested
import Derived.RangeFuncBound
import Derived.RangeFuncCalls
import Derived.RangeFuncBox
import Derived.RangeFuncLeaves
import Derived.RangeFuncWrites
import Derived.Shelf.Abstract
import Derived.OwnWalkIn
import Derived.TacticsInMore
import Derived.LoopNIn
import Derived.LoopIn
import Derived.Laws.MakeOwn
import Derived.Test.YtbegidaaiajffaaGreatDoorU05
import Derived.Test.YtbegidaaiajffaaGreatDoorRows
import Derived.Lib.LaidTab
import Derived.Lib.SmallJoins
import Derived.OpenShut
import Derived.ShutString
import Derived.ChangeOld
import Derived.ProofKit
import Derived.LaidMore
import Derived.Deep.Slices
set_option linter.unusedVariables false
set_option linter.unusedSimpArgs false
set_option maxRecDepth 100000
set_option maxHeartbeats 4000000
namespace Go.Proofs.YtbegidaaiajffaaGreatDoor.Lf
open Go.RowKit Nt
theorem choose_list {α β:Type}:∀{ls:List α} {R:Nat→α→β→Prop},(∀i x,ls[i]? =some x→∃y,R i x y)→∃l:List β,l.length=ls.length∧∀i x,ls[i]? =some x→∃y,l[i]? =some y∧R i x y
 |[],_,_=>⟨[],rfl,fun i x h=>by simp at h⟩
 |x::ls,R,h=>by
  obtain⟨y,hy⟩:=h 0 x rfl;obtain⟨l,h1,h2⟩:=choose_list (ls:=ls) (R:=fun i=>R (i+1)) fun i z hz=>h (i+1) z (by simpa using hz);refine⟨y::l,by simp[h1],fun i z hz=> ?_⟩
  cases i with
  |zero=>simp at hz;subst hz;exact⟨y,rfl,hy⟩
  |succ i=>simpa using h2 i z (by simpa using hz)
def One (q:Rat):Prop:=q.num.natAbs≤4294967296∧q.den≤4294967296
theorem one_of {x:Rw}{q:Rat}(h:(can q).D=x.D)(h1:x.n.length≤1)(h2:x.d.length≤1):One q:=by
 simp only[Rw.D,List.cons.injEq,D.lm.injEq,and_true]at h;obtain⟨_,e1,e2⟩:=h;have k1:=lt_pow_sz q.num.natAbs;have k2:=lt_pow_sz (dn q);have l1:sz q.num.natAbs≤1:=by unfold sz;rw[e1];exact h1
 have l2:sz (dn q)≤1:=by unfold sz;rw[e2];exact h2
 have m1:=Nat.lt_of_lt_of_le k1 (Nat.pow_le_pow_right (by decide) l1);have m2:=Nat.lt_of_lt_of_le k2 (Nat.pow_le_pow_right (by decide) l2);refine⟨by omega,?_⟩;unfold dn at m2;split at m2<;>omega
theorem ones_of {xs:List Rw}{qs:List Rat}(h:xs.map Rw.D=rqR qs)(hs:Sml xs):xs.length=qs.length∧∀q∈qs,One q:=by
 have hl:xs.length=qs.length:=by have:=congrArg List.length h;simpa [rqR]using this
 refine⟨hl,fun q hq=> ?_⟩;obtain⟨i,hi⟩:=List.getElem?_of_mem hq;obtain⟨x,hx⟩:=at_some (l:=xs) (i:=i) (by rw[hl];exact at_lt hi);have e:=congrArg (fun l=>l[i]?) h;simp only[rqR,List.getElem?_map,hx,hi,Option.map_some,Option.some.injEq]at e;exact one_of e.symm (hs x (mG_ hx)).1 (hs x (mG_ hx)).2
structure LyB (l:Lay):Prop where
 ws:(Lay.ly l).ws.length≤80
 bs:(Lay.ly l).bs.length≤24
 kh:(Lay.ly l).kh≤6
 kw:(Lay.ly l).kw≤6
 st:(Lay.ly l).st≤6
 one:∀q∈parS l,One q
theorem lyb_of {x:RL}{lay:Lay}(hx:x.D=(Lay.ly lay).D)(h:RLb x):LyB lay:=by
 simp only[RL.D,Ly.D,List.cons.injEq,D.lit.injEq,Value.int.injEq,D.sl.injEq,true_and,and_true]at hx;obtain⟨e1,e2,e3,e4,e5,e6,e7,e8,e9⟩:=hx;obtain⟨k1,k2⟩:=ones_of (xs:=x.ws) (qs:=(Lay.ly lay).ws) e8 h.sw;obtain⟨k3,k4⟩:=ones_of (xs:=x.bs) (qs:=(Lay.ly lay).bs) e9 h.sb;refine⟨by rw[←k1];exact h.ws,by rw[←k3];exact h.bs,by rw[←e4];exact h.kh,by rw[←e5];exact h.kw,by rw[←e6];exact h.st,fun q hq=> ?_⟩
 cases lay<;>simp only[parS,List.not_mem_nil]at hq
 ·exact(List.mem_append.1 hq).elim (k2 q) (k4 q)
 ·exact(List.mem_append.1 hq).elim (k2 q) (k4 q)
structure MoG (m:Mo)(n:Nat):Prop where
 sh:∀i,i≤n→ShG (m.sh i)
 fit:∀i,i<n→FitG (m.lay i) i (m.shs (i+1)) (m.sh i)
def IsMo (inp:List Int)(ls:List RL)(m:Mo):Prop:=rmA inp ls=m.A∧m.ls.length=ls.length∧ShG m.inp∧∀i x,ls[i]? =some x→∃l,m.ls[i]? =some l∧x.D=(Lay.ly l).D∧LayV i l∧LyB l
theorem isMo_of {inp:List Int}{ls:List RL}(hi:ShI inp)(hm:IsM ls)(hb:∀x∈ls,RLb x):∃m,IsMo inp ls m:=by
 obtain⟨s,rfl,hs⟩:=hi
 obtain⟨l,h1,h2⟩:=choose_list (R:=fun i (x:RL) (lay:Lay)=>x.D=(Lay.ly lay).D∧LayV i lay∧LyB lay) fun i x hx=>by
  obtain⟨lay,a,b,c,d⟩:=hm i x hx;exact⟨lay,a,b,lyb_of a (hb x (mG_ hx))⟩
 refine⟨⟨s,l⟩,?_,h1,hs,h2⟩;have e:rlR ls=lyR l:=by
  refine List.ext_getElem? fun i=> ?_;rw[List.getElem?_map,List.getElem?_map]
  cases hx:ls[i]? with
  |none=>
   rw[List.getElem?_eq_none_iff]at hx;rw[List.getElem?_eq_none (by omega)];rfl
  |some x=>
   obtain⟨y,hy,e,_⟩:=h2 i x hx;rw[hy];simp only[Option.map_some,e]
 show [A.d (shD s),A.d (.sl 9 (rlR ls))]=_;rw[e]
def ZS (inp:List Int)(ls:List RL)(v:V):Prop:=∃(L:List (List Nat)) (z e:Int),v= .tup [.s (.d (ssD L)),.s (.d (.lit (.int .i64 z))),.s (.d (.lit (.int .i64 e)))]∧
 (e=0→∃m,IsMo inp ls m∧MoG m ls.length∧L=m.shT ls.length)
theorem zs_err {inp:List Int}{ls:List RL}{z e:Int}(he:e≠0){H:List (Nat×Ent)}:Rt 0 H (.tup [.s (.d (.lit (.slice none 0 0))),.s (.d (.lit (.int .i64 z))),.s (.d (.lit (.int .i64 e)))]) (fun v H=>ZS inp ls v∧H=[]):=
 ⟨_,_,⟨⟨[],z,e,rfl,fun h=>absurd h he⟩,rfl⟩,WkV.tup ⟨WkA.nil,aR_ _,aR_ _,trivial⟩,rfl,trivial,rfl⟩
theorem lx_zofmod {inp:List Int}{ls:List RL}(hi:inp.length≤1000)(hl:ls.length≤60)(hb:∀x∈ls,RLb x):∃v,ZS inp ls v∧LV Tryz.prog 21 [.agg (rmA inp ls)] v:=by
 suffices hh:LX Tryz.prog 21 [.agg (rmA inp ls)] [] fun v H=>ZS inp ls v∧H=[] by
  obtain⟨v,H',⟨h1,rfl⟩,hc⟩:=hh;exact⟨v,h1,_,_,⟨rfl,rfl⟩,hc⟩
 obtain⟨b,hbv,cv⟩:=lx_zmvalid hi (by omega) hb
 cases b with
 |false=>
  refine LX_run (m:=0) (n0:=0) mix Tryz.func21 rfl rfl rfl rfl ?_;conv=>whnf
  refine .c (cv) ?_;conv=>whnf
  exact zs_err (by decide)
 |true=>
 obtain⟨hi',hm⟩:=hbv rfl;obtain⟨m,hmo⟩:=isMo_of hi' hm hb;obtain⟨eA,eL,hs,hlay⟩:=hmo;rw[eA]at cv;rw[eA];refine LX_run (m:=0) (n0:=0) mix Tryz.func21 rfl rfl rfl rfl ?_;conv=>whnf
 refine .c (cv) ?_;conv=>whnf
 refine .mk Nat (fun i=>⟨[(6,vl (.int .i64 (i:Nat))),(5,.a (.own 1 1 (ssR (m.shT i)))),(1,.a (.ptr 0 0))],
  [(0,.box 25 m.A),(1,.arr 22 1 (ssR (m.shT i)).length)],2⟩) (fun i=>i≤ls.length∧MoG m i) (fun i=>ls.length-i) 0
  (Wk.trans (Wk.own 5 1 22 1 rfl rfl (zL_ _)) Wk.go) ⟨zL_ _,fun i hi=>by rw[show i=0 by omega];exact hs,fun i hi=>by omega⟩ fun i ⟨hi,hg⟩=> ?_
 conv=>whnf
 refine bs (fun g0=> ?_) (fun g0=> ?_)
 ·conv=>whnf
  have hi':i<ls.length:=by have:=of_decide_eq_true g0;rw[List.length_map]at this;omega
  obtain⟨x,hx⟩:=at_some hi';obtain⟨l,hml,hxd,hv,hB⟩:=hlay i x hx;have el:m.lay i=l:=getD_of hml;have hin:=shT_in m i;have hln:(m.shT i).length=i:=by simp
  have es:m.sh (i+1)=outS l (m.sh i):=by rw[←el];rfl
  have hss:∀s∈m.shT i,ShG s:=fun s hs'=>by
   obtain⟨j,hj,rfl⟩:=List.mem_map.1 hs';have:=List.mem_range.1 hj;exact hg.sh (j+1) (by omega)
  obtain⟨v,⟨ys,e,rfl,hr⟩,co⟩:=lx_zo13 (inp:=m.inp) (ss:=m.shT i) hxd (hb x (mG_ hx)) (by omega) hs hss (by rw[hln];exact hv);rw[hin,hln,shT_cons,←es]at hr;refine .mk (i) ((Lay.ly l).D) (rfl) (at_ly hml) ?_;conv=>whnf
  conv=>whnf
  refine .c (co) ?_;conv=>whnf
  refine .mk (by kernel_rfl) ?_;conv=>whnf
  refine bs (fun g1=> ?_) (fun g1=> ?_)
  ·conv=>whnf
   exact zs_err (by decide)
  ·have he:e=0:=by simpa using g1
   obtain⟨ey,hsg,hfg⟩:=hr he;rw[ey];conv=>whnf
   refine .mk (ssR (m.shT (i+1))) rfl (shT_snoc m i) (by simp;omega) ?_;conv=>whnf
   exact⟨i+1,Wk.go,⟨hi',fun j hj=>by
    rcases Nat.lt_or_ge i j with h1|h1
    ·rw[show j=i+1 by omega];exact hsg
    ·exact hg.sh j h1,fun j hj=>by
    rcases Nat.lt_or_ge j i with h1|h1
    ·exact hg.fit j h1
    ·rw[show j=i by omega,el];exact hfg⟩,by omega⟩
 ·conv=>whnf
  have e:i=ls.length:=by have:=of_decide_eq_false g0;rw[List.length_map]at this;omega
  rw[e]at hg;rw[e];exact⟨_,_,⟨⟨m.shT ls.length,0,0,rfl,fun _=>⟨m,⟨eA,eL,hs,hlay⟩,hg,rfl⟩⟩,rfl⟩,WkV.tup ⟨WkA.own,aR_ _,aR_ _,trivial⟩,rfl,trivial,rfl⟩
theorem kk36 {l:Lay}{kh kw st:Nat}(e:l= .mx kh kw st)(hv:∃i,LayV i l)(h:LyB l):1≤kh*kw∧kh*kw≤36:=by
 subst e;obtain⟨i,h1,h2,h3⟩:=hv;have h4:=h.kh;have h5:=h.kw;simp only[Lay.ly]at h4 h5;exact⟨Nat.mul_pos h1.1 h2.1,khw (by omega) (by omega)⟩
theorem unS_le {l:Lay}{s:List Nat}{i:Nat}(hs:szS s≤16384)(ho:szS (outS l s)≤16384)(hv:LayV i l)(h:LyB l):unS l s≤36*16384:=by
 cases l with
 |mx kh kw st=>exact Nat.mul_le_mul (tL_ (Nat.sub_le _ _) (kk36 rfl ⟨i,hv⟩ h).2) ho
 |relu=>simp only[unS];omega
 |_=>simp only[unS];omega
theorem lx_zcount {inp:List Int}{ls:List RL}{m:Mo}{z:Int}(hm:IsMo inp ls m)(hg:MoG m ls.length)(hl:ls.length≤60)
  (co:LV Tryz.prog 21 [.agg (rmA inp ls)] (.tup [.s (.d (ssD (m.shT ls.length))),.s (.d (.lit (.int .i64 z))),.s (.d (.lit (.int .i64 0)))])):
  LV Tryz.prog 23 [.agg (rmA inp ls)] (.tup [.s (.d (.lit (.int .i64 (m.un ls.length:Nat)))),.s (.d (.lit (.int .i64 0)))]):=by
 obtain⟨eA,eL,hs,hlay⟩:=hm;rw[eA]at co ⊢;refine LX_run (m:=0) (n0:=0) mix Tryz.func23 rfl rfl rfl rfl ?_;conv=>whnf
 refine .c (co) ?_;conv=>whnf
 refine .mk Nat (fun i=>⟨[(8,vl (.int .i64 (i:Nat))),(7,vl (.int .i64 (m.un i:Nat))),(4,.a (.d (ssD (m.shT ls.length)))),(1,.a (.ptr 0 0))],[(0,.box 25 m.A)],1⟩) (fun i=>i≤ls.length∧m.un i≤i*(36*16384)) (fun i=>ls.length-i) 0 Wk.go ⟨zL_ _,lR_ _⟩ fun i ⟨hi,hu⟩=> ?_;conv=>whnf
 refine bs (fun g0=> ?_) (fun g0=> ?_)
 ·conv=>whnf
  have hi':i<ls.length:=by have:=of_decide_eq_true g0;rw[List.length_map]at this;omega
  obtain⟨x,hx⟩:=at_some hi';obtain⟨l,hml,hxd,hv,hB⟩:=hlay i x hx;have el:m.lay i=l:=getD_of hml;have hz:=lx_zsize (hg.sh (i+1) hi');have hat:=at_shT m hi';have e1:m.un (i+1)=m.un i+unS l (m.sh i):=by rw[Mo.un,el]
  have e2:m.sh (i+1)=outS l (m.sh i):=by rw[Mo.sh,el]
  have u1:=unS_le (hg.sh i (by omega)).sz (by rw[←e2];exact(hg.sh (i+1) hi').sz) hv hB;have u2:m.un (i+1)≤(i+1)*(36*16384):=by rw[e1,Nat.add_mul];omega
  have u3:=(hg.sh (i+1) hi').sz;refine .mk (i) ((Lay.ly l).D) (rfl) (at_ly hml) ?_;conv=>whnf
  conv=>whnf
  cases l with
  |relu=>
   conv=>whnf
   refine .mk (i) ([shD (m.sh (i+1))]) (rfl) (hat) ?_;conv=>whnf
   conv=>whnf
   refine .c (hz) ?_;conv=>whnf
   have e3:m.un (i+1)=m.un i+szS (m.sh (i+1)):=by rw[e1,e2];rfl
   have ew:IntKind.i64.wrap ((m.un i:Int)+(szS (m.sh (i+1)):Int))=(m.un (i+1):Int):=by
    rw[e3,←Int.natCast_add,wrN (by omega)]
   rw[ew];exact⟨i+1,Wk.go,⟨hi',u2⟩,by omega⟩
  |mx kh kw st=>
   have hkk:=kk36 rfl ⟨i,hv⟩ hB;have e3:m.un (i+1)=m.un i+(kh*kw-1)*szS (m.sh (i+1)):=by rw[e1,e2];rfl
   have ew:IntKind.i64.wrap ((m.un i:Int)+IntKind.i64.wrap ((szS (m.sh (i+1)):Int)*IntKind.i64.wrap (IntKind.i64.wrap ((kh:Int)*(kw:Int))-1)))=(m.un (i+1):Int):=by
    have a1:IntKind.i64.wrap ((kh:Int)*(kw:Int))=((kh*kw:Nat):Int):=by rw[←Int.natCast_mul,wrN (by omega)]
    have a2:IntKind.i64.wrap (((kh*kw:Nat):Int)-1)=((kh*kw-1:Nat):Int):=by rw[wr64 (by omega) (by omega)];omega
    have a3:IntKind.i64.wrap ((szS (m.sh (i+1)):Int)*((kh*kw-1:Nat):Int))=(((kh*kw-1)*szS (m.sh (i+1)):Nat):Int):=by rw[←Int.natCast_mul,Nat.mul_comm,wrN (by omega)]
    rw[a1,a2,a3,e3,←Int.natCast_add,wrN (by omega)]
   conv=>whnf
   refine .mk (i) ([shD (m.sh (i+1))]) (rfl) (hat) ?_;conv=>whnf
   conv=>whnf
   refine .c (hz) ?_;conv=>whnf
   refine .mk (by kernel_rfl) ?_;conv=>whnf
   rw[show(Lay.ly (.mx kh kw st)).kh=kh from rfl,show(Lay.ly (.mx kh kw st)).kw=kw from rfl,ew];exact⟨i+1,Wk.go,⟨hi',u2⟩,by omega⟩
  |_=>
   have e3:m.un (i+1)=m.un i:=e1;conv=>whnf
   exact⟨i+1,by rw[e3];exact Wk.go,⟨hi',u2⟩,by omega⟩
 ·conv=>whnf
  have e:i=ls.length:=by have:=of_decide_eq_false g0;rw[List.length_map]at this;omega
  rw[e];exact .q ⟨rfl,rfl⟩
theorem fit_of {lay:Lay}{i:Nat}{ss:List (List Nat)}{s:List Nat}(hf:FitG lay i ss s)(hv:LayV i lay)(hB:LyB lay)(hs:ShG s)(h24:szS s≤24):Fit lay i ss s:=by
 have c1:=hB.kh;have c2:=hB.kw;have c3:=hB.st
 have wok:∀kh kw st pad:Nat,WnG (winS s kh kw st pad)→s.length=3→kh≤6→kw≤6→st≤6→(winS s kh kw st pad).Ok:=fun kh kw st pad hw h3 k1 k2 k3=>by
  match s,h3 with
  |[a,b,c],_=>
   have p1:=hs.pos a (by simp);have p2:=hs.pos b (by simp);have p3:=hs.pos c (by simp);have sz:a*b*c≤24:=by rw[szS3]at h24;exact h24
   exact⟨p1,p2,p3,⟨hw.kh.1,k1⟩,⟨hw.kw.1,k2⟩,⟨hw.st.1,k3⟩,hw.ph,hw.pw,hw.fh,hw.fw,sz⟩
 cases lay with
 |dense w b=>exact⟨hv.1.1,hf⟩
 |conv kh kw st pad w b=>simp only[Lay.ly]at c1 c2 c3;exact⟨wok _ _ _ _ hf.1 hf.2.1 (by omega) (by omega) (by omega),hf.2.1,hv.1.1,hf.2.2⟩
 |mx kh kw st=>simp only[Lay.ly]at c1 c2 c3;exact⟨wok _ _ _ _ hf.1 hf.2 (by omega) (by omega) (by omega),hf.2⟩
 |av kh kw st=>simp only[Lay.ly]at c1 c2 c3;exact⟨wok _ _ _ _ hf.1 hf.2 (by omega) (by omega) (by omega),hf.2⟩
 |relu=>trivial
 |flat=>trivial
 |add fr=>exact⟨hv.1,hv.2,hf⟩
theorem par_len {l:Lay}(h:LyB l):(parS l).length≤104:=by
 have h1:=h.ws;have h2:=h.bs
 cases l<;>simp only[parS,Lay.ly,List.length_append,List.length_nil]at * <;>omega
theorem mo_ok {inp:List Int}{ls:List RL}{m:Mo}(hm:IsMo inp ls m)(hg:MoG m ls.length)(h6:ls.length≤6)(h0:szS m.inp≤24)(hsz:∀i,i<ls.length→szS (m.sh (i+1))≤24)(hu:m.un ls.length≤20):MoOk m:=by
 obtain⟨eA,eL,hs,hlay⟩:=hm
 have h24:∀i,i≤ls.length→szS (m.sh i)≤24:=fun i hi=>by
  cases i with
  |zero=>exact h0
  |succ i=>exact hsz i hi
 have hly:∀i,i<m.ls.length→LayV i (m.lay i)∧LyB (m.lay i):=fun i hi=>by
  obtain⟨x,hx⟩:=at_some (l:=ls) (i:=i) (by omega);obtain⟨l,h1,_,h2,h3⟩:=hlay i x hx;rw[show m.lay i=l from getD_of h1];exact⟨h2,h3⟩
 have hmem:∀l∈m.ls,LyB l:=fun l hl=>by
  obtain⟨i,hi⟩:=List.getElem?_of_mem hl;have:=(hly i (at_lt hi)).2
  rwa [show m.lay i=l from getD_of hi]at this
 refine⟨by omega,fun i hi=> ?_,fun i hi=> ?_,fun l hl q hq=>(hmem l hl).one q hq,fun l hl=>par_len (hmem l hl),by rw[eL];exact hu⟩
 ·have:=hg.sh i (by omega);exact⟨this.l1,this.l4,this.pos,h24 i (by omega)⟩
 ·exact fit_of (hg.fit i (by omega)) (hly i hi).1 (hly i hi).2 (hg.sh i (by omega)) (h24 i (by omega))
theorem lx_limbs {l:List Rw}(hl:l.length≤1000):∃b,(b=true→Sml l)∧LV Tryz.prog 20 [.a (.d (rwD l))] (vl (.bool b)):=by
 suffices hh:LX Tryz.prog 20 [.a (.d (rwD l))] [] fun v H=>∃b,(b=true→Sml l)∧v=vl (.bool b)∧H=[] by
  obtain⟨v,H',⟨b,hb,rfl,rfl⟩,hc⟩:=hh;exact⟨b,hb,_,_,⟨rfl,rfl⟩,hc⟩
 have zf:∀{H:List (Nat×Ent)},Rt 0 H (vl (.bool false)) (fun v H=>∃b,(b=true→Sml l)∧v=vl (.bool b)∧H=[]):=fun {H}=>⟨_,_,⟨false,(fun h=>by cases h),rfl,rfl⟩,vR_ _,rfl,trivial,rfl⟩;refine LX_run (m:=0) (n0:=0) mix Tryz.func20 rfl rfl rfl rfl ?_;conv=>whnf
 refine .mk Nat (fun i=>⟨[(3,vl (.int .i64 (i:Nat))),(0,.a (.d (rwD l)))],[],0⟩) (fun i=>i≤l.length∧Sml (l.take i)) (fun i=>l.length-i) 0 Wk.go ⟨zL_ _,fun x hx=>by simp at hx⟩ fun i ⟨hi,hs⟩=> ?_;conv=>whnf
 refine bs (fun g0=> ?_) (fun g0=> ?_)
 ·conv=>whnf
  have hi':i<l.length:=by simpa using g0
  obtain⟨x,hx⟩:=at_some hi';refine .mk (i) (x.D) (rfl) (at_map hx) ?_;conv=>whnf
  conv=>whnf
  refine bs (fun g1=> ?_) (fun g1=> ?_)
  ·conv=>whnf
   exact zf
  ·conv=>whnf
   refine .mk (i) (x.D) (rfl) (at_map hx) ?_;conv=>whnf
   conv=>whnf
   refine bs (fun g2=> ?_) (fun g2=> ?_)
   ·conv=>whnf
    exact zf
   ·conv=>whnf
    have g1':=of_decide_eq_false g1;have g2':=of_decide_eq_false g2
    exact⟨i+1,Wk.go,⟨hi',fun y hy=>by
     rw[take_snoc hx]at hy;rcases List.mem_append.1 hy with hy|hy
     ·exact hs y hy
     ·rw[List.mem_singleton.1 hy];exact⟨by omega,by omega⟩⟩,by omega⟩
 ·conv=>whnf
  have ei:i=l.length:=by have:¬i<l.length:=by simpa using g0
                         omega
  rw[ei,List.take_length]at hs;exact⟨_,_,⟨true,(fun _=>hs),rfl,rfl⟩,vR_ _,rfl,trivial,rfl⟩
def MdR (inp:List Int)(ls:List RL)(v:V)(H:List (Nat×Ent)):Prop:=∃b,(b=true→∃m:Mo,rmA inp ls=m.A∧MoOk m)∧v=vl (.bool b)∧H=[]
theorem md_false {inp:List Int}{ls:List RL}{H:List (Nat×Ent)}:Rt 0 H (vl (.bool false)) (MdR inp ls):=⟨_,_,⟨false,(fun h=>by cases h),rfl,rfl⟩,vR_ _,rfl,trivial,rfl⟩
theorem lx_modest {inp:List Int}{ls:List RL}(hi:inp.length≤1099511627776)(hl:ls.length≤1099511627776)(hw:∀x∈ls,x.ws.length≤1099511627776∧x.bs.length≤1099511627776):
  ∃b,(b=true→∃m:Mo,rmA inp ls=m.A∧MoOk m)∧LV Tryz.prog 6 [.agg (rmA inp ls)] (vl (.bool b)):=by
 suffices hh:LX Tryz.prog 6 [.agg (rmA inp ls)] [] (MdR inp ls) by
  obtain⟨v,H',⟨b,hb,rfl,rfl⟩,hc⟩:=hh;exact⟨b,hb,_,_,⟨rfl,rfl⟩,hc⟩
 refine LX_run (m:=0) (n0:=0) mix Tryz.func6 rfl rfl rfl rfl ?_;conv=>whnf
 refine bs (fun a1=> ?_) (fun a1=> ?_)
 ·conv=>whnf
  exact md_false
 conv=>whnf
 refine bs (fun a2=> ?_) (fun a2=> ?_)
 ·conv=>whnf
  exact md_false
 conv=>whnf
 have l6:ls.length≤6:=by have:=of_decide_eq_false a1;rw[List.length_map]at this;omega
 have i4:inp.length≤4:=by have:=of_decide_eq_false a2;rw[List.length_map]at this;omega
 clear a1 a2;refine .mk Nat (fun i=>⟨[(3,vl (.int .i64 (i:Nat))),(1,.a (.ptr 0 0))],[(0,.box 25 (rmA inp ls))],1⟩) (fun i=>i≤inp.length) (fun i=>inp.length-i) 0 Wk.go (zL_ _) fun i hi'=> ?_;conv=>whnf
 refine bs (fun g0=> ?_) (fun g0=> ?_)
 ·conv=>whnf
  have hlt:i<inp.length:=by simpa using g0
  obtain⟨d,hd⟩:=at_some hlt;refine .mk (i) ([D.lit (.int .i64 d)]) (rfl) (at_inR hd) ?_;conv=>whnf
  conv=>whnf
  refine bs (fun g1=> ?_) (fun g1=> ?_)
  ·conv=>whnf
   exact md_false
  ·conv=>whnf
   refine .mk (i) ([D.lit (.int .i64 d)]) (rfl) (at_inR hd) ?_;conv=>whnf
   conv=>whnf
   refine bs (fun g2=> ?_) (fun g2=> ?_)
   ·conv=>whnf
    exact md_false
   ·conv=>whnf
    exact⟨i+1,Wk.go,hlt,by omega⟩
 conv=>whnf
 clear g0 hi';refine .mk Nat (fun i=>⟨[(4,vl (.int .i64 (i:Nat))),(1,.a (.ptr 0 0))],[(0,.box 25 (rmA inp ls))],1⟩) (fun i=>i≤ls.length∧∀j x,j<i→ls[j]? =some x→RLb x) (fun i=>ls.length-i) 0 Wk.go ⟨zL_ _,fun j x hj=>by omega⟩ fun i ⟨hi',hb⟩=> ?_;conv=>whnf
 refine bs (fun g0=> ?_) (fun g0=> ?_)
 ·conv=>whnf
  have hlt:i<ls.length:=by simpa using g0
  obtain⟨x,hx⟩:=at_some hlt;refine .mk (i) (x.D) (rfl) (at_map hx) ?_;conv=>whnf
  conv=>whnf
  refine bs (fun t0=> ?_) (fun t0=> ?_)
  ·conv=>whnf
   exact md_false
  conv=>whnf
  refine bs (fun t1=> ?_) (fun t1=> ?_)
  ·conv=>whnf
   exact md_false
  conv=>whnf
  refine bs (fun t2=> ?_) (fun t2=> ?_)
  ·conv=>whnf
   exact md_false
  conv=>whnf
  refine bs (fun t3=> ?_) (fun t3=> ?_)
  ·conv=>whnf
   exact md_false
  conv=>whnf
  refine bs (fun t4=> ?_) (fun t4=> ?_)
  ·conv=>whnf
   exact md_false
  conv=>whnf
  refine bs (fun t5=> ?_) (fun t5=> ?_)
  ·conv=>whnf
   exact md_false
  conv=>whnf
  refine bs (fun t6=> ?_) (fun t6=> ?_)
  ·conv=>whnf
   exact md_false
  conv=>whnf
  have hrb:x.ws.length≤80∧x.bs.length≤24∧x.out≤24∧x.kh≤6∧x.kw≤6∧x.st≤6∧x.pad≤6:=by
   have:=of_decide_eq_false t0;have:=of_decide_eq_false t1;have:=of_decide_eq_false t2;have:=of_decide_eq_false t3;have:=of_decide_eq_false t4;have:=of_decide_eq_false t5;have:=of_decide_eq_false t6;rw[List.length_map]at *
   omega
  clear t0 t1 t2 t3 t4 t5 t6;obtain⟨q1,q2,q3,q4,q5,q6,q7⟩:=hrb;obtain⟨b1,hb1,c1⟩:=lx_limbs (l:=x.ws) (by omega);obtain⟨b2,hb2,c2⟩:=lx_limbs (l:=x.bs) (by omega)
  cases b1
  ·refine .c (c1) ?_;conv=>whnf
   exact md_false
  ·refine .c (c1) ?_;conv=>whnf
   cases b2
   ·refine .c (c2) ?_;conv=>whnf
    exact md_false
   ·refine .c (c2) ?_;conv=>whnf
    exact⟨i+1,Wk.go,⟨hlt,fun j y hj hy=>by
     rcases Nat.lt_or_ge j i with h1|h1
     ·exact hb j y h1 hy
     ·rw[show j=i by omega,hx]at hy;injection hy with hy;subst hy;exact⟨q1,q2,q3,q4,q5,q6,q7,hb1 rfl,hb2 rfl⟩⟩,by omega⟩
 conv=>whnf
 have ei:i=ls.length:=by have:¬i<ls.length:=by simpa using g0
                         omega
 have hall:∀x∈ls,RLb x:=fun x hx=>by
  obtain⟨j,hj⟩:=List.getElem?_of_mem hx;exact hb j x (by rw[ei];exact at_lt hj) hj
 clear g0 hi' hb ei;obtain⟨v,⟨L,z,e,rfl,hz⟩,co⟩:=lx_zofmod (inp:=inp) (ls:=ls) (by omega) (by omega) hall;refine .c (co) ?_;conv=>whnf
 refine bs (fun g1=> ?_) (fun g1=> ?_)
 ·conv=>whnf
  exact md_false
 have he:e=0:=by simpa using g1
 subst he;obtain⟨m,hm,hg,rfl⟩:=hz rfl;have hm':=hm;obtain⟨eA,eL,hs,hlay⟩:=hm;have eI:inD inp=shD m.inp:=by
  have:=congrArg List.head? eA;simpa using this
 have cs:=lx_zsize hs;rw[←eI]at cs;have cc:=lx_zcount hm' hg (by omega) co;conv=>whnf
 refine .c (cs) ?_;conv=>whnf
 refine bs (fun g2=> ?_) (fun g2=> ?_)
 ·conv=>whnf
  exact md_false
 conv=>whnf
 have h0:szS m.inp≤24:=by have:=of_decide_eq_false g2;omega
 refine .mk Nat (fun k=>⟨[(9,vl (.int .i64 (k:Nat))),(6,.a (.d (ssD (m.shT ls.length)))),(1,.a (.ptr 0 0))],[(0,.box 25 (rmA inp ls))],1⟩) (fun k=>k≤ls.length∧∀j,j<k→szS (m.sh (j+1))≤24) (fun k=>ls.length-k) 0 Wk.go ⟨zL_ _,fun j hj=>by omega⟩ fun k ⟨hk,hsz⟩=> ?_;conv=>whnf
 refine bs (fun g3=> ?_) (fun g3=> ?_)
 ·conv=>whnf
  have hlt:k<ls.length:=by have:=of_decide_eq_true g3;rw[List.length_map,List.length_map,List.length_range]at this;omega
  refine .mk (k) ([shD (m.sh (k+1))]) (rfl) (at_shT m hlt) ?_;conv=>whnf
  conv=>whnf
  refine .c (lx_zsize (hg.sh (k+1) hlt)) ?_;conv=>whnf
  refine bs (fun g4=> ?_) (fun g4=> ?_)
  ·conv=>whnf
   exact md_false
  ·conv=>whnf
   exact⟨k+1,Wk.go,⟨hlt,fun j hj=>by
    rcases Nat.lt_or_ge j k with h1|h1
    ·exact hsz j h1
    ·rw[show j=k by omega];have:=of_decide_eq_false g4;omega⟩,by omega⟩
 conv=>whnf
 have ek:k=ls.length:=by have:=of_decide_eq_false g3;rw[List.length_map,List.length_map,List.length_range]at this;omega
 rw[ek]at hsz;refine .c (cc) ?_;conv=>whnf
 refine bs (fun g5=> ?_) (fun g5=> ?_)
 ·conv=>whnf
  exact⟨_,_,⟨true,(fun _=>⟨m,eA,mo_ok hm' hg l6 h0 hsz (by have:=of_decide_eq_true g5;omega)⟩),rfl,rfl⟩,vR_ _,rfl,trivial,rfl⟩
 ·conv=>whnf
  exact md_false
open Go.Shelf
def Z:Go.Shelf.Ren:=⟨fun|99=>227|105=>203|129=>230|156=>205|165=>228|166=>122|169=>125|170=>121|171=>123|206=>236|212=>226|240=>176|241=>237|243=>177|246=>200|263=>234|264=>235|276=>199|277=>240|283=>221|284=>222|285=>223|286=>224|317=>229|318=>231|319=>232|320=>233|337=>238|338=>239|n=>n,fun|0=>0|2=>2|3=>3|4=>4|5=>5|9=>9|20=>20|31=>225|37=>26|46=>196|51=>188|53=>137|70=>168|72=>170|75=>173|76=>174|80=>179|109=>244|127=>214|146=>252|148=>254|164=>222|171=>239|173=>242|212=>249|213=>250|232=>257|233=>258|n=>n,fun|17=>0|18=>1|19=>2|n=>n⟩
def Z2:Go.Shelf.Ren:=⟨fun|17=>204|n=>n,fun|0=>0|3=>3|4=>4|9=>9|24=>225|n=>n,fun|n=>n⟩
theorem L105:Go.Proofs.Lays.n105 Tryz.prog Z:={
 mixed:=by kernel_rfl
 f99:=Tryz.func227.trans (congrArg some (by kernel_rfl))
 f105:=Tryz.func203.trans (congrArg some (by kernel_rfl))
 f165:=Tryz.func228.trans (congrArg some (by kernel_rfl))
 f166:=Tryz.func122.trans (congrArg some (by kernel_rfl))
 f169:=Tryz.func125.trans (congrArg some (by kernel_rfl))
 f170:=Tryz.func121.trans (congrArg some (by kernel_rfl))
 f206:=Tryz.func236.trans (congrArg some (by kernel_rfl))
 f212:=Tryz.func226.trans (congrArg some (by kernel_rfl))
 f240:=Tryz.func176.trans (congrArg some (by kernel_rfl))
 f241:=Tryz.func237.trans (congrArg some (by kernel_rfl))
 f263:=Tryz.func234.trans (congrArg some (by kernel_rfl))
 f264:=Tryz.func235.trans (congrArg some (by kernel_rfl))
 f276:=Tryz.func199.trans (congrArg some (by kernel_rfl))
 f277:=Tryz.func240.trans (congrArg some (by kernel_rfl))
 t0:=Tryz.underlying0
 a0:=Tryz.isAgg0
 z0:=Tryz.sizeOf0
 v0:=Tryz.zeroValue0
 t3:=Tryz.underlying3
 a3:=Tryz.isAgg3
 z3:=Tryz.sizeOf3
 v3:=Tryz.zeroValue3
 t4:=Tryz.underlying4
 a4:=Tryz.isAgg4
 z4:=Tryz.sizeOf4
 v4:=Tryz.zeroValue4
 t5:=Tryz.underlying5
 a5:=Tryz.isAgg5
 z5:=Tryz.sizeOf5
 v5:=Tryz.zeroValue5
 t9:=Tryz.underlying9
 a9:=Tryz.isAgg9
 z9:=Tryz.sizeOf9
 v9:=Tryz.zeroValue9
 t20:=Tryz.underlying20
 a20:=Tryz.isAgg20
 z20:=Tryz.sizeOf20
 v20:=Tryz.zeroValue20
 t37:=Tryz.underlying26
 a37:=Tryz.isAgg26
 z37:=Tryz.sizeOf26
 v37:=Tryz.zeroValue26
 t46:=Tryz.underlying196
 a46:=Tryz.isAgg196
 z46:=Tryz.sizeOf196
 v46:=Tryz.zeroValue196
 t51:=Tryz.underlying188
 a51:=Tryz.isAgg188
 z51:=Tryz.sizeOf188
 v51:=Tryz.zeroValue188
 t53:=Tryz.underlying137
 a53:=Tryz.isAgg137
 z53:=Tryz.sizeOf137
 v53:=Tryz.zeroValue137
 t70:=Tryz.underlying168
 a70:=Tryz.isAgg168
 z70:=Tryz.sizeOf168
 v70:=Tryz.zeroValue168
 t72:=Tryz.underlying170
 a72:=Tryz.isAgg170
 z72:=Tryz.sizeOf170
 v72:=Tryz.zeroValue170
 t75:=Tryz.underlying173
 a75:=Tryz.isAgg173
 z75:=Tryz.sizeOf173
 v75:=Tryz.zeroValue173
 t76:=Tryz.underlying174
 a76:=Tryz.isAgg174
 z76:=Tryz.sizeOf174
 v76:=Tryz.zeroValue174
 t109:=Tryz.underlying244
 a109:=Tryz.isAgg244
 z109:=Tryz.sizeOf244
 v109:=Tryz.zeroValue244
 t127:=Tryz.underlying214
 a127:=Tryz.isAgg214
 z127:=Tryz.sizeOf214
 v127:=Tryz.zeroValue214
 t146:=Tryz.underlying252
 a146:=Tryz.isAgg252
 z146:=Tryz.sizeOf252
 v146:=Tryz.zeroValue252
 t148:=Tryz.underlying254
 a148:=Tryz.isAgg254
 z148:=Tryz.sizeOf254
 v148:=Tryz.zeroValue254
 t164:=Tryz.underlying222
 a164:=Tryz.isAgg222
 z164:=Tryz.sizeOf222
 v164:=Tryz.zeroValue222}
theorem L156:Go.Proofs.Lays.n156 Tryz.prog Z:={
 mixed:=by kernel_rfl
 f156:=Tryz.func205.trans (congrArg some (by kernel_rfl))
 f165:=Tryz.func228.trans (congrArg some (by kernel_rfl))
 f166:=Tryz.func122.trans (congrArg some (by kernel_rfl))
 f169:=Tryz.func125.trans (congrArg some (by kernel_rfl))
 f240:=Tryz.func176.trans (congrArg some (by kernel_rfl))
 f241:=Tryz.func237.trans (congrArg some (by kernel_rfl))
 f276:=Tryz.func199.trans (congrArg some (by kernel_rfl))
 f277:=Tryz.func240.trans (congrArg some (by kernel_rfl))
 t0:=Tryz.underlying0
 a0:=Tryz.isAgg0
 z0:=Tryz.sizeOf0
 v0:=Tryz.zeroValue0
 t3:=Tryz.underlying3
 a3:=Tryz.isAgg3
 z3:=Tryz.sizeOf3
 v3:=Tryz.zeroValue3
 t4:=Tryz.underlying4
 a4:=Tryz.isAgg4
 z4:=Tryz.sizeOf4
 v4:=Tryz.zeroValue4
 t9:=Tryz.underlying9
 a9:=Tryz.isAgg9
 z9:=Tryz.sizeOf9
 v9:=Tryz.zeroValue9
 t20:=Tryz.underlying20
 a20:=Tryz.isAgg20
 z20:=Tryz.sizeOf20
 v20:=Tryz.zeroValue20
 t31:=Tryz.underlying225
 a31:=Tryz.isAgg225
 z31:=Tryz.sizeOf225
 v31:=Tryz.zeroValue225
 t37:=Tryz.underlying26
 a37:=Tryz.isAgg26
 z37:=Tryz.sizeOf26
 v37:=Tryz.zeroValue26
 t70:=Tryz.underlying168
 a70:=Tryz.isAgg168
 z70:=Tryz.sizeOf168
 v70:=Tryz.zeroValue168
 t72:=Tryz.underlying170
 a72:=Tryz.isAgg170
 z72:=Tryz.sizeOf170
 v72:=Tryz.zeroValue170
 t75:=Tryz.underlying173
 a75:=Tryz.isAgg173
 z75:=Tryz.sizeOf173
 v75:=Tryz.zeroValue173
 t76:=Tryz.underlying174
 a76:=Tryz.isAgg174
 z76:=Tryz.sizeOf174
 v76:=Tryz.zeroValue174
 t127:=Tryz.underlying214
 a127:=Tryz.isAgg214
 z127:=Tryz.sizeOf214
 v127:=Tryz.zeroValue214
 t164:=Tryz.underlying222
 a164:=Tryz.isAgg222
 z164:=Tryz.sizeOf222
 v164:=Tryz.zeroValue222}
theorem L171:Go.Proofs.Lays.n171 Tryz.prog Z:={
 mixed:=by kernel_rfl
 f129:=Tryz.func230.trans (congrArg some (by kernel_rfl))
 f171:=Tryz.func123.trans (congrArg some (by kernel_rfl))
 f243:=Tryz.func177.trans (congrArg some (by kernel_rfl))
 f246:=Tryz.func200.trans (congrArg some (by kernel_rfl))
 f283:=Tryz.func221.trans (congrArg some (by kernel_rfl))
 f284:=Tryz.func222.trans (congrArg some (by kernel_rfl))
 f285:=Tryz.func223.trans (congrArg some (by kernel_rfl))
 f286:=Tryz.func224.trans (congrArg some (by kernel_rfl))
 f317:=Tryz.func229.trans (congrArg some (by kernel_rfl))
 f318:=Tryz.func231.trans (congrArg some (by kernel_rfl))
 f319:=Tryz.func232.trans (congrArg some (by kernel_rfl))
 f320:=Tryz.func233.trans (congrArg some (by kernel_rfl))
 f337:=Tryz.func238.trans (congrArg some (by kernel_rfl))
 f338:=Tryz.func239.trans (congrArg some (by kernel_rfl))
 t0:=Tryz.underlying0
 a0:=Tryz.isAgg0
 z0:=Tryz.sizeOf0
 v0:=Tryz.zeroValue0
 t2:=Tryz.underlying2
 a2:=Tryz.isAgg2
 z2:=Tryz.sizeOf2
 v2:=Tryz.zeroValue2
 t3:=Tryz.underlying3
 a3:=Tryz.isAgg3
 z3:=Tryz.sizeOf3
 v3:=Tryz.zeroValue3
 t4:=Tryz.underlying4
 a4:=Tryz.isAgg4
 z4:=Tryz.sizeOf4
 v4:=Tryz.zeroValue4
 t5:=Tryz.underlying5
 a5:=Tryz.isAgg5
 z5:=Tryz.sizeOf5
 v5:=Tryz.zeroValue5
 t9:=Tryz.underlying9
 a9:=Tryz.isAgg9
 z9:=Tryz.sizeOf9
 v9:=Tryz.zeroValue9
 t20:=Tryz.underlying20
 a20:=Tryz.isAgg20
 z20:=Tryz.sizeOf20
 v20:=Tryz.zeroValue20
 t37:=Tryz.underlying26
 a37:=Tryz.isAgg26
 z37:=Tryz.sizeOf26
 v37:=Tryz.zeroValue26
 t46:=Tryz.underlying196
 a46:=Tryz.isAgg196
 z46:=Tryz.sizeOf196
 v46:=Tryz.zeroValue196
 t51:=Tryz.underlying188
 a51:=Tryz.isAgg188
 z51:=Tryz.sizeOf188
 v51:=Tryz.zeroValue188
 t53:=Tryz.underlying137
 a53:=Tryz.isAgg137
 z53:=Tryz.sizeOf137
 v53:=Tryz.zeroValue137
 t171:=Tryz.underlying239
 a171:=Tryz.isAgg239
 z171:=Tryz.sizeOf239
 v171:=Tryz.zeroValue239
 t173:=Tryz.underlying242
 a173:=Tryz.isAgg242
 z173:=Tryz.sizeOf242
 v173:=Tryz.zeroValue242
 t212:=Tryz.underlying249
 a212:=Tryz.isAgg249
 z212:=Tryz.sizeOf249
 v212:=Tryz.zeroValue249
 t213:=Tryz.underlying250
 a213:=Tryz.isAgg250
 z213:=Tryz.sizeOf250
 t232:=Tryz.underlying257
 a232:=Tryz.isAgg257
 z232:=Tryz.sizeOf257
 v232:=Tryz.zeroValue257
 t233:=Tryz.underlying258
 a233:=Tryz.isAgg258
 z233:=Tryz.sizeOf258
 v233:=Tryz.zeroValue258
 g17:=by kernel_rfl
 g18:=by kernel_rfl
 g19:=by kernel_rfl}
theorem LRev:Go.Proofs.Lays2.n17 Tryz.prog Z2:={
 mixed:=by kernel_rfl
 f17:=Tryz.func204.trans (congrArg some (by kernel_rfl))
 t0:=Tryz.underlying0
 a0:=Tryz.isAgg0
 z0:=Tryz.sizeOf0
 v0:=Tryz.zeroValue0
 t3:=Tryz.underlying3
 a3:=Tryz.isAgg3
 z3:=Tryz.sizeOf3
 v3:=Tryz.zeroValue3
 t4:=Tryz.underlying4
 a4:=Tryz.isAgg4
 z4:=Tryz.sizeOf4
 v4:=Tryz.zeroValue4
 t9:=Tryz.underlying9
 a9:=Tryz.isAgg9
 z9:=Tryz.sizeOf9
 v9:=Tryz.zeroValue9
 t24:=Tryz.underlying225
 a24:=Tryz.isAgg225
 z24:=Tryz.sizeOf225
 v24:=Tryz.zeroValue225}
theorem L166:Go.Proofs.Lays.n166 Tryz.prog Z:=by
 obtain⟨⟩:=L156;constructor<;>assumption
theorem L170:Go.Proofs.Lays.n170 Tryz.prog Z:=by
 obtain⟨⟩:=L105;constructor<;>assumption
theorem L169:Go.Proofs.Lays.n169 Tryz.prog Z:=by
 obtain⟨⟩:=L156;constructor<;>assumption
theorem L285:Go.Proofs.Lays.n285 Tryz.prog Z:=by
 obtain⟨⟩:=L171;constructor<;>assumption
theorem L283:Go.Proofs.Lays.n283 Tryz.prog Z:=by
 obtain⟨⟩:=L171;constructor<;>assumption
theorem L129:Go.Proofs.Lays.n129 Tryz.prog Z:=by
 obtain⟨⟩:=L171;constructor<;>assumption
theorem L317:Go.Proofs.Lays.n317 Tryz.prog Z:=by
 obtain⟨⟩:=L171;constructor<;>assumption
theorem L318:Go.Proofs.Lays.n318 Tryz.prog Z:=by
 obtain⟨⟩:=L171;constructor<;>assumption
theorem LEx:Go.Proofs.Builder.Extra Tryz.prog Z:={
 sizeBuilder:=by kernel_rfl
 liesBuilder:=by kernel_rfl
 t5:=Tryz.underlying5
 a5:=Tryz.isAgg5
 z5:=Tryz.sizeOf5
 v5:=Tryz.zeroValue5
 infoByte:=by kernel_rfl
 cellsByte:=by kernel_rfl
 sizeByte:=by kernel_rfl
 neB5:=by decide}
open Go.Sort
theorem lv_ofG {P:Program}{F:FuncId}{args:List V}{v:V}(hc:∀(γ:Gh) (M:MS) (w:World) (rs:List Value),Glb M w→All2 (RdV γ (look []) M w) args rs→Calls P F rs.toArray w (Ret w fun w' r=>OV w' v r)):LV P F args v:=by
 refine⟨_,_,⟨rfl,rfl⟩,fun γ M w rs hr ha=>cM (hc γ M w rs hr.glb ha) ?_⟩;rintro e w' ⟨r,rfl,h1,h2⟩;obtain⟨k1,k2⟩:=rel_below hr h2 fun k=>rfl;exact⟨r,γ,M,rfl,k1,OV.rd k1.u32 h1,k2⟩
theorem fx_belowB {M:MS}{w w':World}(h:Below w.heap.size w w'):∀b i v,Fx M w b i v→Fx M w' b i v:=fun b i v k=>
 ⟨k.1,by rw[World.cell?_of_block (w:=w) (a:=⟨b,i,none⟩) (h.block b (World.block_lt_of_cell? _ _ k.2))];exact k.2⟩
theorem sh_len64 (x:Int)(w:World)(h0:0≤x)(h1:x≤18446744073709551615):Calls Tryz.prog 230 #[.int .u64 x] w fun e w'=>e= .returned (.int .i64 (Lib.bitLen x.toNat))∧w'=w:=Any.bits_Len64 L129 x w h0 h1
theorem sh_log10 (x:Nat)(h:x≤64)(w:World):Calls Tryz.prog 229 #[.int .i64 x] w fun e w'=>e= .returned (.int .i64 (Lib.l10 x))∧w'=w:=Any.internal_strconv_log10Pow2 L317 x h w
theorem sh_bool2 (b:Bool)(w:World):Calls Tryz.prog 231 #[.bool b] w fun e w'=>e= .returned (.int .i64 (if b then 1 else 0))∧w'=w:=Any.internal_strconv_bool2_int L318 b w
theorem sh_small (i:Nat)(h:i<100)(w:World):Calls Tryz.prog 221 #[.int .i64 i] w fun e w'=>e= .returned (.string ⟨(Lib.decDigits i).toArray⟩)∧w'=w:=Any.internal_strconv_small L283 i h w
theorem sh_base10 (blk off cap:Nat)(u:Nat)(d:Array UInt8)(w:World)(hH:Holds (fun(b:UInt8)=>Value.int .u8 (b.toNat:Int)) w blk off d)(hu:u<10^d.size)(hu64:u<18446744073709551616)(hsz:d.size<4611686018427387904):
  Calls Tryz.prog 223 #[.slice (some ⟨blk,off,none⟩) d.size cap,.int .u64 u] w fun e w'=>
   e= .returned (.tuple #[])∧∃(n v':Nat) (dk:Array UInt8),w'=(putRow (fun(b:UInt8)=>Value.int .u8 (b.toNat:Int)) w blk off dk).drewN n∧Lib.FmtInv d.size u 0 v' dk:=Any.internal_strconv_formatBase10 L285 blk off cap u d w hH hu hu64 hsz
theorem p10_row {q:Nat}(h:q<20):∃row,GT 0=some row∧row[q]? =some (.lit (.int .u64 ((10^q:Nat):Int))):=by
 refine⟨_,rfl,?_⟩;refine at_map (f:=fun z=>D.lit (.int .u64 z)) ?_;have key:∀q:Fin 20,([1,10,100,1000,10000,100000,1000000,10000000,100000000,1000000000,10000000000,100000000000,1000000000000,10000000000000,100000000000000,1000000000000000,10000000000000000,100000000000000000,1000000000000000000,10000000000000000000]:List Int)[q.val]? =some ((10^q.val:Nat):Int):=by decide
 exact key ⟨q,h⟩
theorem sh_numD {u:Nat}(h1:1≤u)(h2:u<18446744073709551616){M:MS}{w:World}(hG:Glb M w):
  Calls Tryz.prog 222 #[.int .u64 u] w fun e w'=>e= .returned (.int .i64 (Lib.nDigits u))∧w'=w:=by
 obtain⟨hnd,h19⟩:=Lib.numDigits_eq u h1 h2;have hL:Lib.bitLen u≤64:=Lib.bitLen_le u 64 (lR_ _) h2;have hcell:w.cell? ⟨0,Lib.l10 (Lib.bitLen u),none⟩=some (.int .u64 ((10^Lib.l10 (Lib.bitLen u):Nat):Int)):=by
  obtain⟨row,hr,hq⟩:=p10_row (show Lib.l10 (Lib.bitLen u)<20 by omega);obtain⟨v,hv,hd⟩:=hG 0 row hr _ _ hq;rw[lit_inv hd]at hv;exact hv.2
 have hto:((u:Int)).toNat=u:=by omega
 generalize hq:Lib.l10 (Lib.bitLen u)=q at hnd h19 hcell;generalize hT:10^q=T at hnd hcell;have h20:q<20:=by omega
 have Hnd:=lH hnd;clear hnd hG
 go_enter Tryz.func222,Tryz.ntmps222
 go_wp2_with (first
  |(go_at_call 230;refine(sh_len64 _ _ (by omega) (by omega)).mono ?_;rintro e w' ⟨rfl,rfl⟩)
  |(go_at_call 229;refine(sh_log10 _ (by first|exact hL|(rw[hto];exact hL)) _).mono ?_;rintro e w' ⟨rfl,rfl⟩)
  |(go_at_call 231;refine(sh_bool2 _ _).mono ?_;rintro e w' ⟨rfl,rfl⟩))
 all_goals go_ret
 all_goals (
  refine⟨?_,rfl⟩;have hnd:=Hnd.out
  congr 2
  split at hnd<;>simp_all<;>omega)
theorem sh_fuint {u:Nat}(hu64:u<18446744073709551616){M:MS}{w:World}(hG:Glb M w):
  Calls Tryz.prog 225 #[.int .u64 u,.int .i64 10] w fun e w'=>e= .returned (.string ⟨(Lib.decDigits u).toArray⟩)∧Below w.heap.size w w':=by
 by_cases hs:u<100
 ·go_enter Tryz.func225,Tryz.ntmps225
  go_wp2_with (go_at_call 221;refine(sh_small u hs _).mono ?_;rintro e w' ⟨rfl,rfl⟩)
  go_ret
  exact⟨rfl,bR_ _ _⟩
 ·have hu1:1≤u:=by omega
  have hnd20:Lib.nDigits u≤20:=by have:=Lib.numDigits_eq u hu1 hu64;split at this<;>omega
  have hal:Tryz.prog.arrayLen 239=24:=by simp[Program.arrayLen,Tryz.underlying239]
  have hsl1:∀W,(Instr.sliceAt 239 (.pointer (some ⟨w.heap.size,0,none⟩)) none (some (.int .i64 (Lib.nDigits u:Int))) none).run Tryz.prog W= .ok (.slice (some ⟨w.heap.size,0,none⟩) (Lib.nDigits u) 24) W:=fun W=>by
   rw[run_sliceAt_array_h W 239 ⟨w.heap.size,0,none⟩ (by simp[Program.arrayLen,Program.elem,Tryz.underlying239]) .i64 (Lib.nDigits u:Int) (by omega) (by rw[hal];omega)];go_simp
  have hH0:=Lib.holds_zero0 w 239 (Lib.nDigits u) (by omega);have hfmt:=sh_base10 w.heap.size 0 24 u (Array.replicate (Lib.nDigits u) 0) (w.alloc (.cells Lib.zeros24 239)) hH0 (by rw[Array.size_replicate];exact Lib.lt_pow_nDigits u) hu64 (by rw[Array.size_replicate];omega);rw[Array.size_replicate]at hfmt;have HH0:=lH hH0;clear hH0 hal;have hG1:Glb M (w.alloc (.cells Lib.zeros24 239)):=hG.fx (fx_belowB ((bR_ _ w).alloc (lR_ _) _))
  go_enter Tryz.func225,Tryz.ntmps225
  go_wp2_with (go_at_call 222;refine(sh_numD hu1 hu64 hG1).mono ?_;rintro e w' ⟨rfl,rfl⟩)
  go_at_call 223
  refine hfmt.mono ?_;rintro e w' ⟨rfl,k,v',dk,rfl,hF⟩;have hcv:(convert 26 9 (.slice (some ⟨w.heap.size,0,none⟩) (Lib.nDigits u) 24)).run Tryz.prog ((putRow (fun(b:UInt8)=>Value.int .u8 (b.toNat:Int)) (w.alloc (.cells Lib.zeros24 239)) w.heap.size 0 dk).drewN k)= .ok (.string ⟨(Lib.decDigits u).toArray⟩) ((putRow (fun(b:UInt8)=>Value.int .u8 (b.toNat:Int)) (w.alloc (.cells Lib.zeros24 239)) w.heap.size 0 dk).drewN k):=by
   have h:=run_convert_bytes_back (P:=Tryz.prog) ((putRow (fun(b:UInt8)=>Value.int .u8 (b.toNat:Int)) (w.alloc (.cells Lib.zeros24 239)) w.heap.size 0 dk).drewN k) 26 9 5 ⟨w.heap.size,0,none⟩ 24 (Lib.decDigits u) Tryz.underlying26 Tryz.underlying5 Tryz.underlying9 (fun j hj=>by
    rw[Lib.row_is_numeral hF j hj,Lib.add_plain,World.cell?_drewN];exact cell?_putRow (fun(b:UInt8)=>Value.int .u8 (b.toNat:Int)) _ w.heap.size 0 _ dk HH0.out (by rw[hF.size,Array.size_replicate]) j (by rw[hF.size];rw[Lib.decDigits_length]at hj;exact hj))
   rw[Lib.decDigits_length]at h;exact h
  go_wp2
  go_ret
  obtain⟨os,eo⟩:=Lib.fin_at w (.cells Lib.zeros24 239) dk k 0;refine⟨rfl,?_⟩;rw[eo];exact Lib.below_grow _ _ (lR_ _) _ _
open Go.Lib (decDigits)
theorem sh_repeat (s:ByteArray)(c:Nat)(w:World)(hc:c≤9223372036854775807)(hlen:s.size*c≤140737488355328):
  Calls Tryz.prog 203 #[.string s,.int .i64 c] w fun e w'=>e= .returned (.string ⟨(Lib.repeatL s.data.toList c).toArray⟩)∧Below w.heap.size w w':=Any.strings_Repeat L105 LEx s c w hc hlen
theorem sh_join (bk o c:Nat)(xs:List ByteArray)(sep:ByteArray)(w:World)(hcells:∀(j:Nat) x,xs[j]? =some x→w.cell? ⟨bk,o+j,none⟩=some (.string x))(hbk:bk<w.heap.size)(hN:xs.length≤140737488355328)(hcap:xs.length≤c)(hlen:(Lib.join (xs.map (·.data.toList)) sep.data.toList).length≤140737488355328):
  Calls Tryz.prog 205 #[.slice (some ⟨bk,o,none⟩) xs.length c,.string sep] w fun e w'=>e= .returned (.string ⟨(Lib.join (xs.map (·.data.toList)) sep.data.toList).toArray⟩)∧Below w.heap.size w w':=Any.strings_Join L156 LEx bk o c xs sep w hcells hbk hN hcap hlen
theorem sh_reverse (blk off cap:Nat)(zs:List (List UInt8))(w:World)(hH:Holds encStr w blk off zs.toArray)(hsz:zs.length≤9223372036854775807):
  Calls Tryz.prog 204 #[.slice (some ⟨blk,off,none⟩) zs.length cap] w fun e w'=>e= .returned (.tuple #[])∧∃n,w'=putRow encStr (Sort.ahead w n) blk off zs.reverse.toArray:=Any.slices_Reverse_string LRev blk off cap zs w hH hsz
theorem sh_fmt {u:Nat}(hu64:u<18446744073709551616){M:MS}{w:World}(hG:Glb M w):
  Calls Tryz.prog 202 #[.int .u64 u,.int .i64 10] w fun e w'=>e= .returned (.string ⟨(Lib.decDigits u).toArray⟩)∧Below w.heap.size w w':=by
 go_enter Tryz.func202,Tryz.ntmps202
 go_wp2_with (go_at_call 225;refine(sh_fuint hu64 hG).mono ?_;rintro e w' ⟨rfl,hb⟩)
 go_ret
 exact⟨rfl,hb⟩
theorem chk_small {n:Nat}(h:n<1000000000):chk n=if n=0 then []else [decDigits n]:=by rw[chk,dif_pos h]
theorem chk_big {n:Nat}(h:¬n<1000000000):chk n=(List.replicate (9-(decDigits (n % 1000000000)).length) 48++decDigits (n % 1000000000))::chk (n/1000000000):=by rw[chk,dif_neg h]
theorem chk_step {n:Nat}(h:n≠0):chk n=(if n/1000000000=0 then decDigits (n % 1000000000)else List.replicate (9-(decDigits (n % 1000000000)).length) 48++decDigits (n % 1000000000))::chk (n/1000000000):=by
 by_cases hs:n<1000000000
 ·rw[chk_small hs,if_neg h,if_pos (Nat.div_eq_of_lt hs),Nat.mod_eq_of_lt hs,Nat.div_eq_of_lt hs,chk_small (by decide),if_pos rfl]
 ·rw[chk_big hs,if_neg (by omega)]
theorem chk_len {k:Nat}:∀{n:Nat},n<1000000000^k→(chk n).length≤k:=by
 induction k with
 |zero=>intro n h;rw[show n=0 by simpa using h,chk_small (by decide)];simp
 |succ k ih=>
  intro n h
  by_cases h0:n=0
  ·rw[h0,chk_small (by decide)];simp
  ·rw[chk_step h0,List.length_cons];have:=ih (n:=n/1000000000) (Nat.div_lt_of_lt_mul (by rw[Nat.pow_succ,Nat.mul_comm]at h;exact h));omega
theorem chk_flat {n:Nat}:∀l∈chk n,l.length≤9:=by
 induction n using Nat.strongRecOn with
 |_ n ih=>
  intro l hl
  by_cases h0:n=0
  ·rw[h0,chk_small (by decide)]at hl;simp at hl
  ·rw[chk_step h0]at hl;have hd:=dd_len (u:=n % 1000000000) (k:=8) (by omega);rcases List.mem_cons.1 hl with rfl|hl
   ·split
    ·exact hd
    ·rw[List.length_append,List.length_replicate];omega
   ·exact ih _ (Nat.div_lt_self (by omega) (by decide)) l hl
theorem flat_le {l:List (List UInt8)}(h:∀x∈l,x.length≤9):l.flatten.length≤9*l.length:=by
 induction l with
 |nil=>simp
 |cons x l ih=>
  rw[List.flatten_cons,List.length_append,List.length_cons];have:=h x List.mem_cons_self;have:=ih fun y hy=>h y (List.mem_cons_of_mem _ hy);omega
theorem chk_sz {n L:Nat}(h:sz n≤L):(chk n).length≤2*L:=by
 refine chk_len (Nat.lt_of_lt_of_le (lt_pow_sz n) (tL_ (Nat.pow_le_pow_right (by decide) h) ?_));rw[Nat.pow_mul];exact Nat.pow_le_pow_left (by decide) _
theorem join_nil (l:List (List UInt8)):Lib.join l []=l.flatten:=by
 unfold Lib.join
 induction l with
 |nil=>rfl
 |cons x l ih=>
  cases l with
  |nil=>simp[List.intercalate]
  |cons y l=>
   simp only[List.intercalate,List.intersperse]at ih ⊢;simp only[List.flatten_cons,List.nil_append]at ih ⊢;rw[ih]
theorem rep48 (c:Nat):Lib.repeatL [48] c=List.replicate c 48:=by
 induction c with
 |zero=>rfl
 |succ c ih=>rw[Lib.repeatL,ih];rfl
theorem sh_rep0 (c:Nat)(w:World)(hc:c≤9):Calls Tryz.prog 203 #[.string ⟨#[48]⟩,.int .i64 c] w fun e w'=>e= .returned (.string ⟨(List.replicate c (48:UInt8)).toArray⟩)∧Below w.heap.size w w':=by
 have:=sh_repeat ⟨#[48]⟩ c w (by omega) (by show 1*c≤_;omega)
 rwa [show(⟨#[48]⟩:ByteArray).data.toList=[48]from rfl,rep48]at this
theorem ba_app (a b:Array UInt8):((⟨a⟩:ByteArray)++⟨b⟩)=⟨a++b⟩:=by
 refine ByteArray.ext ?_;rw[ByteArray.data_append]
theorem ba_rep (k:Nat)(l:List UInt8):Value.string ((⟨Array.replicate k 48⟩:ByteArray)++⟨l.toArray⟩)=encStr (List.replicate k 48++l):=by
 rw[ba_app];show Value.string _=Value.string _
 congr 2
 simp
def lenV:Value→Nat
 | .slice _ n _=>n
 |_=>0
theorem i_str:(Tryz.prog.info? 9).map (fun i=>(i.zero,i.size,i.bytes))=some (some (.string ⟨#[]⟩),1,16):=by kernel_rfl
theorem u_strs:Tryz.prog.underlying 225=some (.slice 9):=by kernel_rfl
theorem below_ahead {B:Nat}{a w:World}(h:RowKit.Below B a w)(n:Nat):RowKit.Below B a (Sort.ahead w n):=⟨h.os,h.tape,h.output,h.size,h.block⟩
theorem below_putRow {α:Type}[Inhabited α]{enc:α→Value}{B:Nat}{a w:World}(h:RowKit.Below B a w){blk off:Nat}{d:Array α}(hb:B≤blk):RowKit.Below B a (putRow enc w blk off d):=by
 refine⟨h.os,h.tape,h.output,?_,fun k hk=> ?_⟩
 ·show a.heap.size≤(w.heap.modify blk _).size;rw[Array.size_modify];exact h.size
 ·show(w.heap.modify blk _)[k]? =_;rw[Array.getElem?_modify,if_neg (by omega)];exact h.block k hk
theorem row_below {w w':World}{base:Nat}{e:TypeId}{k n:Nat}{v:Value}{xs:List Value}(h:w.ownsRow base e k v n xs)(hb:RowKit.Below w.heap.size w w'):w'.ownsRow base e k v n xs:=by
 obtain⟨h1,⟨hv,hn⟩|⟨g,cap,cur,hv,hbg,hh,r⟩⟩:=h
 ·exact⟨h1,.inl ⟨hv,hn⟩⟩
 ·exact⟨h1,.inr ⟨g,cap,cur,hv,hbg,(hb.block g (lt_of_block hh)).trans hh,r⟩⟩
def NoU (w:World)(v:Value):Prop:=∀g,v.ownBlock=some g→∀j z,w.cell? ⟨g,j,none⟩≠some (.int .u32 z)
theorem NoU.below {w w':World}{v:Value}(h:NoU w v)(hb:RowKit.Below w.heap.size w w')(hl:∀g,v.ownBlock=some g→g<w.heap.size):NoU w' v:=fun g hg j z=>by
 rw[World.cell?_of_block (w:=w) (a:=⟨g,j,none⟩) (hb.block g (hl g hg))];exact h g hg j z
theorem sl_noU {w w':World}{v u:Value}{xs:List Nat}(h:Sl w v xs)(hu:NoU w u)(hg:w.grownBy w' u.ownBlock):Sl w' v xs:=by
 obtain⟨ad,n,cap,rfl,h1,h2,h3,h4,h5⟩:=h;refine⟨ad,n,cap,rfl,h1,h2,h3,h4,fun h0=> ?_⟩;obtain⟨b,off,e,hlt,hc⟩:=h5 h0;refine⟨b,off,e,Nat.lt_of_lt_of_le hlt hg.size,fun i hi=> ?_⟩;rw[World.cell?_of_block (w:=w) (a:=⟨b,off+i,none⟩) (hg.block b hlt fun e'=>hu b e'.symm _ _ (hc i hi))];exact hc i hi
theorem wp_app_str {P:Program}{w:World}{ops:Array Oper}{rest:List Oper}{o:Oper}{a:Act}{Q:Exit→Act→World→Prop}(hgd:o.guard=none)(s x:Operand)(t:TypeId)
  (ho:o.op= .call {callee:= .builtin .append,args:= #[s,x],argTypes:= #[t,t]})
  (base:Nat) (e:TypeId) (i:TypeInfo) (ht:P.underlying t=some (.slice e)) (hi:P.info? e=some i) (hz:i.zero=some (.string ⟨#[]⟩)) (hsize:i.size=1) (hby:i.bytes=16)
  (v:Value) (n:Nat) (xs:List Value) (hs:a.eval s=v) (hown:w.ownsRow base e 1 v n xs) (hno:NoU w v)
  (ab ao:Nat) (c:Nat) (l:ByteArray) (hx:a.eval x= .slice (some ⟨ab,ao,none⟩) 1 c) (hnew:w.cell? ⟨ab,ao,none⟩=some (.string l))
  (hn:n≤1000000000000) (hbase:base≤w.heap.size)
  (h:∀v' w',w'.ownsRow base e 1 v' (n+1) (xs++[.string l])→w.grownBy w' v.ownBlock→NoU w' v'→wpList P ops Q rest (a.put o.dst v') w'):wpList P ops Q (o::rest) a w:=by
 obtain⟨ad,had⟩:∃ad:Addr,ad=⟨ab,ao,none⟩:=⟨_,rfl⟩;rw[←had]at hx hnew
 have hnews:∀j u,[Value.string l][j]? =some u→w.cell? (ad.add j)=some u:=fun j u hj=>by
  rcases j with _|j
  ·simp at hj;subst hj;subst had;exact hnew
  ·simp at hj
 have h1:∀u∈[Value.string l],u.oneCell'=true:=fun u hu=>by rw[List.mem_singleton.1 hu];rfl
 have hmax:n+1≤maxLen:=by unfold maxLen;omega
 obtain⟨v',w',hr,h2,h3,_⟩:=run_append_own (P:=P) w base t o.type e i _ 1 16 ht hi hz hsize hby rfl (by decide) v n xs hown ad 1 c [.string l] rfl hnews h1 hmax (by omega) hbase;refine wpList_plain hgd fun _ hK=> ?_;unfold Oper.wp execOp;simp only[ho,resolve,invoke,builtin,Sem.run_bind,Sem.run_pure,Result.andThen_ok,List.map_toArray,List.map_cons,List.map_nil,hs,hx,hr];refine hK _ _ (h v' w' h2 h3 ?_)
 have hzu:∀(k m:Nat) x,(Builtin.zeroCells (Value.string ⟨#[]⟩).cells k)[m]? =some x→∀q:Int,x≠ .int .u32 q:=fun k m x hx=>zeroCells_u32 (by decide) (fun x hx q e=>by
  rw[show(Value.string ⟨#[]⟩).cells= #[.string ⟨#[]⟩]from rfl]at hx;simp at hx;rw[hx]at e;cases e) m x hx
 have new:∀(cs:Array Value),(∀(m:Nat) x,cs[m]? =some x→∀q:Int,x≠ .int .u32 q)→∀(n c:Nat) (w0:World),w0.heap.size=w.heap.size→NoU (w0.alloc (.cells cs e)) (.slice (some ⟨w.heap.size,0,none⟩) n c):=fun cs hc n c w0 hw g hg j z hcell=>by
  simp only[Value.ownBlock,Option.some.injEq]at hg;subst hg;rw[←hw,World.cell?_alloc_new]at hcell;exact hc _ _ hcell z rfl
 have strs:∀(m:Nat) x,(#[Value.string l]:Array Value)[m]? =some x→∀q:Int,x≠ .int .u32 q:=fun m x hx q e=>by
  rcases m with _|m
  ·simp at hx;rw[←hx]at e;cases e
  ·simp at hx
 rcases hown.2 with⟨rfl,rfl⟩|⟨g,cap,cur,rfl,hbg,hg,hnc,hcm,hcs,htake⟩
 ·have hx0:xs=[]:=List.eq_nil_of_length_eq_zero (by simpa using hown.1);subst hx0;have hr':=run_append_nil (P:=P) w t o.type e i _ ht hi hz ad 1 c [.string l] (by rw[hsize];rfl) hnews (by decide) (by omega) (by omega);have:=hr.symm.trans hr';injection this with e1 e2;subst e1 e2;refine new _ (fun m x hx=> ?_) _ _ _ rfl;rw[Array.getElem?_append]at hx;split at hx
  ·exact strs m x hx
  ·exact hzu _ _ x hx
 ·have hcur:∀(m:Nat) x,cur[m]? =some x→∀q:Int,x≠ .int .u32 q:=fun m x hx q e=>by
   refine hno g rfl m q ?_;simp only[World.cell?,hg];rw[←e];exact hx
  have hxs:∀(m:Nat) x,xs[m]? =some x→∀q:Int,x≠ .int .u32 q:=fun m x hx=>by
   rw[←htake,List.getElem?_take]at hx;split at hx
   ·exact hcur m x (by simpa using hx)
   ·cases hx
  by_cases hroom:n+1≤cap
  ·have hr':=run_append_room (P:=P) w t o.type e i ht hi g n cap cur hg ad 1 c [.string l] (by rw[hsize];rfl) hnews h1 hroom (by rw[hsize,hcs];simp;omega);have:=hr.symm.trans hr';injection this with e1 e2;subst e1 e2;intro g' hg' j z hcell;simp only[Value.ownBlock,Option.some.injEq]at hg';subst hg';simp only[World.cell?,setRow_heap w g cur _ e _ hg,List.getElem?_toArray]at hcell
   have hc':∀x∈cur.toList,∀q:Int,x≠ .int .u32 q:=fun x hx=>by
    obtain⟨m,hm⟩:=List.getElem?_of_mem hx;exact hcur m x (by simpa using hm)
   rcases List.mem_append.1 (mG_ hcell)with h5|h5
   ·rcases List.mem_append.1 h5 with h5|h5
    ·exact hc' _ (List.mem_of_mem_take h5) z rfl
    ·simp at h5
   ·exact hc' _ (List.mem_of_mem_drop h5) z rfl
  ·have holds:∀j u,xs[j]? =some u→w.cell? ((⟨g,0,none⟩:Addr).add j)=some u:=hown.cells (g:=g) rfl;have hr':=run_append_grow (P:=P) w t o.type e i _ ht hi hz ⟨g,0,none⟩ n cap xs (by rw[hsize];exact hown.1) holds ad 1 c [.string l] (by rw[hsize];rfl) hnews (by omega) (by omega) (growslice_fits (by omega) (by rw[hby];omega));have:=hr.symm.trans hr';injection this with e1 e2;subst e1 e2;refine new _ (fun m x hx=> ?_) _ _ _ rfl;rw[Array.getElem?_append]at hx;split at hx
   ·rw[Array.getElem?_append]at hx;split at hx
    ·exact hxs m x (by simpa using hx)
    ·exact strs _ x (by simpa using hx)
   ·exact hzu _ _ x hx
theorem row_lenV {w:World}{base:Nat}{e:TypeId}{k n:Nat}{v:Value}{xs:List Value}(h:w.ownsRow base e k v n xs):lenV v=n:=by
 obtain⟨h1,⟨hv,hn⟩|⟨g,cap,cur,hv,r⟩⟩:=h
 ·rw[hv,hn];rfl
 ·rw[hv];rfl
def DcI (n0 L:Nat)(w wr:World)(nv pv:Value):Prop:=∃(m:Nat) (done:List (List UInt8)),chk n0=done++chk m∧Can m L wr nv∧wr.ownsRow w.heap.size 9 1 pv done.length (done.map encStr)∧NoU wr pv∧RowKit.Below w.heap.size w wr
theorem sh_decimal {n0 L:Nat}{v:Value}{M:MS}{w:World}(hG:Glb M w)(hn:Can n0 L w v)(hL:L≤100000000):
  Calls Tryz.prog 178 #[v] w fun e w'=>e= .returned (.string ⟨(dcS n0).toArray⟩)∧RowKit.Below w.heap.size w w':=by
 obtain⟨ad,len,cap,rfl,hlen,hrest⟩:=hn.1
 by_cases h0:n0=0
 ·have:len=0:=by rw[←hlen,h0,limbs_zero];rfl
  subst this
  go_enter Tryz.func178,Tryz.ntmps178
  go_wp2
  go_ret
  exact⟨by rw[dcS,if_pos h0];rfl,RowKit.Below.refl _ _⟩
 ·have hp:0<len:=by rw[←hlen];exact sz_pos (by omega)
  obtain⟨i0,hi,hz0,hz1,hz2⟩:=info_parts i_str;have hcl:=chk_sz hn.2;have hc1:1≤(chk n0).length:=by rw[chk_step h0];simp
  go_enter Tryz.func178,Tryz.ntmps178
  go_wp2_with (go_at_call 139;refine(of_can (x:=1000000000) (by decide)).mono ?_;rintro e w1 ⟨bv,rfl,hbn,hb1⟩)
  go_loopw [0,4] (fun nv pv wr=>DcI n0 L w1 wr nv pv) (fun nv pv _=>(chk n0).length-lenV pv)
  case atStart=>exact⟨n0,[],rfl,hn.below hb1,World.ownsRow_nil _ _ _ _,(fun g hg=>by cases hg),RowKit.Below.refl _ _⟩
  case round=>
   obtain⟨m,done,hch,hm,hrow,hno,hB1⟩:=hrel;have hB:RowKit.Below w.heap.size w wr:=hb1.trans (hB1.mono hb1.size);have hln:=row_lenV hrow;obtain⟨a2,l2,c2,rfl,hl2,hr2⟩:=hm.1
   by_cases hm0:m=0
   ·subst hm0;obtain rfl:l2=0:=by rw[←hl2,limbs_zero];rfl
    rw[show chk 0=[] by rw[chk_small (by decide),if_pos rfl],List.append_nil]at hch;obtain⟨_,⟨_,hd0⟩|⟨g,cap,cur,rfl,hbg,hg,hnc,hcm,hcs,htk⟩⟩:=hrow
    ·rw[hch]at hc1;omega
    have hgl:=lt_of_block hg
    have hH:Holds encStr wr g 0 done.toArray:=fun j hj=>by
     have hj':j<done.length:=by simpa using hj
     have e1:cur[j]? =some (encStr (done[j]'hj')):=by
      have h5:(cur.toList.take (done.length*1))[j]? =cur[j]?:=by
       rw[List.getElem?_take,if_pos (by rw[Nat.mul_one];exact hj')];simp
      rw[←h5,htk,List.getElem?_map,List.getElem?_eq_getElem hj'];rfl
     refine⟨?_,?_⟩
     ·simp only[World.cell?,hg,Nat.zero_add];rw[e1,getElem!_pos _ j hj];simp
     ·simp[World.frozen?,hg]
    have hdn:done.length≤2*L:=by rw[hch]at hcl;exact hcl
    have hj2:=sh_reverse g 0 cap done wr hH (by omega);have hres:Lib.join ((done.reverse.map fun l=>(⟨l.toArray⟩:ByteArray)).map (·.data.toList)) []=done.reverse.flatten:=by
     rw[List.map_map,join_nil]
     congr 1
     exact(List.map_congr_left fun l _=>rfl).trans (List.map_id _)
    have hj3:∀nd,Calls Tryz.prog 205 #[.slice (some ⟨g,0,none⟩) done.length cap,.string ⟨#[]⟩] (putRow encStr (Sort.ahead wr nd) g 0 done.reverse.toArray) fun e w'=>e= .returned (.string ⟨(dcS n0).toArray⟩)∧RowKit.Below (putRow encStr (Sort.ahead wr nd) g 0 done.reverse.toArray).heap.size (putRow encStr (Sort.ahead wr nd) g 0 done.reverse.toArray) w':=fun nd=>by
     have:=sh_join g 0 cap (done.reverse.map fun l=>(⟨l.toArray⟩:ByteArray)) ⟨#[]⟩ (putRow encStr (Sort.ahead wr nd) g 0 done.reverse.toArray) (fun j x hx=>by
      rw[List.getElem?_map]at hx;obtain⟨l,hl,rfl⟩:=Option.map_eq_some_iff.1 hx;have hj:j<done.reverse.toArray.size:=by simpa using at_lt hl
      rw[cell?_putRow encStr (Sort.ahead wr nd) g 0 done.toArray done.reverse.toArray hH (by simp) j hj];have e2:done.reverse.toArray[j]! =l:=by
       rw[getElem!_pos _ j hj];have:=List.getElem?_eq_some_iff.1 hl;obtain⟨h6,h7⟩:=this;simpa using h7
      rw[e2])
      (by show g<(putRow encStr (Sort.ahead wr nd) g 0 done.reverse.toArray).heap.size;show g<((Sort.ahead wr nd).heap.modify g _).size;rw[Array.size_modify];exact hgl) (by simp;omega) (by simp;omega)
      (by rw[hres];have:=flat_le (l:=done.reverse) (fun x hx=>chk_flat (n:=n0) x (by rw[hch];exact List.mem_reverse.1 hx));rw[List.length_reverse]at this;omega)
     rw[List.length_map,List.length_reverse,show(⟨#[]⟩:ByteArray).data.toList=[]from rfl,hres]at this;rw[dcS,if_neg h0,hch];exact this
    go_wp2_with (first
     |(go_at_call 204;refine hj2.mono ?_;rintro e w2 ⟨rfl,nd,rfl⟩)
     |(go_at_call 205;refine(hj3 nd).mono ?_;rintro e w3 ⟨rfl,hb3⟩))
    go_ret
    refine⟨rfl,?_⟩;have hb2:RowKit.Below w.heap.size w (putRow encStr (Sort.ahead wr nd) g 0 done.reverse.toArray):=below_putRow (below_ahead hB nd) (tL_ hb1.size hbg);exact hb2.trans (hb3.mono hb2.size)
   ·have hl20:0<l2:=by rw[←hl2];exact sz_pos (by omega)
    have hbn':Can 1000000000 2 wr bv:=hbn.below hB1;have hmod:m % 1000000000<18446744073709551616:=by omega
    have hst:=chk_step hm0;have hdl:(done++chk m).length=(chk n0).length:=by rw[hch]
    rw[List.length_append,hst,List.length_cons]at hdl;have hd9:=dd_len (u:=m % 1000000000) (k:=8) (by omega)
    by_cases hq0:m/1000000000=0
    ·rw[if_pos hq0]at hst
     go_wp2_with (first
      |(go_at_call 182;refine(divmod_pos (by decide) hm.is (hbn'.is) (by omega)).mono ?_;rintro e w2 ⟨_,rfl,⟨qv,rv,rfl,hq,hr⟩,hb2⟩;obtain⟨aq,lq,cq,rfl,hlq,_⟩:=hq.1;obtain rfl:lq=0:=by rw[←hlq,hq0,limbs_zero];rfl)
      |(go_at_call 201;refine(uint_can hmod hr).mono ?_;rintro e w3 ⟨_,rfl,rfl,hb3⟩;have hB3:RowKit.Below w.heap.size w w3:=hB.trans ((hb2.trans (hb3.mono hb2.size)).mono hB.size))
      |(go_at_call 202;refine(sh_fmt hmod (hG.fx (fx_belowB hB3))).mono ?_;rintro e w4 ⟨rfl,hb4⟩;have hb24:RowKit.Below wr.heap.size wr w4:=hb2.trans ((hb3.trans (hb4.mono hb3.size)).mono hb2.size);have hB4:RowKit.Below w1.heap.size w1 w4:=hB1.trans (hb24.mono hB1.size);have hrow4:=row_below hrow hb24;have hno4:=hno.below hb24 fun g hg=>(hrow.lt g hg).2)
      |(at_builtin;refine wp_app_str rfl _ _ 225 rfl w1.heap.size 9 i0 u_strs hi hz0 hz1 hz2 _ _ _ rfl (hrow4.alloc _) (hno4.below ((RowKit.Below.refl _ _).alloc (lR_ _) _) fun g hg=>(hrow4.lt g hg).2) w4.heap.size 0 1 ⟨(decDigits (m % 1000000000)).toArray⟩ rfl (cell_one_new _ _ _ 0 _ rfl) (by omega) (by have:=hB4.size;simp;omega) ?_;intro v' w5 hown' hgrow hno5))
     have hB5:RowKit.Below w1.heap.size w1 w5:=(hB4.alloc hB4.size _).grown hgrow (by have:=hB4.size;simp;omega) fun k e=>(hrow4.lt k e).1;have hq4:=(hq.below (hb3.trans (hb4.mono hb3.size))).below ((RowKit.Below.refl _ w4).alloc (lR_ _) (.cells #[encStr (decDigits (m % 1000000000))] 9));have hq5:Can (m/1000000000) L w5 (.slice aq 0 cq):=⟨sl_noU hq4.1 (hno4.below ((RowKit.Below.refl _ _).alloc (lR_ _) _) fun g hg=>(hrow4.lt g hg).2) hgrow,hq4.2⟩;have hln':=row_lenV hown';refine⟨⟨m/1000000000,done++[decDigits (m % 1000000000)],by rw[hch,hst,List.append_assoc];rfl,hq5,by rw[List.length_append,List.map_append];exact hown',hno5,hB5⟩,?_⟩;rw[hln',hln];omega
    ·rw[if_neg hq0]at hst;have e9:(9:Int)-((decDigits (m % 1000000000)).length:Int)=((9-(decDigits (m % 1000000000)).length:Nat):Int):=by omega
     go_wp2_with (first
      |(go_at_call 182;refine(divmod_pos (by decide) hm.is (hbn'.is) (by omega)).mono ?_;rintro e w2 ⟨_,rfl,⟨qv,rv,rfl,hq,hr⟩,hb2⟩;obtain⟨aq,lq,cq,rfl,hlq,_⟩:=hq.1;have hlq0:0<lq:=by rw[←hlq];exact sz_pos (by omega))
      |(go_at_call 201;refine(uint_can hmod hr).mono ?_;rintro e w3 ⟨_,rfl,rfl,hb3⟩;have hB3:RowKit.Below w.heap.size w w3:=hB.trans ((hb2.trans (hb3.mono hb2.size)).mono hB.size))
      |(go_at_call 202;refine(sh_fmt hmod (hG.fx (fx_belowB hB3))).mono ?_;rintro e w4 ⟨rfl,hb4⟩;have hb24:RowKit.Below wr.heap.size wr w4:=hb2.trans ((hb3.trans (hb4.mono hb3.size)).mono hb2.size);have hB4:RowKit.Below w1.heap.size w1 w4:=hB1.trans (hb24.mono hB1.size);have hrow4:=row_below hrow hb24;have hno4:=hno.below hb24 fun g hg=>(hrow.lt g hg).2)
      |(go_at_call 203;refine(sh_rep0 _ _ (by omega)).mono ?_;rintro e w5 ⟨rfl,hb5⟩;have hb25:RowKit.Below wr.heap.size wr w5:=hb24.trans (hb5.mono hb24.size);have hB5:RowKit.Below w1.heap.size w1 w5:=hB1.trans (hb25.mono hB1.size);have hrow5:=row_below hrow hb25;have hno5:=hno.below hb25 fun g hg=>(hrow.lt g hg).2)
      |(at_builtin;refine wp_app_str rfl _ _ 225 rfl w1.heap.size 9 i0 u_strs hi hz0 hz1 hz2 _ _ _ rfl (hrow5.alloc _) (hno5.below ((RowKit.Below.refl _ _).alloc (lR_ _) _) fun g hg=>(hrow5.lt g hg).2) w5.heap.size 0 1 _ rfl (cell_one_new _ _ _ 0 _ rfl) (by omega) (by have:=hB5.size;simp;omega) ?_;intro v' w6 hown' hgrow hno6))
     have hB6:RowKit.Below w1.heap.size w1 w6:=(hB5.alloc hB5.size _).grown hgrow (by have:=hB5.size;simp;omega) fun k e=>(hrow5.lt k e).1;have hq5:=(hq.below (hb3.trans ((hb4.trans (hb5.mono hb4.size)).mono hb3.size))).below ((RowKit.Below.refl _ w5).alloc (lR_ _) (.cells #[Value.string ((⟨Array.replicate (9-(decDigits (m % 1000000000)).length) 48⟩:ByteArray)++⟨(decDigits (m % 1000000000)).toArray⟩)] 9));have hq6:Can (m/1000000000) L w6 (.slice aq lq cq):=⟨sl_noU hq5.1 (hno5.below ((RowKit.Below.refl _ _).alloc (lR_ _) _) fun g hg=>(hrow5.lt g hg).2) hgrow,hq5.2⟩;have hln':=row_lenV hown';rw[ba_rep]at hown';refine⟨⟨m/1000000000,done++[List.replicate (9-(decDigits (m % 1000000000)).length) 48++decDigits (m % 1000000000)],by rw[hch,hst,List.append_assoc];rfl,hq6,by rw[List.length_append,List.map_append];exact hown',hno6,hB6⟩,?_⟩;rw[hln',hln];omega
open Go.Lib (decDigits)
abbrev strV (l:List UInt8):Value:= .string ⟨l.toArray⟩
theorem lx_decimal {n:Nat}(h:sz n≤100000000):LV Tryz.prog 178 [.a (.d (.nat n))] (vl (strV (dcS n))):=lv_ofG fun γ M w rs hG ha=>by
 obtain⟨r,rfl,hr⟩:=all2_1 ha;refine(sh_decimal hG ⟨rd_sl hr,h⟩ (lR_ _)).mono ?_;rintro e w' ⟨rfl,hb⟩;exact⟨_,rfl,rfl,hb⟩
theorem dcS_len {n L:Nat}(h:sz n≤L):(dcS n).length≤18*L+1:=by
 unfold dcS;split
 ·simp
 ·have h1:=chk_sz h;have h2:=flat_le (l:=(chk n).reverse) fun x hx=>chk_flat (n:=n) x (List.mem_reverse.1 hx);rw[List.length_reverse]at h2;omega
theorem str_size (l:List UInt8):(⟨l.toArray⟩:ByteArray).size=l.length:=by simp[ByteArray.size]
theorem str_app (a b:List UInt8):((⟨a.toArray⟩:ByteArray)++⟨b.toArray⟩)=⟨(a++b).toArray⟩:=by rw[ba_app];simp
theorem sz_q {q:Rat}{k:Nat}(h:Bt k q)(hk:k/32+1≤100000000):sz q.num.natAbs≤100000000∧sz (dn q)≤100000000:=by
 refine⟨tL_ (sz_pow2 h.1) hk,tL_ (sz_pow2 (k:=k) ?_) hk⟩;unfold dn;split
 ·exact zL_ _
 ·exact h.2
theorem lx_size {q:Rat}(h:Sz q):LV Tryz.prog 124 [.agg (can q).A] (vl (strV (szT q))):=by
 obtain⟨k1,k2⟩:=sz_q h (by decide);clear h;have l1:=dcS_len k1;have l2:=dcS_len k2;refine LX_run (m:=0) (n0:=0) mix Tryz.func124 rfl rfl rfl rfl ?_;conv=>whnf
 refine .c (lx_decimal k1) ?_;conv=>whnf
 refine bs (fun g0=> ?_) (fun g0=> ?_)
 ·have hd:dn q=q.den∧q.den≠1:=by
   have:(((limbs (dn q)).length:Nat):Int)>0:=of_decide_eq_true g0;unfold dn at this ⊢;split at this
   ·rw[limbs_zero]at this;simp at this
   ·rename_i h;rw[if_neg h];exact⟨rfl,h⟩
  conv=>whnf
  refine .c (lx_decimal k2) ?_;conv=>whnf
  refine .mk ⟨(47::dcS (dn q)).toArray⟩ (by rw[str_size];show 1+(⟨(dcS (dn q)).toArray⟩:ByteArray).size≤_;rw[str_size];omega) (str_app [47] (dcS (dn q))).symm ?_;conv=>whnf
  refine .mk ⟨(dcS q.num.natAbs++47::dcS (dn q)).toArray⟩ (by rw[str_size,str_size,List.length_cons];omega) (str_app _ _).symm ?_;conv=>whnf
  have e:dcS q.num.natAbs++47::dcS (dn q)=szT q:=by rw[szT,if_neg hd.2,hd.1]
  rw[e];exact .q ⟨rfl,rfl⟩
 ·have hd:q.den=1:=by
   have:=of_decide_eq_false g0;rcases Classical.em (q.den=1)with h|h
   ·exact h
   ·exfalso;apply this;have h5:=limbs_ne_nil (n:=dn q) (by unfold dn;rw[if_neg h];exact q.den_pos);have:0<(limbs (dn q)).length:=List.length_pos_iff.2 h5;show(((limbs (dn q)).length:Nat):Int)>0;omega
  conv=>whnf
  have e:dcS q.num.natAbs=szT q:=by rw[szT,if_pos hd,List.append_nil]
  rw[e];exact .q ⟨rfl,rfl⟩
open Go.Lib (decDigits IsBuilder BuilderAt byteCells strCells byteCells_append byteCells_length)
abbrev Bld (b:Nat)(l:List UInt8)(w:World):Prop:=IsBuilder 170 5 b b (byteCells l) w
theorem Bld.below {b:Nat}{l:List UInt8}{w w':World}(h:Bld b l w)(hb:RowKit.Below w.heap.size w w'):Bld b l w':=by
 have key:∀p,BuilderAt 170 5 b b p (byteCells l) w→BuilderAt 170 5 b b p (byteCells l) w':=fun p h=>by
  obtain⟨h1,v,h2,h3,h4⟩:=h;exact⟨h1,v,(hb.block b (lt_of_block h2)).trans h2,row_below h3 hb,h4⟩
 exact h.elim (fun h=> .inl (key _ h)) fun h=> .inr (key _ h)
theorem Bld.lt {b:Nat}{l:List UInt8}{w:World}(h:Bld b l w):b<w.heap.size:=h.elim (·.lt) (·.lt)
theorem Bld.new (w:World):Bld w.heap.size [] (w.alloc (.cells #[.pointer none,.slice none 0 0] 170)):=
 .inl ⟨lR_ _,_,heap_alloc_new w _,World.ownsRow_nil _ _ _ _,by simp[Value.ownBlock]⟩
theorem sh_len {b:Nat}{l:List UInt8}{w:World}(h:Bld b l w):Calls Tryz.prog 121 #[.pointer (some ⟨b,0,none⟩)] w fun e w'=>e= .returned (.int .i64 (l.length:Nat))∧w'=w:=by
 have:=Any.Builder_Len L170 b b (byteCells l) w h;rw[byteCells_length]at this;exact this
theorem sh_write {b:Nat}{l t:List UInt8}{w:World}(h:Bld b l w)(hl:l.length+t.length≤140737488355328):Calls Tryz.prog 122 #[.pointer (some ⟨b,0,none⟩),strV t] w fun e w'=>(∃r,e= .returned r)∧Bld b (l++t) w'∧RowKit.Below b w w':=by
 have:=Any.Builder_WriteString L166 LEx b b (byteCells l) ⟨t.toArray⟩ w h (by rw[byteCells_length,str_size];exact hl) (Nat.le_of_lt h.lt);refine this.mono ?_;rintro e w' ⟨rfl,h1,h2⟩;exact⟨⟨_,rfl⟩,.inr (by rw[byteCells_append];exact h1),h2⟩
theorem sh_string {b:Nat}{l:List UInt8}{w:World}(h:Bld b l w):Calls Tryz.prog 125 #[.pointer (some ⟨b,0,none⟩)] w fun e w'=>e= .returned (strV l)∧RowKit.Below b w w':=
 Any.Builder_String_any L169 LEx b b l w h (Nat.le_of_lt h.lt)
theorem tx_part {b:Nat}{l t:List UInt8}{neg:Bool}{w:World}(h:Bld b l w)(hl:l.length+3+t.length≤140737488355328):
  Calls Tryz.prog 120 #[.bool neg,strV t,.pointer (some ⟨b,0,none⟩)] w fun e w'=>(∃r,e= .returned r)∧Bld b (l++(sgT (decide (l=[])) neg++t)) w'∧RowKit.Below b w w':=by
 have hlt:=h.lt
 by_cases h0:l=[]
 ·subst h0
  cases neg with
  |true=>
   go_enter Tryz.func120,Tryz.ntmps120
   go_wp2_with (first
    |(go_at_call 121;refine(sh_len h).mono ?_;rintro e w' ⟨rfl,rfl⟩)
    |(go_at_call 122;refine(sh_write (t:=t) h1 (by first|(simp;done)|(simp;omega)|omega)).mono ?_;rintro e w2 ⟨⟨r2,rfl⟩,h2,hb2⟩)
    |(go_at_call 122;refine(sh_write (t:=[45]) h (by first|(simp;done)|(simp;omega)|omega)).mono ?_;rintro e w1 ⟨⟨r1,rfl⟩,h1,hb1⟩))
   go_end0
   exact⟨⟨_,rfl⟩,h2,hb1.trans hb2⟩
  |false=>
   go_enter Tryz.func120,Tryz.ntmps120
   go_wp2_with (first
    |(go_at_call 121;refine(sh_len h).mono ?_;rintro e w' ⟨rfl,rfl⟩)
    |(go_at_call 122;refine(sh_write (t:=t) h (by omega)).mono ?_;rintro e w2 ⟨⟨r2,rfl⟩,h2,hb2⟩))
   go_end0
   exact⟨⟨_,rfl⟩,h2,hb2⟩
 ·have hp:0<l.length:=List.length_pos_iff.2 h0;have hz:(((l.length:Nat):Int)==0)=false:=by simp;omega
  cases neg with
  |true=>
   go_enter Tryz.func120,Tryz.ntmps120
   go_wp2_with (first
    |(go_at_call 121;refine(sh_len h).mono ?_;rintro e w' ⟨rfl,rfl⟩)
    |(go_at_call 122;refine(sh_write (t:=t) h1 (by first|(simp;done)|(simp;omega)|omega)).mono ?_;rintro e w2 ⟨⟨r2,rfl⟩,h2,hb2⟩)
    |(go_at_call 122;refine(sh_write (t:=[32,45,32]) h (by first|(simp;done)|(simp;omega)|omega)).mono ?_;rintro e w1 ⟨⟨r1,rfl⟩,h1,hb1⟩))
   go_end0
   exact⟨⟨_,rfl⟩,by rw[decide_eq_false h0,←List.append_assoc];exact h2,hb1.trans hb2⟩
  |false=>
   go_enter Tryz.func120,Tryz.ntmps120
   go_wp2_with (first
    |(go_at_call 121;refine(sh_len h).mono ?_;rintro e w' ⟨rfl,rfl⟩)
    |(go_at_call 122;refine(sh_write (t:=t) h1 (by first|(simp;done)|(simp;omega)|omega)).mono ?_;rintro e w2 ⟨⟨r2,rfl⟩,h2,hb2⟩)
    |(go_at_call 122;refine(sh_write (t:=[32,43,32]) h (by first|(simp;done)|(simp;omega)|omega)).mono ?_;rintro e w1 ⟨⟨r1,rfl⟩,h1,hb1⟩))
   go_end0
   exact⟨⟨_,rfl⟩,by rw[decide_eq_false h0,←List.append_assoc];exact h2,hb1.trans hb2⟩
open Go.Lib (decDigits IsBuilder BuilderAt byteCells strCells byteCells_append byteCells_length)
abbrev M0:MS:=fun _ _=>False
def γ0:Gh:=fun _=>undef
theorem rel0 {M:MS}{w:World}(h:Glb M w):Rel γ0 (look []) M0 w:=
 ⟨fun key e he=>absurd he (by simp[look]),fun key b i ho=>by simp[Owns,look]at ho,fun k1 k2 b l1=>by simp[look,live]at l1,fun b i n h=>h.elim,fun b i h=>h.elim,h.fx fun b i v k=>⟨fun h=>h,k.2⟩⟩
theorem toM0 {M:MS}{w:World}{d:D}{v:Value}(h:RdD M w d v):RdD M0 w d v:=h.fx fun b i v k=>⟨fun h=>h,k.2⟩
theorem lv_lit {P:Program}{F:FuncId}{args:List V}{u:Value}(h:LV P F args (vl u)){M:MS}{w:World}{rs:List Value}(hG:Glb M w)(ha:All2 (RdV γ0 (look []) M0 w) args rs):
  Calls P F rs.toArray w fun e w'=>e= .returned u∧RowKit.Below w.heap.size w w':=by
 obtain⟨v',H',⟨rfl,rfl⟩,hc⟩:=h;refine cM (hc γ0 M0 w rs (rel0 hG) ha) ?_;rintro e w' ⟨r,γ',M',h1,h2,h3,h4⟩;exact⟨by rw[h1,show r=u from lit_inv h3],h4.os,h4.tape,h4.output,h4.size,fun k hk=>h4.other k hk fun key i ho=>by simp[Owns,look]at ho⟩
theorem tlT_snoc (l:List (Bool×List UInt8))(p:Bool×List UInt8):tlT (l++[p])=tlT l++(sgT false p.1++p.2):=by simp[tlT]
theorem rdT_snoc {l:List (Bool×List UInt8)}(h:∀p∈l,PtOkT p)(p:Bool×List UInt8):rdT (l++[p])=rdT l++(sgT (decide (rdT l=[])) p.1++p.2):=by
 cases l with
 |nil=>simp[rdT,tlT]
 |cons q l=>
  have hne:rdT (q::l)≠[]:=by
   obtain⟨d,r,e,_⟩:=(h q List.mem_cons_self).hd;simp[rdT,e]
  rw[decide_eq_false hne,List.cons_append,rdT,rdT,tlT_snoc];simp[List.append_assoc]
abbrev prT (t:Tm):Bool×List UInt8:=(decide (t.q<0),tmT t)
def acT (f:Af)(i:Nat):List UInt8:=rdT ((f.ts.take i).map prT)
theorem prT_ok {t:Tm}:PtOkT (prT t):=⟨tmT_ch.1,tmT_ch.2⟩
theorem acT_succ {f:Af}{i:Nat}{t:Tm}(h:f.ts[i]? =some t):acT f (i+1)=acT f i++(sgT (decide (acT f i=[])) (decide (t.q<0))++tmT t):=by
 unfold acT;rw[take_snoc h,List.map_append,List.map_cons,List.map_nil,rdT_snoc];intro p hp;obtain⟨t,_,rfl⟩:=List.mem_map.1 hp;exact prT_ok
theorem txt_end (f:Af):txt f=if f.c≠0∨f.ts=[]then acT f f.ts.length++(sgT (decide (acT f f.ts.length=[])) (decide (f.c<0))++szT f.c)else acT f f.ts.length:=by
 unfold txt ptT acT;rw[List.take_length];split
 ·rw[rdT_snoc];intro p hp;obtain⟨t,_,rfl⟩:=List.mem_map.1 hp;exact prT_ok
 ·rw[List.append_nil]
theorem acT_nil {f:Af}:acT f f.ts.length=[]↔f.ts=[]:=by
 unfold acT;rw[List.take_length]
 cases hts:f.ts with
 |nil=>simp[rdT]
 |cons t ts=>
  obtain⟨d,r,e,_⟩:=(prT_ok (t:=t)).hd;simp only[List.map_cons,rdT];constructor
  ·intro h;have:=congrArg List.length h;rw[show tmT t=d::r from e]at this;simp at this
  ·intro h;cases h
theorem szT_len {q:Rat}(h:Sz q):(szT q).length≤4000000000:=by
 obtain⟨k1,k2⟩:=sz_q h (by decide);clear h;have l1:=dcS_len k1;have l2:=dcS_len k2;unfold szT;rw[List.length_append];split
 ·simp;omega
 ·rename_i hd;unfold dn at l2;rw[if_neg hd]at l2;rw[List.length_cons];omega
theorem dd_100 {v:Nat}(h:v<100):(decDigits v).length≤2:=dd_len (k:=1) (by omega)
theorem tmT_len {t:Tm}(h:Sz t.q)(hv:t.v<100):(tmT t).length≤4000000010:=by
 have h1:=szT_len h;have h2:=dd_100 (v:=t.v.toNat) (by omega);unfold tmT;rw[List.length_append,List.length_cons];split
 ·simp;omega
 ·rw[List.length_append];simp;omega
theorem sg_len (b c:Bool):(sgT b c).length≤3:=by cases b<;>cases c<;>decide
theorem acT_len {f:Af}(h:∀t∈f.ts,Sz t.q∧t.v<100):∀i,i≤f.ts.length→(acT f i).length≤i*4000000013
 |0,_=>by simp[acT,rdT]
 |i+1,hi=>by
  obtain⟨t,ht⟩:=at_some (l:=f.ts) (i:=i) (by omega);obtain⟨h1,h2⟩:=h t (mG_ ht);have h3:=acT_len h i (by omega);have h4:=tmT_len h1 h2;have h5:=sg_len (decide (acT f i=[])) (decide (t.q<0));rw[acT_succ ht,List.length_append,List.length_append];clear h1;omega
open Go.Lib (decDigits IsBuilder BuilderAt byteCells strCells byteCells_append byteCells_length)
theorem sh_itoa {v:Nat}(h:v<100)(w:World):Calls Tryz.prog 123 #[.int .i64 (v:Nat)] w fun e w'=>e= .returned (strV (decDigits v))∧w'=w:=Any.strconv_Itoa_small L171 v h w
theorem sh_size {q:Rat}(h:Sz q){M:MS}{w:World}(hG:Glb M w){ng nm dv:Value}(k0:RdD M w (.lit (.bool (decide (q<0)))) ng)(k1:RdD M w (.nat q.num.natAbs) nm)(k2:RdD M w (.nat (dn q)) dv):
  Calls Tryz.prog 124 #[.agg #[ng,nm,dv]] w fun e w'=>e= .returned (strV (szT q))∧RowKit.Below w.heap.size w w':=
 lv_lit (rs:=[.agg #[ng,nm,dv]]) (lx_size h) hG ⟨⟨[ng,nm,dv],rfl,toM0 k0,toM0 k1,toM0 k2,trivial⟩,trivial⟩
theorem tx_text {f:Af}{M:MS}{w:World}(hG:Glb M w)(hn:f.ts.length≤1000)(ht:∀t∈f.ts,Sz t.q∧0≤t.v∧t.v<100)(hc:Sz f.c)
  {ts ng nm dv:Value} (k0:RdD M w (.sl 4 (f.ts.map Tm.D)) ts) (k1:RdD M w (.lit (.bool (decide (f.c<0)))) ng) (k2:RdD M w (.nat f.c.num.natAbs) nm) (k3:RdD M w (.nat (dn f.c)) dv):
  Calls Tryz.prog 69 #[.agg #[ts,ng,nm,dv]] w fun e w'=>e= .returned (strV (txt f))∧RowKit.Below w.heap.size w w':=by
 obtain⟨ad,cap,vs,rfl,hcap,hl,hadr,hone,hrd⟩:∃(ad:Option Addr) (cap:Nat) (vs:Nat→Nat→Value),ts= .slice ad f.ts.length cap∧f.ts.length≤cap∧f.ts.length≤1099511627776∧
   (0<f.ts.length→∃b o,ad=some ⟨b,o,none⟩∧∀(i:Nat) (row:List D) (j:Nat) (d:D),(f.ts.map Tm.D)[i]? =some row→row[j]? =some d→Fx M w b (o+i*4+j) (vs i j))∧
   (∀i j,(vs i j).oneCell'=true)∧∀(i:Nat) (row:List D) (j:Nat) (d:D),(f.ts.map Tm.D)[i]? =some row→row[j]? =some d→RdD M w d (vs i j):=by
  cases k0 with
  |sl _ _ ad cap vs hc hl h0 hk h1 hr=>
   rw[List.length_map]at hc hl h0;exact⟨ad,cap,vs,by rw[List.length_map],hc,hl,h0,h1,hr⟩
 obtain rfl:=lit_inv k1;obtain⟨an,ln,cn,rfl,hln,_⟩:=rd_sl k2;obtain⟨add,ld,cd,rfl,hld,_⟩:=rd_sl k3
 have hlen:∀i,i≤f.ts.length→(acT f i).length≤1000*4000000013:=fun i hi=>
  tL_ (acT_len (fun t h=>⟨(ht t h).1,(ht t h).2.2⟩) i hi) (Nat.mul_le_mul_right _ (by omega))
 obtain⟨W1,hW1⟩:∃W1,w.alloc (.cells #[.slice ad f.ts.length cap,.bool (decide (f.c<0)),.slice an ln cn,.slice add ld cd] 79)=W1:=⟨_,rfl⟩;obtain⟨W2,hW2⟩:∃W2,W1.alloc (.cells #[.pointer none,.slice none 0 0] 170)=W2:=⟨_,rfl⟩;have hs1:W1.heap.size=w.heap.size+1:=by rw[←hW1];simp
 have hb1:RowKit.Below w.heap.size w W1:=by rw[←hW1];exact(RowKit.Below.refl _ _).alloc (lR_ _) _
 have hb2:RowKit.Below W1.heap.size W1 W2:=by rw[←hW2];exact(RowKit.Below.refl _ _).alloc (lR_ _) _
 have hbx:W1.heap[w.heap.size]? =some (.cells #[.slice ad f.ts.length cap,.bool (decide (f.c<0)),.slice an ln cn,.slice add ld cd] 79 (0,0)):=by rw[←hW1];exact heap_alloc_new w _
 have hB2:Bld (w.heap.size+1) [] W2:=by rw[←hs1,←hW2];exact Bld.new W1
 have cf:∀{W':World},W'.heap[w.heap.size]? =W1.heap[w.heap.size]?→W'.cell? ⟨w.heap.size,0,none⟩=some (.slice ad f.ts.length cap)∧W'.cell? ⟨w.heap.size,1,none⟩=some (.bool (decide (f.c<0)))∧W'.cell? ⟨w.heap.size,2,none⟩=some (.slice an ln cn)∧W'.cell? ⟨w.heap.size,3,none⟩=some (.slice add ld cd):=fun h=>by
  have:=h.trans hbx;simp only[World.cell?,this];exact⟨rfl,rfl,rfl,rfl⟩
 obtain⟨d0,d1,d2,d3⟩:=cf (W':=W2) (hb2.block _ (by omega))
 go_enter Tryz.func69,Tryz.ntmps69
 go_wp2_with (first|rw[hW1]|rw[hW2]|fail)
 go_loopw [13] (fun iv wr=>∃i:Nat,i≤f.ts.length∧iv= .int .i64 i∧Bld (w.heap.size+1) (acT f i) wr∧RowKit.Below (w.heap.size+1) W2 wr) (fun iv _=>f.ts.length-(intOf iv).toNat)
 case atStart=>exact⟨0,zL_ _,rfl,hB2,RowKit.Below.refl _ _⟩
 case round=>
  obtain⟨i,hi,rfl,hB,hbr⟩:=hrel;clear d0 d1 d2 d3;obtain⟨d0,d1,d2,d3⟩:=cf (W':=wr) ((hbr.block _ (by omega)).trans (hb2.block _ (by omega)))
  by_cases hlt:i<f.ts.length
  ·obtain⟨t,hti⟩:=at_some hlt;obtain⟨hq,hv0,hv1⟩:=ht t (mG_ hti);obtain⟨tb,o,rfl,hfx⟩:=hadr (by omega);obtain⟨v,hv⟩:∃v:Nat,t.v=v:=⟨t.v.toNat,by omega⟩;have hrow:(f.ts.map Tm.D)[i]? =some t.D:=at_map hti;have hBw:RowKit.Below w.heap.size w wr:=hb1.trans ((hb2.trans (hs1▸hbr)).mono hb1.size);have hGr:Glb M wr:=hG.fx (fx_belowB hBw)
   have cl:∀(j:Nat) d,t.D[j]? =some d→wr.cell? ⟨tb,o+i*4+j,none⟩=some (vs i j)∧RdD M wr d (vs i j):=fun j d hj=>
    ⟨(fx_belowB hBw _ _ _ (hfx i _ j d hrow hj)).2,RdD.fx (fx_belowB hBw) (hrd i _ j d hrow hj)⟩
   obtain⟨e0,r0⟩:=cl 0 _ rfl;obtain⟨e1,r1⟩:=cl 1 _ rfl;obtain⟨e2,r2⟩:=cl 2 _ rfl;obtain⟨e3,r3⟩:=cl 3 _ rfl;have q0:=lit_inv r0;have q1:=lit_inv r1;obtain⟨a2,l2,c2,q2,_⟩:=rd_sl r2;obtain⟨a3,l3,c3,q3,_⟩:=rd_sl r3;rw[q2]at r2;rw[q3]at r3;rw[q0,hv,Nat.add_zero]at e0;rw[q1]at e1;rw[q2]at e2;rw[q3]at e3;clear cl r0 r1 q0 q1 q2 q3 hfx;obtain⟨W3,hW3⟩:∃W3,wr.alloc (.cells #[.int .i64 (v:Nat),.bool (decide (t.q<0)),.slice a2 l2 c2,.slice a3 l3 c3] 107)=W3:=⟨_,rfl⟩;have hb3:RowKit.Below wr.heap.size wr W3:=by rw[←hW3];exact(RowKit.Below.refl _ _).alloc (lR_ _) _
   have hbx3:W3.heap[wr.heap.size]? =some (.cells #[.int .i64 (v:Nat),.bool (decide (t.q<0)),.slice a2 l2 c2,.slice a3 l3 c3] 107 (0,0)):=by rw[←hW3];exact heap_alloc_new wr _
   have hs3:W3.heap.size=wr.heap.size+1:=by rw[←hW3];simp
   have cg:∀{W':World},RowKit.Below W3.heap.size W3 W'→W'.cell? ⟨wr.heap.size,0,none⟩=some (.int .i64 (v:Nat))∧W'.cell? ⟨wr.heap.size,1,none⟩=some (.bool (decide (t.q<0)))∧W'.cell? ⟨wr.heap.size,2,none⟩=some (.slice a2 l2 c2)∧W'.cell? ⟨wr.heap.size,3,none⟩=some (.slice a3 l3 c3):=fun h=>by
    have:=(h.block _ (by omega)).trans hbx3;simp only[World.cell?,this];exact⟨rfl,rfl,rfl,rfl⟩
   obtain⟨m0,m1,m2,m3⟩:=cg (RowKit.Below.refl _ _);have hv1':v<100:=by omega
   have hsz:=sh_size hq (hGr.fx (fx_belowB hb3)) (.lit _) (RdD.fx (fx_belowB hb3) r2) (RdD.fx (fx_belowB hb3) r3);have hB3:=hB.below hb3;have hal:=hlen i hi;have htl:=tmT_len hq (show t.v<100 by omega);have hdl:=dd_100 hv1';have hno1:¬9223372036854775807<1+(decDigits v).length:=by omega
   have hsl:=szT_len hq
   have fin:∀{W5:World},Bld (w.heap.size+1) (acT f i++(sgT (decide (acT f i=[])) (decide (t.q<0))++tmT t)) W5→RowKit.Below (w.heap.size+1) wr W5→(∃i_1:Nat,i_1≤f.ts.length∧Value.int IntKind.i64 ((i:Int)+1)=Value.int IntKind.i64 (i_1:Int)∧Bld (w.heap.size+1) (acT f i_1) W5∧RowKit.Below (w.heap.size+1) W2 W5)∧
     f.ts.length-(intOf (Value.int IntKind.i64 ((i:Int)+1))).toNat<f.ts.length-(intOf (Value.int IntKind.i64 (i:Int))).toNat:=fun h1 h2=>
    ⟨⟨i+1,hlt,by rw[Int.natCast_add];rfl,by rw[acT_succ hti];exact h1,hbr.trans h2⟩,by simp only[intOf];omega⟩
   by_cases h1:szT t.q=[49]
   ·have eT:((⟨#[120]⟩:ByteArray)++⟨(decDigits v).toArray⟩)=⟨(tmT t).toArray⟩:=by
     rw[tmT,if_pos h1,hv,Int.toNat_natCast];exact str_app [120] _
    go_wp2_with (first
     |rw[hW3]
     |(go_at_call 123;refine(sh_itoa hv1' _).mono ?_;rintro e w' ⟨rfl,rfl⟩)
     |(go_at_call 124;refine hsz.mono ?_;rintro e W4 ⟨rfl,hb4⟩;have hB4:=hB3.below hb4;obtain⟨n0,n1,n2,n3⟩:=cg hb4)
     |(go_at_call 120;refine(tx_part (t:=tmT t) hB4 (by clear hq hc hsz;omega)).mono ?_;rintro e W5 ⟨⟨r5,rfl⟩,hB5,hb5⟩))
    exact fin hB5 ((hb3.trans (hb4.mono hb3.size)).mono (Nat.le_of_lt hB.lt) |>.trans hb5)
   ·have eT:((⟨(szT t.q).toArray⟩:ByteArray)++⟨#[42]⟩++(⟨#[120]⟩++⟨(decDigits v).toArray⟩))=⟨(tmT t).toArray⟩:=by
     rw[tmT,if_neg h1,hv,Int.toNat_natCast,str_app (szT t.q) [42],str_app [120] (decDigits v),str_app];rfl
    have hb:(!szT t.q==[49])=true:=by simp[h1]
    have hno2:¬9223372036854775807<(szT t.q).length+1:=by omega
    have hno3:¬9223372036854775807<(szT t.q).length+1+(1+(decDigits v).length):=by omega
    go_wp2_with (first
     |rw[hW3]
     |(go_at_call 123;refine(sh_itoa hv1' _).mono ?_;rintro e w' ⟨rfl,rfl⟩)
     |(go_at_call 124;refine hsz.mono ?_;rintro e W4 ⟨rfl,hb4⟩;have hB4:=hB3.below hb4;obtain⟨n0,n1,n2,n3⟩:=cg hb4)
     |(go_at_call 120;refine(tx_part (t:=tmT t) hB4 (by clear hq hc hsz;omega)).mono ?_;rintro e W5 ⟨⟨r5,rfl⟩,hB5,hb5⟩))
    exact fin hB5 ((hb3.trans (hb4.mono hb3.size)).mono (Nat.le_of_lt hB.lt) |>.trans hb5)
  ·obtain rfl:i=f.ts.length:=by omega
   have hBw:RowKit.Below w.heap.size w wr:=hb1.trans ((hb2.trans (hs1▸hbr)).mono hb1.size);have hGr:Glb M wr:=hG.fx (fx_belowB hBw);have hend:=txt_end f;have hac:=acT_nil (f:=f);have hal:=hlen f.ts.length (lR_ _);have hsl:=szT_len hc;have hlz:0<ln↔f.c≠0:=by
    rw[←hln];constructor
    ·intro h h0;rw[h0]at h;rw[show(0:Rat).num.natAbs=0 from rfl,limbs_zero]at h;simp at h
    ·intro h;refine sz_pos (Nat.pos_of_ne_zero fun h0=>h ?_);have:=Rat.num_eq_zero (q:=f.c);exact this.1 (Int.natAbs_eq_zero.1 h0)
   have hwb:w.heap.size<wr.heap.size:=Nat.lt_of_succ_lt hB.lt;have hbd:RowKit.Below wr.heap.size wr wr.drew:=(RowKit.Below.refl _ _).drew;have hBd:=hB.below hbd;have hBwd:RowKit.Below w.heap.size w wr.drew:=hBw.trans (hbd.mono hBw.size);have hszd:=sh_size hc (hG.fx (fx_belowB hBwd)) (.lit _) (RdD.fx (fx_belowB hBwd) k2) (RdD.fx (fx_belowB hBwd) k3);have hk:wr.heap[w.heap.size]? =W1.heap[w.heap.size]?:=(hbr.block _ (by omega)).trans (hb2.block _ (by omega));have hk4:∀{W4:World},RowKit.Below wr.drew.heap.size wr.drew W4→W4.heap[w.heap.size]? =W1.heap[w.heap.size]?:=fun h=>(h.block _ hwb).trans hk;have hk5:∀{W4 W5:World},W4.heap[w.heap.size]? =W1.heap[w.heap.size]?→RowKit.Below (w.heap.size+1) W4 W5→W5.heap[w.heap.size]? =W1.heap[w.heap.size]?:=fun h h'=>(h'.block _ (by omega)).trans h
   have bel:∀{W4 W5 W6:World},RowKit.Below wr.drew.heap.size wr.drew W4→RowKit.Below (w.heap.size+1) W4 W5→RowKit.Below (w.heap.size+1) W5 W6→RowKit.Below w.heap.size w W6:=fun h4 h5 h6=>
    hBwd.trans ((h4.mono (Nat.le_of_lt hwb)).trans ((h5.trans h6).mono (by omega)))
   by_cases hcond:f.c≠0∨f.ts=[]
   ·rw[if_pos hcond]at hend;have Hend:=lH hend
    by_cases hlp:0<ln
    ·clear hcond hend hlz hac
     go_wp2_with fail
     go_region_held3 (fun w'=>w'.cell? ⟨w.heap.size,0,none⟩=some (.slice ad f.ts.length cap)∧w'.cell? ⟨w.heap.size,1,none⟩=some (.bool (decide (f.c<0)))∧w'.cell? ⟨w.heap.size,2,none⟩=some (.slice an ln cn)∧w'.cell? ⟨w.heap.size,3,none⟩=some (.slice add ld cd))
      (first|exact cf (hk5 (hk4 hb4) hb5)|exact cf (hk4 hb4)|go_keep)
      (first
      |(go_at_call 124;refine hszd.mono ?_;rintro e W4 ⟨rfl,hb4⟩;have hB4:=hBd.below hb4;obtain⟨n0,n1,n2,n3⟩:=cf (hk4 hb4))
      |(go_at_call 120;refine(tx_part (t:=szT f.c) hB4 (by clear hc hszd;omega)).mono ?_;rintro e W5 ⟨⟨r5,rfl⟩,hB5,hb5⟩;obtain⟨p0,p1,p2,p3⟩:=cf (hk5 (hk4 hb4) hb5)))
     go_wp2_with (go_at_call 125;refine(sh_string hB5).mono ?_;rintro e W6 ⟨rfl,hb6⟩)
     go_ret
     exact⟨by rw[Hend.out];rfl,bel hb4 hb5 hb6⟩
    ·have hz:(acT f f.ts.length).length=0:=by
      rcases hcond with h|h
      ·exact absurd (hlz.2 h) hlp
      ·rw[hac.2 h];rfl
     obtain rfl:ln=0:=Nat.eq_zero_of_not_pos hlp;have Hz:=lH hz;clear hcond hend hlz hac hlp hz
     go_wp2_with (go_at_call 121;refine(sh_len hB).mono ?_;rintro e w' ⟨rfl,rfl⟩;rw[Hz.out])
     go_region_held3 (fun w'=>w'.cell? ⟨w.heap.size,0,none⟩=some (.slice ad f.ts.length cap)∧w'.cell? ⟨w.heap.size,1,none⟩=some (.bool (decide (f.c<0)))∧w'.cell? ⟨w.heap.size,2,none⟩=some (.slice an 0 cn)∧w'.cell? ⟨w.heap.size,3,none⟩=some (.slice add ld cd))
      (first|exact cf (hk5 (hk4 hb4) hb5)|exact cf (hk4 hb4)|go_keep)
      (first
      |(go_at_call 124;refine hszd.mono ?_;rintro e W4 ⟨rfl,hb4⟩;have hB4:=hBd.below hb4;obtain⟨n0,n1,n2,n3⟩:=cf (hk4 hb4))
      |(go_at_call 120;refine(tx_part (t:=szT f.c) hB4 (by clear hc hszd;omega)).mono ?_;rintro e W5 ⟨⟨r5,rfl⟩,hB5,hb5⟩;obtain⟨p0,p1,p2,p3⟩:=cf (hk5 (hk4 hb4) hb5)))
     go_wp2_with (go_at_call 125;refine(sh_string hB5).mono ?_;rintro e W6 ⟨rfl,hb6⟩)
     go_ret
     exact⟨by rw[Hend.out];rfl,bel hb4 hb5 hb6⟩
   ·rw[if_neg hcond]at hend;have hl0:ln=0:=Nat.eq_zero_of_not_pos fun h=>hcond (.inl (hlz.1 h));have hz:(((acT f f.ts.length).length:Int)==0)=false:=by
     have:acT f f.ts.length≠[]:=fun h=>hcond (.inr (hac.1 h));have:=List.length_pos_iff.2 this;simp;omega
    have Hend:=lH hend;subst hl0;clear hcond hend hlz hac
    go_wp2_with (first
     |(go_at_call 121;refine(sh_len hB).mono ?_;rintro e w' ⟨rfl,rfl⟩)
     |(go_at_call 125;refine(sh_string hB).mono ?_;rintro e W6 ⟨rfl,hb6⟩))
    go_ret
    exact⟨by rw[Hend.out];rfl,hBw.trans (hb6.mono (tL_ hb1.size (by omega)))⟩
open Go.Maps
theorem lx_text {f:Af}(hn:f.ts.length≤1000)(ht:∀t∈f.ts,Sz t.q∧0≤t.v∧t.v<100)(hc:Sz f.c):LV Tryz.prog 69 [.agg f.A] (vl (strV (txt f))):=lv_ofG fun γ M w rs hG ha=>by
 obtain⟨r,rfl,vs,rfl,hr⟩:=all2_1 ha
 match vs,hr with
 |[a,b,c,d],hr=>
  refine(tx_text hG hn ht hc hr.1 hr.2.1 hr.2.2.1 hr.2.2.2.1).mono ?_;rintro e w' ⟨rfl,hb⟩;exact⟨_,rfl,rfl,hb⟩
def idxT:List Af→List UInt8→Option Nat
 |[],_=>none
 |f::l,s=>if txt f=s then some 0 else(idxT l s).map (· +1)
theorem idxT_some:∀{l:List Af} {s:List UInt8} {k:Nat},idxT l s=some k→∃f,l[k]? =some f∧txt f=s
 |[],_,_,h=>by cases h
 |f::l,s,k,h=>by
  unfold idxT at h;split at h
  ·rename_i e;injection h with h;subst h;exact⟨f,rfl,e⟩
  ·obtain⟨j,hj,rfl⟩:=Option.map_eq_some_iff.1 h;obtain⟨g,h1,h2⟩:=idxT_some hj;exact⟨g,by simpa using h1,h2⟩
theorem idxT_snoc (f:Af)(s:List UInt8):∀l:List Af,idxT (l++[f]) s=match idxT l s with
  |some k=>some k
  |none=>if txt f=s then some l.length else none
 |[]=>by simp[idxT]
 |g::l=>by
  rw[List.cons_append,idxT,idxT];split
  ·rfl
  ·rw[idxT_snoc f s l]
   cases idxT l s with
   |some k=>rfl
   |none=>
    simp only[Option.map_none,List.length_cons];split<;>rfl
def MpT (D:DataW Unit)(l:List Af):Prop:=IsMap D∧∀s zd,D.atKey (.string s) zd=match idxT l s with
 |some k=> .lit (.int .i64 (k:Nat))
 |none=>zd
theorem MpT.put {D:DataW Unit}{l:List Af}{f:Af}(h:MpT D l)(h0:idxT l (txt f)=none):MpT (D.put (.string (txt f)) (.lit (.int .i64 (l.length:Nat)))) (l++[f]):=by
 refine⟨h.1.put _ _,fun s zd=> ?_⟩;rw[idxT_snoc]
 by_cases e:txt f=s
 ·subst e;rw[h0,if_pos rfl];exact atKey_put_same h.1 (show WideAt.IsKeyLit (.string (txt f))from trivial) _ _
 ·rw[if_neg e,atKey_put_other (by intro e2;injection e2 with e2;exact e e2.symm),h.2]
  cases idxT l s<;>rfl
def dupS (n:Nat):Nat→Nat→List Af→List Af→List Af×List Af
 |0,_,us,os=>(us,os)
 |k+1,i,us,os=>match us[i]? with
  |none=>(us,os)
  |some f=>match idxT (us.take i) (txt f)with
   |some j=>dupS n k i (repU n i (varS ((n+j:Nat):Int)) us) (os.map (repF ((n+i:Nat):Int) (varS ((n+j:Nat):Int))))
   |none=>dupS n k (i+1) us os
theorem dupS_end {n k i:Nat}{us os:List Af}(h:us.length≤i):dupS n k i us os=(us,os):=by
 cases k with
 |zero=>rfl
 |succ k=>rw[dupS,List.getElem?_eq_none h]
theorem dup_by {L n i j k:Nat}(h:j<i):By L k ((n+i:Nat):Int) (varS ((n+j:Nat):Int)):=By.var (Int.natCast_nonneg _) (Int.ofNat_lt.2 (by omega))
theorem dup_gs {L n i j:Nat}{us os us' os':List Af}{f:Af}(hL:LOk L)(h:GS L n us os us' os')(hf:us'[i]? =some f)(hj:idxT (us'.take i) (txt f)=some j):
  j<i∧GS L n us os (repU n i (varS ((n+j:Nat):Int)) us') (os'.map (repF ((n+i:Nat):Int) (varS ((n+j:Nat):Int)))):=by
 obtain⟨g,h1,h2⟩:=idxT_some hj;have hji:j<i:=by have:=at_lt h1;rw[List.length_take]at this;omega
 rw[List.getElem?_take,if_pos hji]at h1;have hv:∀(k:Nat) (f:Af),us'[k]? =some f→∀t∈f.ts,0≤t.v:=fun k f hk t ht=>(((h.gk.uf k f hk).ts.cof_mem t ht).2.1);have e:g=f:=txt_inj (hv _ _ h1) (hv _ _ hf) h2;subst e;refine⟨hji,h.rep hL (at_lt hf) (dup_by hji) (.inl fun ξ hξ=> ?_)⟩;rw[hξ i g hf,ph_var,hξ j g h1]
theorem dupS_gs {L n:Nat}{us os:List Af}(hL:LOk L):∀(k i:Nat) (us' os':List Af),GS L n us os us' os'→GS L n us os (dupS n k i us' os').1 (dupS n k i us' os').2
 |0,_,_,_,h=>h
 |k+1,i,us',os',h=>by
  rw[dupS];split
  ·exact h
  ·rename_i f hf;split
   ·rename_i j hj;exact dupS_gs hL k i _ _ (dup_gs hL h hf hj).2
   ·exact dupS_gs hL k (i+1) _ _ h
theorem repU_take {n i:Nat}{b:Af}{us:List Af}(h:i≤us.length):(repU n i b us).take i=us.take i:=by
 unfold repU;rw[List.take_append_of_le_length (by rw[List.length_take];omega),List.take_take,Nat.min_self]
theorem u_msi:Tryz.prog.underlying 115=some (.map 9 3):=by kernel_rfl
theorem u_str9:Tryz.prog.underlying 9=some .string:=by kernel_rfl
theorem u_int3:Tryz.prog.underlying 3=some (.int .i64):=by kernel_rfl
theorem z_int3:(Tryz.prog.info? 3).bind (·.zero)=some (Lit.int .i64 0).value:=by kernel_rfl
abbrev mxT (n:Nat)(D:DataW Unit):MPred:=MXp Tryz.prog 9 3 n D
theorem key_str {l:List UInt8}(h:l.length≤1000000000000000):keyOf Tryz.prog 9 (strV l)=some (.string l):=by
 have:=Go.WideMaps.keyOf_string_mk (P:=Tryz.prog) (k:=9) u_str9 (s:=⟨l.toArray⟩) (by rw[str_size];unfold maxLen;omega);simpa using this
theorem dup_no {n:Nat}{D:DataW Unit}{l:List Af}{s:List UInt8}(h:MpT D l)(hs:s.length≤1000000000000000)(h0:idxT l s=none):LkNo Tryz.prog 115 (mxT n D) (strV s) 9 3 n D (.string s) (.int .i64 0):=
 ⟨u_msi,string_keyed u_str9,rfl,key_str hs,z_int3,fun zd=>by rw[h.2,h0]⟩
theorem dup_yes {n k:Nat}{D:DataW Unit}{l:List Af}{s:List UInt8}(h:MpT D l)(hs:s.length≤1000000000000000)(h0:idxT l s=some k):LkYes Tryz.prog 115 (mxT n D) (strV s) 9 3 n D (.string s) (.int .i64 0) (.int .i64 (k:Nat)):=
 ⟨u_msi,string_keyed u_str9,rfl,key_str hs,z_int3,fun zd=>by rw[h.2,h0],fun v ps h=>plain_int_inv h⟩
theorem dup_mu {n:Nat}{D:DataW Unit}{s:List UInt8}{k:Nat}(hs:s.length≤1000000000000000)(hk:k≤1000000)(hn:n≤1000000):MuOk Tryz.prog 115 (mxT n D) (strV s) (.int .i64 (k:Nat)) 9 3 n D (.string s) (.int .i64 (k:Nat)):=
 ⟨u_msi,string_keyed u_str9,rfl,key_str hs,plainElem_int u_int3 (WalkArith.wf_i64 (by omega)),by unfold maxLen;omega⟩
theorem txt_len {f:Af}(hn:f.ts.length≤1000)(ht:∀t∈f.ts,Sz t.q∧0≤t.v∧t.v<100)(hc:Sz f.c):(txt f).length≤1000000000000000:=by
 have h1:=acT_len (fun t h=>⟨(ht t h).1,(ht t h).2.2⟩) f.ts.length (lR_ _);have h2:=Nat.mul_le_mul_right 4000000013 hn;have h3:=szT_len hc;have h4:=sg_len (decide (acT f f.ts.length=[])) (decide (f.c<0));rw[txt_end];clear hc ht;split
 ·rw[List.length_append,List.length_append];omega
 ·omega
theorem FLv.txt {L e k:Nat}{n:Int}{f:Af}(hL:LOk L)(h:FLv L e k n f)(he:e≤100000)(hk:k≤100000)(hn:n≤100)(h0:0≤n):f.ts.length≤1000∧(∀t∈f.ts,Sz t.q∧0≤t.v∧t.v<100)∧Sz f.c:=by
 refine⟨by have:=h.ts.len h0;omega,fun t ht=> ?_,h.c.z hL hk⟩;obtain⟨c1,c2,c3,c4⟩:=h.ts.cof_mem t ht;have:=(h.co t.v).z hL he;rw[c1]at this;exact⟨this,c2,by omega⟩
theorem varS_wk {key:Nat}{v:Int}:WkV (.agg [.own key 4 [Tm.D ⟨v,((1:Int):Rat)⟩],.d (.lit (.bool false)),.d (.nat 0),.d (.nat 0)]) (.agg (varS v).A):=by
 show WkV _ (.agg (A.d _::(can 0).A));rw[can0];exact WkV.agg ⟨WkA.own,aR_ _,aR_ _,aR_ _,trivial⟩
theorem lx_dups {L n:Nat}{us os:List Af}(hL:LOk L)(h:Gk L n us os)(hn':n≤24)(ho':os.length≤24):
  LV Tryz.prog 35 [.agg (grA n us os)] (.agg (grA n (dupS n 60 0 us os).1 (dupS n 60 0 us os).2)):=by
 have hu:=h.u;refine LX_run (m:=0) (n0:=0) mix Tryz.func35 rfl rfl rfl rfl ?_;conv=>whnf
 refine .mk 9 3 ?_;conv=>whnf
 refine .mk (Nat×Nat×List Af×List Af×DataW Unit) (fun b=>⟨[(4,vl (.int .i64 (b.2.1:Nat))),(3,.a (.mp 2)),(2,.a (.ptr 1 0)),(1,.a (.ptr 0 0))],
  [(0,.box 36 (grA n b.2.2.1 b.2.2.2.1)),(1,.box 36 [.d (.lit (.int .i64 0)),.d (.lit (.slice none 0 0)),.d (.lit (.slice none 0 0))]),(2,.mp (mxT b.2.1 b.2.2.2.2))],3⟩)
  (fun b=>dupS n b.1 b.2.1 b.2.2.1 b.2.2.2.1=dupS n 60 0 us os∧2*b.2.2.1.length≤b.1+b.2.1∧b.2.1≤b.2.2.1.length∧GS L n us os b.2.2.1 b.2.2.2.1∧MpT b.2.2.2.2 (b.2.2.1.take b.2.1)) (fun b=>b.1) (60,0,us,os,.map []) Wk.go ⟨rfl,by simp only;omega,zL_ _,GS.refl h,isMap_empty,fun s zd=>rfl⟩ fun⟨k,i,us',os',D⟩ ⟨h1,h2,h3,h4,h5⟩=> ?_
 simp only at h1 h2 h3 h4 h5;have hu':=h4.gk.u;conv=>whnf
 refine bs (fun g0=> ?_) (fun g0=> ?_)
 ·conv=>whnf
  have hi':i<us'.length:=by simpa using g0
  obtain⟨k,rfl⟩:∃k',k=k'+1:=⟨k-1,by omega⟩;obtain⟨f,hf⟩:=at_some hi';rw[dupS,hf]at h1;simp only at h1;obtain⟨t1,t2,t3⟩:=(h4.gk.uf' hL hf).txt hL (by decide) (by decide) (by omega) (Int.natCast_nonneg _);have tl:=txt_len t1 t2 t3;have ct:=lx_text t1 t2 t3;clear t2 t3;refine .mk (i) (f.D) (rfl) (at_map hf) ?_;conv=>whnf
  conv=>whnf
  refine .c (ct) ?_;conv=>whnf
  cases hx:idxT (us'.take i) (txt f)with
  |some j=>
   obtain⟨hji,hgs⟩:=dup_gs hL h4 hf hx;have by_:=dup_by (L:=L) (n:=n) (k:=kL us'.length) hji;have hrl:(repU n i (varS ((n+j:Nat):Int)) us').length=us'.length-1:=repU_len hi';have htk:(repU n i (varS ((n+j:Nat):Int)) us').take i=us'.take i:=repU_take h3;have ew:IntKind.i64.wrap ((n:Int)+(j:Int))=((n+j:Nat):Int):=by rw[←Int.natCast_add,wrN (by omega)]
   rw[hx]at h1;simp only at h1;refine .yes _ _ _ _ _ _ _ (dup_yes h5 tl hx) ?_;conv=>whnf
   refine .c (lx_rof (z:=1) (by decide) (by decide)) ?_;conv=>whnf
   rw[ew];refine Cn.as (lx_repl (j:=i) hL h4 hn' ho' hi' by_) rfl ⟨vR_ _,vR_ _,varS_wk,trivial⟩ rfl rfl ?_;conv=>whnf
   refine .mk (by kernel_rfl) ?_;conv=>whnf
   generalize repU n i (varS ((n+j:Nat):Int)) us'=U at *
   exact⟨(k,i,U,_,D),Wk.go,⟨h1,by simp only;omega,by simp only;omega,hgs,by simp only;rw[htk];exact h5⟩,by simp only;omega⟩
  |none=>
   rw[hx]at h1;simp only at h1;have hl:(us'.take i).length=i:=by rw[List.length_take];omega
   have hpt:=h5.put hx;rw[hl,←take_snoc hf]at hpt;have ei:IntKind.i64.wrap ((i:Int)+1)=((i+1:Nat):Int):=by rw[wr64 (by omega) (by omega)];omega
   refine .no _ _ _ _ _ _ (dup_no h5 tl hx) ?_;conv=>whnf
   refine .mk _ _ _ _ _ _ (dup_mu (n:=i) (k:=i) tl (by omega) (by omega)) ?_;conv=>whnf
   rw[show((((k+1,i,us',os',D):Nat×Nat×List Af×List Af×DataW Unit).2.1:Nat):Int)=(i:Int)from rfl,ei];exact⟨(k,i+1,us',os',_),Wk.go,⟨h1,by simp only;omega,hi',h4,hpt⟩,by simp only;omega⟩
 ·conv=>whnf
  have hi':us'.length≤i:=by simpa using g0
  rw[dupS_end hi']at h1;rw[←h1];exact .q ⟨rfl,rfl⟩
end Go.Proofs.YtbegidaaiajffaaGreatDoor.Lf
namespace Go.Proofs.YtbegidaaiajffaaGreatDoor.Lf
open Go.RowKit Nt
attribute [local go_sem] Oper.semAt_some
def StA (gb:Nat)(ad:Option Addr)(tb o m cap:Nat)(vs:Nat→Nat→Value)(W:World):Prop:=W.cell? ⟨gb,0,none⟩=some (.slice ad m cap)∧(0<m→ad=some ⟨tb,o,none⟩)∧∀j,j<m→∀i,i<4→W.cell? ⟨tb,o+j*4+i,none⟩=some (vs j i)
abbrev encA (vs:Nat→Nat→Value)(j:Nat):Array Value:= #[.int .i64 (j:Nat),.agg #[vs j 0,vs j 1,vs j 2,vs j 3]]
def KpA (gb:Nat)(ad:Option Addr)(tb o m cap:Nat)(vs:Nat→Nat→Value)(A B:World):Prop:=StA gb ad tb o m cap vs A→StA gb ad tb o m cap vs B
theorem StA.on {gb:Nat}{ad:Option Addr}{tb o m cap:Nat}{vs:Nat→Nat→Value}{W W':World}(h:StA gb ad tb o m cap vs W)(k:∀b i v,W.cell? ⟨b,i,none⟩=some v→W'.cell? ⟨b,i,none⟩=some v):StA gb ad tb o m cap vs W':=
 ⟨k _ _ _ h.1,h.2.1,fun j hj i hi=>k _ _ _ (h.2.2 j hj i hi)⟩
theorem backA_in (n:Nat)(hn:1≤n)(l gb:Nat)(ad:Option Addr)(tb o m cap:Nat)(hm:m≤1000)(vs:Nat→Nat→Value)(J:Nat→World→Prop)
  (hY:∀k W,k<m→J k W→YieldAt Fence.wide (n-1) Tryz.prog l (encA vs (m-1-k)) W fun e W'=>e= .returned (.bool true)∧J (k+1) W'∧KpA gb ad tb o m cap vs W W')
  (W:World) (hW:StA gb ad tb o m cap vs W) (h0:J 0 W):
  CallsIn Fence.wide n Tryz.prog 126 #[.func (.yield l) #[] #[],.pointer (some ⟨gb,0,none⟩)] W fun e W'=>(∃v,e= .returned v)∧J m W':=by
 refine callsIn_of_wp Tryz.func126 rfl trivial ?_ rfl;simp only[Tryz.ntmps126,List.size_toArray,List.length_cons,List.length_nil,Nat.reduceAdd,Nat.reduceSub,Array.replicate_succ,Array.replicate_zero,List.push_toArray,List.append_toArray,List.nil_append,List.cons_append];have d0:=hW.1
 gi_wp2_with fail
 gi_loopw [3] (fun i wr=>∃k:Nat,k≤m∧i= .int .i64 ((m:Int)-k-1)∧StA gb ad tb o m cap vs wr∧J k wr) (fun i _=>(intOf i+1).toNat)
 case atStart=>exact⟨0,zL_ _,by go_num,hW,h0⟩
 case round=>
  obtain⟨k,hk,rfl,hWr,hJr⟩:=hrel;clear d0;have d0:=hWr.1
  by_cases hlt:k<m
  ·obtain⟨j,hj⟩:∃j:Nat,j=m-1-k:=⟨_,rfl⟩;have ej:(m:Int)-k-1=(j:Int):=by omega
   have hjm:j<m:=by omega
   have had:=hWr.2.1 (Nat.lt_of_le_of_lt (zL_ _) hlt);subst had;have c0:=hWr.2.2 j hjm 0 (by decide);have c1:=hWr.2.2 j hjm 1 (by decide);have c2:=hWr.2.2 j hjm 2 (by decide);have c3:=hWr.2.2 j hjm 3 (by decide);rw[Nat.add_zero]at c0;obtain⟨fn,tmps,assign,body,hy,hR⟩:=hY k wr hlt hJr;rw[←hj]at hy
   dsimp only[encA]at hy
   rw[ej]
   have hfin:∀{W3:World},J (k+1) W3→KpA gb (some ⟨tb,o,none⟩) tb o m cap vs wr W3→(∃k':Nat,k'≤m∧Value.int .i64 ((j:Int)-1)= .int .i64 ((m:Int)-k'-1)∧StA gb (some ⟨tb,o,none⟩) tb o m cap vs W3∧J k' W3)∧
     (intOf (Value.int .i64 ((j:Int)-1))+1).toNat<(intOf (Value.int .i64 (j:Int))+1).toNat:=fun h1 h2=>
    ⟨⟨k+1,hlt,by congr 1;omega,h2 hWr,h1⟩,by simp only[intOf];omega⟩
   clear hj ej;gi_wp2;refine hR.mono ?_;rintro e W3 ⟨rfl,hJ3,hk3⟩;gi_wp2;exact hfin hJ3 hk3
  ·have hkm:k=m:=by omega
   subst hkm;have ej:(k:Int)-k-1= -1:=by omega
   rw[ej];clear ej hlt;gi_wp2
   go_end0
   exact⟨⟨_,rfl⟩,hJr⟩
def StB (gb tb o m cap:Nat)(vs:Nat→Bool)(W:World):Prop:=W.cell? ⟨gb,0,none⟩=some (.slice (some ⟨tb,o,none⟩) m cap)∧∀j,j<m→W.cell? ⟨tb,o+j,none⟩=some (.bool (vs j))
abbrev encB (vs:Nat→Bool)(j:Nat):Array Value:= #[.int .i64 (j:Nat),.bool (vs j)]
def KpB (gb tb o m cap:Nat)(vs:Nat→Bool)(A B:World):Prop:=StB gb tb o m cap vs A→StB gb tb o m cap vs B
theorem backB_in (n:Nat)(hn:1≤n)(l gb tb o m cap:Nat)(hm:m≤1000)(vs:Nat→Bool)(J:Nat→World→Prop)
  (hY:∀k W,k<m→J k W→YieldAt Fence.wide (n-1) Tryz.prog l (encB vs (m-1-k)) W fun e W'=>e= .returned (.bool true)∧J (k+1) W'∧KpB gb tb o m cap vs W W')
  (W:World) (hW:StB gb tb o m cap vs W) (h0:J 0 W):
  CallsIn Fence.wide n Tryz.prog 127 #[.func (.yield l) #[] #[],.pointer (some ⟨gb,0,none⟩)] W fun e W'=>(∃v,e= .returned v)∧J m W':=by
 refine callsIn_of_wp Tryz.func127 rfl trivial ?_ rfl;simp only[Tryz.ntmps127,List.size_toArray,List.length_cons,List.length_nil,Nat.reduceAdd,Nat.reduceSub,Array.replicate_succ,Array.replicate_zero,List.push_toArray,List.append_toArray,List.nil_append,List.cons_append];have d0:=hW.1
 gi_wp2_with fail
 gi_loopw [3] (fun i wr=>∃k:Nat,k≤m∧i= .int .i64 ((m:Int)-k-1)∧StB gb tb o m cap vs wr∧J k wr) (fun i _=>(intOf i+1).toNat)
 case atStart=>exact⟨0,zL_ _,by go_num,hW,h0⟩
 case round=>
  obtain⟨k,hk,rfl,hWr,hJr⟩:=hrel;clear d0;have d0:=hWr.1
  by_cases hlt:k<m
  ·obtain⟨j,hj⟩:∃j:Nat,j=m-1-k:=⟨_,rfl⟩;have ej:(m:Int)-k-1=(j:Int):=by omega
   have hjm:j<m:=by omega
   have c0:=hWr.2 j hjm;obtain⟨fn,tmps,assign,body,hy,hR⟩:=hY k wr hlt hJr;rw[←hj]at hy
   dsimp only[encB]at hy
   rw[ej]
   have hfin:∀{W3:World},J (k+1) W3→KpB gb tb o m cap vs wr W3→(∃k':Nat,k'≤m∧Value.int .i64 ((j:Int)-1)= .int .i64 ((m:Int)-k'-1)∧StB gb tb o m cap vs W3∧J k' W3)∧
     (intOf (Value.int .i64 ((j:Int)-1))+1).toNat<(intOf (Value.int .i64 (j:Int))+1).toNat:=fun h1 h2=>
    ⟨⟨k+1,hlt,by congr 1;omega,h2 hWr,h1⟩,by simp only[intOf];omega⟩
   clear hj ej;gi_wp2;refine hR.mono ?_;rintro e W3 ⟨rfl,hJ3,hk3⟩;gi_wp2;exact hfin hJ3 hk3
  ·have hkm:k=m:=by omega
   subst hkm;have ej:(k:Int)-k-1= -1:=by omega
   rw[ej];clear ej hlt;gi_wp2
   go_end0
   exact⟨⟨_,rfl⟩,hJr⟩
end Go.Proofs.YtbegidaaiajffaaGreatDoor.Lf
namespace Go.Proofs.YtbegidaaiajffaaGreatDoor.Lf
open Go.RowKit Nt
def Own5 (g b:Nat):Prop:=g≤b∧b<g+5
def MD (M:MS)(g:Nat):MS:=fun b i=>M b i∨Own5 g b
def γd (g:Nat):Gh:=fun k=>if k=0 then .pointer (some ⟨g,0,none⟩)else if k=1 then .pointer (some ⟨g+3,0,none⟩)else .pointer (some ⟨g+2,0,none⟩)
def cloV (g:Nat):Value:= .func (.func 70) #[] #[.pointer (some ⟨g,0,none⟩),.pointer (some ⟨g+3,0,none⟩)]
structure DS (M:MS)(g n:Nat)(us os:List Af)(ms:List Bool)(W:World):Prop where
 g0:∃u v,W.heap[g]? =some (.cells [Value.int .i64 (n:Nat),u,v].toArray 36 (0,0))∧RdD (MD M g) W (afsD us) u∧RdD (MD M g) W (afsD os) v
 g1:W.heap[g+1]? =some (.cells [Value.int .i64 0,.slice none 0 0,.slice none 0 0].toArray 36 (0,0))
 g2:∃sp:List Value,W.heap[g+2]? =some (.cells (ms.map Value.bool++sp).toArray 4 (0,0))
 g3:∃c,ms.length≤c∧W.heap[g+3]? =some (.cells [Value.slice (some ⟨g+2,0,none⟩) ms.length c].toArray 118 (0,0))
 g4:∃t,W.heap[g+4]? =some (.cells [cloV g].toArray t (0,0))
 dom:∀b i,M b i→b<g
 u32:∀b i n,MD M g b i→W.cell? ⟨b,i,none⟩≠some (.int .u32 n)
 glb:Glb (MD M g) W
structure Kd (g:Nat)(W W':World):Prop where
 os:W'.os=W.os
 tape:W'.tape=W.tape
 output:W'.output=W.output
 size:W.heap.size≤W'.heap.size
 other:∀b,b<W.heap.size→¬Own5 g b→W'.heap[b]? =W.heap[b]?
theorem Kd.refl {g:Nat}{W:World}:Kd g W W:=⟨rfl,rfl,rfl,lR_ _,fun _ _ _=>rfl⟩
theorem Kd.trans {g:Nat}{A B C:World}(h:Kd g A B)(k:Kd g B C):Kd g A C:=
 ⟨k.os.trans h.os,k.tape.trans h.tape,k.output.trans h.output,tL_ h.size k.size,fun b hb hm=>(k.other b (Nat.lt_of_lt_of_le hb h.size) hm).trans (h.other b hb hm)⟩
theorem Kd.of {g:Nat}{W W':World}(h:Below W.heap.size W W'):Kd g W W':=⟨h.os,h.tape,h.output,h.size,fun b hb _=>h.block b hb⟩
theorem Kd.fx {M:MS}{g:Nat}{W W':World}(h:Kd g W W'):∀b i v,Fx (MD M g) W b i v→Fx (MD M g) W' b i v:=fun b i v k=>
 ⟨k.1,by rw[World.cell?_of_block (w:=W) (a:=⟨b,i,none⟩) (h.other b (World.block_lt_of_cell? _ _ k.2) fun ho=>k.1 (.inr ho))];exact k.2⟩
theorem Kd.cell {g:Nat}{W W':World}(h:Kd g W W'){b i:Nat}{v:Value}(hb:¬Own5 g b)(k:W.cell? ⟨b,i,none⟩=some v):W'.cell? ⟨b,i,none⟩=some v:=by
 rw[World.cell?_of_block (w:=W) (a:=⟨b,i,none⟩) (h.other b (World.block_lt_of_cell? _ _ k) hb)];exact k
theorem DS.size {M:MS}{g n:Nat}{us os:List Af}{ms:List Bool}{W:World}(h:DS M g n us os ms W):g+4<W.heap.size:=let ⟨_,h4⟩:=h.g4;(Array.getElem?_eq_some_iff.1 h4).1
theorem DS.domW {M:MS}{g n:Nat}{us os:List Af}{ms:List Bool}{W:World}(h:DS M g n us os ms W){b i:Nat}(hm:MD M g b i):b<W.heap.size:=by
 have hs:=h.size;rcases hm with hm|hm
 ·have:=h.dom b i hm;omega
 ·have:=hm.2;omega
theorem DS.to {M:MS}{g n:Nat}{us os:List Af}{ms:List Bool}{W W':World}(h:DS M g n us os ms W)(k:Below W.heap.size W W'):DS M g n us os ms W':=by
 have hs:=h.size;have hdw:= @DS.domW _ _ _ _ _ _ _ h;have e:∀i,i<5→W'.heap[g+i]? =W.heap[g+i]?:=fun i hi=>k.block _ (by omega);obtain⟨⟨u,v,h0,ru,rv⟩,h1,⟨sp,h2⟩,⟨c,hc,h3⟩,⟨t4,h4⟩,hd,h5,h6⟩:=h;refine⟨⟨u,v,(e 0 (by decide)).trans h0,RdD.fx (Kd.of k).fx ru,RdD.fx (Kd.of k).fx rv⟩,(e 1 (by decide)).trans h1,⟨sp,(e 2 (by decide)).trans h2⟩,⟨c,hc,(e 3 (by decide)).trans h3⟩,⟨t4,(e 4 (by decide)).trans h4⟩,hd,fun b i n hm=> ?_,h6.fx (Kd.of k).fx⟩;rw[World.cell?_of_block (w:=W) (a:=⟨b,i,none⟩) (k.block b (hdw hm))];exact h5 b i n hm
theorem bsV_rd {M:MS}{w:World}:∀ms:List Bool,All2 (RdD M w) (bsR ms).flatten (ms.map Value.bool)
 |[]=>trivial
 |b::ms=>⟨.lit _,bsV_rd ms⟩
theorem bsV_inv {M:MS}{w:World}:∀(ms:List Bool) (vs:List Value),All2 (RdD M w) (bsR ms).flatten vs→vs=ms.map Value.bool
 |[],[],_=>rfl
 |[],_::_,h=>h.elim
 |b::ms,[],h=>h.elim
 |b::ms,v::vs,h=>by rw[lit_inv h.1,bsV_inv ms vs h.2];rfl
theorem DS.rel {M:MS}{g n:Nat}{us os:List Af}{ms:List Bool}{W:World}(h:DS M g n us os ms W):Rel (γd g) (look (deH n us os ms)) (MD M g) W:=by
 have hs:=h.size;have hdw:= @DS.domW _ _ _ _ _ _ _ h;obtain⟨⟨u,v,h0,ru,rv⟩,h1,⟨sp,h2⟩,⟨c,hc,h3⟩,⟨t4,h4⟩,hd,h5,h6⟩:=h
 have ex:∀key e,look (deH n us os ms) key=some e→(key=0∧e= .box 36 (grA n us os))∨(key=1∧e= .box 118 [.tab 2 ms.length])∨(key=2∧e= .tab 4 1 (bsR ms)):=fun key e he=>by
  match key,he with
  |0,he=>exact .inl ⟨rfl,by simpa [look]using he.symm⟩
  |1,he=>exact .inr (.inl ⟨rfl,by simpa [look]using he.symm⟩)
  |2,he=>exact .inr (.inr ⟨rfl,by simpa [look]using he.symm⟩)
  |k+3,he=>exact absurd he (by simp[look])
 have bk:∀key b,(look (deH n us os ms) key).isSome=true→blk (γd g key)=some b→(key=0∧b=g)∨(key=1∧b=g+3)∨(key=2∧b=g+2):=fun key b he hb=>by
  obtain⟨e,he⟩:=Option.isSome_iff_exists.1 he;rcases ex key e he with⟨rfl,_⟩|⟨rfl,_⟩|⟨rfl,_⟩
  ·exact .inl ⟨rfl,by simpa [γd,blk]using hb.symm⟩
  ·exact .inr (.inl ⟨rfl,by simpa [γd,blk]using hb.symm⟩)
  ·exact .inr (.inr ⟨rfl,by simpa [γd,blk]using hb.symm⟩)
 have lv:∀key,live (look (deH n us os ms) key)=true→(look (deH n us os ms) key).isSome=true:=fun key hl=>by
  cases hk:look (deH n us os ms) key with
  |none=>rw[hk]at hl;cases hl
  |some e=>rfl
 refine⟨fun key e he=> ?_,fun key b i ho=> ?_,fun k1 k2 b l1 l2 b1 b2=> ?_,h5,fun b i hm=>hdw hm,h6⟩
 ·rcases ex key e he with⟨rfl,rfl⟩|⟨rfl,rfl⟩|⟨rfl,rfl⟩
  ·exact⟨g,_,rfl,h0,.lit _,ru,rv,trivial⟩
  ·refine⟨g+3,_,rfl,h3,⟨rfl,⟨g+2,c,rfl,rfl,hc⟩,fun e k rows hr=> ?_⟩,trivial⟩;have:(Ent.tab 4 1 (bsR ms))= .tab e k rows:=by simpa [look]using hr
   injection this with _ _ h3;rw[←h3];simp
  ·refine⟨g+2,ms.map Value.bool,sp,rfl,h2,fun row hr=> ?_,?_,fun v hv=> ?_⟩
   ·obtain⟨b,_,rfl⟩:=List.mem_map.1 hr;rfl
   ·exact bsV_rd ms
   ·obtain⟨b,_,rfl⟩:=List.mem_map.1 hv;rfl
 ·have hl:live (look (deH n us os ms) key)=true∧blk (γd g key)=some b:=by
   unfold Owns at ho
   cases hk:look (deH n us os ms) key with
   |none=>rw[hk]at ho;exact ho.elim
   |some e=>
    rcases ex key e hk with⟨rfl,rfl⟩|⟨rfl,rfl⟩|⟨rfl,rfl⟩<;>(rw[hk]at ho;exact⟨rfl,ho⟩)
  rcases bk key b (lv key hl.1) hl.2 with⟨_,rfl⟩|⟨_,rfl⟩|⟨_,rfl⟩<;>exact .inr ⟨by omega,by omega⟩
 ·rcases bk k1 b (lv k1 l1) b1 with⟨e1,e2⟩|⟨e1,e2⟩|⟨e1,e2⟩<;>rcases bk k2 b (lv k2 l2) b2 with⟨e3,e4⟩|⟨e3,e4⟩|⟨e3,e4⟩<;>omega
theorem md_sub {M:MS}{g n:Nat}{us os:List Af}{ms ms':List Bool}{W W':World}{γ':Gh}{M':MS}(hr:Rel γ' (look (deH n us os ms')) M' W')(hs:Stp (γd g) (look (deH n us os ms)) (MD M g) W γ' (look (deH n us os ms')) M' W'):
  (γ' 0=γd g 0∧γ' 1=γd g 1∧γ' 2=γd g 2)∧∀b i,MD M g b i→M' b i:=by
 have k0:γ' 0=γd g 0:=by
  obtain⟨e',h1,_,h2⟩:=hs.key 0 _ rfl;rcases h2 with h2|h2
  ·exact h2
  ·cases e'<;>exact h2.elim
 have k1:γ' 1=γd g 1:=by
  obtain⟨e',h1,_,h2⟩:=hs.key 1 _ rfl;rcases h2 with h2|h2
  ·exact h2
  ·cases e'<;>exact h2.elim
 have k2:γ' 2=γd g 2:=by
  obtain⟨e',h1,_,h2⟩:=hs.key 2 _ rfl;rcases h2 with h2|h2
  ·exact h2
  ·cases e'<;>exact h2.elim
 refine⟨⟨k0,k1,k2⟩,fun b i hm=> ?_⟩;have o0:b=g→M' b i:=fun e=>hr.own 0 b i (show blk (γ' 0)=some b by rw[k0,e];rfl);have o1:b=g+3→M' b i:=fun e=>hr.own 1 b i (show blk (γ' 1)=some b by rw[k1,e];rfl);have o2:b=g+2→M' b i:=fun e=>hr.own 2 b i (show blk (γ' 2)=some b by rw[k2,e];rfl)
 by_cases h0:b=g
 ·exact o0 h0
 ·by_cases h1:b=g+3
  ·exact o1 h1
  ·by_cases h2:b=g+2
   ·exact o2 h2
   ·refine hs.keep b i hm fun key ho=> ?_
    match key,ho with
    |0,ho=>exact h0 (by simpa [Owns,look,γd,blk]using (show blk (γd g 0)=some b from ho).symm)
    |1,ho=>exact h1 (by simpa [Owns,look,γd,blk]using (show blk (γd g 1)=some b from ho).symm)
    |2,ho=>exact h2 (by simpa [Owns,look,γd,blk]using (show blk (γd g 2)=some b from ho).symm)
    |k+3,ho=>exact ho.elim
theorem de1_at {M:MS}{g n:Nat}{us os:List Af}{ms:List Bool}{f:Af}{W:World}{fv:Value}(h:DS M g n us os ms W)(hn:n≤24)(hb:ms.length≤100)(hf:Ts ((n+ms.length:Nat):Int) f)
  (hr:∀(γ:Gh) (hh:Hp),RdV γ hh (MD M g) W (.agg f.A) fv):
  Calls Tryz.prog 70 #[fv,.pointer (some ⟨g,0,none⟩),.pointer (some ⟨g+3,0,none⟩)] W fun e W'=>(∃r,e= .returned r)∧DS M g n us os (mkF n ms f) W'∧Kd g W W':=by
 obtain⟨v,H',⟨rfl,rfl⟩,hc⟩:=lx_dead1 (us:=us) (os:=os) hn hb hf;have hrel:=h.rel;refine cM (hc (γd g) (MD M g) W [fv,.pointer (some ⟨g,0,none⟩),.pointer (some ⟨g+3,0,none⟩)] hrel ⟨hr _ _,⟨rfl,g,rfl,rfl⟩,⟨rfl,g+3,rfl,rfl⟩,trivial⟩) ?_;rintro e W' ⟨r,γ',M',rfl,h1,h2,h3⟩;obtain⟨⟨k0,k1,k2⟩,hsub⟩:=md_sub h1 h3;have hsz:=h.size;have toD:∀{d:D} {v:Value},RdD M' W' d v→RdD (MD M g) W' d v:=fun k=>RdD.fx (fun b i v q=>⟨fun hm=>q.1 (hsub b i hm),q.2⟩) k
 have oth:∀b,b<W.heap.size→b≠g→b≠g+2→b≠g+3→W'.heap[b]? =W.heap[b]?:=fun b hb n0 n2 n3=>h3.other b hb fun key i ho=>by
  match key,ho with
  |0,ho=>exact n0 (by simpa [γd,blk]using (show blk (γd g 0)=some b from ho).symm)
  |1,ho=>exact n3 (by simpa [γd,blk]using (show blk (γd g 1)=some b from ho).symm)
  |2,ho=>exact n2 (by simpa [γd,blk]using (show blk (γd g 2)=some b from ho).symm)
  |k+3,ho=>exact ho.elim
 refine⟨⟨r,rfl⟩,⟨?_,(oth _ (by omega) (by omega) (by omega) (by omega)).trans h.g1,?_,?_,?_,h.dom,fun b i n hm=>h1.u32 b i n (hsub b i hm),h1.glb.fx fun b i v q=>⟨fun hm=>q.1 (hsub b i hm),q.2⟩⟩,
  ⟨h3.os,h3.tape,h3.output,h3.size,fun b hb hm=>oth b hb (fun e=>hm ⟨by omega,by omega⟩) (fun e=>hm ⟨by omega,by omega⟩) (fun e=>hm ⟨by omega,by omega⟩)⟩⟩
 ·obtain⟨g',vs,e1,e2,e3⟩:=h1.ent 0 _ rfl;rw[k0]at e1;obtain rfl:g=g':=by simpa [γd]using e1
  match vs,e3 with
  |[a,u,v],e3=>
   obtain rfl:=lit_inv e3.1;exact⟨u,v,e2,toD e3.2.1,toD e3.2.2.1⟩
 ·obtain⟨g',vs,sp,e1,e2,e3,e4,e5⟩:=h1.ent 2 _ rfl;rw[k2]at e1;obtain rfl:g+2=g':=by simpa [γd]using e1
  exact⟨sp,by rw[bsV_inv _ _ e4]at e2;exact e2⟩
 ·obtain⟨g',vs,e1,e2,e3⟩:=h1.ent 1 _ rfl;rw[k1]at e1;obtain rfl:g+3=g':=by simpa [γd]using e1
  match vs,e3 with
  |[a],e3=>
   obtain⟨_,⟨g2,c,q1,q2,q3⟩,_⟩:=e3.1;rw[k2]at q1;obtain rfl:g+2=g2:=by simpa [γd]using q1
   exact⟨c,q3,by rw[q2]at e2;exact e2⟩
 ·obtain⟨t,h4⟩:=h.g4;exact⟨t,(oth _ (by omega) (by omega) (by omega) (by omega)).trans h4⟩
theorem cells_of_cell {X:World}{b i:Nat}{v:Value}{o:Obj}(k:X.cell? ⟨b,i,none⟩=some v)(h:X.heap[b]? =some o):o.isCells=true:=by
 cases o<;>simp_all [World.cell?,Obj.isCells]
theorem gr_cell {X Y:World}{row:Option Nat}(hg:X.grownBy Y row)(hr:∀r,row=some r→∃o:Obj,X.heap[r]? =some o∧o.isCells=false){b i:Nat}{v:Value}(k:X.cell? ⟨b,i,none⟩=some v):Y.cell? ⟨b,i,none⟩=some v:=by
 have hl:=World.block_lt_of_cell? _ _ k;rw[World.cell?_of_block (w:=X) (a:=⟨b,i,none⟩) (grownBy_keeps_cells hg hr (Array.getElem?_eq_getElem hl) (cells_of_cell k (Array.getElem?_eq_getElem hl)))];exact k
theorem DS.grown {M:MS}{g n:Nat}{us os:List Af}{ms:List Bool}{X Y:World}{row:Option Nat}(h:DS M g n us os ms X)(hg:X.grownBy Y row)(hr:∀r,row=some r→g+5≤r∧∃o:Obj,X.heap[r]? =some o∧o.isCells=false):DS M g n us os ms Y:=by
 have fx:∀b i v,Fx (MD M g) X b i v→Fx (MD M g) Y b i v:=fun b i v k=>⟨k.1,gr_cell hg (fun r e=>(hr r e).2) k.2⟩;have hs:=h.size;obtain⟨⟨u,v,h0,ru,rv⟩,h1,⟨sp,h2⟩,⟨c,hc,h3⟩,⟨t4,h4⟩,hd,h5,h6⟩:=h;have e:∀i cs t,X.heap[g+i]? =some (.cells cs t (0,0))→Y.heap[g+i]? =some (.cells cs t (0,0)):=fun i cs t hi=>(grownBy_keeps_cells hg (fun r e=>(hr r e).2) hi rfl).trans hi;refine⟨⟨u,v,e 0 _ _ h0,RdD.fx fx ru,RdD.fx fx rv⟩,e 1 _ _ h1,⟨sp,e 2 _ _ h2⟩,⟨c,hc,e 3 _ _ h3⟩,⟨t4,e 4 _ _ h4⟩,hd,fun b i n hm=> ?_,h6.fx fx⟩;have hbb:b<g+5:=by
  rcases hm with hm|hm
  ·have:=hd b i hm;omega
  ·exact hm.2
 rw[World.cell?_of_block (w:=X) (a:=⟨b,i,none⟩) (hg.block b (by omega) fun e=>by have:=(hr b e.symm).1;omega)];exact h5 b i n hm
theorem Kd.grown {g B:Nat}{W X Y:World}{row:Option Nat}(h:Kd g W X)(hg:X.grownBy Y row)(hr:∀r,row=some r→B≤r∧∃o:Obj,X.heap[r]? =some o∧o.isCells=false)(hB:W.heap.size≤B):Kd g W Y:=
 ⟨hg.os.trans h.os,hg.tape.trans h.tape,hg.output.trans h.output,tL_ h.size hg.size,fun b hb hm=>(hg.block b (Nat.lt_of_lt_of_le hb h.size) fun e=>by have:=(hr b e.symm).1;omega).trans (h.other b hb hm)⟩
theorem Kd.keeps {g B:Nat}{W X:World}(h:Kd g W X)(hB:g+5≤B):KeepsFrom B W X:=
 ⟨h.size,fun k o hk ho _=>(h.other k (Array.getElem?_eq_some_iff.1 ho).1 fun hm=>by have:=hm.2;omega).trans ho⟩
theorem af_cells {M:MS}{w:World}{l:List Af}{a:Option Addr}{m c k:Nat}{f:Af}(h:RdD M w (afsD l) (.slice a m c))(hk:l[k]? =some f):
  ∃b o v0 v1 v2 v3,a=some ⟨b,o,none⟩∧Fx M w b (o+k*4) v0∧Fx M w b (o+k*4+1) v1∧Fx M w b (o+k*4+2) v2∧Fx M w b (o+k*4+3) v3∧All2 (RdD M w) f.D [v0,v1,v2,v3]:=by
 generalize hx:Value.slice a m c=x at h
 cases h with
 |sl k' ys ad cap vs hc hl h0 hk' h1 hr=>
  injection hx with e1 e2 e3;subst e1;have hlt:=at_lt hk;obtain⟨b,o,rfl,hf⟩:=h0 (by rw[List.length_map];omega);have hm:(l.map Af.D)[k]? =some f.D:=at_map hk;have q:∀j d,f.D[j]? =some d→Fx M w b (o+k*4+j) (vs k j)∧RdD M w d (vs k j):=fun j d hj=>⟨hf k _ j d hm hj,hr k _ j d hm hj⟩;exact⟨b,o,_,_,_,_,rfl,(q 0 _ rfl).1,(q 1 _ rfl).1,(q 2 _ rfl).1,(q 3 _ rfl).1,(q 0 _ rfl).2,(q 1 _ rfl).2,(q 2 _ rfl).2,(q 3 _ rfl).2,trivial⟩
theorem af_rd {M:MS}{w:World}{f:Af}{vs:List Value}(h:All2 (RdD M w) f.D vs):∀(γ:Gh) (hh:Hp),RdV γ hh M w (.agg f.A) (.agg vs.toArray):=fun γ hh=>by
 match vs,h with
 |[a,b,c,d],h=>exact⟨_,rfl,h.1,h.2.1,h.2.2.1,h.2.2.2.1,trivial⟩
theorem DS.rel0 {M:MS}{g n:Nat}{us os:List Af}{ms:List Bool}{W:World}(h:DS M g n us os ms W):Rel γ0 (look []) (MD M g) W:=
 ⟨fun key e he=>absurd he (by simp[look]),fun key b i ho=>by simp[Owns,look]at ho,fun k1 k2 b l1=>by simp[look,live]at l1,h.u32,fun b i hm=>h.domW hm,h.glb⟩
theorem DS.call {M:MS}{g n:Nat}{us os:List Af}{ms:List Bool}{W:World}(h:DS M g n us os ms W){F:FuncId}{args:List V}{v:V}(hc:LV Tryz.prog F args v){rs:List Value}(ha:All2 (RdV γ0 (look []) (MD M g) W) args rs)
  (hd:∀γ' h' M' W' r,(∀d v,RdD M' W' d v→RdD (MD M g) W' d v)→RdV γ' h' M' W' v r→RdV γ0 (look []) (MD M g) W' v r):
  Calls Tryz.prog F rs.toArray W fun e W'=>∃r,e= .returned r∧DS M g n us os ms W'∧Below W.heap.size W W'∧RdV γ0 (look []) (MD M g) W' v r:=by
 obtain⟨v',H',⟨rfl,rfl⟩,hc⟩:=hc;refine cM (hc γ0 (MD M g) W rs h.rel0 ha) ?_;rintro e W' ⟨r,γ',M',h1,h2,h3,h4⟩;have hb:Below W.heap.size W W':=⟨h4.os,h4.tape,h4.output,h4.size,fun k hk=>h4.other k hk fun key i ho=>by simp[Owns,look]at ho⟩;exact⟨r,h1,h.to hb,hb,hd γ' _ M' W' r (fun d v k=>RdD.fx (fun b i v q=>⟨fun hm=>q.1 (h4.keep b i hm fun key ho=>by simp[Owns,look]at ho),q.2⟩) k) h3⟩
theorem rep_at {M:MS}{g L n j:Nat}{us os us' os':List Af}{ms:List Bool}{W:World}{r:Value}(hL:LOk L)(hs:GS L n us os us' os')(hn':n≤24)(ho':os.length≤24)(hj:j<us'.length)(h:DS M g n us' os' ms W)
  (hr:RdV γ0 (look []) (MD M g) W (.agg (grA n us' os')) r):
  Calls Tryz.prog 67 #[r,.int .i64 (j:Nat),.agg #[.slice none 0 0,.bool false,.slice none 0 0,.slice none 0 0]] W fun e W'=>
   ∃u v,e= .returned (.agg [Value.int .i64 (n:Nat),u,v].toArray)∧DS M g n us' os' ms W'∧Below W.heap.size W W'∧RdD (MD M g) W' (afsD (repU n j (numS 0) us')) u∧RdD (MD M g) W' (afsD (os'.map (repF ((n+j:Nat):Int) (numS 0)))) v:=by
 have hz:RdV γ0 (look []) (MD M g) W (.agg (numS 0).A) (.agg #[.slice none 0 0,.bool false,.slice none 0 0,.slice none 0 0]):=by
  show RdV γ0 (look []) (MD M g) W (.agg (A.d _::(can 0).A)) _;rw[can0];exact⟨[_,_,_,_],rfl,nil_ok _,.lit _,nat0_ok,nat0_ok,trivial⟩
 refine cM (h.call (lx_repl (j:=j) hL hs hn' ho' hj num0_by) (rs:=[r,.int .i64 (j:Nat),.agg #[.slice none 0 0,.bool false,.slice none 0 0,.slice none 0 0]]) ⟨hr,.lit _,hz,trivial⟩ fun γ' h' M' W' r hd k=> ?_) ?_
 ·obtain⟨vs,rfl,k⟩:=k
  match vs,k with
  |[a,u,v],k=>exact⟨[a,u,v],rfl,hd _ _ k.1,hd _ _ k.2.1,hd _ _ k.2.2.1,trivial⟩
 ·rintro e W' ⟨r,rfl,h1,h2,vs,rfl,k⟩
  match vs,k with
  |[a,u,v],k=>
   obtain rfl:=lit_inv k.1;exact⟨u,v,rfl,h1,h2,k.2.1,k.2.2.1⟩
end Go.Proofs.YtbegidaaiajffaaGreatDoor.Lf
namespace Go.Proofs.YtbegidaaiajffaaGreatDoor.Lf
open Go.RowKit Nt
attribute [local go_sem] Oper.semAt_some
theorem made_bools (m:Nat):madeCells (Value.bool false).cells m=((List.replicate m false).map Value.bool).toArray:=by
 apply Array.ext
 ·simp[madeCells]
 ·intro i h1 h2;simp[madeCells,Value.cells,Nat.mod_one]
theorem mk_bools {m:Nat}(hm:m≤1000)(w:World):(Instr.makeSlice 118 (.int .i64 (m:Nat)) (.int .i64 (m:Nat))).run Tryz.prog w= .ok (.slice (some ⟨w.heap.size,0,none⟩) m m) (w.alloc (.cells ((List.replicate m false).map Value.bool).toArray 4)):=by
 obtain⟨i0,hi,hz0,hz1,hz2⟩:=info_parts (show(Tryz.prog.info? 4).map (fun i=>(i.zero,i.size,i.bytes))=some (some (.bool false),1,1) by kernel_rfl);have hr:=run_make (P:=Tryz.prog) w 118 4 i0 (.bool false) (by kernel_rfl) hi hz0 .i64 .i64 (m:Int) (m:Int) (by omega) (Int.le_refl _) (by rw[hz2];omega) (by omega);simp only[Int.toNat_natCast,hz1,Nat.mul_one]at hr;rw[hr,made_bools]
theorem rd_slice {k:Nat}{xs:List (List D)}{M:MS}{w:World}{v:Value}(h:RdD M w (.sl k xs) v):∃a c,v= .slice a xs.length c:=by
 cases h;exact⟨_,_,rfl⟩
theorem al1 {w W:World}{o:Obj}(h:w.alloc o=W):W.heap[w.heap.size]? =some o∧(∀i,i<w.heap.size→W.heap[i]? =w.heap[i]?)∧W.heap.size=w.heap.size+1∧Below w.heap.size w W:=by
 subst h;exact⟨World.alloc_heap_new w o,fun i hi=>Below.heap_alloc _ _ _ hi,World.size_alloc _ _,(bR_ _ w).alloc (lR_ _) _⟩
theorem al5 (w:World)(o0 o1 o2 o3 o4:Obj):∀W0,((((w.alloc o0).alloc o1).alloc o2).alloc o3).alloc o4=W0→
  W0.heap[w.heap.size]? =some o0∧W0.heap[w.heap.size+1]? =some o1∧W0.heap[w.heap.size+2]? =some o2∧W0.heap[w.heap.size+3]? =some o3∧W0.heap[w.heap.size+4]? =some o4∧Below w.heap.size w W0∧W0.heap.size=w.heap.size+5:=by
 intro W0 h;obtain⟨W1,h1⟩:∃W1,w.alloc o0=W1:=⟨_,rfl⟩;rw[h1]at h;obtain⟨W2,h2⟩:∃W2,W1.alloc o1=W2:=⟨_,rfl⟩;rw[h2]at h;obtain⟨W3,h3⟩:∃W3,W2.alloc o2=W3:=⟨_,rfl⟩;rw[h3]at h;obtain⟨W4,h4⟩:∃W4,W3.alloc o3=W4:=⟨_,rfl⟩;rw[h4]at h;obtain⟨a1,b1,s1,l1⟩:=al1 h1;obtain⟨a2,b2,s2,l2⟩:=al1 h2;obtain⟨a3,b3,s3,l3⟩:=al1 h3;obtain⟨a4,b4,s4,l4⟩:=al1 h4;obtain⟨a5,b5,s5,l5⟩:=al1 h;rw[s1]at a2;rw[s2,s1]at a3;rw[s3,s2,s1]at a4;rw[s4,s3,s2,s1]at a5;refine⟨?_,?_,?_,?_,a5,l1.trans ((l2.mono (by omega)).trans ((l3.mono (by omega)).trans ((l4.mono (by omega)).trans (l5.mono (by omega))))),by omega⟩
 ·rw[b5 _ (by omega),b4 _ (by omega),b3 _ (by omega),b2 _ (by omega)];exact a1
 ·rw[b5 _ (by omega),b4 _ (by omega),b3 _ (by omega)];exact a2
 ·rw[b5 _ (by omega),b4 _ (by omega)];exact a3
 ·rw[b5 _ (by omega)];exact a4
theorem no_u32 {w:World}{b i:Nat}{n:Int}{vs:List Value}{t:TypeId}(h:w.heap[b]? =some (.cells vs.toArray t (0,0)))(hv:∀v∈vs,∀n,v≠ .int .u32 n):w.cell? ⟨b,i,none⟩≠some (.int .u32 n):=fun e=>by
 simp[World.cell?,h]at e;exact hv _ (mG_ e) n rfl
theorem ds_init {g n:Nat}{us os:List Af}{M:MS}{w W0:World}{u v:Value}(hg:w.heap.size=g)(hG:Glb M w)(hu32:∀b i n,M b i→w.cell? ⟨b,i,none⟩≠some (.int .u32 n))(hdom:∀b i,M b i→b<w.heap.size)(ru:RdD M w (afsD us) u)(rv:RdD M w (afsD os) v){t:TypeId}{nu cu nv cv:Nat}{au av:Option Addr}(eu:u= .slice au nu cu)(ev:v= .slice av nv cv)
  (hW:((((w.alloc (.cells #[Value.int .i64 (n:Nat),u,v] 36)).alloc (.cells #[Value.int .i64 0,.slice none 0 0,.slice none 0 0] 36)).alloc (.cells ((List.replicate us.length false).map Value.bool).toArray 4)).alloc (.cells #[Value.slice (some ⟨g+2,0,none⟩) us.length us.length] 118)).alloc (.cells #[cloV g] t)=W0):
  DS M g n us os (List.replicate us.length false) W0∧Below g w W0∧(∀d x,RdD M w d x→RdD (MD M g) W0 d x)∧W0.heap.size=g+5:=by
 obtain⟨h0,h1,h2,h3,h4,hb,hs⟩:=al5 w _ _ _ _ _ W0 hW;rw[hg]at h0 h1 h2 h3 h4 hb hs
 have fx:∀b i v,Fx M w b i v→Fx (MD M g) W0 b i v:=fun b i v k=>by
  have hl:=World.block_lt_of_cell? _ _ k.2;simp only at hl;exact⟨fun hm=>hm.elim k.1 fun hm=>by have:=hm.1;omega,by rw[World.cell?_of_block (w:=w) (a:=⟨b,i,none⟩) (hb.block b (by omega))];exact k.2⟩
 refine⟨⟨⟨u,v,h0,RdD.fx fx ru,RdD.fx fx rv⟩,h1,⟨[],by rw[List.append_nil];exact h2⟩,⟨us.length,Nat.le_of_eq List.length_replicate,by rw[List.length_replicate];exact h3⟩,⟨t,h4⟩,fun b i hm=>by have:=hdom b i hm;omega,fun b i k hm=> ?_,hG.fx fx⟩,hb,fun d x k=>RdD.fx fx k,hs⟩;rcases hm with hm|⟨m1,m2⟩
 ·have hl:=hdom b i hm;rw[World.cell?_of_block (w:=w) (a:=⟨b,i,none⟩) (hb.block b (by omega))];exact hu32 b i k hm
 obtain rfl|rfl|rfl|rfl|rfl:b=g∨b=g+1∨b=g+2∨b=g+3∨b=g+4:=by omega
 ·exact no_u32 (vs:=[_,_,_]) h0 (by simp[eu,ev])
 ·exact no_u32 (vs:=[_,_,_]) h1 (by simp)
 ·refine no_u32 h2 fun v hv n e=> ?_;obtain⟨b,_,rfl⟩:=List.mem_map.1 hv
  cases e
 ·exact no_u32 (vs:=[_]) h3 (by simp)
 ·exact no_u32 (vs:=[_]) h4 (by simp[cloV])
theorem bwd_at {ad:Option Addr}{m c n:Nat}{w:World}:CallsIn Fence.wide n Tryz.prog 71 #[.slice ad m c] w fun e w'=>
  e= .returned (.func (.func 126) #[] #[.pointer (some ⟨w.heap.size,0,none⟩)])∧∃t,w'=w.alloc (.cells #[.slice ad m c] t):=by
 refine callsIn_of_wp Tryz.func71 rfl trivial ?_ rfl;simp only[Tryz.ntmps71,List.size_toArray,List.length_cons,List.length_nil,Nat.reduceAdd,Nat.reduceSub,Array.replicate_succ,Array.replicate_zero,List.push_toArray,List.append_toArray,List.nil_append,List.cons_append]
 gi_wp2_with fail
 exact bodyPost_ret (results_tmp rfl _ _ _) rfl ⟨rfl,_,rfl⟩
theorem bwdb_at {ad:Option Addr}{m c n:Nat}{w:World}:CallsIn Fence.wide n Tryz.prog 72 #[.slice ad m c] w fun e w'=>
  e= .returned (.func (.func 127) #[] #[.pointer (some ⟨w.heap.size,0,none⟩)])∧w'=w.alloc (.cells #[.slice ad m c] 118):=by
 refine callsIn_of_wp Tryz.func72 rfl trivial ?_ rfl;simp only[Tryz.ntmps72,List.size_toArray,List.length_cons,List.length_nil,Nat.reduceAdd,Nat.reduceSub,Array.replicate_succ,Array.replicate_zero,List.push_toArray,List.append_toArray,List.nil_append,List.cons_append]
 gi_wp2_with fail
 exact bodyPost_ret (results_tmp rfl _ _ _) rfl ⟨rfl,rfl⟩
theorem af_shape {M:MS}{w:World}{f:Af}{v0 v1 v2 v3:Value}(h:All2 (RdD M w) f.D [v0,v1,v2,v3]):∃a0 n0 q0 b1 a2 n2 q2 a3 n3 q3,v0= .slice a0 n0 q0∧v1= .bool b1∧v2= .slice a2 n2 q2∧v3= .slice a3 n3 q3:=by
 obtain⟨h0,h1,h2,h3,_⟩:=h
 have lm:∀{x v},RdD M w (.lm x) v→∃a n c,v= .slice a n c:=fun h=>by
  cases h with
  |lm _ _ h _=>obtain⟨ad,l,c,e,_⟩:=h;exact⟨_,_,_,e⟩
 obtain⟨a0,q0,rfl⟩:=rd_slice h0;obtain rfl:=lit_inv h1;obtain⟨a2,n2,q2,rfl⟩:=lm h2;obtain⟨a3,n3,q3,rfl⟩:=lm h3;exact⟨a0,_,q0,_,a2,n2,q2,a3,n3,q3,rfl,rfl,rfl,rfl⟩
end Go.Proofs.YtbegidaaiajffaaGreatDoor.Lf
namespace Go.Proofs.YtbegidaaiajffaaGreatDoor.Lf
open Go.RowKit Nt
def roundPost (B:Nat)(Kp:World→World→Prop)(I:World→Prop)(W:World):Exit→Act→World→Prop
 | .normal,_,W'=>KeepsFrom B W W'∧Kp W W'∧I W'
 |_,_,_=>False
def SeqAt (F:Fence)(n:Nat)(P:Program)(gf:Nat)(lb:Array Value)(args:Nat→Array Value)(Kp:World→World→Prop)(m:Nat)(w:World):Prop:=
 ∀(l:Nat) (J:Nat→World→Prop) (W:World),Below w.heap.size w W→
  (∀k W1,k<m→J k W1→YieldAt F (n-1) P l (args k) W1 fun e W'=>e= .returned (.bool true)∧J (k+1) W'∧Kp W1 W')→J 0 W→
  CallsIn F n P gf (#[.func (.yield l) #[] #[]]++lb) W fun e W'=>(∃v,e= .returned v)∧J m W'
theorem range_in {F:Fence}{n:Nat}{P:Program}{g:Operand}{ps:Array Tmp}{assign body:Code}{Q:Exit→Act→World→Prop}{a:Act}{w:World}
  (hro:F.round=none) (h1:1≤n) {gf:Nat} {lb:Array Value} (hg:a.eval g= .func (.func gf) #[] lb) (hFg:F.fn gf) (eg:∀args w,(callFunc gf args).run P w= .ok (.enter gf args) w)
  {args:Nat→Array Value} {Kp:World→World→Prop} {m:Nat} (hseq:SeqAt F (n-1) P gf lb args Kp m w)
  (hKt:∀{A B C:World},Kp A B→Kp B C→Kp A C) (hKb:∀(W:World) (l:Nat) (o o':Obj),w.heap.size≤l→W.heap[l]? =some o→o.isCells=false→Kp W (W.putObj l o')) (hps:∀k,(args k).size=ps.size)
  (I:Nat→World→Prop) (hI:OwnFrom w.heap.size I) (h0:I 0 w) (Ax:Nat→Act→World→Prop) (hAx:∀k a',OwnFrom w.heap.size (fun(_:Unit) W=>Ax k a' W))
  (hassign:∀(l k:Nat) (W:World) (K:Act→World→Prop),k<m→I k W→(∀a' W',KeepsFrom w.heap.size W W'→Kp W W'→I k W'→Ax k a' W'→K a' W')→
   assign.wpIn (F.inRound l) (n-1-1) P (Exit.then K (fun _ _ _=>False)) {tmps:=(ps.zip (args k)).foldl (fun t (p,v)=>t.setIfInBounds p v) a.tmps,defers:=[]} W)
  (hbody:∀(l k:Nat) (a':Act) (W:World),k<m→I k W→Ax k a' W→body.wpIn (F.inRound l) (n-1-1) P (roundPost w.heap.size Kp (I (k+1)) W) a' W)
  (hdone:∀(D:Nat) (W:World),w.heap.size≤D→I m W→W.heap[D]? =some (.deferred (some []))→Q .normal {a with defers:={target:= .collected D,args:= #[]}::a.defers} W):
  (Code.rangeFunc g ps assign body).wpIn F n P Q a w:=by
 refine wpIn_rangeFunc fun fn hfn=> ?_;rw[hro]
 let R:LoopState→Option Code→Loop:=fun st pe=>{state:=st,pending:=pe,fn,tmps:=a.tmps,params:=ps,assign,body,defers:=w.heap.size}
 obtain⟨W1,hW1⟩:∃W1,(w.alloc (.deferred (some []))).alloc (.loop (R .ready none))=W1:=⟨_,rfl⟩;obtain⟨b1,q0,q1,i1⟩:Below w.heap.size w W1∧W1.heap[w.heap.size]? =some (.deferred (some []))∧W1.heap[w.heap.size+1]? =some (.loop (R .ready none))∧I 0 W1:=by
  rw[←hW1];have q:=World.alloc_heap_new (w.alloc (.deferred (some []))) (.loop (R .ready none));rw[World.size_alloc]at q;exact⟨((bR_ _ w).alloc (lR_ _) _).alloc (by simp) _,(Below.heap_alloc _ _ _ (by simp)).trans (World.alloc_heap_new w _),q,hI.alloc _ (hI.alloc _ h0)⟩
 refine⟨w.heap.size+1,[{target:= .collected w.heap.size,args:= #[]}],W1,{target:= .fn (.func gf) lb,args:= #[.func (.yield (w.heap.size+1)) #[] #[]]},W1,gf,
  #[.func (.yield (w.heap.size+1)) #[] #[]]++lb,W1,by rw[←hW1];exact run_enterLoop_outer _ _ _ _ _,?_,?_,?_,fun _=>h1,?_⟩
 ·simp only[resolve,hg];simp[go_sem]
 ·intro f' hf';simp[Target.leads]at hf';subst hf';exact hFg
 ·simp[invoke,go_sem,eg]
 ·refine(hseq (w.heap.size+1) (fun k W=>I k W∧W.heap[w.heap.size+1]? =some (.loop (R .ready none))∧W.heap[w.heap.size]? =some (.deferred (some []))) W1 b1 ?_ ⟨i1,q1,q0⟩).mono ?_
  ·rintro k W hk ⟨hi,hl,hd⟩;refine⟨fn,_,assign,body,run_yield (P:=P) (args:=args k) hl (hps k),roundIn_of_wpIn hfn (hassign _ k W _ hk hi ?_)⟩;intro a' Wa hka hpa hia hax;have hl':=hka.same _ _ (by omega) hl rfl;have hd':=hka.same _ _ (lR_ _) hd rfl;have hlt:w.heap.size+1<Wa.heap.size:=(Array.getElem?_eq_some_iff.1 hl').1;refine⟨_,run_beginRound hl' rfl,?_⟩;have hl2:(Wa.putObj (w.heap.size+1) (.loop (R .busy none))).heap[w.heap.size+1]? =some (.loop (R .busy none)):=World.putObj_heap_same hlt;have hd2:(Wa.putObj (w.heap.size+1) (.loop (R .busy none))).heap[w.heap.size]? =some (.deferred (some [])):=(World.putObj_heap_other (by omega)).trans hd';have hp2:Kp Wa (Wa.putObj (w.heap.size+1) (.loop (R .busy none))):=hKb _ _ _ _ (by omega) hl' rfl;refine wpIn_mono (hbody _ k a' _ hk (hI.putObj _ hia (by omega) hl' rfl) ((hAx k a').putObj (s:=()) _ hax (by omega) hl' rfl)) ?_;rintro e a3 W3 hp
   cases e with
   |normal=>
    obtain⟨hk3,hp3,hi3⟩:=hp;have hl3:=hk3.same _ _ (by omega) hl2 rfl;have hd3:=hk3.same _ _ (lR_ _) hd2 rfl;exact⟨_,_,run_endRound (P:=P) none hl3,rfl,⟨hI.putObj _ hi3 (by omega) hl3 rfl,World.putObj_heap_same (Array.getElem?_eq_some_iff.1 hl3).1,(World.putObj_heap_other (by omega)).trans hd3⟩,hKt hpa (hKt (hKt hp2 hp3) (hKb _ _ _ _ (by omega) hl3 rfl))⟩
   |ret=>exact hp.elim
   |exit id=>exact hp.elim
   |goto t=>exact hp.elim
   |panic ch=>exact hp.elim
   |outgrown=>exact hp.elim
  ·rintro e W2 ⟨⟨v,rfl⟩,hi,hl,hd⟩;exact⟨none,_,run_endLoop (P:=P) hl (by simp[R]),hdone _ _ (lR_ _) (hI.putObj _ hi (by omega) hl rfl) ((World.putObj_heap_other (by omega)).trans hd)⟩
theorem cell_below {w W:World}(h:Below w.heap.size w W):∀b i v,w.cell? ⟨b,i,none⟩=some v→W.cell? ⟨b,i,none⟩=some v:=fun b i v k=>by
 rw[World.cell?_of_block (w:=w) (a:=⟨b,i,none⟩) (h.block b (World.block_lt_of_cell? _ _ k))];exact k
theorem seqA {n:Nat}(hn:1≤n){gb:Nat}{ad:Option Addr}{tb o m cap:Nat}(hm:m≤1000){vs:Nat→Nat→Value}{w:World}(h:StA gb ad tb o m cap vs w):
  SeqAt Fence.wide n Tryz.prog 126 #[.pointer (some ⟨gb,0,none⟩)] (fun k=>encA vs (m-1-k)) (KpA gb ad tb o m cap vs) m w:=fun l J W hb hY h0=>
 backA_in n hn l gb ad tb o m cap hm vs J hY W (h.on (cell_below hb)) h0
theorem StB.on' {gb tb o m cap:Nat}{vs:Nat→Bool}{W W':World}(h:StB gb tb o m cap vs W)(k:∀b i v,W.cell? ⟨b,i,none⟩=some v→W'.cell? ⟨b,i,none⟩=some v):StB gb tb o m cap vs W':=⟨k _ _ _ h.1,fun j hj=>k _ _ _ (h.2 j hj)⟩
theorem seqB {n:Nat}(hn:1≤n){gb tb o m cap:Nat}(hm:m≤1000){vs:Nat→Bool}{w:World}(h:StB gb tb o m cap vs w):
  SeqAt Fence.wide n Tryz.prog 127 #[.pointer (some ⟨gb,0,none⟩)] (fun k=>encB vs (m-1-k)) (KpB gb tb o m cap vs) m w:=fun l J W hb hY h0=>
 backB_in n hn l gb tb o m cap hm vs J hY W (h.on' (cell_below hb)) h0
theorem cell_put {W:World}{l:Nat}{o o':Obj}(hl:W.heap[l]? =some o)(hc:o.isCells=false):∀b i v,W.cell? ⟨b,i,none⟩=some v→(W.putObj l o').cell? ⟨b,i,none⟩=some v:=fun b i v k=>by
 rw[World.cell?_of_block (w:=W) (a:=⟨b,i,none⟩)]
 ·exact k
 ·exact World.putObj_heap_other fun e=>by
   have e':b=l:=e;subst e';have:=cells_of_cell k hl;rw[hc]at this
   cases this
theorem kpA_b {gb:Nat}{ad:Option Addr}{tb o m cap:Nat}{vs:Nat→Nat→Value}(W:World)(l:Nat)(o1 o':Obj)(hl:W.heap[l]? =some o1)(hc:o1.isCells=false):KpA gb ad tb o m cap vs W (W.putObj l o'):=fun h=>h.on (cell_put hl hc)
theorem kpB_b {gb tb o m cap:Nat}{vs:Nat→Bool}(W:World)(l:Nat)(o1 o':Obj)(hl:W.heap[l]? =some o1)(hc:o1.isCells=false):KpB gb tb o m cap vs W (W.putObj l o'):=fun h=>h.on' (cell_put hl hc)
theorem kpA_kd {g gb:Nat}{ad:Option Addr}{tb o m cap:Nat}{vs:Nat→Nat→Value}{W W':World}(h:Kd g W W')(h1:¬Own5 g gb)(h2:0<m→¬Own5 g tb):KpA gb ad tb o m cap vs W W':=fun k=>
 ⟨h.cell h1 k.1,k.2.1,fun j hj i hi=>h.cell (h2 (by omega)) (k.2.2 j hj i hi)⟩
theorem sta_of {M:MS}{g gb m c:Nat}{us:List Af}{a:Option Addr}{w:World}(h:RdD (MD M g) w (afsD us) (.slice a m c))(hb:w.cell? ⟨gb,0,none⟩=some (.slice a m c)):
  ∃tb o vs,StA gb a tb o m c vs w∧(0<m→¬Own5 g tb)∧∀j f,us[j]? =some f→All2 (RdD (MD M g) w) f.D [vs j 0,vs j 1,vs j 2,vs j 3]:=by
 generalize hx:Value.slice a m c=x at h
 cases h with
 |sl k' ys ad cap vs hc hl h0 hk' h1 hr=>
  injection hx with e1 e2 e3;subst e1 e2 e3
  have rd:∀j f,us[j]? =some f→All2 (RdD (MD M g) w) f.D [vs j 0,vs j 1,vs j 2,vs j 3]:=fun j f hf=>
   ⟨hr j _ 0 _ (at_map hf) rfl,hr j _ 1 _ (at_map hf) rfl,hr j _ 2 _ (at_map hf) rfl,hr j _ 3 _ (at_map hf) rfl,trivial⟩
  rcases eP_ (us.map Af.D).length with h2|h2
  ·exact⟨0,0,vs,⟨hb,fun h=>by omega,fun j hj=>by omega⟩,fun h=>by omega,rd⟩
  ·obtain⟨b,o,rfl,hf⟩:=h0 h2;refine⟨b,o,vs,⟨hb,fun _=>rfl,fun j hj i hi=> ?_⟩,fun _=> ?_,rd⟩
   ·obtain⟨f,hff⟩:=at_some (l:=us) (i:=j) (by rw[List.length_map]at hj;exact hj);have hD:f.D.length=4:=rfl;obtain⟨d,hd⟩:=at_some (l:=f.D) (i:=i) (by rw[hD];exact hi);exact(hf j _ i d (at_map hff) hd).2
   ·obtain⟨f,hff⟩:=at_some (l:=us) (i:=0) (by rw[List.length_map]at h2;exact h2);exact fun ho=>(hf 0 _ 0 _ (at_map hff) rfl).1 (.inr ho)
theorem range_box {F:Fence}{n:Nat}{P:Program}{g:Operand}{ps:Array Tmp}{assign body:Code}{Q:Exit→Act→World→Prop}{a:Act}{w:World}
  (hro:F.round=none) (h1:1≤n) {gf:Nat} {lb:Array Value} (hg:a.eval g= .func (.func gf) #[] lb) (hFg:F.fn gf) (eg:∀args w,(callFunc gf args).run P w= .ok (.enter gf args) w)
  {args:Nat→Array Value} {Kp:World→World→Prop} {m:Nat} (hseq:SeqAt F (n-1) P gf lb args Kp m w)
  (hKt:∀{A B C:World},Kp A B→Kp B C→Kp A C) (hKb:∀(W:World) (l:Nat) (o o':Obj),W.heap[l]? =some o→o.isCells=false→Kp W (W.putObj l o')) (hps:∀k,(args k).size=ps.size)
  (I:Nat→World→Prop) (hI:OwnFrom w.heap.size I) (h0:I 0 w) (Ab:Nat→Nat→World→Prop) (hAb:∀k b,OwnFrom w.heap.size (fun(_:Unit) W=>Ab k b W)) (a2:Nat→Nat→Act)
  (hassign:∀(l k:Nat) (W:World) (K:Act→World→Prop),k<m→I k W→(∀b W',KeepsFrom w.heap.size W W'→Kp W W'→I k W'→Ab k b W'→K (a2 k b) W')→
   assign.wpIn (F.inRound l) (n-1-1) P (Exit.then K (fun _ _ _=>False)) {tmps:=(ps.zip (args k)).foldl (fun t (p,v)=>t.setIfInBounds p v) a.tmps,defers:=[]} W)
  (hbody:∀(l k b:Nat) (W:World),k<m→I k W→Ab k b W→body.wpIn (F.inRound l) (n-1-1) P (roundPost w.heap.size Kp (I (k+1)) W) (a2 k b) W)
  (hdone:∀(D:Nat) (W:World),w.heap.size≤D→I m W→W.heap[D]? =some (.deferred (some []))→Q .normal {a with defers:={target:= .collected D,args:= #[]}::a.defers} W):
  (Code.rangeFunc g ps assign body).wpIn F n P Q a w:=
 range_in hro h1 hg hFg eg hseq hKt (fun W l o o' _=>hKb W l o o') hps I hI h0 (fun k a' W=>∃b,a'=a2 k b∧Ab k b W) (fun k a' s X Y row hs hb hr=>by obtain⟨b,e,h⟩:=hs;exact⟨b,e,hAb k b () X Y row h hb hr⟩)
  (fun l k W K hk hi hK=>hassign l k W K hk hi fun b W' q1 q2 q3 q4=>hK _ W' q1 q2 q3 ⟨b,rfl,q4⟩) (fun l k a' W hk hi hx=>by obtain⟨b,rfl,hb⟩:=hx;exact hbody l k b W hk hi hb) hdone
theorem KpA.trans {gb:Nat}{ad:Option Addr}{tb o m cap:Nat}{vs:Nat→Nat→Value}{A B C:World}(h:KpA gb ad tb o m cap vs A B)(k:KpA gb ad tb o m cap vs B C):KpA gb ad tb o m cap vs A C:=fun q=>k (h q)
theorem KpB.trans {gb tb o m cap:Nat}{vs:Nat→Bool}{A B C:World}(h:KpB gb tb o m cap vs A B)(k:KpB gb tb o m cap vs B C):KpB gb tb o m cap vs A C:=fun q=>k (h q)
theorem range_flat {F:Fence}{n:Nat}{P:Program}{g:Operand}{ps:Array Tmp}{assign body:Code}{Q:Exit→Act→World→Prop}{a:Act}{w:World}
  (hro:F.round=none) (h1:1≤n) {gf:Nat} {lb:Array Value} (hg:a.eval g= .func (.func gf) #[] lb) (hFg:F.fn gf) (eg:∀args w,(callFunc gf args).run P w= .ok (.enter gf args) w)
  {args:Nat→Array Value} {Kp:World→World→Prop} {m:Nat} (hseq:SeqAt F (n-1) P gf lb args Kp m w)
  (hKt:∀{A B C:World},Kp A B→Kp B C→Kp A C) (hKb:∀(W:World) (l:Nat) (o o':Obj),W.heap[l]? =some o→o.isCells=false→Kp W (W.putObj l o')) (hps:∀k,(args k).size=ps.size)
  (I:Nat→World→Prop) (hI:OwnFrom w.heap.size I) (h0:I 0 w) (hKr:∀W,Kp W W) (a1:Nat→Act)
  (hassign:∀(l k:Nat) (W:World) (K:Act→World→Prop),K (a1 k) W→
   assign.wpIn (F.inRound l) (n-1-1) P (Exit.then K (fun _ _ _=>False)) {tmps:=(ps.zip (args k)).foldl (fun t (p,v)=>t.setIfInBounds p v) a.tmps,defers:=[]} W)
  (hbody:∀(l k:Nat) (W:World),k<m→I k W→body.wpIn (F.inRound l) (n-1-1) P (roundPost w.heap.size Kp (I (k+1)) W) (a1 k) W)
  (hdone:∀(D:Nat) (W:World),w.heap.size≤D→I m W→W.heap[D]? =some (.deferred (some []))→Q .normal {a with defers:={target:= .collected D,args:= #[]}::a.defers} W):
  (Code.rangeFunc g ps assign body).wpIn F n P Q a w:=
 range_in hro h1 hg hFg eg hseq hKt (fun W l o o' _=>hKb W l o o') hps I hI h0 (fun k a' W=>a'=a1 k) (fun k a' s X Y row hs hb hr=>hs)
  (fun l k W K hk hi hK=>hassign l k W K (hK _ W (KeepsFrom.refl _ _) (hKr W) hi rfl)) (fun l k a' W hk hi hx=>by subst hx;exact hbody l k W hk hi) hdone
theorem set_heap {W:World}{b i:Nat}{v:Value}{cs:Array Value}{t:TypeId}(h:W.heap[b]? =some (.cells cs t (0,0))):(W.setCell ⟨b,i,none⟩ v).heap[b]? =some (.cells (cs.setIfInBounds i v) t (0,0)):=by
 have hl:=(Array.getElem?_eq_some_iff.1 h).1;have he:=(Array.getElem?_eq_some_iff.1 h).2;simp[World.setCell,Array.getElem?_modify,h]
theorem set3 {W:World}{b:Nat}{a0 a1 a2 x0 x1 x2:Value}{t:TypeId}(h:W.heap[b]? =some (.cells [a0,a1,a2].toArray t (0,0))):
  (((W.setCell ⟨b,0,none⟩ x0).setCell ⟨b,1,none⟩ x1).setCell ⟨b,2,none⟩ x2).heap[b]? =some (.cells [x0,x1,x2].toArray t (0,0)):=by
 have h1:=set_heap (i:=0) (v:=x0) h;have h2:=set_heap (i:=1) (v:=x1) h1;have h3:=set_heap (i:=2) (v:=x2) h2;exact h3
theorem set3_other {W:World}{b k:Nat}{x0 x1 x2:Value}(hk:k≠b):(((W.setCell ⟨b,0,none⟩ x0).setCell ⟨b,1,none⟩ x1).setCell ⟨b,2,none⟩ x2).heap[k]? =W.heap[k]?:=by
 rw[Below.heap_setCell _ _ _ k hk,Below.heap_setCell _ _ _ k hk,Below.heap_setCell _ _ _ k hk]
theorem kd_set3 {g b:Nat}{W:World}{x0 x1 x2:Value}(hb:Own5 g b):Kd g W (((W.setCell ⟨b,0,none⟩ x0).setCell ⟨b,1,none⟩ x1).setCell ⟨b,2,none⟩ x2):=
 ⟨rfl,rfl,rfl,by simp[World.setCell],fun k hk hm=>set3_other fun e=>hm (by rw[e];exact hb)⟩
theorem DS.put {M:MS}{g n:Nat}{us os us2 os2:List Af}{ms:List Bool}{W:World}(h:DS M g n us os ms W){au av:Option Addr}{nu cu nv cv:Nat}(ru:RdD (MD M g) W (afsD us2) (.slice au nu cu))(rv:RdD (MD M g) W (afsD os2) (.slice av nv cv)):
  DS M g n us2 os2 ms (((W.setCell ⟨g,0,none⟩ (.int .i64 (n:Nat))).setCell ⟨g,1,none⟩ (.slice au nu cu)).setCell ⟨g,2,none⟩ (.slice av nv cv)):=by
 have hk:Kd g W (((W.setCell ⟨g,0,none⟩ (.int .i64 (n:Nat))).setCell ⟨g,1,none⟩ (.slice au nu cu)).setCell ⟨g,2,none⟩ (.slice av nv cv)):=kd_set3 ⟨lR_ _,by omega⟩;obtain⟨⟨u,v,h0,_,_⟩,h1,⟨sp,h2⟩,⟨c,hc,h3⟩,⟨t4,h4⟩,hd,h5,h6⟩:=h;have g0:=set3 (x0:= .int .i64 (n:Nat)) (x1:= .slice au nu cu) (x2:= .slice av nv cv) h0;refine⟨⟨_,_,g0,RdD.fx hk.fx ru,RdD.fx hk.fx rv⟩,(set3_other (by omega)).trans h1,⟨sp,(set3_other (by omega)).trans h2⟩,⟨c,hc,(set3_other (by omega)).trans h3⟩,⟨t4,(set3_other (by omega)).trans h4⟩,hd,fun b i k hm=> ?_,h6.fx hk.fx⟩
 by_cases hb:b=g
 ·subst hb;exact no_u32 (vs:=[_,_,_]) g0 (by simp)
 ·rw[World.cell?_of_block (w:=W) (a:=⟨b,i,none⟩) (set3_other hb)];exact h5 b i k hm
end Go.Proofs.YtbegidaaiajffaaGreatDoor.Lf
namespace Go.Proofs.YtbegidaaiajffaaGreatDoor.Lf
open Go.RowKit Nt
attribute [local go_sem] Oper.semAt_some
def mkP (n:Nat)(us:List Af)(ms0:List Bool)(m:Nat):Nat→List Bool
 |0=>ms0
 |k+1=>if(mkP n us ms0 m k).getD (m-1-k) false=true then mkF n (mkP n us ms0 m k) (us.getD (m-1-k) z0)else mkP n us ms0 m k
theorem mkP_len {n:Nat}{us:List Af}{ms0:List Bool}{m:Nat}:∀k,(mkP n us ms0 m k).length=ms0.length
 |0=>rfl
 |k+1=>by
  rw[mkP];split
  ·rw[mkF_len,mkP_len k]
  ·exact mkP_len k
theorem mkP_eq {n:Nat}{us:List Af}{ms0:List Bool}{m:Nat}:∀k,k≤m→mkB n us (m-k) (mkP n us ms0 m k)=mkB n us m ms0
 |0,_=>rfl
 |k+1,h=>by
  have e:=mkP_eq (n:=n) (us:=us) (ms0:=ms0) (m:=m) k (Nat.le_of_succ_le h);rw[show m-k=(m-(k+1))+1 by omega,mkB]at e;rw[mkP,show m-1-k=m-(k+1) by omega];exact e
theorem mkP_all {n:Nat}{us:List Af}{ms0:List Bool}{m:Nat}:mkP n us ms0 m m=mkB n us m ms0:=by
 have:=mkP_eq (n:=n) (us:=us) (ms0:=ms0) (m:=m) m (lR_ _)
 rwa [Nat.sub_self]at this
def mgB (ms:List Bool)(j:Nat):Bool:=ms.getD j false
theorem stb_of {M:MS}{g n c gb m:Nat}{us os:List Af}{ms:List Bool}{W:World}(h:DS M g n us os ms W)(hm:ms.length=m)(hb:W.cell? ⟨gb,0,none⟩=some (.slice (some ⟨g+1+1,0,none⟩) m c)):StB gb (g+1+1) 0 m c (mgB ms) W:=by
 refine⟨hb,fun j hj=> ?_⟩;obtain⟨sp,d2⟩:=h.g2;obtain⟨b0,hb0⟩:=at_some (l:=ms) (i:=j) (by omega);show W.cell? ⟨g+1+1,0+j,none⟩=some (.bool (ms.getD j false));rw[getD_of hb0,Nat.zero_add];simp only[World.cell?,d2,List.getElem?_toArray];rw[List.getElem?_append_left (by rw[List.length_map];omega)];exact at_map hb0
theorem kpB_ds {M:MS}{g n c gb m:Nat}{us os:List Af}{ms:List Bool}{W W':World}(h:DS M g n us os ms W')(hm:ms.length=m)(hk:Kd g W W')(hg:¬Own5 g gb):KpB gb (g+1+1) 0 m c (mgB ms) W W':=fun q=>stb_of h hm (hk.cell hg q.1)
theorem results_cellg {fn:Func}{t:Nat}(h:fn.results=⟨[.cell t 36]⟩){tmps:Array Value}{w:World}{b:Nat}{x0 x1 x2:Value}{tt:TypeId}(ht:tmps.getD t undef= .pointer (some ⟨b,0,none⟩))(hc:w.heap[b]? =some (.cells [x0,x1,x2].toArray tt (0,0))):
  (results fn tmps).run Tryz.prog w= .ok (.agg [x0,x1,x2].toArray) w:=by
 refine results_run (a:={tmps:=tmps,defers:=[]}) [.cell t 36] [.agg [x0,x1,x2].toArray] h rfl (Nat.le_of_ble_eq_true rfl) fun i x r hx hr=> ?_;rcases i with _|i
 ·simp at hx hr;subst hx hr;refine⟨_,ht,?_⟩
  exact loadVar_run (ag:=true) (s:=3) (by kernel_rfl) (by kernel_rfl) (fun h=>by cases h) (vs:=[x0,x1,x2]) rfl fun j u hj=>by
   simp only[World.cell?,hc,Nat.zero_add,List.getElem?_toArray];exact hj
 ·simp at hx
theorem fin_below {g D1 D2:Nat}{w W0 W9:World}{o o':Obj}(hg:w.heap.size=g)(h0:Below g w W0)(hk:Kd g W0 W9)(h1:g≤D1)(h2:g≤D2):Below g w ((W9.putObj D2 o).putObj D1 o'):=by
 subst hg;have hs:=h0.size;have hb:Below w.heap.size w W9:=⟨hk.os.trans h0.os,hk.tape.trans h0.tape,hk.output.trans h0.output,tL_ h0.size hk.size,fun b hb=>(hk.other b (by omega) fun ho=>by have:=ho.1;omega).trans (h0.block b hb)⟩;have z:∀{A:World} {D:Nat} (o:Obj),Below w.heap.size w A→w.heap.size≤D→Below w.heap.size w (A.putObj D o):=fun o h1 h2=>h1.grown (grownBy_putObj' _ _ _) h1.size fun k e=>by injection e with e;omega
 exact z _ (z _ hb h2) h1
theorem dead_in {L n:Nat}{us os:List Af}(hL:LOk L)(h:Gk L n us os)(hn':n≤24)(ho':os.length≤24){M:MS}(w:World)(hG:Glb M w)(hu32:∀b i n,M b i→w.cell? ⟨b,i,none⟩≠some (.int .u32 n))(hdom:∀b i,M b i→b<w.heap.size)(u v:Value)(ru:RdD M w (afsD us) u)(rv:RdD M w (afsD os) v):
  CallsIn Fence.wide 9 Tryz.prog 36 #[.agg #[.int .i64 (n:Nat),u,v]] w fun e W'=>∃u' v',e= .returned (.agg #[.int .i64 (n:Nat),u',v'])∧Below w.heap.size w W'∧RdD M W' (afsD (deaS n us os).1) u'∧RdD M W' (afsD (deaS n us os).2) v':=by
 have hu:=h.u;have hmk:∀w,(Instr.makeSlice 118 (.int .i64 (us.length:Nat)) (.int .i64 (us.length:Nat))).run Tryz.prog w= .ok (.slice (some ⟨w.heap.size,0,none⟩) us.length us.length) (w.alloc (.cells ((List.replicate us.length false).map Value.bool).toArray 4)):=mk_bools (by omega);obtain⟨ua,uc,eu⟩:=rd_slice ru;obtain⟨va,vc,ev⟩:=rd_slice rv;rw[List.length_map]at eu ev;subst eu ev;obtain⟨g,hg⟩:∃g,w.heap.size=g:=⟨_,rfl⟩;rw[hg];refine callsIn_of_wp_marks Tryz.func36 rfl trivial ?_ rfl;simp only[Tryz.ntmps36,List.size_toArray,List.length_cons,List.length_nil,Nat.reduceAdd,Nat.reduceSub,Array.replicate_succ,Array.replicate_zero,List.push_toArray,List.append_toArray,List.nil_append,List.cons_append];generalize hbs:((List.replicate us.length false).map Value.bool).toArray=bs0 at *
 gi_wp2_with fail
 obtain⟨W0,hW0⟩:∃W0,((((w.alloc (.cells #[Value.int .i64 (n:Nat),.slice ua us.length uc,.slice va os.length vc] 36)).alloc (.cells #[Value.int .i64 0,.slice none 0 0,.slice none 0 0] 36)).alloc (.cells bs0 4)).alloc (.cells #[Value.slice (some ⟨g+1+1,0,none⟩) us.length us.length] 118)).alloc
  (.cells #[.func (.func 70) #[] #[.pointer (some ⟨g,0,none⟩),.pointer (some ⟨g+1+1+1,0,none⟩)]] 119)=W0:=⟨_,rfl⟩
 rw[hW0];rw[←hbs]at hW0;obtain⟨hD0,hB0,rd0,hs0⟩:=ds_init hg hG hu32 hdom ru rv rfl rfl hW0;clear hW0 hbs hmk bs0;have rvD:=rd0 _ _ rv;have ruD:=rd0 _ _ ru
 gi_loopw [19] (fun i wr=>∃k,k≤os.length∧i= .int .i64 (k:Nat)∧DS M g n us os ((os.take k).foldl (mkF n) (List.replicate us.length false)) wr∧Kd g W0 wr) (fun i _=>os.length-(intOf i).toNat)
 case atStart=>exact⟨0,zL_ _,rfl,hD0,Kd.refl⟩
 case round=>
  obtain⟨k,hk,rfl,hDr,hKr⟩:=hrel
  by_cases hlt:k<os.length
  ·obtain⟨f,hf⟩:=at_some hlt;obtain⟨b,o,v0,v1,v2,v3,rfl,c0,c1,c2,c3,rf⟩:=af_cells (RdD.fx hKr.fx rvD) hf;obtain⟨a0,n0,q0,b1,a2,n2,q2,a3,n3,q3,rfl,rfl,rfl,rfl⟩:=af_shape rf
   replace c0:=c0.2
   replace c1:=c1.2
   replace c2:=c2.2
   replace c3:=c3.2
   obtain⟨W1,hW1⟩:∃W1,wr.alloc (.cells #[Value.slice a0 n0 q0,.bool b1,.slice a2 n2 q2,.slice a3 n3 q3] 79)=W1:=⟨_,rfl⟩;obtain⟨hx1,_,hsz1,hB1⟩:=al1 hW1;have hD1:=hDr.to hB1;obtain⟨t4,d4⟩:=hD1.g4;have e4:W1.cell? ⟨g+1+1+1+1,0,none⟩=some (.func (.func 70) #[] #[.pointer (some ⟨g,0,none⟩),.pointer (some ⟨g+1+1+1,0,none⟩)]):=by simp only[World.cell?,d4];rfl
   have x0:W1.cell? ⟨wr.heap.size,0,none⟩=some (Value.slice a0 n0 q0):=by simp only[World.cell?,hx1];rfl
   have x1:W1.cell? ⟨wr.heap.size,1,none⟩=some (Value.bool b1):=by simp only[World.cell?,hx1];rfl
   have x2:W1.cell? ⟨wr.heap.size,2,none⟩=some (Value.slice a2 n2 q2):=by simp only[World.cell?,hx1];rfl
   have x3:W1.cell? ⟨wr.heap.size,3,none⟩=some (Value.slice a3 n3 q3):=by simp only[World.cell?,hx1];rfl
   have rf1:=af_rd (All2.imp (fun x y k=>RdD.fx (Kd.of (g:=g) hB1).fx k) rf);clear d4 hx1
   gi_wp2_with (rw[hW1])
   have hlen:((os.take k).foldl (mkF n) (List.replicate us.length false)).length=us.length:=by rw[os_len,List.length_replicate]
   refine⟨trivial,(callsIn_wide.2 (de1_at hD1 hn' (by rw[hlen];omega) (by rw[hlen];exact(h.of f (mG_ hf)).ts) rf1)).mono ?_⟩;rintro e W2 ⟨⟨r,rfl⟩,hD2,hK2⟩;have hfin:DS M g n us os ((os.take (k+1)).foldl (mkF n) (List.replicate us.length false)) W2∧Kd g W0 W2:=⟨by rw[take_snoc hf,List.foldl_append];exact hD2,hKr.trans ((Kd.of hB1).trans hK2)⟩;clear hD2
   gi_wp2_with fail
   exact⟨⟨k+1,hlt,by go_num,hfin⟩,by simp only[intOf];omega⟩
  ·have hkm:k=os.length:=by omega
   subst hkm;rw[List.take_length]at hDr
   change DS M g n us os (mkO n us.length os) wr at hDr
   obtain⟨u1,u2,d0,ru1,ru2⟩:=hDr.g0;obtain⟨a1,c1,e1⟩:=rd_slice ru1;rw[List.length_map]at e1;subst e1;have x1:wr.cell? ⟨g,1,none⟩=some (.slice a1 us.length c1):=by simp only[World.cell?,d0];rfl
   clear d0
   gi_wp2_with fail
   refine⟨trivial,bwd_at.mono ?_⟩;rintro e W5 ⟨rfl,tB,hW5⟩;obtain⟨hx5,_,hsz5,hB5⟩:=al1 hW5.symm;have hD5:=hDr.to hB5;have hgs:=hDr.size;have k5:W5.cell? ⟨wr.heap.size,0,none⟩=some (.slice a1 us.length c1):=by simp only[World.cell?,hx5];rfl
   obtain⟨tb,o,vs,hst,htb,hrows⟩:=sta_of (RdD.fx (Kd.of (g:=g) hB5).fx ru1) k5;have hK05:Kd g W0 W5:=hKr.trans (Kd.of hB5);generalize hgb:wr.heap.size=gb at *
   clear hW5 hx5 ru1 ru2
   gi_wp2_with fail
   refine range_box rfl (by decide) (gf:=126) (lb:= #[.pointer (some ⟨gb,0,none⟩)]) rfl trivial (enters_of Tryz.func126 (by kernel_rfl) rfl)
    (seqA (by decide) (by omega) hst) KpA.trans kpA_b (fun _=>rfl)
    (fun k W=>DS M g n us os (mkP n us (mkO n us.length os) us.length k) W∧Kd g W5 W)
    (fun k X Y row hs hb hr=>⟨hs.1.grown hb (fun r e=>⟨by have:=hD5.size;have:=(hr r e).1;omega,(hr r e).2⟩),hs.2.grown hb hr (lR_ _)⟩)
    ⟨hD5,Kd.refl⟩
    (fun k b W=>g+5≤b∧W.cell? ⟨b,0,none⟩=some (vs (us.length-1-k) 0)∧W.cell? ⟨b,1,none⟩=some (vs (us.length-1-k) 1)∧W.cell? ⟨b,2,none⟩=some (vs (us.length-1-k) 2)∧W.cell? ⟨b,3,none⟩=some (vs (us.length-1-k) 3))
    (fun k b s X Y row hs hb hr=>⟨hs.1,gr_cell hb (fun r e=>(hr r e).2) hs.2.1,gr_cell hb (fun r e=>(hr r e).2) hs.2.2.1,gr_cell hb (fun r e=>(hr r e).2) hs.2.2.2.1,gr_cell hb (fun r e=>(hr r e).2) hs.2.2.2.2⟩)
    ?a2 ?assign2 ?body2 ?done2
   case assign2=>
    rintro l k W K hk ⟨hDk,hKk⟩ hK;obtain⟨f,hf⟩:=at_some (l:=us) (i:=us.length-1-k) (by omega);obtain⟨a0,n0,q0,b1,a2,n2,q2,a3,n3,q3,e0,e1,e2,e3⟩:=af_shape (hrows _ f hf);obtain⟨b,hb⟩:∃b,W.heap.size=b:=⟨_,rfl⟩;obtain⟨W',hW'⟩:∃W',W.alloc (.cells #[Value.slice a0 n0 q0,.bool b1,.slice a2 n2 q2,.slice a3 n3 q3] 79)=W':=⟨_,rfl⟩;obtain⟨hx',_,hsz',hB'⟩:=al1 hW';have hgk:=hDk.size;have hgB:=hD5.size;have p1:KeepsFrom W5.heap.size W W':=(Kd.of (g:=g) hB').keeps (by omega);have p2:KpA gb a1 tb o us.length c1 vs W W':=kpA_kd (g:=g) (Kd.of hB') (fun hm=>by have:=hm.2;omega) htb;have p3:=hDk.to hB';have p4:=hKk.trans (Kd.of (g:=g) hB');have p5:g+5≤b∧W'.cell? ⟨b,0,none⟩=some (vs (us.length-1-k) 0)∧W'.cell? ⟨b,1,none⟩=some (vs (us.length-1-k) 1)∧W'.cell? ⟨b,2,none⟩=some (vs (us.length-1-k) 2)∧W'.cell? ⟨b,3,none⟩=some (vs (us.length-1-k) 3):=by
     rw[hb]at hx';rw[e0,e1,e2,e3];refine⟨by omega,?_,?_,?_,?_⟩<;>(simp only[World.cell?,hx'];rfl)
    dsimp only[encA]
    rw[e0,e1,e2,e3];clear hx' hsz'
    gi_wp2_with (rw[hW'])
    rw[←e0,←e1,←e2,←e3];exact hK b W' p1 p2 ⟨p3,p4⟩ p5
   case body2=>
    rintro l k b W hk ⟨hDk,hKk⟩ ⟨hb,x0,x1,x2,x3⟩;have eP:mkP n us (mkO n us.length os) us.length (k+1)=if(mkP n us (mkO n us.length os) us.length k).getD (us.length-1-k) false=true then mkF n (mkP n us (mkO n us.length os) us.length k) (us.getD (us.length-1-k) z0)else mkP n us (mkO n us.length os) us.length k:=rfl
    have hPl:(mkP n us (mkO n us.length os) us.length k).length=us.length:=by rw[mkP_len,mkO,os_len,List.length_replicate]
    obtain⟨f,hf⟩:=at_some (l:=us) (i:=us.length-1-k) (by omega);have rf0:=hrows _ f hf;rw[getD_of hf]at eP;obtain⟨a0,n0,q0,b1,a2,n2,q2,a3,n3,q3,e0,e1,e2,e3⟩:=af_shape rf0;rw[e0,e1,e2,e3]at rf0;rw[e0]at x0;rw[e1]at x1;rw[e2]at x2;rw[e3]at x3;have rf1:=af_rd (All2.imp (fun x y q=>RdD.fx hKk.fx q) rf0);have hgB:=hD5.size;obtain⟨c,hc,d3⟩:=hDk.g3;obtain⟨sp,d2⟩:=hDk.g2;obtain⟨t4,d4⟩:=hDk.g4;rw[hPl]at d3 hc;have y3:W.cell? ⟨g+1+1+1,0,none⟩=some (.slice (some ⟨g+1+1,0,none⟩) us.length c):=by simp only[World.cell?,d3];rfl
    have y4:W.cell? ⟨g+1+1+1+1,0,none⟩=some (.func (.func 70) #[] #[.pointer (some ⟨g,0,none⟩),.pointer (some ⟨g+1+1+1,0,none⟩)]):=by simp only[World.cell?,d4];rfl
    have y2:W.cell? ⟨g+1+1,us.length-1-k,none⟩=some (.bool ((mkP n us (mkO n us.length os) us.length k).getD (us.length-1-k) false)):=by
     obtain⟨b0,hb0⟩:=at_some (l:=mkP n us (mkO n us.length os) us.length k) (i:=us.length-1-k) (by omega);rw[getD_of hb0];simp only[World.cell?,d2,List.getElem?_toArray];rw[List.getElem?_append_left (by rw[List.length_map];omega)];exact at_map hb0
    clear d2 d3 d4 sp;generalize mkP n us (mkO n us.length os) us.length (k+1)=P1 at *
    generalize mkP n us (mkO n us.length os) us.length k=P0 at *
    have hjl:us.length-1-k<us.length:=by omega
    generalize us.length-1-k=j at *
    cases hbv:P0.getD j false with
    |true=>
     rw[hbv]at y2 eP;rw[if_pos rfl]at eP;subst eP
     gi_wp2_with fail
     refine⟨trivial,CallsIn.inRound l ((callsIn_wide.2 (de1_at hDk hn' (by rw[hPl];omega) (by rw[hPl];exact TsOk.up (by omega) (h.ts j f hf)) rf1)).mono ?_)⟩;rintro e W3 ⟨⟨r,rfl⟩,hD3,hK3⟩;have p1:KeepsFrom W5.heap.size W W3:=hK3.keeps (by omega);have p2:KpA gb a1 tb o us.length c1 vs W W3:=kpA_kd hK3 (fun hm=>by have:=hm.2;omega) htb;have p3:Kd g W5 W3:=hKk.trans hK3;clear hDk x0 x1 x2 x3 y2 y3 y4
     gi_wp2_with fail
     exact⟨p1,p2,hD3,p3⟩
    |false=>
     rw[hbv]at y2 eP;rw[if_neg (by decide)]at eP;subst eP
     gi_wp2_with fail
     exact⟨KeepsFrom.refl _ _,fun q=>q,hDk,hKk⟩
   case done2=>
    rintro D1 W6 hlD1 ⟨hD6,hK6⟩ hD1;rw[mkP_all]at hD6
    change DS M g n us os (deaM n us os) W6 at hD6
    have hgs6:=hD6.size;have hPl:(deaM n us os).length=us.length:=(deaM_ok h.ts).len;obtain⟨c,hc,d3⟩:=hD6.g3;rw[hPl]at d3 hc;have y3:W6.cell? ⟨g+1+1+1,0,none⟩=some (.slice (some ⟨g+1+1,0,none⟩) us.length c):=by simp only[World.cell?,d3];rfl
    clear d3 x1 k5 hst
    gi_wp2_with fail
    refine⟨trivial,bwdb_at.mono ?_⟩;rintro e W7 ⟨rfl,hW7⟩;obtain⟨hx7,_,hsz7,hB7⟩:=al1 hW7.symm;have hD7:=hD6.to hB7;have hst7:=stb_of hD7 hPl (gb:=W6.heap.size) (c:=c) (by simp only[World.cell?,hx7];rfl);have hK07:Kd g W0 W7:=hK05.trans (hK6.trans (Kd.of hB7));generalize hgb7:W6.heap.size=gb7 at *
    clear hW7 hx7;generalize hms:deaM n us os=ms at *
    gi_wp2_with fail
    refine range_flat rfl (by decide) (gf:=127) (lb:= #[.pointer (some ⟨gb7,0,none⟩)]) rfl trivial (enters_of Tryz.func127 (by kernel_rfl) rfl)
     (seqB (by decide) (by omega) hst7) KpB.trans kpB_b (fun _=>rfl)
     (fun k W=>∃us' os',DeI L n us os ms (us.length-k) us' os'∧deB n ms (us.length-k) us' os'=deB n ms us.length us os∧DS M g n us' os' ms W∧Kd g W7 W)
     (fun k X Y row hs hb hr=>by obtain⟨us',os',i1,i2,i3,i4⟩:=hs;exact⟨us',os',i1,i2,i3.grown hb (fun r e=>⟨by have:=hD7.size;have:=(hr r e).1;omega,(hr r e).2⟩),i4.grown hb hr (lR_ _)⟩)
     ⟨us,os,by rw[←hms];exact dea0 h (deaM_ok h.ts),rfl,hD7,Kd.refl⟩ (fun _ q=>q)
     ?a3 ?assign3 ?body3 ?done3
    case assign3=>
     intro l k W K hK;gi_wp2;exact hK
    case body3=>
     rintro l k W hk ⟨us',os',i1,i2,i3,i4⟩;have ej:us.length-k=(us.length-1-k)+1:=by omega
     rw[ej]at i1 i2;have hst:=deB_step hL (by rw[←hms];exact deaM_ok h.ts) i1;have hle:=i1.le;have hgs:=i1.gs;rw[deB]at i2;have ek:us.length-(k+1)=us.length-1-k:=by omega
     have hgB:=hD7.size
     have fin:∀{W':World} {us2 os2:List Af},KeepsFrom W7.heap.size W W'→KpB gb7 (g+1+1) 0 us.length c (mgB ms) W W'→DeI L n us os ms (us.length-1-k) us2 os2→deB n ms (us.length-1-k) us2 os2=deB n ms us.length us os→DS M g n us2 os2 ms W'→Kd g W7 W'→
       KeepsFrom W7.heap.size W W'∧KpB gb7 (g+1+1) 0 us.length c (mgB ms) W W'∧∃us2 os2,DeI L n us os ms (us.length-(k+1)) us2 os2∧deB n ms (us.length-(k+1)) us2 os2=deB n ms us.length us os∧DS M g n us2 os2 ms W'∧Kd g W7 W':=by
      intro W' us2 os2 q1 q2 q3 q4 q5 q6;rw[ek];exact⟨q1,q2,us2,os2,q3,q4,q5,q6⟩
     have hngb:¬Own5 g gb7:=fun hm=>by have:=hm.2;omega
     clear i1 ek ej;generalize us.length-1-k=j at *
     cases hbv:mgB ms j with
     |true=>
      rw[if_pos (show ms.getD j false=true from hbv)]at i2;have h1:=hst.1 hbv;clear hst
      gi_wp2_with fail
      exact fin (KeepsFrom.refl _ _) (fun q=>q) h1 i2 i3 i4
     |false=>
      rw[if_neg (by rw[show ms.getD j false=false from hbv];decide)]at i2;have h1:=hst.2 hbv;clear hst;obtain⟨u',v',d0,ru',rv'⟩:=i3.g0;obtain⟨au,cu,eu⟩:=rd_slice ru';obtain⟨av,cv,ev⟩:=rd_slice rv';rw[List.length_map]at eu ev;subst eu ev;have z0:W.cell? ⟨g,0,none⟩=some (.int .i64 (n:Nat)):=by simp only[World.cell?,d0];rfl
      have z1:W.cell? ⟨g,1,none⟩=some (.slice au us'.length cu):=by simp only[World.cell?,d0];rfl
      have z2:W.cell? ⟨g,2,none⟩=some (.slice av os'.length cv):=by simp only[World.cell?,d0];rfl
      have hr:RdV γ0 (look []) (MD M g) W (.agg (grA n us' os')) (.agg #[.int .i64 (n:Nat),.slice au us'.length cu,.slice av os'.length cv]):=⟨[_,_,_],rfl,.lit _,ru',rv',trivial⟩;clear d0
      gi_wp2_with fail
      refine⟨trivial,CallsIn.inRound l ((callsIn_wide.2 (rep_at (j:=j) hL hgs hn' ho' (by omega) i3 hr)).mono ?_)⟩;rintro e W3 ⟨u3,v3,rfl,hD3,hB3,ru3,rv3⟩;obtain⟨au3,cu3,eu3⟩:=rd_slice ru3;obtain⟨av3,cv3,ev3⟩:=rd_slice rv3;rw[List.length_map]at eu3 ev3;subst eu3 ev3;obtain⟨u4,v4,d4,_,_⟩:=hD3.g0;have w0:(W3.cell? ⟨g,0,none⟩).isSome=true:=by simp only[World.cell?,d4];rfl
      have w1:(W3.cell? ⟨g,1,none⟩).isSome=true:=by simp only[World.cell?,d4];rfl
      have w2:(W3.cell? ⟨g,2,none⟩).isSome=true:=by simp only[World.cell?,d4];rfl
      obtain⟨x0,w0⟩:=Option.isSome_iff_exists.1 w0;obtain⟨x1,w1⟩:=Option.isSome_iff_exists.1 w1;obtain⟨x2,w2⟩:=Option.isSome_iff_exists.1 w2;have f0:W3.frozen? ⟨g,0,none⟩=false:=by simp[World.frozen?,d4]
      have f1:W3.frozen? ⟨g,1,none⟩=false:=by simp[World.frozen?,d4]
      have f2:W3.frozen? ⟨g,2,none⟩=false:=by simp[World.frozen?,d4]
      clear d4 z0 z1 z2 hr;generalize repU n j (numS 0) us'=us2 at *
      generalize os'.map (repF ((n+j:Nat):Int) (numS 0))=os2 at *
      have hp:=hD3.put ru3 rv3;have hpk:=(Kd.of (g:=g) hB3).trans (kd_set3 (g:=g) (b:=g) (W:=W3) (x0:= .int .i64 (n:Nat)) (x1:= .slice au3 us2.length cu3) (x2:= .slice av3 os2.length cv3) ⟨lR_ _,by omega⟩);have fin2:=fin (hpk.keeps (by omega)) (kpB_ds hp hPl hpk hngb) h1 i2 hp (i4.trans hpk);clear hD3 ru3 rv3 hp hpk fin
      gi_wp2_with fail
      exact fin2
    case done3=>
     rintro D2 W8 hlD2 ⟨us',os',i1,i2,i3,i4⟩ hD2;rw[Nat.sub_self]at i1 i2;have eS:deaS n us os=(us',os'):=by rw[deaS,hms];exact i2.symm
     obtain⟨u8,v8,d0,ru8,rv8⟩:=i3.g0;obtain⟨au,cu,eu⟩:=rd_slice ru8;obtain⟨av,cv,ev⟩:=rd_slice rv8;rw[List.length_map]at eu ev;subst eu ev;have z0:W8.cell? ⟨g,0,none⟩=some (.int .i64 (n:Nat)):=by simp only[World.cell?,d0];rfl
     have z1:W8.cell? ⟨g,1,none⟩=some (.slice au us'.length cu):=by simp only[World.cell?,d0];rfl
     have z2:W8.cell? ⟨g,2,none⟩=some (.slice av os'.length cv):=by simp only[World.cell?,d0];rfl
     have d1:=i3.g1;have w0:W8.cell? ⟨g+1,0,none⟩=some (.int .i64 0):=by simp only[World.cell?,d1];rfl
     have w1:W8.cell? ⟨g+1,1,none⟩=some (.slice none 0 0):=by simp only[World.cell?,d1];rfl
     have w2:W8.cell? ⟨g+1,2,none⟩=some (.slice none 0 0):=by simp only[World.cell?,d1];rfl
     have f0:W8.frozen? ⟨g+1,0,none⟩=false:=by simp[World.frozen?,d1]
     have f1:W8.frozen? ⟨g+1,1,none⟩=false:=by simp[World.frozen?,d1]
     have f2:W8.frozen? ⟨g+1,2,none⟩=false:=by simp[World.frozen?,d1]
     have hend:=set3 (x0:= .int .i64 (n:Nat)) (x1:= .slice au us'.length cu) (x2:= .slice av os'.length cv) d1;have hk89:=kd_set3 (g:=g) (b:=g+1) (W:=W8) (x0:= .int .i64 (n:Nat)) (x1:= .slice au us'.length cu) (x2:= .slice av os'.length cv) ⟨by omega,by omega⟩;have hgB5:=hD5.size;have hgB7:=hD7.size;have lD1:=(Array.getElem?_eq_some_iff.1 hD1).1;have lD2:=(Array.getElem?_eq_some_iff.1 hD2).1;have n1:¬Own5 g D1:=fun h=>by have:=h.2;omega
     have n2:¬Own5 g D2:=fun h=>by have:=h.2;omega
     have lD17:D1<W7.heap.size:=by omega
     have t1:=(hk89.other D1 (Nat.lt_of_lt_of_le lD17 i4.size) n1).trans ((i4.other D1 lD17 n1).trans ((hB7.block D1 (by omega)).trans hD1));have t2:=(hk89.other D2 lD2 n2).trans hD2;have hK09:=(hK07.trans i4).trans hk89;clear d0 d1 i1 i2 hst7;have hfin:∃u' v',Value.agg [Value.int .i64 (n:Nat),.slice au us'.length cu,.slice av os'.length cv].toArray= .agg #[.int .i64 (n:Nat),u',v']∧RdD (MD M g) W8 (afsD (deaS n us os).1) u'∧RdD (MD M g) W8 (afsD (deaS n us os).2) v':=⟨_,_,rfl,by rw[eS];exact ru8,by rw[eS];exact rv8⟩
     gi_wp2_with fail
     refine⟨by simp,.inl ⟨D2,_,rfl,run_takeDeferred t2,by simp,.inl ⟨D1,_,rfl,run_takeDeferred ((World.putObj_heap_other (by omega)).trans t1),?_⟩⟩⟩;have hne1:g+1≠D1:=by omega
     have hne2:g+1≠D2:=by omega
     obtain⟨u',v',e1,e2,e3⟩:=hfin;refine⟨_,results_cellg rfl rfl ((World.putObj_heap_other hne1).trans ((World.putObj_heap_other hne2).trans hend)),u',v',by rw[←e1],?_,?_,?_⟩
     ·exact fin_below hg hB0 hK09 (by omega) (by omega)
     ·exact RdD.fx (fun b i v q=>⟨fun hm=>q.1 (.inl hm),cell_put ((World.putObj_heap_other (by omega)).trans t1) rfl _ _ _ (cell_put t2 rfl _ _ _ (hk89.cell (fun ho=>q.1 (.inr ho)) q.2))⟩) e2
     ·exact RdD.fx (fun b i v q=>⟨fun hm=>q.1 (.inl hm),cell_put ((World.putObj_heap_other (by omega)).trans t1) rfl _ _ _ (cell_put t2 rfl _ _ _ (hk89.cell (fun ho=>q.1 (.inr ho)) q.2))⟩) e3
theorem lx_dead {L n:Nat}{us os:List Af}(hL:LOk L)(h:Gk L n us os)(hn':n≤24)(ho':os.length≤24):
  LV Tryz.prog 36 [.agg (grA n us os)] (.agg (grA n (deaS n us os).1 (deaS n us os).2)):=by
 refine⟨_,_,⟨rfl,rfl⟩,fun γ M w rs hr ha=> ?_⟩;obtain⟨r,rfl⟩:∃r,rs=[r]:=List.length_eq_one_iff.1 ha.len.symm;obtain⟨vs,rfl,k⟩:=ha.1
 match vs,k with
 |[a,u,v],k=>
  obtain rfl:=lit_inv k.1;refine cM (callsIn_wide.1 (dead_in hL h hn' ho' w hr.glb hr.u32 hr.dom u v k.2.1 k.2.2.1)) ?_;rintro e w' ⟨u',v',rfl,hb,r1,r2⟩;obtain⟨k1,k2⟩:=rel_below hr hb fun k=>rfl;exact⟨_,γ,M,rfl,k1,⟨[_,_,_],rfl,.lit _,r1,r2,trivial⟩,k2⟩
end Go.Proofs.YtbegidaaiajffaaGreatDoor.Lf
namespace Go.Proofs.YtbegidaaiajffaaGreatDoor.Lf
open Go.RowKit Nt
def simS (n:Nat)(us os:List Af):List Af×List Af:=allS (fun us os=>thD (conS n 60 0) (dupS n 60 0) (deaS n) us os 3) 30 us os
theorem con_1 {L n:Nat}{us os us' os':List Af}(hL:LOk L)(hn':n≤24)(ho':os.length≤24)(q:GS L n us os us' os'):GS L n us os (conS n 60 0 us' os').1 (conS n 60 0 us' os').2∧(conS n 60 0 us' os').1.length≤us'.length∧LV Tryz.prog 34 [.agg (grA n us' os')] (.agg (grA n (conS n 60 0 us' os').1 (conS n 60 0 us' os').2)):=
 ⟨conS_gs hL 60 0 _ _ q,(conS_gs hL 60 0 _ _ (GS.refl q.gk)).ul,lx_constants hL q.gk hn' (by rw[q.ol];exact ho')⟩
theorem dup_1 {L n:Nat}{us os us' os':List Af}(hL:LOk L)(hn':n≤24)(ho':os.length≤24)(q:GS L n us os us' os'):GS L n us os (dupS n 60 0 us' os').1 (dupS n 60 0 us' os').2∧(dupS n 60 0 us' os').1.length≤us'.length∧LV Tryz.prog 35 [.agg (grA n us' os')] (.agg (grA n (dupS n 60 0 us' os').1 (dupS n 60 0 us' os').2)):=
 ⟨dupS_gs hL 60 0 _ _ q,(dupS_gs hL 60 0 _ _ (GS.refl q.gk)).ul,lx_dups hL q.gk hn' (by rw[q.ol];exact ho')⟩
theorem dea_1 {L n:Nat}{us os us' os':List Af}(hL:LOk L)(hn':n≤24)(ho':os.length≤24)(q:GS L n us os us' os'):GS L n us os (deaS n us' os').1 (deaS n us' os').2∧(deaS n us' os').1.length≤us'.length∧LV Tryz.prog 36 [.agg (grA n us' os')] (.agg (grA n (deaS n us' os').1 (deaS n us' os').2)):=
 ⟨q.trans (deaS_gs hL q.gk),(deaS_gs hL q.gk).ul,lx_dead hL q.gk hn' (by rw[q.ol];exact ho')⟩
theorem sim_gs {L n:Nat}{us os:List Af}(hL:LOk L)(h:Gk L n us os)(hn':n≤24)(ho':os.length≤24):GS L n us os (simS n us os).1 (simS n us os).2:=
 allS_gs (fun us' os' q=>(dea_1 hL hn' ho' (dup_1 hL hn' ho' (con_1 hL hn' ho' q).1).1).1) 30 us os (GS.refl h)
theorem lx_simp18 {L n:Nat}{us os:List Af}(hL:LOk L)(h:Gk L n us os)(hn:1≤n)(hn':n≤24)(ho:1≤os.length)(ho':os.length≤24):
  LV Tryz.prog 10 [.agg (grA n us os)] (.agg (grA n (simS n us os).1 (simS n us os).2)):=by
 have ca:=lx_all (D1:=conS n 60 0) (D2:=dupS n 60 0) (D3:=deaS n) h (fun _ _ q=>con_1 hL hn' ho' q) (fun _ _ q=>dup_1 hL hn' ho' q) (fun _ _ q=>dea_1 hL hn' ho' q)
 change LV _ _ _ (.agg (grA n (simS n us os).1 (simS n us os).2))at ca
 refine LX_run (m:=0) (n0:=0) mix Tryz.func10 rfl rfl rfl rfl ?_;conv=>whnf
 refine .l [] (lx_copied hL h hn hn' ho ho') ?_;conv=>whnf
 conv=>whnf
 refine Cn.as ca rfl ⟨vR_ _,WkV.of WkA.own,trivial⟩ rfl rfl ?_;conv=>whnf
 exact .q ⟨rfl,rfl⟩
theorem out_z {m:Mo}(h:MoOk m){x:List Rat}(hx:∀v∈x,Lv m.L 1 v)(hn:x.length=m.n):(∀q∈m.out x,Sz q)∧(m.out x).length≤24:=by
 obtain⟨hg,ho,_⟩:=h.gk;have hu:=hg.u;have hn24:m.n≤24:=(h.sh 0 (zL_ _)).sz;have hs:=(h.sh m.ls.length (lR_ _)).sz;rw[←h.outs hn];refine⟨fun q hq=> ?_,by rw[gOut,List.length_map];omega⟩;obtain⟨f,hf,rfl⟩:=List.mem_map.1 hq;have hfl:=hg.of' h.L hf;have hlen:=hfl.ts.len (Int.natCast_nonneg _);exact(ev_ph (P:=8740+350*m.us.length) h.L hfl (gv_lv h.L hg hn24 hx hn m.us.length (lR_ _)) (by omega) (by omega) (by omega)).z h.L (by omega)
theorem lx_tpoint {m:Mo}(h:MoOk m){raw:List Nat}(hr:RawOk raw):∃x:List Rat,(x.length=m.n∧∀v∈x,Lv m.L 1 v)∧LV Tryz.prog 7 [.agg m.A,.a (.d (bysD raw))] (.a (.d (rqsD x))):=by
 have hs:=h.sh 0 (zL_ _);have hn24:szS m.inp≤24:=hs.sz;have cs:=lx_zsize (s:=m.inp) hs.g;obtain⟨x,⟨h1,h2⟩,cp⟩:=lx_point hr (show szS m.inp≤1000 by omega);refine⟨x,⟨h1,fun v hv=>h.pt (h2 v hv)⟩,?_⟩;refine LX_run (m:=0) (n0:=0) mix Tryz.func7 rfl rfl rfl rfl ?_;conv=>whnf
 refine .c (cs) ?_;conv=>whnf
 refine .c (cp) ?_;conv=>whnf
 exact .q ⟨rfl,rfl⟩
theorem lx_wf0 {inp:List Int}{ls:List RL}{raw:List Nat}(ca:LV Tryz.prog 5 [] (vl (.bool true)))(hi:inp.length≤1099511627776)(hl:ls.length≤1099511627776)(hw:∀x∈ls,x.ws.length≤1099511627776∧x.bs.length≤1099511627776)
  (hr:raw.length≤1099511627776) (hb:∀b∈raw,b<256):LV Tryz.prog 3 [.agg (rmA inp ls),.a (.d (bysD raw))] (vl (.bool true)):=by
 obtain⟨b,hm,cm⟩:=lx_modest hi hl hw
 cases b with
 |false=>
  refine LX_run (m:=0) (n0:=0) mix Tryz.func3 rfl rfl rfl rfl ?_;conv=>whnf
  refine .c (ca) ?_;conv=>whnf
  refine .c (cm) ?_;conv=>whnf
  conv=>whnf
  exact .q ⟨rfl,rfl⟩
 |true=>
  obtain⟨m,em,h⟩:=hm rfl;rw[em]at cm ⊢;obtain⟨hg,ho,hsat⟩:=h.gk;have hn24:m.n≤24:=(h.sh 0 (zL_ _)).sz;have hn1:1≤m.n:=szS_pos (h.sh 0 (zL_ _)).pos;have ho24:m.os.length≤24:=by rw[ho];exact(h.sh m.ls.length (lR_ _)).sz
  have ho1:1≤m.os.length:=by rw[ho];exact szS_pos (h.sh m.ls.length (lR_ _)).pos
  refine LX_run (m:=0) (n0:=0) mix Tryz.func3 rfl rfl rfl rfl ?_;conv=>whnf
  refine .c (ca) ?_;conv=>whnf
  refine .c (cm) ?_;conv=>whnf
  refine bs (fun hln=> ?_) (fun hln=> ?_)
  ·conv=>whnf
   exact .q ⟨rfl,rfl⟩
  ·have h60:raw.length≤60:=by
    have h:(raw.length:Int)≤60:=by simpa using hln
    omega
   obtain⟨x,⟨hx1,hx2⟩,cp⟩:=lx_tpoint h (raw:=raw) ⟨by omega,hb⟩;obtain⟨oz,ol⟩:=out_z h hx2 hx1;have cr:=lx_run h hx2 hx1;have cl:=lx_lower h;have cs:=lx_simp18 h.L hg hn1 hn24 ho1 ho24;have gs:=sim_gs h.L hg hn24 ho24;have c1:=lx_gouts h.L hg hn1 hn24 ho1 ho24 hx2 hx1;have c2:=lx_gouts h.L gs.gk hn1 hn24 (by rw[gs.ol];exact ho1) (by rw[gs.ol];exact ho24) hx2 hx1;rw[h.outs hx1]at c1;rw[gs.eq.outs hg gs.gk hx1,h.outs hx1]at c2;have csa:=lx_sameall (l:=m.out x) oz (by omega);have hul:=gs.ul;conv=>whnf
   refine .c (cp) ?_;conv=>whnf
   refine .c (cr) ?_;conv=>whnf
   refine .c (cl) ?_;conv=>whnf
   refine .c (cs) ?_;conv=>whnf
   refine .c (c1) ?_;conv=>whnf
   refine .c (c2) ?_;conv=>whnf
   refine .c (csa) ?_;conv=>whnf
   refine .c (csa) ?_;conv=>whnf
   refine bT (decide_eq_true (by rw[List.length_map,List.length_map];exact Int.ofNat_le.2 hul)) ?_;conv=>whnf
   conv=>whnf
   exact .q ⟨rfl,rfl⟩
def m18:Mo:=⟨[1],[.dense [((1:Int):Rat),((-1:Int):Rat)] [0,0],.relu,.dense [((1:Int):Rat),((1:Int):Rat)] [0]]⟩
theorem m18_out:m18.out [((-3:Int):Rat)]=[((3:Int):Rat)]:=by decide +kernel
theorem m18_ok:MoOk m18:=by
 refine⟨by decide,fun i hi=> ?_,fun i hi=> ?_,?_,?_,by decide⟩
 ·have:i≤3:=hi;obtain rfl|rfl|rfl|rfl:i=0∨i=1∨i=2∨i=3:=by omega
  ·exact⟨by decide,by decide,by decide,by decide⟩
  ·exact⟨by decide,by decide,by decide,by decide⟩
  ·exact⟨by decide,by decide,by decide,by decide⟩
  ·exact⟨by decide,by decide,by decide,by decide⟩
 ·have:i<3:=hi;obtain rfl|rfl|rfl:i=0∨i=1∨i=2:=by omega
  ·exact⟨by decide,by decide⟩
  ·trivial
  ·exact⟨by decide,by decide⟩
 ·intro l hl q hq;simp only[m18,List.mem_cons,List.not_mem_nil,or_false]at hl;rcases hl with rfl|rfl|rfl
  ·simp[parS]at hq;rcases hq with rfl|rfl|rfl|rfl<;>decide
  ·simp[parS]at hq
  ·simp[parS]at hq;rcases hq with rfl|rfl|rfl<;>decide
 ·intro l hl;simp only[m18,List.mem_cons,List.not_mem_nil,or_false]at hl;rcases hl with rfl|rfl|rfl<;>decide
theorem lx_abs18:LV Tryz.prog 18 [] (.agg m18.A):=by
 refine LX_run (m:=0) (n0:=0) mix Tryz.func18 rfl rfl rfl rfl ?_;conv=>whnf
 refine .c (lx_zof (z:=1) (by decide) (by decide)) ?_;conv=>whnf
 refine .c (lx_zof (z:= -1) (by decide) (by decide)) ?_;conv=>whnf
 conv=>whnf
 exact⟨_,_,⟨rfl,rfl⟩,WkV.agg ⟨WkA.own,WkA.own,trivial⟩,rfl,trivial,rfl⟩
theorem lx_awake18:LV Tryz.prog 5 [] (vl (.bool true)):=by
 have h:=m18_ok;obtain⟨hg,ho,hsat⟩:=h.gk;have hn24:m18.n≤24:=(h.sh 0 (zL_ _)).sz;have hn1:1≤m18.n:=szS_pos (h.sh 0 (zL_ _)).pos;have ho24:m18.os.length≤24:=by rw[ho];exact(h.sh m18.ls.length (lR_ _)).sz
 have ho1:1≤m18.os.length:=by rw[ho];exact szS_pos (h.sh m18.ls.length (lR_ _)).pos
 have hx2:∀v∈[((-3:Int):Rat)],Lv m18.L 1 v:=fun v hv=>by
  rw[List.mem_singleton.1 hv];exact h.pt ⟨by decide,by decide⟩
 have hx1:[((-3:Int):Rat)].length=m18.n:=rfl;have cr:=lx_run h hx2 hx1;have cl:=lx_lower h;have cs:=lx_simp18 h.L hg hn1 hn24 ho1 ho24;have gs:=sim_gs h.L hg hn24 ho24;have c2:=lx_gouts h.L gs.gk hn1 hn24 (by rw[gs.ol];exact ho1) (by rw[gs.ol];exact ho24) hx2 hx1;rw[gs.eq.outs hg gs.gk hx1,h.outs hx1,m18_out]at c2;rw[m18_out]at cr;have csa:=lx_sameall (l:=[((3:Int):Rat)]) (fun q hq=>by rw[List.mem_singleton.1 hq];exact Bt.sz (k:=5) ⟨by decide,by decide⟩ (by decide)) (by decide);clear hsat hg ho;refine LX_run (m:=0) (n0:=0) mix Tryz.func5 rfl rfl rfl rfl ?_;conv=>whnf
 refine .c (lx_abs18) ?_;conv=>whnf
 refine .c (cl) ?_;conv=>whnf
 conv=>whnf
 refine .c (lx_abs18) ?_;conv=>whnf
 refine .c (lx_zof (z:= -3) (by decide) (by decide)) ?_;conv=>whnf
 conv=>whnf
 refine Cn.as cr rfl ⟨vR_ _,WkV.of WkA.own,trivial⟩ rfl rfl ?_;conv=>whnf
 refine .c (cs) ?_;conv=>whnf
 refine .c (lx_zof (z:= -3) (by decide) (by decide)) ?_;conv=>whnf
 conv=>whnf
 refine Cn.as c2 rfl ⟨vR_ _,WkV.of WkA.own,trivial⟩ rfl rfl ?_;conv=>whnf
 refine .c (lx_zof (z:=3) (by decide) (by decide)) ?_;conv=>whnf
 conv=>whnf
 refine Cn.as csa rfl ⟨vR_ _,WkV.of WkA.own,trivial⟩ rfl rfl ?_;conv=>whnf
 refine Cn.as csa rfl ⟨vR_ _,WkV.of WkA.own,trivial⟩ rfl rfl ?_;conv=>whnf
 exact .q ⟨rfl,rfl⟩
theorem lx_wf {inp:List Int}{ls:List RL}{raw:List Nat}(hi:inp.length≤1099511627776)(hl:ls.length≤1099511627776)(hw:∀x∈ls,x.ws.length≤1099511627776∧x.bs.length≤1099511627776)
  (hr:raw.length≤1099511627776) (hb:∀b∈raw,b<256):LV Tryz.prog 3 [.agg (rmA inp ls),.a (.d (bysD raw))] (vl (.bool true)):=lx_wf0 lx_awake18 hi hl hw hr hb
open Go.ChangeShapes Go.WideShapes
theorem wfu8 {n:Int}(h:(Lit.int .u8 n).wf=true):0≤n∧n<256:=by
 simp[Lit.wf,IntKind.min,IntKind.max,IntKind.signed,IntKind.bits]at h;omega
theorem bulk_one {H:Type}(d:DataW H):1≤Rows.uptoBulk d:=by
 cases d with
 |lit l=>cases l<;>simp[Rows.uptoBulk]
 |nil=>simp[Rows.uptoBulk]
 |ptr d=>simp[Rows.uptoBulk]
 |slice elems spare=>simp[Rows.uptoBulk]
 |agg parts=>simp[Rows.uptoBulk]
 |iface t d=>simp[Rows.uptoBulk]
 |map entries=>simp[Rows.uptoBulk]
 |held h=>simp[Rows.uptoBulk]
theorem bulk_part {H:Type}{d:DataW H}{l:List (DataW H)}(h:d∈l):Rows.uptoBulk d≤Rows.uptoBulkAll l:=by
 induction l with
 |nil=>cases h
 |cons x r ih=>
  simp only[Rows.uptoBulkAll]
  cases List.mem_cons.1 h with
  |inl e=>subst e;omega
  |inr e=>have:=ih e;omega
theorem bulk_len {H:Type}(l:List (DataW H)):l.length≤Rows.uptoBulkAll l:=by
 induction l with
 |nil=>simp[Rows.uptoBulkAll]
 |cons x r ih=>have:=bulk_one x;simp only[Rows.uptoBulkAll,List.length_cons];omega
def Cls (w:World)(cs:List Value)(row:List D):Prop:=All2 (fun d v=>v.oneCell'=true∧RdD M0 w d v) row cs
section
variable {H:Type} {enc:TypeId×Value→H} {w:World} {base:Nat} {held:Bool}
noncomputable abbrev Tro (H:Type) (enc:TypeId×Value→H) (w:World) (base:Nat) (held:Bool) (fuel:Nat) (t:TypeId) (cs:List Value):=DataW.trod enc Tryz.prog w base (fun _=>true) held fuel t cs
theorem sl_len {w:World}{a:Option Addr}{n c:Nat}{xs:List Nat}(h:Sl w (.slice a n c) xs):xs.length=n:=by
 obtain⟨_,_,_,e,h,_⟩:=h;injection e with _ e _;rw[h,e]
theorem at_nat {fuel:Nat}{cs:List Value}{y:DataW H×List MemPlace}(h:Tro H enc w base held fuel 54 cs=some y)(hb:Rows.uptoBulk y.1≤1048576):∃xs v,cs=[v]∧v.oneCell'=true∧RdD M0 w (.lm xs) v∧lims xs∧xs.length≤1048576:=by
 have h':=h;rcases Deep.open_slice Tryz.underlying54 h with⟨rfl,rfl⟩|⟨a,len,cap,m,n,D,Pl,rfl,hb1,hl,hm,hmm,rfl,hx⟩
 ·obtain⟨a,n,k,e,hr⟩:=row_of_read h';injection e with e1 e2 e3;subst e2;obtain⟨xs,h1,h2⟩:=hr (by decide);exact⟨xs,_,rfl,rfl,by rw[←e1,←e3]at h1;exact .lm _ _ h1 (fun _ _ _ _ _ _ _ h=>h),h1.lims,by have:=sl_len h1;omega⟩
 ·obtain⟨a',n',k',e,hr⟩:=row_of_read h';injection e with e1 e2 e3;subst e2;have:len≤1048576:=by
   have:=bulk_len ((List.range len).map D);simp only[Rows.uptoBulk,List.length_map,List.length_range]at hb this;omega
  obtain⟨xs,h1,h2⟩:=hr (by omega);exact⟨xs,_,rfl,rfl,by rw[←e1,←e3]at h1;exact .lm _ _ h1 (fun _ _ _ _ _ _ _ h=>h),h1.lims,by have:=sl_len h1;omega⟩
theorem at_int {fuel:Nat}{cs:List Value}{y:DataW H×List MemPlace}(h:Tro H enc w base held fuel 3 cs=some y):∃z,cs=[.int .i64 z]:=by
 obtain⟨z,e,_⟩:=DataW.trod_int Tryz.underlying3 h;exact⟨z,e⟩
theorem at_bool {fuel:Nat}{cs:List Value}{y:DataW H×List MemPlace}(h:Tro H enc w base held fuel 4 cs=some y):∃z,cs=[.bool z]:=by
 obtain⟨z,e,_⟩:=DataW.trod_bool Tryz.underlying4 h;exact⟨z,e⟩
theorem get_of {α:Type}{l:List α}{i:Nat}{x:Option α}(h:x=l[i]?)(hi:i<l.length):x=some l[i]:=by rw[h,List.getElem?_eq_getElem hi]
theorem bulk_agg {xs:List (DataW H×List MemPlace)}{i:Nat}(hi:i<xs.length)(hb:Rows.uptoBulk (.agg (xs.map (·.1)))≤1048576):Rows.uptoBulk xs[i].1≤1048576:=by
 have:=bulk_part (d:=xs[i].1) (l:=xs.map (·.1)) (List.mem_map.2 ⟨xs[i],List.getElem_mem hi,rfl⟩);simp only[Rows.uptoBulk]at hb;omega
theorem at_rat {fuel:Nat}{cs:List Value}{y:DataW H×List MemPlace}(h:Tro H enc w base held fuel 56 cs=some y)(hb:Rows.uptoBulk y.1≤1048576):∃x:Rw,Cls w cs x.D∧lims x.n∧lims x.d∧x.sm:=by
 obtain⟨xs,n,_,rfl,hl,hn,hf⟩:=DataW.trod_struct Tryz.underlying56 h;have hn3:xs.length=3:=hn;have hl3:cs.length=3:=by rw[hl];kernel_rfl
 obtain⟨c0,c1,c2,rfl⟩:∃c0 c1 c2,cs=[c0,c1,c2]:=by
  match cs,hl3 with
  |[c0,c1,c2],_=>exact⟨_,_,_,rfl⟩
 have f0:Tro H enc w base held n 4 (([c0,c1,c2].drop 0).take (Tryz.prog.cellsOf 4))=some (xs[0]'(by omega)):=get_of (hf 0 _ rfl) (by omega);have f1:Tro H enc w base held n 54 (([c0,c1,c2].drop 1).take (Tryz.prog.cellsOf 54))=some (xs[1]'(by omega)):=get_of (hf 1 _ rfl) (by omega);have f2:Tro H enc w base held n 54 (([c0,c1,c2].drop 2).take (Tryz.prog.cellsOf 54))=some (xs[2]'(by omega)):=get_of (hf 2 _ rfl) (by omega);have z1:Tryz.prog.cellsOf 4=1:=by kernel_rfl
 have z2:Tryz.prog.cellsOf 54=1:=by kernel_rfl
 simp only[z1,z2]at f0 f1 f2;obtain⟨b,e0⟩:=at_bool f0;obtain⟨us,v1,e1,o1,r1,l1,m1⟩:=at_nat f1 (bulk_agg (by omega) hb);obtain⟨vs,v2,e2,o2,r2,l2,m2⟩:=at_nat f2 (bulk_agg (by omega) hb);simp at e0 e1 e2;subst e0 e1 e2;exact⟨⟨b,us,vs⟩,⟨⟨rfl,.lit _⟩,⟨o1,r1⟩,⟨o2,r2⟩,trivial⟩,l1,l2,by show us.length≤_;omega,by show vs.length≤_;omega⟩
theorem all2_get {α β:Type}{R:α→β→Prop}{xs:List α}{ys:List β}(h:All2 R xs ys){j:Nat}{x:α}(hx:xs[j]? =some x):∃y,ys[j]? =some y∧R x y:=All2.get h hx
theorem at_slice {t e:TypeId}{k:Nat}{α:Type}{f:α→List D}{Q:α→Prop}{fuel:Nat}{cs:List Value}{y:DataW H×List MemPlace}(ht:Tryz.prog.underlying t=some (.slice e))(hk:Tryz.prog.cellsOf e=k)(hk0:0<k)(hfk:∀a,(f a).length=k)
  (hel:∀(n:Nat) (cs:List Value) (y:DataW H×List MemPlace),Tro H enc w base held n e cs=some y→Rows.uptoBulk y.1≤1048576→∃a:α,Cls w cs (f a)∧Q a)
  (h:Tro H enc w base held fuel t cs=some y) (hb:Rows.uptoBulk y.1≤1048576):∃(l:List α) (v:Value),cs=[v]∧v.oneCell'=true∧RdD M0 w (.sl k (l.map f)) v∧l.length≤1048576∧∀a∈l,Q a:=by
 rcases Deep.open_slice ht h with⟨rfl,rfl⟩|⟨a,len,cap,m,n,D,Pl,rfl,hb1,hl,hm,hmm,rfl,hx⟩
 ·exact⟨[],_,rfl,rfl,nil_ok k,zL_ _,fun a h=>by cases h⟩
 ·have hlen:len≤1048576:=by
   have:=bulk_len ((List.range len).map D);simp only[Rows.uptoBulk,List.length_map,List.length_range]at hb this;omega
  have hcap:len≤m:=by rw[hmm];simp;exact hl
  have hD:∀i,i<len→Rows.uptoBulk (D i)≤1048576:=fun i hi=>by
   have:=bulk_part (d:=D i) (l:=(List.range len).map D) (List.mem_map.2 ⟨i,List.mem_range.2 hi,rfl⟩);simp only[Rows.uptoBulk]at hb;omega
  have hE:∀i,i<len→∃p:α×List Value,w.cells? base (a.add (i*k)) k=some p.2∧Cls w p.2 (f p.1)∧Q p.1:=fun i hi=>by
   obtain⟨cs',h1,h2⟩:=hx i (by omega);rw[hk]at h1;obtain⟨x,h3,h4⟩:=hel n cs' _ h2 (hD i hi);exact⟨(x,cs'),h1,h3,h4⟩
  rcases eP_ len with h0|h0
  ·subst h0;refine⟨[],_,rfl,rfl,?_,zL_ _,fun a h=>by cases h⟩;exact RdD.sl k [] (some a) cap (fun _ _=> .int .i64 0) (zL_ _) (zL_ _) (fun h=>by cases h) (fun i row h=>by cases h) (fun _ _=>rfl) (fun i row j d h=>by cases h)
  ·obtain⟨p0,_⟩:=hE 0 h0;have:Inhabited (α×List Value):=⟨p0⟩;obtain⟨F,hF⟩:=Deep.choose_lt hE;have hspot:a.spot=none:=by
    obtain⟨hb2,hl2,hc2⟩:=World.cells?_some (hF 0 h0).1;have c0:=hc2 0 hk0;rw[List.getElem?_eq_getElem (by omega)]at c0;have:=World.cell?_spot c0;simpa [Addr.add]using this
   obtain⟨bl,off,spot⟩:=a;simp only at hspot;subst hspot
   have hrow:∀(i:Nat) (row:List Lf.D),(((List.range len).map fun i=>(F i).1).map f)[i]? =some row→i<len∧row=f (F i).1:=fun i row hi=>by
    rw[List.map_map,List.getElem?_map]at hi
    cases hj:(List.range len)[i]? with
    |none=>rw[hj]at hi;cases hi
    |some z=>
     rw[hj]at hi;injection hi with hi;obtain⟨q1,q2⟩:=List.getElem?_eq_some_iff.1 hj;simp at q1 q2;subst q2;exact⟨q1,hi.symm⟩
   have hcl:∀(i:Nat) (row:List Lf.D) (j:Nat) (d:Lf.D),(((List.range len).map fun i=>(F i).1).map f)[i]? =some row→row[j]? =some d→∃v,(F i).2[j]? =some v∧w.cell? ⟨bl,off+i*k+j,none⟩=some v∧v.oneCell'=true∧RdD M0 w d v:=fun i row j d hi hj=>by
    obtain⟨hil,rfl⟩:=hrow i row hi;obtain⟨q1,q2,q3⟩:=hF i hil;obtain⟨v,v1,v2,v3⟩:=all2_get q2 hj;have hjk:j<k:=by have:=at_lt hj;rw[hfk]at this;exact this
    obtain⟨_,_,hc2⟩:=World.cells?_some q1;have:=hc2 j hjk;rw[v1,Addr.add_lit,Addr.add_lit]at this;exact⟨v,v1,this,v2,v3⟩
   refine⟨(List.range len).map fun i=>(F i).1,_,rfl,rfl,?_,by simp;omega,fun x hx=> ?_⟩
   ·have hg:=RdD.sl (M:=M0) (w:=w) k (((List.range len).map fun i=>(F i).1).map f) (some ⟨bl,off,none⟩) cap (fun i j=>if((F i).2.getD j (.int .i64 0)).oneCell' then(F i).2.getD j (.int .i64 0)else .int .i64 0) (by simp;exact hl) (by simp;omega) (fun _=>⟨bl,off,rfl,fun i row j d hi hj=> ?_⟩) (fun i row hi=> ?_) (fun i j=> ?_) (fun i row j d hi hj=> ?_)
    ·simpa using hg
    ·obtain⟨v,v1,v2,v3,v4⟩:=hcl i row j d hi hj;have e:(F i).2.getD j (.int .i64 0)=v:=by rw[List.getD_eq_getElem?_getD,v1];rfl
     rw[e,if_pos v3];exact⟨fun h=>h,v2⟩
    ·rw[(hrow i row hi).2];exact hfk _
    ·split
     ·assumption
     ·rfl
    ·obtain⟨v,v1,v2,v3,v4⟩:=hcl i row j d hi hj;have e:(F i).2.getD j (.int .i64 0)=v:=by rw[List.getD_eq_getElem?_getD,v1];rfl
     rw[e,if_pos v3];exact v4
   ·obtain⟨i,hi,rfl⟩:=List.mem_map.1 hx;exact(hF i (List.mem_range.1 hi)).2.2
theorem at_u8 {fuel:Nat}{cs:List Value}{y:DataW H×List MemPlace}(h:Tro H enc w base held fuel 5 cs=some y):∃b:Nat,Cls w cs [.lit (.int .u8 (b:Nat))]∧b<256:=by
 obtain⟨z,e,_,hw⟩:=DataW.trod_int Tryz.underlying5 h;obtain⟨z1,z2⟩:=wfu8 hw;subst e;refine⟨z.toNat,⟨⟨rfl,?_⟩,trivial⟩,by omega⟩;rw[show((z.toNat:Nat):Int)=z by omega];exact .lit _
theorem at_rats' {fuel:Nat}{cs:List Value}{y:DataW H×List MemPlace}(h:Tro H enc w base held fuel 29 cs=some y)(hb:Rows.uptoBulk y.1≤1048576):∃(l:List Rw) (v:Value),cs=[v]∧v.oneCell'=true∧RdD M0 w (.sl 3 (l.map Rw.D)) v∧l.length≤1048576:=by
 obtain⟨l,v,h1,o,h2,h3,h4⟩:=at_slice (f:=Rw.D) (Q:=fun x=>True) Tryz.underlying29 (k:=3) (by kernel_rfl) (by decide) (fun _=>rfl) (fun n cs y h hb=>let ⟨x,h1,h2,h3,h4⟩:=at_rat h hb;⟨x,h1,trivial⟩) h hb;exact⟨l,v,h1,o,h2,h3⟩
theorem at_lay {fuel:Nat}{cs:List Value}{y:DataW H×List MemPlace}(h:Tro H enc w base held fuel 59 cs=some y)(hb:Rows.uptoBulk y.1≤1048576):∃l:RL,Cls w cs l.D∧l.ws.length≤1099511627776∧l.bs.length≤1099511627776:=by
 obtain⟨xs,n,_,rfl,hl,hn,hf⟩:=DataW.trod_struct Tryz.underlying59 h;have hn3:xs.length=9:=hn;have hl3:cs.length=9:=by rw[hl];kernel_rfl
 obtain⟨c0,c1,c2,c3,c4,c5,c6,c7,c8,rfl⟩:∃c0 c1 c2 c3 c4 c5 c6 c7 c8,cs=[c0,c1,c2,c3,c4,c5,c6,c7,c8]:=by
  match cs,hl3 with
  |[c0,c1,c2,c3,c4,c5,c6,c7,c8],_=>exact⟨_,_,_,_,_,_,_,_,_,rfl⟩
 have f0:Tro H enc w base held n 3 (([c0,c1,c2,c3,c4,c5,c6,c7,c8].drop 0).take (Tryz.prog.cellsOf 3))=some (xs[0]'(by omega)):=get_of (hf 0 _ rfl) (by omega);have f1:Tro H enc w base held n 3 (([c0,c1,c2,c3,c4,c5,c6,c7,c8].drop 1).take (Tryz.prog.cellsOf 3))=some (xs[1]'(by omega)):=get_of (hf 1 _ rfl) (by omega);have f2:Tro H enc w base held n 3 (([c0,c1,c2,c3,c4,c5,c6,c7,c8].drop 2).take (Tryz.prog.cellsOf 3))=some (xs[2]'(by omega)):=get_of (hf 2 _ rfl) (by omega);have f3:Tro H enc w base held n 3 (([c0,c1,c2,c3,c4,c5,c6,c7,c8].drop 3).take (Tryz.prog.cellsOf 3))=some (xs[3]'(by omega)):=get_of (hf 3 _ rfl) (by omega);have f4:Tro H enc w base held n 3 (([c0,c1,c2,c3,c4,c5,c6,c7,c8].drop 4).take (Tryz.prog.cellsOf 3))=some (xs[4]'(by omega)):=get_of (hf 4 _ rfl) (by omega);have f5:Tro H enc w base held n 3 (([c0,c1,c2,c3,c4,c5,c6,c7,c8].drop 5).take (Tryz.prog.cellsOf 3))=some (xs[5]'(by omega)):=get_of (hf 5 _ rfl) (by omega);have f6:Tro H enc w base held n 3 (([c0,c1,c2,c3,c4,c5,c6,c7,c8].drop 6).take (Tryz.prog.cellsOf 3))=some (xs[6]'(by omega)):=get_of (hf 6 _ rfl) (by omega);have f7:Tro H enc w base held n 29 (([c0,c1,c2,c3,c4,c5,c6,c7,c8].drop 7).take (Tryz.prog.cellsOf 29))=some (xs[7]'(by omega)):=get_of (hf 7 _ rfl) (by omega);have f8:Tro H enc w base held n 29 (([c0,c1,c2,c3,c4,c5,c6,c7,c8].drop 8).take (Tryz.prog.cellsOf 29))=some (xs[8]'(by omega)):=get_of (hf 8 _ rfl) (by omega);have z1:Tryz.prog.cellsOf 3=1:=by kernel_rfl
 have z2:Tryz.prog.cellsOf 29=1:=by kernel_rfl
 simp only[z1,z2]at f0 f1 f2 f3 f4 f5 f6 f7 f8;obtain⟨k0,e0⟩:=at_int f0;obtain⟨k1,e1⟩:=at_int f1;obtain⟨k2,e2⟩:=at_int f2;obtain⟨k3,e3⟩:=at_int f3;obtain⟨k4,e4⟩:=at_int f4;obtain⟨k5,e5⟩:=at_int f5;obtain⟨k6,e6⟩:=at_int f6;obtain⟨ws,v7,e7,o7,r7,m7⟩:=at_rats' f7 (bulk_agg (by omega) hb);obtain⟨bs,v8,e8,o8,r8,m8⟩:=at_rats' f8 (bulk_agg (by omega) hb);simp at e0 e1 e2 e3 e4 e5 e6 e7 e8;subst e0 e1 e2 e3 e4 e5 e6 e7 e8;exact⟨⟨k0,k1,k2,k3,k4,k5,k6,ws,bs⟩,⟨⟨rfl,.lit _⟩,⟨rfl,.lit _⟩,⟨rfl,.lit _⟩,⟨rfl,.lit _⟩,⟨rfl,.lit _⟩,⟨rfl,.lit _⟩,⟨rfl,.lit _⟩,⟨o7,r7⟩,⟨o8,r8⟩,trivial⟩,by show ws.length≤_;omega,by show bs.length≤_;omega⟩
theorem at_lays {fuel:Nat}{cs:List Value}{y:DataW H×List MemPlace}(h:Tro H enc w base held fuel 23 cs=some y)(hb:Rows.uptoBulk y.1≤1048576):∃(l:List RL) (v:Value),cs=[v]∧RdD M0 w (.sl 9 (rlR l)) v∧l.length≤1048576∧∀x∈l,x.ws.length≤1099511627776∧x.bs.length≤1099511627776:=by
 obtain⟨l,v,h1,_,h2,h3,h4⟩:=at_slice (f:=RL.D) (Q:=fun x=>x.ws.length≤1099511627776∧x.bs.length≤1099511627776) Tryz.underlying23 (k:=9) (by kernel_rfl) (by decide) (fun _=>rfl) (fun n cs y h hb=>at_lay h hb) h hb;exact⟨l,v,h1,h2,h3,h4⟩
theorem at_ints {fuel:Nat}{cs:List Value}{y:DataW H×List MemPlace}(h:Tro H enc w base held fuel 22 cs=some y)(hb:Rows.uptoBulk y.1≤1048576):∃(l:List Int) (v:Value),cs=[v]∧RdD M0 w (inD l) v∧l.length≤1048576:=by
 obtain⟨l,v,h1,_,h2,h3,h4⟩:=at_slice (f:=fun z:Int=>[D.lit (.int .i64 z)]) (Q:=fun _=>True) Tryz.underlying22 (k:=1) (by kernel_rfl) (by decide) (fun _=>rfl) (fun n cs y h hb=>by obtain⟨z,rfl⟩:=at_int h;exact⟨z,⟨⟨rfl,.lit _⟩,trivial⟩,trivial⟩) h hb;exact⟨l,v,h1,h2,h3⟩
theorem at_bytes {fuel:Nat}{cs:List Value}{y:DataW H×List MemPlace}(h:Tro H enc w base held fuel 26 cs=some y)(hb:Rows.uptoBulk y.1≤1048576):∃(l:List Nat) (v:Value),cs=[v]∧RdD M0 w (bysD l) v∧l.length≤1048576∧∀b∈l,b<256:=by
 obtain⟨l,v,h1,_,h2,h3,h4⟩:=at_slice (f:=fun b:Nat=>[D.lit (.int .u8 (b:Nat))]) (Q:=fun b=>b<256) Tryz.underlying26 (k:=1) (by kernel_rfl) (by decide) (fun _=>rfl) (fun n cs y h hb=>at_u8 h) h hb;exact⟨l,v,h1,h2,h3,h4⟩
end
theorem laid_tail {P:Program}{W:World}{x:String×DataW Unit}{rest:List (String×DataW Unit)}(h:laidMet P (x::rest) W):laidMet P rest W:=by
 obtain⟨ps,⟨g',t',cs,fuel,p,q,hg',ht',hvar,hd,h1,h2⟩,hnd,hall⟩:=h
 subst_vars
 exact⟨q,by assumption,(List.nodup_append.1 hnd).2.1,fun b off hm=>hall b off (List.mem_append_right _ hm)⟩
abbrev d32T:List Int:=[0,1,28,2,29,14,24,3,30,22,20,15,25,17,4,8,31,27,13,23,21,19,16,7,26,12,18,6,11,5,10,9]
abbrev d64T:List Int:=[0,1,56,2,57,49,28,3,61,58,42,50,38,29,17,4,62,47,59,36,45,43,51,22,53,39,33,30,24,18,12,5,63,55,48,27,60,41,37,16,46,35,44,21,52,32,23,11,54,26,40,15,34,20,31,10,25,14,19,9,13,8,7,6]
abbrev p10T:List Int:=[1,10,100,1000,10000,100000,1000000,10000000,100000000,1000000000,10000000000,100000000000,1000000000000,10000000000000,100000000000000,1000000000000000,10000000000000000,100000000000000000,1000000000000000000,10000000000000000000]
abbrev laidL:List (String×DataW Unit):=[("math/bits.deBruijn32tab",Rows.laid_math_bits_deBruijn32tab),("math/bits.deBruijn64tab",Rows.laid_math_bits_deBruijn64tab),("internal/strconv.uint64pow10",Rows.laid_internal_strconv_uint64pow10)]
theorem gT0:Tryz.prog.globalNamed "internal/strconv.uint64pow10" =some 0:=by kernel_rfl
theorem gT1:Tryz.prog.globalNamed "math/bits.deBruijn32tab" =some 1:=by kernel_rfl
theorem gT2:Tryz.prog.globalNamed "math/bits.deBruijn64tab" =some 2:=by kernel_rfl
theorem row_tab {g:Nat}{k:IntKind}{zs:List Int}{W:World}(hT:∀j,j<zs.length→W.cell? ⟨g,j,none⟩=some (.int k (zs.getD j 0))){j:Nat}{d:D}(hd:(zs.map fun z=>D.lit (.int k z))[j]? =some d):∃v,Fx M0 W g j v∧RdD M0 W d v:=by
 rw[List.getElem?_map]at hd
 cases hz:zs[j]? with
 |none=>rw[hz]at hd;cases hd
 |some z=>
  rw[hz]at hd;injection hd with hd;subst hd;have:=hT j (at_lt hz);rw[show zs.getD j 0=z by rw[List.getD_eq_getElem?_getD,hz];rfl]at this;exact⟨_,⟨fun h=>h,this⟩,.lit _⟩
theorem glb_of_laid {W:World}(h:laidMetH Tryz.prog laidL W):Glb M0 W:=by
 rw[MakeChecks.laidMetH_plain _ _ _ (by kernel_rfl)]at h;have t1:=Lib.tabIs_of_head (k:= .u8) (zs:=d32T) (W:=W) gT1 (t:=257) (by kernel_rfl) Tryz.underlying257 Tryz.underlying5 (by kernel_rfl) (by kernel_rfl) h;have h2:=laid_tail h;have t2:=Lib.tabIs_of_head (k:= .u8) (zs:=d64T) (W:=W) gT2 (t:=258) (by kernel_rfl) Tryz.underlying258 Tryz.underlying5 (by kernel_rfl) (by kernel_rfl) h2;have h3:=laid_tail h2;have t0:=Lib.tabIs_of_head (k:= .u64) (zs:=p10T) (W:=W) gT0 (t:=249) (by kernel_rfl) Tryz.underlying249 Tryz.underlying137 (by kernel_rfl) (by kernel_rfl) h3;have c0:=fun j (hj:j<p10T.length)=>t0.cell gT0 j hj;have c1:=fun j (hj:j<d32T.length)=>t1.cell gT1 j hj;have c2:=fun j (hj:j<d64T.length)=>t2.cell gT2 j hj;intro g row hg j d hd;unfold GT at hg;split at hg
 ·injection hg with hg;subst hg;exact row_tab c0 hd
 ·injection hg with hg;subst hg;exact row_tab c1 hd
 ·injection hg with hg;subst hg;exact row_tab c2 hd
 ·cases hg
theorem own:ownKnob Tryz.prog.godebug=none:=by kernel_rfl
theorem laidOut:laidOutB Tryz.prog=true:=by kernel_rfl
theorem door_met (os:Os)(args:Array Value):laidMetH Tryz.prog laidL ((World.doorLaid Tryz.prog 400 os).forCall (fun _ _=>0) ⟨#[],args,[]⟩).memory:=
 laidMetH_of_parts3 (fuel:=8) (laidMet_of_run' 8 (by kernel_rfl) (by kernel_rfl)) (by kernel_rfl) (by kernel_rfl)
end Go.Proofs.YtbegidaaiajffaaGreatDoor.Lf
