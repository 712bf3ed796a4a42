/- Texts LrV LrW LrX LrY LrZ LsA LsB LsC LsD LsE LsF LsG LsH LsI LsJ LsK LsL LsM LsN LtA LtB LtC LtD LtE LtF LtG LtH LtI LtJ LtK of this proof, in this order. -/
import Derived.Test.YtbegidaaiajffaaGreatDoorW05
import Derived.Shelf.Strings.Builder1
import Derived.Shelf.Strings.Builder2
import Derived.Shelf.Strings.OnBuilder
import Derived.Shelf.Small.Bits
import Derived.Shelf.Strings.BuilderF
import Derived.Shelf.Strconv.Itoa0
import Derived.Shelf.Strconv.Itoa1
import Derived.Shelf.LaysM
import Derived.Shelf.Strconv.Itoa2
import Derived.Shelf.Strconv.Itoa3
import Derived.Shelf.Strings.Prefix
import Derived.Shelf.Bits.Mul64
import Derived.Shelf.Strings.Repeat
import Derived.Ground.Names2Prog
import Derived.Shelf.Slices.ReverseS
import Derived.Shelf.Slices.Cells
import Derived.Lib.AppendIntMem
import Derived.Lib.Walk
import Derived.WalkKit
import Derived.BigCall
import Derived.BigGuard
import Derived.Deep.RegionHeld3
import Derived.Maps.Views
import Derived.StringKeys
import Derived.RangeFuncNested
import Derived.RangeFuncBound
import Derived.RangeFuncCalls
import Derived.RangeFuncBox
import Derived.RangeFuncLeaves
import Derived.RangeFuncWrites
import Derived.Shelf.Abstract
import Derived.OwnWalkIn
import Derived.TacticsInMore
import Derived.LoopNIn
import Derived.LoopIn
set_option linter.unusedVariables false
set_option linter.unusedSimpArgs false
set_option maxRecDepth 100000
set_option maxHeartbeats 4000000
namespace Go.Proofs.YtbegidaaiajffaaGreatDoor.Lf
open Go.RowKit Nt
theorem lx_cloneTm {l:List Tm}(hl:l.length≤1000000):LX Tryz.prog 174 [.a (.d (.sl 4 (l.map Tm.D)))] [] fun v H=>v= .a (.own 0 4 (l.map Tm.D))∧H=[(0,.arr 107 4 (l.map Tm.D).length)]:=by
 cases l with
 |cons x xs=>
  refine LX_run (m:=0) (n0:=0) mix Tryz.func174 rfl rfl rfl rfl ?_;conv=>whnf
  refine .own ?_;conv=>whnf
  refine .mk ((x::xs).map Tm.D) rfl rfl (by simp at hl ⊢;omega) ?_;conv=>whnf
  exact⟨_,_,⟨rfl,rfl⟩,vR_ _,rfl,⟨⟨_,rfl,wke_refl _,rfl⟩,trivial⟩,rfl⟩
 |nil=>
  refine clone_nil (k:=4) (e:=107) ?_ fun a cap=> ?_
  ·intro cap;refine LX_run (m:=0) (n0:=0) mix Tryz.func174 rfl rfl rfl rfl ?_;conv=>whnf
   exact⟨_,_,⟨rfl,rfl⟩,vR_ _,rfl,trivial,rfl⟩
  ·refine LX_run (m:=0) (n0:=0) mix Tryz.func174 rfl rfl rfl rfl ?_;conv=>whnf
   refine .own ?_;conv=>whnf
   refine .mk [] rfl rfl (by decide) ?_;conv=>whnf
   exact⟨_,_,⟨rfl,rfl⟩,vR_ _,rfl,⟨⟨_,rfl,wke_refl _,rfl⟩,trivial⟩,rfl⟩
theorem lx_cloneAf {l:List Af}(hl:l.length≤1000000):LX Tryz.prog 66 [.a (.d (afsD l))] [] fun v H=>v= .a (.own 0 4 (afR l))∧H=[(0,.arr 79 4 (afR l).length)]:=by
 cases l with
 |cons x xs=>
  refine LX_run (m:=0) (n0:=0) mix Tryz.func66 rfl rfl rfl rfl ?_;conv=>whnf
  refine .own ?_;conv=>whnf
  refine .mk (afR (x::xs)) rfl rfl (by simp at hl ⊢;omega) ?_;conv=>whnf
  exact⟨_,_,⟨rfl,rfl⟩,vR_ _,rfl,⟨⟨_,rfl,wke_refl _,rfl⟩,trivial⟩,rfl⟩
 |nil=>
  refine clone_nil (k:=4) (e:=79) ?_ fun a cap=> ?_
  ·intro cap;refine LX_run (m:=0) (n0:=0) mix Tryz.func66 rfl rfl rfl rfl ?_;conv=>whnf
   exact⟨_,_,⟨rfl,rfl⟩,vR_ _,rfl,trivial,rfl⟩
  ·refine LX_run (m:=0) (n0:=0) mix Tryz.func66 rfl rfl rfl rfl ?_;conv=>whnf
   refine .own ?_;conv=>whnf
   refine .mk [] rfl rfl (by decide) ?_;conv=>whnf
   exact⟨_,_,⟨rfl,rfl⟩,vR_ _,rfl,⟨⟨_,rfl,wke_refl _,rfl⟩,trivial⟩,rfl⟩
abbrev rnT (v:Int)(t:Tm):Tm:=⟨if v<t.v then t.v-1 else t.v,t.q⟩
def rnS (v:Int)(ts:List Tm)(k:Nat):List Tm:=(ts.take k).map (rnT v)++ts.drop k
theorem rnS_at {v:Int}{ts:List Tm}{k:Nat}{t:Tm}(h:ts[k]? =some t):(rnS v ts k)[k]? =some t:=by
 have hk:=at_lt h;have h1:((ts.take k).map (rnT v)).length=k:=by rw[List.length_map,List.length_take];omega
 unfold rnS;rw[List.getElem?_append_right (by omega),h1,Nat.sub_self,List.getElem?_drop,Nat.add_zero,h]
theorem rnS_set {v:Int}{ts:List Tm}{k:Nat}{t:Tm}(h:ts[k]? =some t):rnS v ts (k+1)=(rnS v ts k).set k (rnT v t):=by
 have hk:=at_lt h;have h1:((ts.take k).map (rnT v)).length=k:=by rw[List.length_map,List.length_take];omega
 have h2:ts.drop k=t::ts.drop (k+1):=by
  rw[List.drop_eq_getElem_cons hk]
  congr 1
  rw[List.getElem?_eq_getElem hk]at h;injection h
 unfold rnS;rw[take_snoc h,h2,List.map_append,List.set_append,if_neg (by omega),h1,Nat.sub_self];simp
theorem rnS_same {v:Int}{ts:List Tm}{k:Nat}{t:Tm}(h:ts[k]? =some t)(ht:¬v<t.v):rnS v ts (k+1)=rnS v ts k:=by
 rw[rnS_set h];have h0:=rnS_at (v:=v) h;have hk:=at_lt h0;rw[List.getElem?_eq_getElem hk]at h0;injection h0 with h0;have:rnT v t=t:=by unfold rnT;rw[if_neg ht]
 rw[this,←h0,List.set_getElem_self]
theorem rnS_zero {v:Int}{ts:List Tm}:rnS v ts 0=ts:=by unfold rnS;simp
theorem rnS_all {v:Int}{ts:List Tm}:rnS v ts ts.length=ts.map (rnT v):=by unfold rnS;simp
theorem lx_replaced {fs:List Af}{b:Af}{n v:Int}{e:Nat}(h0:0≤v)(hv:v<n)(hn:n≤1000)(hb:FB e v b)(hf:∀f∈fs,FB e n f)(he:e≤300000000)(hl:fs.length≤1000):
  LV Tryz.prog 118 [.a (.d (afsD fs)),vl (.int .i64 v),.agg b.A] (.a (.d (afsD (fs.map (repF v b))))):=by
 refine LX_run (m:=0) (n0:=0) mix Tryz.func118 rfl rfl rfl rfl ?_;conv=>whnf
 refine .mk Nat (fun i=>⟨[(14,vl (.int .i64 (i:Nat))),(13,vl (.int .i64 (fs.map Af.D).length)),(12,.a (.d (afsD fs))),(7,.a (.own 1 4 (afR ((fs.take i).map (repF v b))))),(5,.a (.ptr 0 0)),(1,vl (.int .i64 v))],
  [(0,.box 79 b.A),(1,.arr 79 4 (afR ((fs.take i).map (repF v b))).length)],2⟩) (fun i=>i≤fs.length) (fun i=>fs.length-i) 0
  (Wk.trans (Wk.own 7 1 79 4 rfl rfl (zL_ _)) Wk.go) (zL_ _) fun i hi=> ?_
 conv=>whnf
 refine bs (fun g0=> ?_) (fun g0=> ?_)
 ·conv=>whnf
  have hi':i<fs.length:=by simpa using g0
  obtain⟨f,hfi⟩:=at_some hi';have hff:=hf f (mG_ hfi);have hbn:FB e n b:=⟨hb.ts.up (by omega),hb.co,hb.c⟩;have cs:=pl_subst (v:=v) hff hbn (by omega) (by omega) (by omega);have hts:Ts n (substS f v b):=Ts.subst hff.ts hb.ts (by omega);have hln:=hts.len (by omega);have es:repF v b f=⟨(substS f v b).ts.map (rnT v),(substS f v b).c⟩:=rfl;generalize substS f v b=g at *
  obtain⟨ts,c⟩:=g;simp only at hts hln es;refine .mk (i) (f.D) (rfl) (at_map hfi) ?_;conv=>whnf
  conv=>whnf
  refine .c (cs) ?_;conv=>whnf
  have happ:afR ((fs.take (i+1)).map (repF v b))=afR ((fs.take i).map (repF v b))++[(Af.D ⟨ts.map (rnT v),c⟩)]:=by
   rw[take_snoc hfi,List.map_append,List.map_cons,List.map_nil,es,afR,List.map_append];rfl
  rcases eP_ ts.length with hz|hz
  ·obtain rfl:=List.eq_nil_of_length_eq_zero hz;refine .l [] (lx_cloneTm (l:=[]) (by decide)) ?_;conv=>whnf
   refine .mk Nat (fun k=>⟨[(29,vl (.int .i64 (k:Nat))),(28,vl (.int .i64 ((0:Nat):Int))),(9,.a (.ptr 2 0)),(14,vl (.int .i64 (i:Nat))),(13,vl (.int .i64 (fs.map Af.D).length)),(12,.a (.d (afsD fs))),(7,.a (.own 1 4 (afR ((fs.take i).map (repF v b))))),(5,.a (.ptr 0 0)),(1,vl (.int .i64 v))],
    [(2,.box 79 (Af.A ⟨[],c⟩)),(0,.box 79 b.A),(1,.arr 79 4 (afR ((fs.take i).map (repF v b))).length)],3⟩) (fun k=>k≤0) (fun k=>0-k) 0
    (Wk.go (h2:=⟨⟨_,rfl,⟨_,rfl,WkA.own,aR_ _,aR_ _,aR_ _,trivial⟩,rfl⟩,⟨_,rfl,wke_refl _,rfl⟩,⟨_,rfl,wke_refl _,rfl⟩,trivial⟩)) (zL_ _) fun k hk=> ?_
   conv=>whnf
   refine .mk (afR ((fs.take (i+1)).map (repF v b))) rfl happ (by simp;omega) ?_;conv=>whnf
   exact⟨i+1,Wk.go,hi',by omega⟩
  ·have cl:=LX.thawT (ts:=ts) (by intro h;rw[h]at hz;exact absurd hz (by decide)) (lx_cloneTm (l:=ts) (by omega));have hml:(ts.map Tm.D).length=ts.length:=List.length_map ..;rw[hml]at cl;refine .l [] (cl) ?_;conv=>whnf
   refine .mkw Nat (fun k=>⟨[(29,vl (.int .i64 (k:Nat))),(28,vl (.int .i64 (ts.length:Nat))),(27,.a (.tab 3 ts.length)),(9,.a (.ptr 2 0)),(14,vl (.int .i64 (i:Nat))),(13,vl (.int .i64 (fs.map Af.D).length)),(12,.a (.d (afsD fs))),(7,.a (.own 1 4 (afR ((fs.take i).map (repF v b))))),(5,.a (.ptr 0 0)),(1,vl (.int .i64 v))],
    [(2,.box 79 (.tab 3 ts.length::(can c).A)),(3,.tab 107 4 ((rnS v ts k).map Tm.D)),(0,.box 79 b.A),(1,.arr 79 4 (afR ((fs.take i).map (repF v b))).length)],4⟩) (fun k=>k≤ts.length) (fun k=>ts.length-k) 0
    (by rw[rnS_zero];exact Wk.go) (zL_ _) fun k hk=> ?_
   conv=>whnf
   refine bs (fun g1=> ?_) (fun g1=> ?_)
   ·conv=>whnf
    have hk':k<ts.length:=by have:=of_decide_eq_true g1;omega
    obtain⟨t,ht⟩:=at_some hk';have hat:=rnS_at (v:=v) ht;obtain⟨c1,c2,c3,c4⟩:=hts.cof_mem t (mG_ ht);refine .mk k rfl (by omega) ?_;conv=>whnf
    refine .mk k 0 t.D rfl (at_map hat) ?_;conv=>whnf
    refine bs (fun g2=> ?_) (fun g2=> ?_)
    ·conv=>whnf
     have hgt:v<t.v:=by have:=of_decide_eq_true g2;omega
     have ew:IntKind.i64.wrap (t.v-1)=t.v-1:=wr64 (by omega) (by omega);have est:(rnS v ts (k+1)).map Tm.D=((rnS v ts k).map Tm.D).set k (Tm.D ⟨t.v-1,t.q⟩):=by
      rw[rnS_set ht,List.map_set,rnT,if_pos hgt]
     refine .mk k rfl (by omega) ?_;conv=>whnf
     refine .mk k 0 t.D rfl (at_map hat) ?_;conv=>whnf
     rw[ew];refine .mk k rfl (by omega) ?_;conv=>whnf
     refine .mk k 0 t.D ((rnS v ts (k+1)).map Tm.D) rfl (at_map hat) (Nat.le_of_ble_eq_true rfl) (by rw[est];rfl) ?_;conv=>whnf
     exact⟨k+1,Wk.go,hk',by omega⟩
    ·conv=>whnf
     have hgt:¬v<t.v:=by have:=of_decide_eq_false g2;omega
     exact⟨k+1,by rw[rnS_same ht hgt];exact Wk.go,hk',by omega⟩
   ·conv=>whnf
    have ek:k=ts.length:=by have:=of_decide_eq_false g1;omega
    subst ek;rw[rnS_all];refine⟨_,Wk.freezeB 2 3 0 ts.length rfl rfl rfl (by omega),?_⟩;conv=>whnf
    refine .mk (afR ((fs.take (i+1)).map (repF v b))) rfl happ (by simp;omega) ?_;conv=>whnf
    exact⟨i+1,Wk.go,hi',by omega⟩
 ·conv=>whnf
  have ei:i=fs.length:=by have:¬i<fs.length:=by simpa using g0
                          omega
  rw[ei,List.take_length];exact .s ⟨rfl,rfl⟩
theorem take_drop_map {us:List Af}{j:Nat}{φ:Af→Af}:afR (us.take j)++afR ((us.drop (j+1)).map φ)=afR (us.take j++(us.drop (j+1)).map φ):=by rw[afR,afR,afR,List.map_append]
abbrev grA (n:Nat)(us os:List Af):List A:=[.d (.lit (.int .i64 (n:Nat))),.d (afsD us),.d (afsD os)]
theorem lx_replace {n j:Nat}{us os:List Af}{b:Af}{e:Nat}(hj:j<us.length)(hn:n≤100)(hu:us.length≤100)(hol:os.length≤100)(hb:FB e ((n+j:Nat):Int) b)(he:e≤300000000)
  (huf:∀f∈us.drop (j+1),FB e ((n+us.length:Nat):Int) f) (hof:∀f∈os,FB e ((n+us.length:Nat):Int) f):
  LV Tryz.prog 67 [.agg (grA n us os),vl (.int .i64 (j:Nat)),.agg b.A] (.agg (grA n (repU n j b us) (os.map (repF ((n+j:Nat):Int) b)))):=by
 have ev:IntKind.i64.wrap ((n:Int)+(j:Int))=((n+j:Nat):Int):=by rw[←Int.natCast_add,wrN (by omega)]
 have ej:IntKind.i64.wrap ((j:Int)+1)=((j+1:Nat):Int):=by rw[wr64 (by omega) (by omega)];omega
 have c1:=lx_replaced (v:=((n+j:Nat):Int)) (by omega) (Int.ofNat_lt.2 (by omega)) (by omega) hb huf he (by rw[List.length_drop];omega);have c2:=lx_replaced (v:=((n+j:Nat):Int)) (by omega) (Int.ofNat_lt.2 (by omega)) (by omega) hb hof he (by omega);have cc:=lx_cloneAf (l:=us.take j) (by rw[List.length_take];omega);refine LX_run (m:=0) (n0:=0) mix Tryz.func67 rfl rfl rfl rfl ?_;conv=>whnf
 rw[ev];refine .mk 0 j (afR (us.take j)) rfl rfl (by omega) (by rw[List.length_map];omega) (by rw[List.drop_zero,afR,List.map_take]) ?_;conv=>whnf
 refine .l [] (cc) ?_;conv=>whnf
 rw[ej];refine .mk (j+1) us.length (afR (us.drop (j+1))) rfl (by rw[List.length_map];rfl) (by omega) (by rw[List.length_map];omega) (by rw[List.take_of_length_le (by rw[List.length_map];omega),afR,List.map_drop]) ?_;conv=>whnf
 refine .c (c1) ?_;conv=>whnf
 refine .mk (afR (repU n j b us)) rfl (by rw[repU,take_drop_map]) (by rw[afR,List.length_map,repU_len hj];omega) ?_;conv=>whnf
 refine .c (c2) ?_;conv=>whnf
 refine .mk (by kernel_rfl) ?_;conv=>whnf
 exact .s ⟨rfl,rfl⟩
structure GS (L n:Nat)(us os us' os':List Af):Prop where
 gk:Gk L n us' os'
 eq:Eqg n us os us' os'
 ul:us'.length≤us.length
 ol:os'.length=os.length
theorem GS.refl {L n:Nat}{us os:List Af}(h:Gk L n us os):GS L n us os us os:=⟨h,Eqg.refl n us os,lR_ _,rfl⟩
theorem GS.trans {L n:Nat}{us os us' os' us'' os'':List Af}(h:GS L n us os us' os')(k:GS L n us' os' us'' os''):GS L n us os us'' os'':=⟨k.gk,h.eq.trans k.eq,tL_ k.ul h.ul,k.ol.trans h.ol⟩
theorem GS.rep {L n j:Nat}{us os us' os':List Af}{b:Af}(hL:LOk L)(h:GS L n us os us' os')(hj:j<us'.length)(hb:By L (kL us'.length) ((n+j:Nat):Int) b)
  (hc:(∀ξ,Sat n us' ξ→ξ ((n+j:Nat):Int)=ph 1 ξ b)∨((∀(i:Nat) f,j<i→us'[i]? =some f→cof f.ts ((n+j:Nat):Int)=0)∧∀f∈os',cof f.ts ((n+j:Nat):Int)=0)):
  GS L n us os (repU n j b us') (os'.map (repF ((n+j:Nat):Int) b)):=
 h.trans ⟨h.gk.rep hL hj hb,Eqg.rep h.gk hj hb.ts hc,by rw[repU_len hj];omega,List.length_map ..⟩
theorem lx_gcopied {L n:Nat}{us os:List Af}(hL:LOk L)(h:Gk L n us os)(hn:1≤n)(hn':n≤24)(ho:1≤os.length)(ho':os.length≤24):
  LV Tryz.prog 33 [.agg (grA n us os)] (.agg (grA n us os)):=by
 have hu:=h.u;refine LX_run (m:=0) (n0:=0) mix Tryz.func33 rfl rfl rfl rfl ?_;conv=>whnf
 refine .c (lx_gvalid (h.ok hL hn hn' ho ho')) ?_;conv=>whnf
 refine .l [] (lx_cloneAf (l:=us) (by omega)) ?_;conv=>whnf
 refine .l [] (lx_cloneAf (l:=os) (by omega)) ?_;conv=>whnf
 refine .mk (by kernel_rfl) ?_;conv=>whnf
 exact .s ⟨rfl,rfl⟩
theorem lx_repl {L n j:Nat}{us os us' os':List Af}{b:Af}(hL:LOk L)(h:GS L n us os us' os')(hn':n≤24)(ho':os.length≤24)(hj:j<us'.length)(hb:By L (kL us'.length) ((n+j:Nat):Int) b):
  LV Tryz.prog 67 [.agg (grA n us' os'),vl (.int .i64 (j:Nat)),.agg b.A] (.agg (grA n (repU n j b us') (os'.map (repF ((n+j:Nat):Int) b)))):=by
 have hu:=h.gk.u;have hk:=h.gk.eb;have hol:=h.ol;have h1:Lv L 1 1:=Lv.int (z:=1) hL (by decide) (lR_ _);refine lx_replace (e:=30000*8400) hj (by omega) (by omega) (by omega) ⟨hb.ts,fun w=> ?_,(hb.c.mono hL (by omega:_≤8400)).bt hL⟩ (by omega) (fun f hf=> ?_) fun f hf=> ?_
 ·rcases hb.co w with h|h
  ·rw[h];exact bt0 _
  ·rw[h];exact(h1.mono hL (by omega:1≤8400)).bt hL
 ·obtain⟨i,hi,rfl⟩:=List.getElem_of_mem hf;have hlt:i<us'.length-(j+1):=by rw[List.length_drop]at hi;exact hi
  have:=h.gk.uf' hL (j:=j+1+i) (f:=(us'.drop (j+1))[i]) (by rw[List.getElem_drop,List.getElem?_eq_getElem]);exact(this.mono hL (lR_ _) (lR_ _) (Int.ofNat_le.2 (by omega))).fb hL (by omega) (by omega)
 ·exact(h.gk.of' hL hf).fb hL (by omega) (by omega)
def conS (n:Nat):Nat→Nat→List Af→List Af→List Af×List Af
 |0,_,us,os=>(us,os)
 |k+1,i,us,os=>match us[i]? with
  |none=>(us,os)
  |some f=>if f.ts=[]then conS n k i (repU n i (numS (maxQ f.c 0)) us) (os.map (repF ((n+i:Nat):Int) (numS (maxQ f.c 0))))else conS n k (i+1) us os
theorem conS_end {n k i:Nat}{us os:List Af}(h:us.length≤i):conS n k i us os=(us,os):=by
 cases k with
 |zero=>rfl
 |succ k=>rw[conS,List.getElem?_eq_none h]
theorem con_by {L n i:Nat}{us os us' os':List Af}{f:Af}(hL:LOk L)(h:GS L n us os us' os')(hf:us'[i]? =some f):By L (kL us'.length) ((n+i:Nat):Int) (numS (maxQ f.c 0)):=
 By.num ((h.gk.uf i f hf).c.max Lv.zero)
theorem con_gs {L n i:Nat}{us os us' os':List Af}{f:Af}(hL:LOk L)(h:GS L n us os us' os')(hf:us'[i]? =some f)(h0:f.ts=[]):
  GS L n us os (repU n i (numS (maxQ f.c 0)) us') (os'.map (repF ((n+i:Nat):Int) (numS (maxQ f.c 0)))):=
 h.rep hL (at_lt hf) (con_by hL h hf) (.inl fun ξ hξ=>by
  rw[hξ i f hf,ph_num,ph,h0];show maxQ (0+1*f.c) 0=1*maxQ f.c 0;rw[Rat.zero_add,Rat.one_mul,Rat.one_mul])
theorem conS_gs {L n:Nat}{us os:List Af}(hL:LOk L):∀(k i:Nat) (us' os':List Af),GS L n us os us' os'→GS L n us os (conS n k i us' os').1 (conS n k i us' os').2
 |0,_,_,_,h=>h
 |k+1,i,us',os',h=>by
  rw[conS];split
  ·exact h
  ·rename_i f hf;split
   ·rename_i h0;exact conS_gs hL k i _ _ (con_gs hL h hf h0)
   ·exact conS_gs hL k (i+1) _ _ h
theorem lx_constants {L n:Nat}{us os:List Af}(hL:LOk L)(h:Gk L n us os)(hn':n≤24)(ho':os.length≤24):
  LV Tryz.prog 34 [.agg (grA n us os)] (.agg (grA n (conS n 60 0 us os).1 (conS n 60 0 us os).2)):=by
 have hu:=h.u;refine LX_run (m:=0) (n0:=0) mix Tryz.func34 rfl rfl rfl rfl ?_;conv=>whnf
 refine .mk (Nat×Nat×List Af×List Af) (fun b=>⟨[(3,vl (.int .i64 (b.2.1:Nat))),(2,.a (.ptr 1 0)),(1,.a (.ptr 0 0))],
  [(0,.box 36 (grA n b.2.2.1 b.2.2.2)),(1,.box 36 [.d (.lit (.int .i64 0)),.d (.lit (.slice none 0 0)),.d (.lit (.slice none 0 0))])],2⟩)
  (fun b=>conS n b.1 b.2.1 b.2.2.1 b.2.2.2=conS n 60 0 us os∧2*b.2.2.1.length≤b.1+b.2.1∧b.2.1≤b.2.2.1.length∧GS L n us os b.2.2.1 b.2.2.2) (fun b=>b.1) (60,0,us,os) Wk.go ⟨rfl,by simp only;omega,zL_ _,GS.refl h⟩ fun⟨k,i,us',os'⟩ ⟨h1,h2,h3,h4⟩=> ?_
 simp only at h1 h2 h3 h4;have hu':=h4.gk.u;conv=>whnf
 refine bs (fun g0=> ?_) (fun g0=> ?_)
 ·conv=>whnf
  have hi':i<us'.length:=by simpa using g0
  obtain⟨k,rfl⟩:∃k',k=k'+1:=⟨k-1,by omega⟩;obtain⟨f,hf⟩:=at_some hi';rw[conS,hf]at h1;simp only at h1;refine .mk (i) (f.D) (rfl) (at_map hf) ?_;conv=>whnf
  conv=>whnf
  refine bs (fun g1=> ?_) (fun g1=> ?_)
  ·conv=>whnf
   have h0:f.ts=[]:=by
    have:f.ts.length=0:=by simpa using g1
    exact List.eq_nil_of_length_eq_zero this
   rw[if_pos h0]at h1;have hfl:=h4.gk.uf' hL hf;refine Cn.as (lx_rmax (.c (hfl.c.z hL (by omega))) (.c (Lv.zero (L:=L) (e:=1) |>.z hL (by omega)))) rfl ⟨vR_ _,lit0_wk,trivial⟩ rfl rfl ?_;conv=>whnf
   refine Cn.as (lx_repl (j:=i) hL h4 hn' ho' hi' (con_by hL h4 hf)) rfl ⟨vR_ _,vR_ _,WkV.agg ⟨WkA.nil,aR_ _,aR_ _,aR_ _,trivial⟩,trivial⟩ rfl rfl ?_;conv=>whnf
   refine .mk (by kernel_rfl) ?_;conv=>whnf
   have hrl:(repU n i (numS (maxQ f.c 0)) us').length=us'.length-1:=repU_len hi';have hgs:=con_gs hL h4 hf h0;generalize repU n i (numS (maxQ f.c 0)) us'=U at *
   exact⟨(k,i,U,_),Wk.go,⟨h1,by simp only;omega,by simp only;omega,hgs⟩,by simp only;omega⟩
  ·conv=>whnf
   have h0:f.ts≠[]:=by
    intro h0;rw[h0]at g1;simp at g1
   rw[if_neg h0]at h1;have ei:IntKind.i64.wrap ((i:Int)+1)=((i+1:Nat):Int):=by rw[wr64 (by omega) (by omega)];omega
   rw[show((((k+1,i,us',os'):Nat×Nat×List Af×List Af).2.1:Nat):Int)=(i:Int)from rfl,ei];exact⟨(k,i+1,us',os'),Wk.go,⟨h1,by simp only;omega,hi',h4⟩,by simp only;omega⟩
 ·conv=>whnf
  have hi':us'.length≤i:=by simpa using g0
  rw[conS_end hi']at h1;rw[←h1];exact .q ⟨rfl,rfl⟩
abbrev Gp:=List Af→List Af→List Af×List Af
def thD (D1 D2 D3:Gp)(us os:List Af):Nat→List Af×List Af
 |0=>(us,os)
 |1=>D1 us os
 |2=>D2 (D1 us os).1 (D1 us os).2
 |_=>D3 (D2 (D1 us os).1 (D1 us os).2).1 (D2 (D1 us os).1 (D1 us os).2).2
def allS (D:Gp):Nat→List Af→List Af→List Af×List Af
 |0,us,os=>(us,os)
 |k+1,us,os=>if(D us os).1.length=us.length then D us os else allS D k (D us os).1 (D us os).2
theorem allS_gs {L n:Nat}{us os:List Af}{D:Gp}(hD:∀us' os',GS L n us os us' os'→GS L n us os (D us' os').1 (D us' os').2):∀(k:Nat) (us' os':List Af),GS L n us os us' os'→GS L n us os (allS D k us' os').1 (allS D k us' os').2
 |0,_,_,h=>h
 |k+1,us',os',h=>by
  rw[allS];split
  ·exact hD _ _ h
  ·exact allS_gs hD k _ _ (hD _ _ h)
abbrev fnL (f:FuncId):D:= .lit (.func (.func f) #[] #[])
abbrev pasD:D:= .sl 1 [[fnL 34],[fnL 35],[fnL 36]]
theorem lx_all {L n:Nat}{us os:List Af}{D1 D2 D3:Gp}(h:Gk L n us os)
  (h1:∀us' os',GS L n us os us' os'→GS L n us os (D1 us' os').1 (D1 us' os').2∧(D1 us' os').1.length≤us'.length∧LV Tryz.prog 34 [.agg (grA n us' os')] (.agg (grA n (D1 us' os').1 (D1 us' os').2)))
  (h2:∀us' os',GS L n us os us' os'→GS L n us os (D2 us' os').1 (D2 us' os').2∧(D2 us' os').1.length≤us'.length∧LV Tryz.prog 35 [.agg (grA n us' os')] (.agg (grA n (D2 us' os').1 (D2 us' os').2)))
  (h3:∀us' os',GS L n us os us' os'→GS L n us os (D3 us' os').1 (D3 us' os').2∧(D3 us' os').1.length≤us'.length∧LV Tryz.prog 36 [.agg (grA n us' os')] (.agg (grA n (D3 us' os').1 (D3 us' os').2))):
  LV Tryz.prog 32 [.agg (grA n us os),.a (.d pasD)] (.agg (grA n (allS (fun us os=>thD D1 D2 D3 us os 3) 30 us os).1 (allS (fun us os=>thD D1 D2 D3 us os 3) 30 us os).2)):=by
 have hu:=h.u;refine LX_run (m:=0) (n0:=0) mix Tryz.func32 rfl rfl rfl rfl ?_;conv=>whnf
 refine .mk (Nat×List Af×List Af) (fun b=>⟨[(4,.a (.ptr 1 0)),(2,.a (.ptr 0 0)),(1,.a (.d pasD))],
  [(0,.box 36 (grA n b.2.1 b.2.2)),(1,.box 36 [.d (.lit (.int .i64 0)),.d (.lit (.slice none 0 0)),.d (.lit (.slice none 0 0))])],2⟩)
  (fun b=>allS (fun us os=>thD D1 D2 D3 us os 3) b.1 b.2.1 b.2.2=allS (fun us os=>thD D1 D2 D3 us os 3) 30 us os∧b.2.1.length<b.1∧GS L n us os b.2.1 b.2.2) (fun b=>b.1) (30,us,os) Wk.go ⟨rfl,by simp only;omega,GS.refl h⟩ fun⟨k,us',os'⟩ ⟨q1,q2,q3⟩=> ?_
 simp only at q1 q2 q3;obtain⟨k,rfl⟩:∃k',k=k'+1:=⟨k-1,by omega⟩;obtain⟨a1,b1,c1⟩:=h1 us' os' q3;obtain⟨a2,b2,c2⟩:=h2 _ _ a1;obtain⟨a3,b3,c3⟩:=h3 _ _ a2;conv=>whnf
 refine .mk Nat (fun j=>⟨[(13,vl (.int .i64 (j:Nat))),(12,vl (.int .i64 3)),(11,.a (.d pasD)),(5,vl (.int .i64 (us'.map Af.D).length)),(4,.a (.ptr 1 0)),(2,.a (.ptr 0 0)),(1,.a (.d pasD))],
  [(0,.box 36 (grA n (thD D1 D2 D3 us' os' j).1 (thD D1 D2 D3 us' os' j).2)),(1,.box 36 [.d (.lit (.int .i64 0)),.d (.lit (.slice none 0 0)),.d (.lit (.slice none 0 0))])],2⟩) (fun j=>j≤3) (fun j=>3-j) 0 Wk.go (zL_ _) fun j hj=> ?_
 conv=>whnf
 refine bs (fun g0=> ?_) (fun g0=> ?_)
 ·conv=>whnf
  have hj':j<3:=by have:=of_decide_eq_true g0;omega
  rcases(show j=0∨j=1∨j=2 by omega)with rfl|rfl|rfl
  ·refine .mk (0) ([fnL 34]) (rfl) (rfl) ?_;conv=>whnf
   conv=>whnf
   refine .c (c1) ?_;conv=>whnf
   exact⟨1,Wk.go,by omega,by omega⟩
  ·refine .mk (1) ([fnL 35]) (rfl) (rfl) ?_;conv=>whnf
   conv=>whnf
   refine .c (c2) ?_;conv=>whnf
   exact⟨2,Wk.go,by omega,by omega⟩
  ·refine .mk (2) ([fnL 36]) (rfl) (rfl) ?_;conv=>whnf
   conv=>whnf
   refine .c (c3) ?_;conv=>whnf
   exact⟨3,Wk.go,by omega,by omega⟩
 ·conv=>whnf
  have ej:j=3:=by have:=of_decide_eq_false g0;omega
  subst ej;rw[allS]at q1;have hle:(thD D1 D2 D3 us' os' 3).1.length≤us'.length:=tL_ b3 (tL_ b2 b1);have hgs:GS L n us os (thD D1 D2 D3 us' os' 3).1 (thD D1 D2 D3 us' os' 3).2:=a3
  change (if(thD D1 D2 D3 us' os' 3).1.length=us'.length then thD D1 D2 D3 us' os' 3 else allS (fun us os=>thD D1 D2 D3 us os 3) k (thD D1 D2 D3 us' os' 3).1 (thD D1 D2 D3 us' os' 3).2)=_ at q1
  generalize thD D1 D2 D3 us' os' 3=E at *
  obtain⟨eu,eo⟩:=E;simp only at q1 hle hgs;refine bs (fun g1=> ?_) (fun g1=> ?_)
  ·have he:eu.length=us'.length:=by have:=g1;simp only[List.length_map,beq_iff_eq]at this;omega
   rw[if_pos he]at q1;rw[←q1];conv=>whnf
   exact .q ⟨rfl,rfl⟩
  ·have he:¬eu.length=us'.length:=by have:=g1;simp only[List.length_map,beq_eq_false_iff_ne]at this;omega
   rw[if_neg he]at q1;conv=>whnf
   exact⟨(k,eu,eo),Wk.go,⟨q1,by simp only;omega,hgs⟩,by simp only;omega⟩
def mkT (n:Nat)(bs:List Bool)(t:Tm):List Bool:=if(n:Int)≤t.v then bs.set (t.v-n).toNat true else bs
def mkF (n:Nat)(bs:List Bool)(f:Af):List Bool:=f.ts.foldl (mkT n) bs
def mkO (n m:Nat)(os:List Af):List Bool:=os.foldl (mkF n) (List.replicate m false)
def mkB (n:Nat)(us:List Af):Nat→List Bool→List Bool
 |0,bs=>bs
 |i+1,bs=>mkB n us i (if bs.getD i false=true then mkF n bs (us.getD i z0)else bs)
def deB (n:Nat)(bs:List Bool):Nat→List Af→List Af→List Af×List Af
 |0,us,os=>(us,os)
 |i+1,us,os=>if bs.getD i false=true then deB n bs i us os else deB n bs i (repU n i (numS 0) us) (os.map (repF ((n+i:Nat):Int) (numS 0)))
def deaM (n:Nat)(us os:List Af):List Bool:=mkB n us us.length (mkO n us.length os)
def deaS (n:Nat)(us os:List Af):List Af×List Af:=deB n (deaM n us os) us.length us os
theorem mkT_len {n:Nat}{bs:List Bool}{t:Tm}:(mkT n bs t).length=bs.length:=by unfold mkT;split<;>simp
theorem mkT_up {n:Nat}{bs:List Bool}{t:Tm}{k:Nat}(h:bs.getD k false=true):(mkT n bs t).getD k false=true:=by
 unfold mkT;split
 ·rw[List.getD_eq_getElem?_getD]at h ⊢;rw[List.getElem?_set];split
  ·split
   ·rfl
   ·rename_i h1 h2;subst h1;rw[List.getElem?_eq_none (by omega)]at h;cases h
  ·exact h
 ·exact h
theorem mkT_no {n:Nat}{bs:List Bool}{t:Tm}{k:Nat}(h:t.v≠((n+k:Nat):Int)):(mkT n bs t).getD k false=bs.getD k false:=by
 unfold mkT;split
 ·rw[List.getD_eq_getElem?_getD,List.getD_eq_getElem?_getD,List.getElem?_set,if_neg (by omega)]
 ·rfl
theorem mkT_at {n:Nat}{bs:List Bool}{t:Tm}{k:Nat}(h:t.v=((n+k:Nat):Int))(hk:k<bs.length):(mkT n bs t).getD k false=true:=by
 unfold mkT;rw[if_pos (by omega),List.getD_eq_getElem?_getD,List.getElem?_set,if_pos (by omega),if_pos (by omega)];rfl
theorem tms_len {n:Nat}:∀{ts:List Tm} {bs:List Bool},(ts.foldl (mkT n) bs).length=bs.length
 |[],_=>rfl
 |t::ts,bs=>by rw[List.foldl_cons,tms_len,mkT_len]
theorem tms_up {n k:Nat}:∀{ts:List Tm} {bs:List Bool},bs.getD k false=true→(ts.foldl (mkT n) bs).getD k false=true
 |[],_,h=>h
 |t::ts,bs,h=>by rw[List.foldl_cons];exact tms_up (mkT_up h)
theorem tms_no {n k:Nat}:∀{ts:List Tm} {bs:List Bool},(∀t∈ts,t.v≠((n+k:Nat):Int))→(ts.foldl (mkT n) bs).getD k false=bs.getD k false
 |[],_,_=>rfl
 |t::ts,bs,h=>by rw[List.foldl_cons,tms_no fun s hs=>h s (List.mem_cons_of_mem _ hs),mkT_no (h t List.mem_cons_self)]
theorem tms_at {n k:Nat}:∀{ts:List Tm} {bs:List Bool},(∃t∈ts,t.v=((n+k:Nat):Int))→k<bs.length→(ts.foldl (mkT n) bs).getD k false=true
 |[],_,⟨t,h,_⟩,_=>by cases h
 |t::ts,bs,⟨s,hs,e⟩,hk=>by
  rw[List.foldl_cons];rcases List.mem_cons.1 hs with rfl|hs
  ·exact tms_up (mkT_at e hk)
  ·exact tms_at ⟨s,hs,e⟩ (by rw[mkT_len];exact hk)
theorem mkF_len {n:Nat}{bs:List Bool}{f:Af}:(mkF n bs f).length=bs.length:=tms_len
theorem mkF_at {n k:Nat}{bs:List Bool}{f:Af}(h:cof f.ts ((n+k:Nat):Int)≠0)(hk:k<bs.length):(mkF n bs f).getD k false=true:=by
 refine tms_at ?_ hk;rcases Classical.em (∃t∈f.ts,t.v=((n+k:Nat):Int))with h1|h1
 ·exact h1
 ·exact absurd (cof_none' fun t ht e=>h1 ⟨t,ht,e⟩) h
theorem os_len {n:Nat}:∀{os:List Af} {bs:List Bool},(os.foldl (mkF n) bs).length=bs.length
 |[],_=>rfl
 |f::os,bs=>by rw[List.foldl_cons,os_len,mkF_len]
theorem os_up {n k:Nat}:∀{os:List Af} {bs:List Bool},bs.getD k false=true→(os.foldl (mkF n) bs).getD k false=true
 |[],_,h=>h
 |f::os,bs,h=>by rw[List.foldl_cons];exact os_up (tms_up h)
theorem os_at {n k:Nat}{f:Af}(hc:cof f.ts ((n+k:Nat):Int)≠0):∀{os:List Af} {bs:List Bool},f∈os→k<bs.length→(os.foldl (mkF n) bs).getD k false=true
 |[],_,h,_=>by cases h
 |g::os,bs,h,hk=>by
  rw[List.foldl_cons];rcases List.mem_cons.1 h with rfl|h
  ·exact os_up (mkF_at hc hk)
  ·exact os_at hc h (by rw[mkF_len];exact hk)
structure MkI (n:Nat)(us os:List Af)(i:Nat)(bs:List Bool):Prop where
 len:bs.length=us.length
 os:∀f∈os,∀k,k<us.length→cof f.ts ((n+k:Nat):Int)≠0→bs.getD k false=true
 us:∀j f,i≤j→us[j]? =some f→bs.getD j false=true→∀k,k<us.length→cof f.ts ((n+k:Nat):Int)≠0→bs.getD k false=true
theorem mkB_ok {n:Nat}{us os:List Af}(ht:∀(j:Nat) f,us[j]? =some f→Ts ((n+j:Nat):Int) f):∀(i:Nat) (bs:List Bool),i≤us.length→MkI n us os i bs→MkI n us os 0 (mkB n us i bs)
 |0,bs,_,h=>h
 |i+1,bs,hi,h=>by
  rw[mkB];obtain⟨f,hf⟩:=at_some (l:=us) (i:=i) (by omega);rw[getD_of hf];refine mkB_ok ht i _ (by omega) ?_;split
  ·rename_i hb;have hup:∀k,bs.getD k false=true→(mkF n bs f).getD k false=true:=fun k hk=>tms_up hk;refine⟨by rw[mkF_len,h.len],fun g hg k hk hc=>hup k (h.os g hg k hk hc),fun j g hj hg hm k hk hc=> ?_⟩;rcases Nat.lt_or_ge i j with h1|h1
   ·have hno:(mkF n bs f).getD j false=bs.getD j false:=tms_no fun t ht' e=>by
     have:=((ht i f hf).cof_mem t ht').2.2.1;omega
    rw[hno]at hm;exact hup k (h.us j g (by omega) hg hm k hk hc)
   ·rw[show j=i by omega,hf]at hg;injection hg with hg;subst hg;exact mkF_at hc (by rw[h.len];exact hk)
  ·rename_i hb;refine⟨h.len,h.os,fun j g hj hg hm k hk hc=> ?_⟩;rcases Nat.lt_or_ge i j with h1|h1
   ·exact h.us j g (by omega) hg hm k hk hc
   ·rw[show j=i by omega]at hm;exact absurd hm hb
theorem deaM_ok {n:Nat}{us os:List Af}(ht:∀(j:Nat) f,us[j]? =some f→Ts ((n+j:Nat):Int) f):MkI n us os 0 (deaM n us os):=by
 refine mkB_ok ht _ _ (lR_ _) ⟨by rw[mkO,os_len,List.length_replicate],fun f hf k hk hc=>os_at hc hf (by rw[List.length_replicate];exact hk),fun j f hj hf=> ?_⟩;have:=at_lt hf;omega
structure DeI (L n:Nat)(us os:List Af)(bs:List Bool)(i:Nat)(us' os':List Af):Prop where
 gs:GS L n us os us' os'
 pre:us'.take i=us.take i
 le:i≤us'.length
 no:∀k,k<i→bs.getD k false=false→(∀f∈os',cof f.ts ((n+k:Nat):Int)=0)∧∀j f,i≤j→us'[j]? =some f→cof f.ts ((n+k:Nat):Int)=0
theorem num0_by {L k:Nat}{v:Int}:By L k v (numS 0):=By.num Lv.zero
theorem deB_step {L n:Nat}{us os us' os':List Af}{bs:List Bool}{i:Nat}(hL:LOk L)(hm:MkI n us os 0 bs)(h:DeI L n us os bs (i+1) us' os'):
  (bs.getD i false=true→DeI L n us os bs i us' os')∧(bs.getD i false=false→DeI L n us os bs i (repU n i (numS 0) us') (os'.map (repF ((n+i:Nat):Int) (numS 0)))):=by
 obtain⟨h1,h2,h3,h4⟩:=h;have hi:i<us'.length:=by omega
 have hp:us'.take i=us.take i:=by
  have:=congrArg (List.take i) h2
  rwa [List.take_take,List.take_take,Nat.min_eq_left (by omega)]at this
 have hui:us'[i]? =us[i]?:=by
  have:=congrArg (fun l=>l[i]?) h2;simp only[List.getElem?_take]at this
  rwa [if_pos (by omega),if_pos (by omega)]at this
 have hul:i<us.length:=by
  rw[List.getElem?_eq_getElem hi]at hui;exact at_lt hui.symm
 refine⟨fun hb=>⟨h1,hp,by omega,fun k hk hn=>⟨(h4 k (by omega) hn).1,fun j f hj hf=> ?_⟩⟩,fun hb=> ?_⟩
 ·rcases Nat.lt_or_ge i j with h5|h5
  ·exact(h4 k (by omega) hn).2 j f (by omega) hf
  ·rw[show j=i by omega,hui]at hf;rcases Classical.em (cof f.ts ((n+k:Nat):Int)=0)with h6|h6
   ·exact h6
   ·have:=hm.us i f (zL_ _) hf hb k (by omega) h6;rw[hn]at this;cases this
 ·obtain⟨n1,n2⟩:=h4 i (by omega) hb;have hr:=repU_len (n:=n) (b:=numS 0) hi
  have cz:∀(m:Int) (f:Af),Ts m f→((n+i:Nat):Int)≤m→∀k,k<i→cof f.ts ((n+k:Nat):Int)=0→cof (repF ((n+i:Nat):Int) (numS 0) f).ts ((n+k:Nat):Int)=0:=fun m f hf hm k hk hz=>by
   rw[cof_rep hf (show Ts ((n+i:Nat):Int) (numS 0)from trivial) hm,if_pos (by omega),hz];show 0+0*_=(0:Rat);rw[Rat.zero_mul,Rat.add_zero]
  refine⟨h1.rep hL hi num0_by (.inr ⟨fun j f hj hf=>n2 j f (by omega) hf,n1⟩),?_,by omega,fun k hk hn=>⟨fun f hf=> ?_,fun j f hj hf=> ?_⟩⟩
  ·rw[←hp,repU,List.take_append_of_le_length (by rw[List.length_take];omega),List.take_take,Nat.min_self]
  ·obtain⟨g,hg,rfl⟩:=List.mem_map.1 hf;exact cz _ g (h1.gk.of g hg).ts (by omega) k hk ((h4 k (by omega) hn).1 g hg)
  ·rw[repU_at hi,if_neg (by omega)]at hf;obtain⟨g,hg,rfl⟩:=Option.map_eq_some_iff.1 hf;exact cz _ g (h1.gk.uf (j+1) g hg).ts (by omega) k hk ((h4 k (by omega) hn).2 (j+1) g (by omega) hg)
theorem deB_gs {L n:Nat}{us os:List Af}{bs:List Bool}(hL:LOk L)(hm:MkI n us os 0 bs):∀(i:Nat) (us' os':List Af),DeI L n us os bs i us' os'→GS L n us os (deB n bs i us' os').1 (deB n bs i us' os').2
 |0,_,_,h=>h.gs
 |i+1,us',os',h=>by
  obtain⟨a,b⟩:=deB_step hL hm h;rw[deB];split
  ·rename_i hb;exact deB_gs hL hm i _ _ (a hb)
  ·rename_i hb;exact deB_gs hL hm i _ _ (b (by simpa using hb))
theorem dea0 {L n:Nat}{us os:List Af}{bs:List Bool}(h:Gk L n us os)(hm:MkI n us os 0 bs):DeI L n us os bs us.length us os:=by
 refine⟨GS.refl h,rfl,lR_ _,fun k hk hn=>⟨fun f hf=> ?_,fun j f hj hf=> ?_⟩⟩
 ·rcases Classical.em (cof f.ts ((n+k:Nat):Int)=0)with h1|h1
  ·exact h1
  ·have:=hm.os f hf k hk h1;rw[hn]at this;cases this
 ·have:=at_lt hf;omega
theorem deaS_gs {L n:Nat}{us os:List Af}(hL:LOk L)(h:Gk L n us os):GS L n us os (deaS n us os).1 (deaS n us os).2:=
 deB_gs hL (deaM_ok h.ts) _ _ _ (dea0 h (deaM_ok h.ts))
abbrev bsR (ms:List Bool):List (List D):=ms.map fun b=>[D.lit (.bool b)]
abbrev deH (n:Nat)(us os:List Af)(ms:List Bool):List (Nat×Ent):=[(0,.box 36 (grA n us os)),(1,.box 118 [.tab 2 ms.length]),(2,.tab 4 1 (bsR ms))]
theorem bsR_set {ms:List Bool}{i:Nat}:bsR (ms.set i true)=(bsR ms).set i [D.lit (.bool true)]:=by rw[bsR,List.map_set]
def mkS (n:Nat)(ms:List Bool)(ts:List Tm)(k:Nat):List Bool:=(ts.take k).foldl (mkT n) ms
theorem lx_dead1 {n:Nat}{us os:List Af}{ms:List Bool}{f:Af}(hn:n≤24)(hb:ms.length≤100)(hf:Ts ((n+ms.length:Nat):Int) f):
  LX Tryz.prog 70 [.agg f.A,.a (.ptr 0 0),.a (.ptr 1 0)] (deH n us os ms) fun v H=>v= .tup []∧H=deH n us os (mkF n ms f):=by
 have hlen:=hf.len (Int.natCast_nonneg _);refine LX_run (m:=3) (n0:=3) mix Tryz.func70 rfl rfl rfl rfl ?_;conv=>whnf
 refine .mk Nat (fun k=>⟨[(9,vl (.int .i64 (k:Nat))),(8,vl (.int .i64 (f.ts.map Tm.D).length)),(7,.a (.d (.sl 4 (f.ts.map Tm.D)))),(2,.a (.ptr 1 0)),(1,.a (.ptr 0 0))],
  [(0,.box 36 (grA n us os)),(1,.box 118 [.tab 2 ms.length]),(2,.tab 4 1 (bsR (mkS n ms f.ts k)))],3⟩) (fun k=>k≤f.ts.length) (fun k=>f.ts.length-k) 0 Wk.go (zL_ _) fun k hk=> ?_
 have hml:(mkS n ms f.ts k).length=ms.length:=tms_len;conv=>whnf
 refine bs (fun g0=> ?_) (fun g0=> ?_)
 ·conv=>whnf
  have hk':k<f.ts.length:=by simpa using g0
  obtain⟨t,ht⟩:=at_some hk';obtain⟨c1,c2,c3,c4⟩:=hf.cof_mem t (mG_ ht);have es:mkS n ms f.ts (k+1)=mkT n (mkS n ms f.ts k) t:=by unfold mkS;rw[take_snoc ht,List.foldl_append];rfl
  refine .mk (k) (t.D) (rfl) (at_map ht) ?_;conv=>whnf
  conv=>whnf
  refine bs (fun g1=> ?_) (fun g1=> ?_)
  ·conv=>whnf
   have hge:(n:Int)≤t.v:=by have:=of_decide_eq_true g1;omega
   obtain⟨b0,hb0⟩:=at_some (l:=mkS n ms f.ts k) (i:=(t.v-n).toNat) (by omega);have ew:IntKind.i64.wrap (t.v-(n:Int))=(((t.v-n).toNat:Nat):Int):=by rw[wr64 (by omega) (by omega),Int.toNat_of_nonneg (by omega)]
   have eb:bsR (mkS n ms f.ts (k+1))=(bsR (mkS n ms f.ts k)).set (t.v-n).toNat [D.lit (.bool true)]:=by rw[es,mkT,if_pos hge,bsR_set]
   refine .mk (t.v-n).toNat ew (by omega) ?_;conv=>whnf
   refine .mk (t.v-n).toNat 0 [D.lit (.bool b0)] (bsR (mkS n ms f.ts (k+1))) rfl (at_map hb0) (Nat.le_of_ble_eq_true rfl) (by rw[eb];rfl) ?_;conv=>whnf
   exact⟨k+1,Wk.go,hk',by omega⟩
  ·conv=>whnf
   have hge:¬(n:Int)≤t.v:=by have:=of_decide_eq_false g1;omega
   have eb:mkS n ms f.ts (k+1)=mkS n ms f.ts k:=by rw[es,mkT,if_neg hge]
   exact⟨k+1,by rw[eb];exact Wk.go,hk',by omega⟩
 ·conv=>whnf
  have ek:k=f.ts.length:=by have:¬k<f.ts.length:=by simpa using g0
                            omega
  have eb:mkS n ms f.ts f.ts.length=mkF n ms f:=by unfold mkS mkF;rw[List.take_length]
  have el:ms.length=(mkF n ms f).length:=mkF_len.symm;rw[ek,eb,el];exact⟨_,_,⟨rfl,rfl⟩,vR_ _,rfl,⟨⟨_,rfl,wke_refl _,rfl⟩,⟨_,rfl,wke_refl _,rfl⟩,⟨_,rfl,wke_refl _,rfl⟩,trivial⟩,rfl⟩
theorem lx_sameall {l:List Rat}(h:∀q∈l,Sz q)(hl:l.length≤1000):LV Tryz.prog 12 [.a (.d (rqsD l)),.a (.d (rqsD l))] (vl (.bool true)):=by
 refine LX_run (m:=0) (n0:=0) mix Tryz.func12 rfl rfl rfl rfl ?_;conv=>whnf
 refine bF (by simp) ?_;conv=>whnf
 refine .mk Nat (fun i=>⟨[(5,vl (.int .i64 (i:Nat))),(1,.a (.d (rqsD l))),(0,.a (.d (rqsD l)))],[],0⟩) (fun i=>i≤l.length) (fun i=>l.length-i) 0 Wk.go (zL_ _) fun i hi=> ?_;conv=>whnf
 refine bs (fun g0=> ?_) (fun g0=> ?_)
 ·conv=>whnf
  have hi':i<l.length:=by simpa using g0
  obtain⟨q,hq⟩:=at_some hi';have c:LV Tryz.prog 39 [ratV q,ratV q] (vl (.bool true)):=by
   have:=lx_zsame (c:=decide (q<0)) (xs:=limbs q.num.natAbs) (ys:=limbs (dn q)) (h q (mG_ hq)) (lR_ _)
   rwa [vB_can]at this
  refine .mk (i) ((can q).D) (rfl) (at_rq hq) ?_;conv=>whnf
  conv=>whnf
  refine .mk (i) ((can q).D) (rfl) (at_rq hq) ?_;conv=>whnf
  conv=>whnf
  refine .c (c) ?_;conv=>whnf
  refine .mk (by kernel_rfl) ?_;conv=>whnf
  exact⟨i+1,Wk.go,hi',by omega⟩
 ·conv=>whnf
  exact .q ⟨rfl,rfl⟩
theorem lx_point {raw:List Nat}{n:Nat}(h:RawOk raw)(hn:n≤1000):∃x:List Rat,(x.length=n∧∀v∈x,Bt 5 v)∧LV Tryz.prog 24 [.a (.d (bysD raw)),vl (.int .i64 (n:Nat))] (.a (.d (rqsD x))):=by
 suffices hh:LX Tryz.prog 24 [.a (.d (bysD raw)),vl (.int .i64 (n:Nat))] [] fun v H=>∃x:List Rat,(x.length=n∧∀v∈x,Bt 5 v)∧v= .a (.d (rqsD x))∧H=[] by
  obtain⟨v,H',⟨x,hx,rfl,rfl⟩,hc⟩:=hh;exact⟨x,hx,_,_,⟨rfl,rfl⟩,hc⟩
 refine LX_run (m:=0) (n0:=0) mix Tryz.func24 rfl rfl rfl rfl ?_;conv=>whnf
 refine .l [] (lx_new h) ?_;conv=>whnf
 refine .mk (Nat×Nat×List Rat) (fun b=>⟨[(7,vl (.int .i64 (b.1:Nat))),(6,.a (.own 1 3 (rqR b.2.2))),(5,.a (.ptr 0 0)),(1,vl (.int .i64 (n:Nat)))],[(0,.box 144 [.d (bysD raw),.d (.lit (.int .i64 (b.2.1:Nat)))]),(1,.arr 56 3 (rqR b.2.2).length)],2⟩)
  (fun b=>b.1≤n∧b.2.1≤raw.length∧b.2.2.length=b.1∧∀v∈b.2.2,Bt 5 v) (fun b=>n-b.1) (0,0,[]) (Wk.trans (Wk.own 6 1 56 3 rfl rfl (zL_ _)) Wk.go) ⟨zL_ _,zL_ _,rfl,fun v hv=>by cases hv⟩ fun⟨i,a,x⟩ ⟨h1,h2,h3,h4⟩=> ?_
 simp only at h1 h2 h3 h4;conv=>whnf
 refine bs (fun g0=> ?_) (fun g0=> ?_)
 ·conv=>whnf
  have hi':i<n:=by have:=of_decide_eq_true g0;omega
  obtain⟨a',q,k1,k2,c⟩:=lx_number h h2;refine .l [0] (c) ?_;conv=>whnf
  refine .mk (rqR (x++[q])) rfl (by rw[rqR,List.map_append];rfl) (by simp;omega) ?_;conv=>whnf
  exact⟨(i+1,a',x++[q]),Wk.go,⟨hi',k1,by simp[h3],fun v hv=>by
   rcases List.mem_append.1 hv with hv|hv
   ·exact h4 v hv
   ·rw[List.mem_singleton.1 hv];exact k2⟩,by simp only;omega⟩
 ·conv=>whnf
  have ei:i=n:=by have:=of_decide_eq_false g0;omega
  subst ei;exact⟨_,_,⟨x,⟨h3,h4⟩,rfl,rfl⟩,WkV.of WkA.own,rfl,trivial,rfl⟩
theorem MoOk.pt {m:Mo}(h:MoOk m){q:Rat}(hq:Bt 5 q):Lv m.L 1 q:=by
 refine Lv.of h.L ?_ (tL_ hq.1 (by decide)) rfl;have h1:q.den∣fac 36:=fac_dvd q.den_pos (tL_ hq.2 (by decide));exact Nat.dvd_trans h1 (Nat.dvd_mul_right _ _)
theorem lx_zindex {s:List Nat}{xs:List Int}(h:ShG s)(hl:xs.length=s.length):∃r e:Int,LV Tryz.prog 148 [.a (.d (shD s)),.a (.d (inD xs))] (.tup [.s (.d (.lit (.int .i64 r))),.s (.d (.lit (.int .i64 e)))]):=by
 suffices hh:LX Tryz.prog 148 [.a (.d (shD s)),.a (.d (inD xs))] [] fun v H=>∃r e:Int,v= .tup [.s (.d (.lit (.int .i64 r))),.s (.d (.lit (.int .i64 e)))]∧H=[] by
  obtain⟨v,H',⟨r,e,rfl,rfl⟩,hc⟩:=hh;exact⟨r,e,_,_,⟨rfl,rfl⟩,hc⟩
 have h4:=h.l4;refine LX_run (m:=0) (n0:=0) mix Tryz.func148 rfl rfl rfl rfl ?_;conv=>whnf
 refine .c (lx_zvalidT h) ?_;conv=>whnf
 refine bF (by simp[hl]) ?_;conv=>whnf
 refine .mk (Nat×Int) (fun b=>⟨[(7,vl (.int .i64 (b.1:Nat))),(6,vl (.int .i64 b.2)),(1,.a (.d (inD xs))),(0,.a (.d (shD s)))],[],0⟩) (fun b=>b.1≤s.length) (fun b=>s.length-b.1) (0,0) Wk.go (zL_ _) fun⟨i,z⟩ hi=> ?_;simp only at hi;conv=>whnf
 refine bs (fun g0=> ?_) (fun g0=> ?_)
 ·conv=>whnf
  have hi':i<s.length:=by simpa using g0
  obtain⟨d,hd⟩:=at_some hi';obtain⟨x,hx⟩:=at_some (l:=xs) (i:=i) (by omega);refine .mk (i) ([D.lit (.int .i64 x)]) (rfl) (at_inR hx) ?_;conv=>whnf
  conv=>whnf
  refine bs (fun g1=> ?_) (fun g1=> ?_)
  ·conv=>whnf
   refine .mk (by kernel_rfl) ?_;conv=>whnf
   exact⟨_,_,⟨_,_,rfl,rfl⟩,vR_ _,rfl,trivial,rfl⟩
  ·conv=>whnf
   refine .mk (i) ([D.lit (.int .i64 x)]) (rfl) (at_inR hx) ?_;conv=>whnf
   conv=>whnf
   refine .mk (i) ([D.lit (.int .i64 (d:Nat))]) (rfl) (at_nI hd) ?_;conv=>whnf
   conv=>whnf
   refine bs (fun g2=> ?_) (fun g2=> ?_)
   ·conv=>whnf
    refine .mk (by kernel_rfl) ?_;conv=>whnf
    exact⟨_,_,⟨_,_,rfl,rfl⟩,vR_ _,rfl,trivial,rfl⟩
   ·conv=>whnf
    refine .mk (by kernel_rfl) ?_;conv=>whnf
    refine .mk (i) ([D.lit (.int .i64 (d:Nat))]) (rfl) (at_nI hd) ?_;conv=>whnf
    conv=>whnf
    refine .mk (i) ([D.lit (.int .i64 x)]) (rfl) (at_inR hx) ?_;conv=>whnf
    conv=>whnf
    refine .mk (by kernel_rfl) ?_;conv=>whnf
    exact⟨(i+1,_),Wk.go,hi',by simp only;omega⟩
 ·conv=>whnf
  exact⟨_,_,⟨_,_,rfl,rfl⟩,vR_ _,rfl,trivial,rfl⟩
theorem zw_dim {a p k s:Nat}(h1:k≤a+2*p)(hs:1≤s)(ha:a≤100000)(hp:p≤1000):IntKind.i64.wrap (2*(p:Int))=((2*p:Nat):Int)∧IntKind.i64.wrap ((a:Int)+((2*p:Nat):Int))=((a+2*p:Nat):Int)∧IntKind.i64.wrap (((a+2*p:Nat):Int)-(k:Int))=((a+2*p-k:Nat):Int)∧
  IntKind.i64.wrap (((a+2*p-k:Nat):Int).tdiv (s:Int))=(((a+2*p-k)/s:Nat):Int)∧IntKind.i64.wrap ((((a+2*p-k)/s:Nat):Int)+1)=(((a+2*p-k)/s+1:Nat):Int):=by
 have d:=Nat.div_le_self (a+2*p-k) s;refine⟨?_,?_,?_,?_,?_⟩
 ·rw[wr64 (by omega) (by omega)];omega
 ·rw[wr64 (by omega) (by omega)];omega
 ·rw[wr64 (by omega) (by omega)];omega
 ·rw[Int.tdiv_eq_ediv_of_nonneg (by omega),←Int.natCast_ediv];generalize (a+2*p-k)/s=X at *
  rw[wr64 (by omega) (by omega)]
 ·generalize (a+2*p-k)/s=X at *
  rw[wr64 (by omega) (by omega)];omega
structure WnG (W:Wn):Prop where
 kh:1≤W.kh∧W.kh≤64
 kw:1≤W.kw∧W.kw≤64
 st:1≤W.st∧W.st≤64
 ph:W.pad<W.kh
 pw:W.pad<W.kw
 fh:W.kh≤W.h+2*W.pad
 fw:W.kw≤W.w+2*W.pad
def ZwR (s:List Nat)(kh kw st pad:Int)(v:V):Prop:=∃(L:List (List Int)) (r q e:Int),v= .tup [.s (.d (wnD L)),.s (.d (.lit (.int .i64 r))),.s (.d (.lit (.int .i64 q))),.s (.d (.lit (.int .i64 e)))]∧
 (e=0→∃W:Wn,s=[W.c,W.h,W.w]∧kh=W.kh∧kw=W.kw∧st=W.st∧pad=W.pad∧WnG W∧r=W.rows∧q=W.cols)
theorem zw_err {s:List Nat}{kh kw st pad r q e:Int}(he:e≠0){H:List (Nat×Ent)}:Rt 0 H (.tup [.s (.d (.lit (.slice none 0 0))),.s (.d (.lit (.int .i64 r))),.s (.d (.lit (.int .i64 q))),.s (.d (.lit (.int .i64 e)))]) (fun v H=>ZwR s kh kw st pad v∧H=[]):=by
 exact⟨_,_,⟨⟨[],r,q,e,rfl,fun h=>absurd h he⟩,rfl⟩,WkV.tup ⟨WkA.nil,aR_ _,aR_ _,aR_ _,trivial⟩,rfl,trivial,rfl⟩
theorem lx_zwindows {s:List Nat}{kh kw st pad:Int}(h:ShG s):∃v,ZwR s kh kw st pad v∧LV Tryz.prog 93 [.a (.d (shD s)),vl (.int .i64 kh),vl (.int .i64 kw),vl (.int .i64 st),vl (.int .i64 pad)] v:=by
 suffices hh:LX Tryz.prog 93 [.a (.d (shD s)),vl (.int .i64 kh),vl (.int .i64 kw),vl (.int .i64 st),vl (.int .i64 pad)] [] fun v H=>ZwR s kh kw st pad v∧H=[] by
  obtain⟨v,H',⟨hx,rfl⟩,hc⟩:=hh;exact⟨v,hx,_,_,⟨rfl,rfl⟩,hc⟩
 refine LX_run (m:=0) (n0:=0) mix Tryz.func93 rfl rfl rfl rfl ?_;conv=>whnf
 refine .c (lx_zvalidT h) ?_;conv=>whnf
 refine bs (fun g1=> ?_) (fun g1=> ?_)
 ·conv=>whnf
  exact zw_err (by decide)
 conv=>whnf
 refine bs (fun g2=> ?_) (fun g2=> ?_)
 ·conv=>whnf
  exact zw_err (by decide)
 conv=>whnf
 refine bs (fun g3=> ?_) (fun g3=> ?_)
 ·conv=>whnf
  exact zw_err (by decide)
 conv=>whnf
 refine bs (fun g4=> ?_) (fun g4=> ?_)
 ·conv=>whnf
  exact zw_err (by decide)
 conv=>whnf
 refine bs (fun g5=> ?_) (fun g5=> ?_)
 ·conv=>whnf
  exact zw_err (by decide)
 conv=>whnf
 refine bs (fun g6=> ?_) (fun g6=> ?_)
 ·conv=>whnf
  exact zw_err (by decide)
 conv=>whnf
 refine bs (fun g7=> ?_) (fun g7=> ?_)
 ·conv=>whnf
  exact zw_err (by decide)
 conv=>whnf
 refine bs (fun g8=> ?_) (fun g8=> ?_)
 ·conv=>whnf
  exact zw_err (by decide)
 conv=>whnf
 refine bs (fun g9=> ?_) (fun g9=> ?_)
 ·conv=>whnf
  exact zw_err (by decide)
 have g1:=of_decide_eq_false g1;have g2:=of_decide_eq_false g2;have g3:=of_decide_eq_false g3;have g4:=of_decide_eq_false g4;have g5:=of_decide_eq_false g5;have g6:=of_decide_eq_false g6;have g7:=of_decide_eq_false g7;have g8:=of_decide_eq_false g8;have g9:=of_decide_eq_false g9;obtain⟨kh,rfl⟩:∃n:Nat,kh=n:=⟨kh.toNat,by omega⟩;obtain⟨kw,rfl⟩:∃n:Nat,kw=n:=⟨kw.toNat,by omega⟩;obtain⟨st,rfl⟩:∃n:Nat,st=n:=⟨st.toNat,by omega⟩;obtain⟨pad,rfl⟩:∃n:Nat,pad=n:=⟨pad.toNat,by omega⟩;conv=>whnf
 refine bs (fun g10=> ?_) (fun g10=> ?_)
 ·conv=>whnf
  exact zw_err (by decide)
 have h3:s.length=3:=by
  have:=g10;simp only[List.length_map,bne_eq_false_iff_eq]at this;omega
 obtain⟨c,hh,ww,rfl⟩:∃c hh ww,s=[c,hh,ww]:=by
  match s,h3 with
  |[a,b,d],_=>exact⟨a,b,d,rfl⟩
 have d0:=h.d (i:=0) (d:=c) rfl;have d1:=h.d (i:=1) (d:=hh) rfl;have d2:=h.d (i:=2) (d:=ww) rfl;conv=>whnf
 refine .mk (1) ([D.lit (.int .i64 (hh:Nat))]) (rfl) (rfl) ?_;conv=>whnf
 conv=>whnf
 have u1:IntKind.i64.wrap (2*(pad:Int))=((2*pad:Nat):Int):=by rw[wr64 (by omega) (by omega)];omega
 have u2:∀a:Nat,a≤100000→IntKind.i64.wrap ((a:Int)+((2*pad:Nat):Int))=((a+2*pad:Nat):Int):=fun a ha=>by rw[wr64 (by omega) (by omega)];omega
 rw[u1,u2 hh (by omega)];refine bs (fun g11=> ?_) (fun g11=> ?_)
 ·conv=>whnf
  exact zw_err (by decide)
 conv=>whnf
 refine .mk (2) ([D.lit (.int .i64 (ww:Nat))]) (rfl) (rfl) ?_;conv=>whnf
 conv=>whnf
 rw[u1,u2 ww (by omega)];refine bs (fun g12=> ?_) (fun g12=> ?_)
 ·conv=>whnf
  exact zw_err (by decide)
 have g11:=of_decide_eq_false g11;have g12:=of_decide_eq_false g12;conv=>whnf
 obtain⟨_,_,u3,u4,u5⟩:=zw_dim (a:=hh) (p:=pad) (k:=kh) (s:=st) (by omega) (by omega) (by omega) (by omega);obtain⟨_,_,v3,v4,v5⟩:=zw_dim (a:=ww) (p:=pad) (k:=kw) (s:=st) (by omega) (by omega) (by omega) (by omega);have hR:(⟨c,hh,ww,kh,kw,st,pad⟩:Wn).rows=(hh+2*pad-kh)/st+1:=rfl;have hQ:(⟨c,hh,ww,kh,kw,st,pad⟩:Wn).cols=(ww+2*pad-kw)/st+1:=rfl;have hg:WnG ⟨c,hh,ww,kh,kw,st,pad⟩:=⟨⟨by simp only;omega,by simp only;omega⟩,⟨by simp only;omega,by simp only;omega⟩,⟨by simp only;omega,by simp only;omega⟩,by simp only;omega,by simp only;omega,by simp only;omega,by simp only;omega⟩;have rb:=Nat.div_le_self (hh+2*pad-kh) st;have qb:=Nat.div_le_self (ww+2*pad-kw) st;generalize (hh+2*pad-kh)/st=R0 at *
 generalize (ww+2*pad-kw)/st=Q0 at *
 obtain⟨R,eR⟩:∃R,R=R0+1:=⟨_,rfl⟩;obtain⟨Q,eQ⟩:∃Q,Q=Q0+1:=⟨_,rfl⟩;rw[←eR]at u5 hR;rw[←eQ]at v5 hQ;have R1:R≤20000:=by omega
 have Q1:Q≤20000:=by omega
 have p1:R*Q≤20000*20000:=Nat.mul_le_mul R1 Q1;have p2:R*Q*c≤20000*20000*16384:=Nat.mul_le_mul p1 d0.2;have p3:R*Q*c*kh≤20000*20000*16384*64:=Nat.mul_le_mul p2 hg.kh.2;have p4:R*Q*c*kh*kw≤20000*20000*16384*64*64:=Nat.mul_le_mul p3 hg.kw.2;have m1:IntKind.i64.wrap ((R:Int)*(Q:Int))=((R*Q:Nat):Int):=by rw[←Int.natCast_mul,wrN (by omega)]
 have m2:IntKind.i64.wrap (((R*Q:Nat):Int)*(c:Int))=((R*Q*c:Nat):Int):=by rw[←Int.natCast_mul,wrN (by omega)]
 have m3:IntKind.i64.wrap (((R*Q*c:Nat):Int)*(kh:Int))=((R*Q*c*kh:Nat):Int):=by rw[←Int.natCast_mul,wrN (by omega)]
 have m4:IntKind.i64.wrap (((R*Q*c*kh:Nat):Int)*(kw:Int))=((R*Q*c*kh*kw:Nat):Int):=by rw[←Int.natCast_mul,wrN (by omega)]
 refine .mk (1) ([D.lit (.int .i64 (hh:Nat))]) (rfl) (rfl) ?_;conv=>whnf
 conv=>whnf
 rw[u1,u2 hh (by omega),u3];refine .mk _ ⟨by omega,rfl⟩ u4 ?_;conv=>whnf
 refine .mk (2) ([D.lit (.int .i64 (ww:Nat))]) (rfl) (rfl) ?_;conv=>whnf
 conv=>whnf
 rw[u1,u2 ww (by omega),v3];refine .mk _ ⟨by omega,rfl⟩ v4 ?_;conv=>whnf
 refine .mk (by kernel_rfl) ?_;conv=>whnf
 rw[u5,v5,m1];refine .mk (0) ([D.lit (.int .i64 (c:Nat))]) (rfl) (rfl) ?_;conv=>whnf
 conv=>whnf
 rw[m2,m3,m4];refine bs (fun g13=> ?_) (fun g13=> ?_)
 ·conv=>whnf
  exact zw_err (by decide)
 conv=>whnf
 have khw:kh*kw≤64*64:=Nat.mul_le_mul hg.kh.2 hg.kw.2;refine .mk (Nat×List (List Int)) (fun b=>⟨[(17,vl (.int .i64 (b.1:Nat))),(16,.a (.own 0 1 (wnR b.2))),(4,vl (.int .i64 (pad:Nat))),(3,vl (.int .i64 (st:Nat))),(2,vl (.int .i64 (kw:Nat))),(1,vl (.int .i64 (kh:Nat))),(0,.a (.d (shD [c,hh,ww]))),(14,vl (.int .i64 (R:Nat))),(15,vl (.int .i64 (Q:Nat)))],[(0,.arr 22 1 (wnR b.2).length)],1⟩) (fun b=>b.1≤R∧b.2.length≤b.1*Q) (fun b=>R-b.1) (0,[])
  (Wk.trans (Wk.own 16 0 22 1 rfl rfl (zL_ _)) Wk.go) ⟨zL_ _,zL_ _⟩ fun⟨r,L⟩ ⟨r1,r2⟩=> ?_
 simp only at r1 r2;conv=>whnf
 refine bs (fun t0=> ?_) (fun t0=> ?_)
 ·conv=>whnf
  have r3:r<R:=by have:=of_decide_eq_true t0;omega
  have r4:(r+1)*Q≤R*Q:=Nat.mul_le_mul_right _ r3;refine .mk (Nat×List (List Int)) (fun b=>⟨[(18,vl (.int .i64 (b.1:Nat))),(17,vl (.int .i64 (r:Nat))),(16,.a (.own 0 1 (wnR b.2))),(4,vl (.int .i64 (pad:Nat))),(3,vl (.int .i64 (st:Nat))),(2,vl (.int .i64 (kw:Nat))),(1,vl (.int .i64 (kh:Nat))),(0,.a (.d (shD [c,hh,ww]))),(14,vl (.int .i64 (R:Nat))),(15,vl (.int .i64 (Q:Nat)))],[(0,.arr 22 1 (wnR b.2).length)],1⟩) (fun b=>b.1≤Q∧b.2.length≤r*Q+b.1) (fun b=>Q-b.1) (0,L)
   Wk.go ⟨zL_ _,by simp only;omega⟩ fun⟨q,L⟩ ⟨q1,q2⟩=> ?_
  simp only at q1 q2;conv=>whnf
  refine bs (fun t1=> ?_) (fun t1=> ?_)
  ·conv=>whnf
   have q3:q<Q:=by have:=of_decide_eq_true t1;omega
   rw[Nat.add_mul,Nat.one_mul]at r4;refine .mk (Nat×List Int) (fun b=>⟨[(20,vl (.int .i64 (b.1:Nat))),(19,.a (.own 1 1 (inR b.2))),(18,vl (.int .i64 (q:Nat))),(17,vl (.int .i64 (r:Nat))),(16,.a (.own 0 1 (wnR L))),(4,vl (.int .i64 (pad:Nat))),(3,vl (.int .i64 (st:Nat))),(2,vl (.int .i64 (kw:Nat))),(1,vl (.int .i64 (kh:Nat))),(0,.a (.d (shD [c,hh,ww]))),(14,vl (.int .i64 (R:Nat))),(15,vl (.int .i64 (Q:Nat)))],[(1,.arr 3 1 (inR b.2).length),(0,.arr 22 1 (wnR L).length)],2⟩) (fun b=>b.1≤c∧b.2.length≤b.1*(kh*kw)) (fun b=>c-b.1) (0,[])
    (Wk.trans (Wk.own 19 1 3 1 rfl rfl (by decide)) Wk.go) ⟨zL_ _,zL_ _⟩ fun⟨ch,l⟩ ⟨c1,c2⟩=> ?_
   simp only at c1 c2;have cb:ch*(kh*kw)≤16384*4096:=Nat.mul_le_mul (by omega) (by omega);conv=>whnf
   refine .mk (0) ([D.lit (.int .i64 (c:Nat))]) (rfl) (rfl) ?_;conv=>whnf
   conv=>whnf
   refine bs (fun t2=> ?_) (fun t2=> ?_)
   ·conv=>whnf
    have c3:ch<c:=by have:=of_decide_eq_true t2;omega
    refine .mk (Nat×List Int) (fun b=>⟨[(21,vl (.int .i64 (b.1:Nat))),(20,vl (.int .i64 (ch:Nat))),(19,.a (.own 1 1 (inR b.2))),(18,vl (.int .i64 (q:Nat))),(17,vl (.int .i64 (r:Nat))),(16,.a (.own 0 1 (wnR L))),(4,vl (.int .i64 (pad:Nat))),(3,vl (.int .i64 (st:Nat))),(2,vl (.int .i64 (kw:Nat))),(1,vl (.int .i64 (kh:Nat))),(0,.a (.d (shD [c,hh,ww]))),(14,vl (.int .i64 (R:Nat))),(15,vl (.int .i64 (Q:Nat)))],[(1,.arr 3 1 (inR b.2).length),(0,.arr 22 1 (wnR L).length)],2⟩) (fun b=>b.1≤kh∧b.2.length≤ch*(kh*kw)+b.1*kw) (fun b=>kh-b.1) (0,l)
     Wk.go ⟨zL_ _,by simp only;omega⟩ fun⟨i,l⟩ ⟨i1,i2⟩=> ?_
    simp only at i1 i2;have ib:i*kw≤64*64:=Nat.mul_le_mul (by have:=hg.kh.2;simp only at this;omega) hg.kw.2;conv=>whnf
    refine bs (fun t3=> ?_) (fun t3=> ?_)
    ·conv=>whnf
     have i3:i<kh:=by have:=of_decide_eq_true t3;omega
     refine .mk (Nat×List Int) (fun b=>⟨[(22,vl (.int .i64 (b.1:Nat))),(21,vl (.int .i64 (i:Nat))),(20,vl (.int .i64 (ch:Nat))),(19,.a (.own 1 1 (inR b.2))),(18,vl (.int .i64 (q:Nat))),(17,vl (.int .i64 (r:Nat))),(16,.a (.own 0 1 (wnR L))),(4,vl (.int .i64 (pad:Nat))),(3,vl (.int .i64 (st:Nat))),(2,vl (.int .i64 (kw:Nat))),(1,vl (.int .i64 (kh:Nat))),(0,.a (.d (shD [c,hh,ww]))),(14,vl (.int .i64 (R:Nat))),(15,vl (.int .i64 (Q:Nat)))],[(1,.arr 3 1 (inR b.2).length),(0,.arr 22 1 (wnR L).length)],2⟩) (fun b=>b.1≤kw∧b.2.length≤ch*(kh*kw)+i*kw+b.1) (fun b=>kw-b.1) (0,l)
      Wk.go ⟨zL_ _,by simp only;omega⟩ fun⟨k,l⟩ ⟨k1,k2⟩=> ?_
     simp only at k1 k2;have kb:=hg.kw.2;simp only at kb;conv=>whnf
     refine bs (fun t4=> ?_) (fun t4=> ?_)
     ·conv=>whnf
      have k3:k<kw:=by have:=of_decide_eq_true t4;omega
      obtain⟨z,e,ci⟩:=lx_zindex (s:=[c,hh,ww]) (xs:=[(ch:Int),IntKind.i64.wrap (IntKind.i64.wrap (IntKind.i64.wrap ((r:Int)*(st:Int))+(i:Int))-(pad:Int)),IntKind.i64.wrap (IntKind.i64.wrap (IntKind.i64.wrap ((q:Int)*(st:Int))+(k:Int))-(pad:Int))]) h rfl;refine .c (ci) ?_;conv=>whnf
      refine bs (fun t5=> ?_) (fun t5=> ?_)
      ·conv=>whnf
       refine .mk (inR (l++[-1])) rfl (by rw[inR,List.map_append];rfl) (by simp;omega) ?_;conv=>whnf
       exact⟨(k+1,l++[-1]),Wk.go,⟨k3,by simp;omega⟩,by simp only;omega⟩
      ·conv=>whnf
       refine .mk (inR (l++[z])) rfl (by rw[inR,List.map_append];rfl) (by simp;omega) ?_;conv=>whnf
       exact⟨(k+1,l++[z]),Wk.go,⟨k3,by simp;omega⟩,by simp only;omega⟩
     ·conv=>whnf
      have ek:k=kw:=by have:=of_decide_eq_false t4;omega
      exact⟨(i+1,l),Wk.go,⟨i3,by simp only;rw[Nat.add_mul];omega⟩,by simp only;omega⟩
    ·conv=>whnf
     have ei:i=kh:=by have:=of_decide_eq_false t3;omega
     subst ei;exact⟨(ch+1,l),Wk.go,⟨c3,by simp only;rw[Nat.add_mul];omega⟩,by simp only;omega⟩
   ·conv=>whnf
    refine .mk (wnR (L++[l])) rfl (by rw[wnR,List.map_append];rfl) (by simp;omega) ?_;conv=>whnf
    exact⟨(q+1,L++[l]),Wk.go,⟨q3,by simp;omega⟩,by simp only;omega⟩
  ·conv=>whnf
   have eq:q=Q:=by have:=of_decide_eq_false t1;omega
   exact⟨(r+1,L),Wk.go,⟨r3,by simp only;rw[Nat.add_mul];omega⟩,by simp only;omega⟩
 ·conv=>whnf
  exact⟨_,_,⟨⟨L,R,Q,0,rfl,fun _=>⟨⟨c,hh,ww,kh,kw,st,pad⟩,rfl,rfl,rfl,rfl,rfl,hg,by rw[hR],by rw[hQ]⟩⟩,rfl⟩,WkV.tup ⟨WkA.own,aR_ _,aR_ _,aR_ _,trivial⟩,rfl,trivial,rfl⟩
abbrev rwR (l:List Rw):List (List D):=l.map Rw.D
abbrev rwD (l:List Rw):D:= .sl 3 (rwR l)
def Sml (l:List Rw):Prop:=∀x∈l,x.n.length≤1∧x.d.length≤1
theorem Sml.sm {l:List Rw}(h:Sml l){x:Rw}(hx:x∈l):x.sm:=by
 have:=h x hx;exact⟨by omega,by omega⟩
theorem lx_zcanonical {l:List Rw}(h:Sml l)(hl:l.length≤1000):LV Tryz.prog 146 [.a (.d (rwD l))] (vl (.bool (l.all Rw.ok))):=by
 refine LX_run (m:=0) (n0:=0) mix Tryz.func146 rfl rfl rfl rfl ?_;conv=>whnf
 refine .mk Nat (fun i=>⟨[(3,vl (.int .i64 (i:Nat))),(0,.a (.d (rwD l)))],[],0⟩) (fun i=>i≤l.length∧(l.take i).all Rw.ok=true) (fun i=>l.length-i) 0 Wk.go ⟨zL_ _,rfl⟩ fun i ⟨hi,ha⟩=> ?_;conv=>whnf
 refine bs (fun g0=> ?_) (fun g0=> ?_)
 ·conv=>whnf
  have hi':i<l.length:=by simpa using g0
  obtain⟨x,hx⟩:=at_some hi';refine .mk (i) (x.D) (rfl) (at_map hx) ?_;conv=>whnf
  conv=>whnf
  refine .c (lx_zok (h.sm (mG_ hx))) ?_;conv=>whnf
  refine bs (fun g1=> ?_) (fun g1=> ?_)
  ·have g1':x.ok=true:=g1;conv=>whnf
   exact⟨i+1,Wk.go,⟨hi',by rw[take_snoc hx,List.all_append,ha];simp[g1']⟩,by omega⟩
  ·have g1':x.ok=false:=g1;have e:l.all Rw.ok=false:=by
    rw[List.all_eq_false];exact⟨x,mG_ hx,by rw[g1'];decide⟩
   rw[e];conv=>whnf
   exact .q ⟨rfl,rfl⟩
 ·conv=>whnf
  have ei:i=l.length:=by have:¬i<l.length:=by simpa using g0
                         omega
  rw[ei,List.take_length]at ha;rw[ha];exact .q ⟨rfl,rfl⟩
theorem lx_within {z a b:Int}:LV Tryz.prog 145 [vl (.int .i64 z),vl (.int .i64 a),vl (.int .i64 b)] (vl (.bool (decide (a≤z∧z≤b)))):=by
 refine LX_run (m:=0) (n0:=0) mix Tryz.func145 rfl rfl rfl rfl ?_;conv=>whnf
 refine bs (fun g0=> ?_) (fun g0=> ?_)
 ·conv=>whnf
  refine bs (fun g1=> ?_) (fun g1=> ?_)
  ·have e:decide (a≤z∧z≤b)=true:=decide_eq_true ⟨of_decide_eq_true g0,of_decide_eq_true g1⟩;rw[e];conv=>whnf
   exact .q ⟨rfl,rfl⟩
  ·have e:decide (a≤z∧z≤b)=false:=decide_eq_false fun h=>of_decide_eq_false g1 h.2;rw[e];conv=>whnf
   exact .q ⟨rfl,rfl⟩
 ·have e:decide (a≤z∧z≤b)=false:=decide_eq_false fun h=>of_decide_eq_false g0 h.1;rw[e];conv=>whnf
  exact .q ⟨rfl,rfl⟩
theorem lx_zmult {n m:Nat}(hm:1≤m)(hn:n≤1000000)(hm':m≤1000000000):LV Tryz.prog 147 [vl (.int .i64 (n:Nat)),vl (.int .i64 (m:Nat))] (vl (.bool (decide (1≤n∧n≤16384∧n % m=0)))):=by
 refine LX_run (m:=0) (n0:=0) mix Tryz.func147 rfl rfl rfl rfl ?_;conv=>whnf
 refine bs (fun g0=> ?_) (fun g0=> ?_)
 ·have h0:=of_decide_eq_true g0;conv=>whnf
  refine bs (fun g1=> ?_) (fun g1=> ?_)
  ·have h1:=of_decide_eq_true g1;conv=>whnf
   refine .mk ((n % m:Nat):Int) ⟨by omega,rfl⟩ (by rw[Int.tmod_eq_emod_of_nonneg (by omega)];rfl) ?_;conv=>whnf
   refine bs (fun g2=> ?_) (fun g2=> ?_)
   ·have h2:n % m=0:=by have:=g2;simp only[beq_iff_eq]at this;omega
    have e:decide (1≤n∧n≤16384∧n % m=0)=true:=decide_eq_true ⟨by omega,by omega,h2⟩;rw[e];conv=>whnf
    exact .q ⟨rfl,rfl⟩
   ·have h2:n % m≠0:=by have:=g2;simp only[beq_eq_false_iff_ne]at this;omega
    have e:decide (1≤n∧n≤16384∧n % m=0)=false:=decide_eq_false fun h=>h2 h.2.2;rw[e];conv=>whnf
    exact .q ⟨rfl,rfl⟩
  ·have h1:=of_decide_eq_false g1;have e:decide (1≤n∧n≤16384∧n % m=0)=false:=decide_eq_false fun h=>h1 (by omega);rw[e];conv=>whnf
   exact .q ⟨rfl,rfl⟩
 ·have h0:=of_decide_eq_false g0;have e:decide (1≤n∧n≤16384∧n % m=0)=false:=decide_eq_false fun h=>h0 (by omega);rw[e];conv=>whnf
  exact .q ⟨rfl,rfl⟩
structure RL where
 kind:Int
 fr:Int
 out:Int
 kh:Int
 kw:Int
 st:Int
 pad:Int
 ws:List Rw
 bs:List Rw
abbrev RL.D (l:RL):List D:=[.lit (.int .i64 l.kind),.lit (.int .i64 l.fr),.lit (.int .i64 l.out),.lit (.int .i64 l.kh),.lit (.int .i64 l.kw),.lit (.int .i64 l.st),.lit (.int .i64 l.pad),rwD l.ws,rwD l.bs]
abbrev RL.A (l:RL):List A:=[.d (.lit (.int .i64 l.kind)),.d (.lit (.int .i64 l.fr)),.d (.lit (.int .i64 l.out)),.d (.lit (.int .i64 l.kh)),.d (.lit (.int .i64 l.kw)),.d (.lit (.int .i64 l.st)),.d (.lit (.int .i64 l.pad)),.d (rwD l.ws),.d (rwD l.bs)]
structure RLb (x:RL):Prop where
 ws:x.ws.length≤80
 bs:x.bs.length≤24
 out:x.out≤24
 kh:x.kh≤6
 kw:x.kw≤6
 st:x.st≤6
 pad:x.pad≤6
 sw:Sml x.ws
 sb:Sml x.bs
def IsL (x:RL)(i:Nat):Prop:=∃lay:Lay,x.D=(Lay.ly lay).D∧LayV i lay∧x.ws.all Rw.ok=true∧x.bs.all Rw.ok=true
theorem rw_can {l:List Rw}(h:l.all Rw.ok=true):l.map Rw.D=rqR (l.map Rw.q):=by
 rw[rqR,List.map_map];exact List.map_congr_left fun x hx=>congrArg Rw.D (ok_can (List.all_eq_true.1 h x hx))
theorem zl_false {x:RL}{i:Nat}{H:List (Nat×Ent)}:Rt 0 H (vl (.bool false)) (fun v H=>∃b,(b=true→IsL x i)∧v=vl (.bool b)∧H=[]):=
 ⟨_,_,⟨false,(fun h=>by cases h),rfl,rfl⟩,vR_ _,rfl,trivial,rfl⟩
theorem zl_true {x:RL}{i:Nat}{H:List (Nat×Ent)}(h:IsL x i):Rt 0 H (vl (.bool true)) (fun v H=>∃b,(b=true→IsL x i)∧v=vl (.bool b)∧H=[]):=
 ⟨_,_,⟨true,(fun _=>h),rfl,rfl⟩,vR_ _,rfl,trivial,rfl⟩
theorem zl_of {x:RL}{i:Nat}(hh:LX Tryz.prog 90 [.agg x.A,vl (.int .i64 (i:Nat))] [] fun v H=>∃b,(b=true→IsL x i)∧v=vl (.bool b)∧H=[]):∃b,(b=true→IsL x i)∧LV Tryz.prog 90 [.agg x.A,vl (.int .i64 (i:Nat))] (vl (.bool b)):=by
 obtain⟨v,H',⟨b,hb,rfl,rfl⟩,hc⟩:=hh;exact⟨b,hb,_,_,⟨rfl,rfl⟩,hc⟩
theorem isl_bare {k fr out kh kw st pad:Int}{ws bs':List Rw}{i:Nat}(hk:k=5∨k=6)(h1:(((rwR ws).length:Int)==0)=true)(h2:(((rwR bs').length:Int)==0)=true)(h3:(kh==0)=true)(h4:(kw==0)=true)(h5:(st==0)=true)(h6:(pad==0)=true)(h7:(fr==0)=true)(h8:(out==0)=true):IsL ⟨k,fr,out,kh,kw,st,pad,ws,bs'⟩ i:=by
 simp only[beq_iff_eq,List.length_map]at h1 h2 h3 h4 h5 h6 h7 h8;obtain rfl:=List.eq_nil_of_length_eq_zero (show ws.length=0 by omega);obtain rfl:=List.eq_nil_of_length_eq_zero (show bs'.length=0 by omega);subst h3 h4 h5 h6 h7 h8;rcases hk with rfl|rfl
 ·exact⟨.relu,rfl,trivial,rfl,rfl⟩
 ·exact⟨.flat,rfl,trivial,rfl,rfl⟩
theorem zl_relu {fr out kh kw st pad:Int}{ws bs':List Rw}{i:Nat}{k:Int}(hk:k=5∨k=6)(h:RLb ⟨k,fr,out,kh,kw,st,pad,ws,bs'⟩)(hi:i≤64):∃b,(b=true→IsL ⟨k,fr,out,kh,kw,st,pad,ws,bs'⟩ i)∧LV Tryz.prog 90 [.agg (RL.A ⟨k,fr,out,kh,kw,st,pad,ws,bs'⟩),vl (.int .i64 (i:Nat))] (vl (.bool b)):=by
 refine zl_of ?_;have cw:=lx_zcanonical h.sw (by have:=h.ws;omega);have cb:=lx_zcanonical h.sb (by have:=h.bs;omega);simp only at cw cb;rcases hk with rfl|rfl
 all_goals
  refine LX_run (m:=0) (n0:=0) mix Tryz.func90 rfl rfl rfl rfl ?_;conv=>whnf
  repeat' first
   |(refine Cn.c lx_within ?_;conv=>whnf)
   |(refine Cn.c cw ?_;conv=>whnf)
   |(refine Cn.c cb ?_;conv=>whnf)
   |exact zl_false
   |(refine bs (fun _=> ?_) (fun _=> ?_)<;>conv=>whnf)
 all_goals exact zl_true (isl_bare (by decide) (by assumption) (by assumption) (by assumption) (by assumption) (by assumption) (by assumption) (by assumption) (by assumption))
theorem isl_pool {k fr out kh kw st pad:Int}{ws bs':List Rw}{i:Nat}(hk:k=3∨k=4)(a1:decide (1≤kh∧kh≤64)=true)(a2:decide (1≤kw∧kw≤64)=true)(a3:decide (1≤st∧st≤64)=true)(h1:(((rwR ws).length:Int)==0)=true)(h2:(((rwR bs').length:Int)==0)=true)(h6:(pad==0)=true)(h7:(fr==0)=true)(h8:(out==0)=true):IsL ⟨k,fr,out,kh,kw,st,pad,ws,bs'⟩ i:=by
 have a1:=of_decide_eq_true a1;have a2:=of_decide_eq_true a2;have a3:=of_decide_eq_true a3;simp only[beq_iff_eq,List.length_map]at h1 h2 h6 h7 h8;obtain rfl:=List.eq_nil_of_length_eq_zero (show ws.length=0 by omega);obtain rfl:=List.eq_nil_of_length_eq_zero (show bs'.length=0 by omega);obtain⟨kh,rfl⟩:∃n:Nat,kh=n:=⟨kh.toNat,by omega⟩;obtain⟨kw,rfl⟩:∃n:Nat,kw=n:=⟨kw.toNat,by omega⟩;obtain⟨st,rfl⟩:∃n:Nat,st=n:=⟨st.toNat,by omega⟩;subst h6 h7 h8;have v:(1≤kh∧kh≤64)∧(1≤kw∧kw≤64)∧(1≤st∧st≤64):=by omega
 rcases hk with rfl|rfl
 ·exact⟨.mx kh kw st,rfl,v,rfl,rfl⟩
 ·exact⟨.av kh kw st,rfl,v,rfl,rfl⟩
theorem isl_add {fr out kh kw st pad:Int}{ws bs':List Rw}{i:Nat}(hi:i≤64)(h1:(((rwR ws).length:Int)==0)=true)(h2:(((rwR bs').length:Int)==0)=true)(h3:(kh==0)=true)(h4:(kw==0)=true)(h5:(st==0)=true)(h6:(pad==0)=true)(h7:decide (-1≤fr∧fr≤IntKind.i64.wrap ((i:Int)-1))=true)(h8:(out==0)=true):IsL ⟨7,fr,out,kh,kw,st,pad,ws,bs'⟩ i:=by
 have h7:=of_decide_eq_true h7;rw[wr64 (by omega) (by omega)]at h7;simp only[beq_iff_eq,List.length_map]at h1 h2 h3 h4 h5 h6 h8;obtain rfl:=List.eq_nil_of_length_eq_zero (show ws.length=0 by omega);obtain rfl:=List.eq_nil_of_length_eq_zero (show bs'.length=0 by omega);subst h3 h4 h5 h6 h8;exact⟨.add fr,rfl,(by omega: -1≤fr∧fr<(i:Int)),rfl,rfl⟩
theorem zl_pool {k fr out kh kw st pad:Int}{ws bs':List Rw}{i:Nat}(hk:k=3∨k=4)(h:RLb ⟨k,fr,out,kh,kw,st,pad,ws,bs'⟩)(hi:i≤64):∃b,(b=true→IsL ⟨k,fr,out,kh,kw,st,pad,ws,bs'⟩ i)∧LV Tryz.prog 90 [.agg (RL.A ⟨k,fr,out,kh,kw,st,pad,ws,bs'⟩),vl (.int .i64 (i:Nat))] (vl (.bool b)):=by
 refine zl_of ?_;have cw:=lx_zcanonical h.sw (by have:=h.ws;omega);have cb:=lx_zcanonical h.sb (by have:=h.bs;omega);simp only at cw cb;rcases hk with rfl|rfl
 all_goals
  refine LX_run (m:=0) (n0:=0) mix Tryz.func90 rfl rfl rfl rfl ?_;conv=>whnf
  repeat' first
   |exact zl_false
   |(refine bT (by assumption) ?_;conv=>whnf)
   |(refine bF (by assumption) ?_;conv=>whnf)
   |(refine Cn.c lx_within ?_;conv=>whnf)
   |(refine Cn.c cw ?_;conv=>whnf)
   |(refine Cn.c cb ?_;conv=>whnf)
   |(refine bs (fun _=> ?_) (fun _=> ?_)<;>conv=>whnf)
 all_goals exact zl_true (isl_pool (by decide) (by assumption) (by assumption) (by assumption) (by assumption) (by assumption) (by assumption) (by assumption) (by assumption))
theorem zl_add {k fr out kh kw st pad:Int}{ws bs':List Rw}{i:Nat}(hk:k=7)(h:RLb ⟨k,fr,out,kh,kw,st,pad,ws,bs'⟩)(hi:i≤64):∃b,(b=true→IsL ⟨k,fr,out,kh,kw,st,pad,ws,bs'⟩ i)∧LV Tryz.prog 90 [.agg (RL.A ⟨k,fr,out,kh,kw,st,pad,ws,bs'⟩),vl (.int .i64 (i:Nat))] (vl (.bool b)):=by
 refine zl_of ?_;have cw:=lx_zcanonical h.sw (by have:=h.ws;omega);have cb:=lx_zcanonical h.sb (by have:=h.bs;omega);simp only at cw cb;subst hk
 ·skip
  refine LX_run (m:=0) (n0:=0) mix Tryz.func90 rfl rfl rfl rfl ?_;conv=>whnf
  repeat' first
   |exact zl_false
   |(refine bT (by assumption) ?_;conv=>whnf)
   |(refine bF (by assumption) ?_;conv=>whnf)
   |(refine Cn.c lx_within ?_;conv=>whnf)
   |(refine Cn.c cw ?_;conv=>whnf)
   |(refine Cn.c cb ?_;conv=>whnf)
   |(refine bs (fun _=> ?_) (fun _=> ?_)<;>conv=>whnf)
  all_goals exact zl_true (isl_add hi (by assumption) (by assumption) (by assumption) (by assumption) (by assumption) (by assumption) (by assumption) (by assumption))
theorem zl_none {k fr out kh kw st pad:Int}{ws bs':List Rw}{i:Nat}(hk:(k==1)=false∧(k==2)=false∧(k==3)=false∧(k==4)=false∧(k==5)=false∧(k==6)=false∧(k==7)=false)(h:RLb ⟨k,fr,out,kh,kw,st,pad,ws,bs'⟩)(hi:i≤64):∃b,(b=true→IsL ⟨k,fr,out,kh,kw,st,pad,ws,bs'⟩ i)∧LV Tryz.prog 90 [.agg (RL.A ⟨k,fr,out,kh,kw,st,pad,ws,bs'⟩),vl (.int .i64 (i:Nat))] (vl (.bool b)):=by
 refine zl_of ?_;have cw:=lx_zcanonical h.sw (by have:=h.ws;omega);have cb:=lx_zcanonical h.sb (by have:=h.bs;omega);simp only at cw cb;obtain⟨k1,k2,k3,k4,k5,k6,k7⟩:=hk
 ·skip
  refine LX_run (m:=0) (n0:=0) mix Tryz.func90 rfl rfl rfl rfl ?_;conv=>whnf
  repeat' first
   |exact zl_false
   |(refine bT (by assumption) ?_;conv=>whnf)
   |(refine bF (by assumption) ?_;conv=>whnf)
   |(refine Cn.c lx_within ?_;conv=>whnf)
   |(refine Cn.c cw ?_;conv=>whnf)
   |(refine Cn.c cb ?_;conv=>whnf)
   |(refine bs (fun _=> ?_) (fun _=> ?_)<;>conv=>whnf)
theorem lx_zmultI {z m:Int}(hm:1≤m)(hm':m≤1000000000)(hz:0≤z)(hz':z≤1000000):LV Tryz.prog 147 [vl (.int .i64 z),vl (.int .i64 m)] (vl (.bool (decide (1≤z∧z≤16384∧z % m=0)))):=by
 obtain⟨z,rfl⟩:∃n:Nat,z=n:=⟨z.toNat,by omega⟩;obtain⟨m,rfl⟩:∃n:Nat,m=n:=⟨m.toNat,by omega⟩;have:=lx_zmult (n:=z) (m:=m) (by omega) (by omega) (by omega);have e:decide (1≤(z:Int)∧(z:Int)≤16384∧(z:Int) % (m:Int)=0)=decide (1≤z∧z≤16384∧z % m=0):=by
  rw[←Int.natCast_emod]
  congr 1
  exact propext (by omega)
 rw[e];exact this
theorem isl_dense {fr out kh kw st pad:Int}{ws bs':List Rw}{i:Nat}(h3:(kh==0)=true)(h4:(kw==0)=true)(h5:(st==0)=true)(h6:(pad==0)=true)(h7:(fr==0)=true)(h8:decide (1≤out∧out≤16384)=true)(h9:(((rwR bs').length:Int)==out)=true)
  (h10:decide (1≤((rwR ws).length:Int)∧((rwR ws).length:Int)≤16384∧((rwR ws).length:Int) % out=0)=true) (o1:ws.all Rw.ok=true) (o2:bs'.all Rw.ok=true):IsL ⟨1,fr,out,kh,kw,st,pad,ws,bs'⟩ i:=by
 have h8:=of_decide_eq_true h8;have h10:=of_decide_eq_true h10;simp only[beq_iff_eq,List.length_map]at h3 h4 h5 h6 h7 h9 h10;subst h3 h4 h5 h6 h7 h9;have e1:=rw_can o1;have e2:=rw_can o2;refine⟨.dense (ws.map Rw.q) (bs'.map Rw.q),?_,⟨⟨by rw[List.length_map];omega,by rw[List.length_map];omega⟩,⟨by rw[List.length_map];omega,by rw[List.length_map];omega⟩,?_⟩,o1,o2⟩
 ·have f1:rwD ws=rqsD (ws.map Rw.q):=congrArg (D.sl 3) e1;have f2:rwD bs'=rqsD (bs'.map Rw.q):=congrArg (D.sl 3) e2;simp only[RL.D,Ly.D,Lay.ly,List.length_map];rw[f1,f2]
 ·rw[List.length_map,List.length_map];have:=h10.2.2;rw[←Int.natCast_emod]at this;omega
theorem zl_dense {k fr out kh kw st pad:Int}{ws bs':List Rw}{i:Nat}(hk:k=1)(h:RLb ⟨k,fr,out,kh,kw,st,pad,ws,bs'⟩)(hi:i≤64):∃b,(b=true→IsL ⟨k,fr,out,kh,kw,st,pad,ws,bs'⟩ i)∧LV Tryz.prog 90 [.agg (RL.A ⟨k,fr,out,kh,kw,st,pad,ws,bs'⟩),vl (.int .i64 (i:Nat))] (vl (.bool b)):=by
 refine zl_of ?_;have hws:ws.length≤80:=h.ws;have cw:=lx_zcanonical h.sw (by have:=h.ws;omega);have cb:=lx_zcanonical h.sb (by have:=h.bs;omega);simp only at cw cb;subst hk
 ·refine LX_run (m:=0) (n0:=0) mix Tryz.func90 rfl rfl rfl rfl ?_;conv=>whnf
  repeat' first
   |exact zl_false
   |(refine bT (by assumption) ?_;conv=>whnf)
   |(refine bF (by assumption) ?_;conv=>whnf)
   |(refine Cn.c lx_within ?_;conv=>whnf)
   |(refine Cn.c cw ?_;conv=>whnf)
   |(refine Cn.c cb ?_;conv=>whnf)
   |(refine Cn.c (lx_zmultI (z:=((rwR ws).length:Int)) (m:=out) (of_decide_eq_true (show decide (1≤out∧out≤16384)=true by assumption)).1 (by have:=of_decide_eq_true (show decide (1≤out∧out≤16384)=true by assumption);omega) (by omega) (by rw[List.length_map];omega)) ?_;conv=>whnf)
   |(refine bs (fun _=> ?_) (fun _=> ?_)<;>conv=>whnf)
  all_goals exact zl_true (isl_dense (by assumption) (by assumption) (by assumption) (by assumption) (by assumption) (by assumption) (by assumption) (by assumption) (by assumption) (by assumption))
theorem cv_m {out kh kw:Int}(h:1≤out∧out≤16384)(h1:1≤kh∧kh≤64)(h2:1≤kw∧kw≤64):IntKind.i64.wrap (IntKind.i64.wrap (out*kh)*kw)=out*kh*kw∧1≤out*kh*kw∧out*kh*kw≤1000000000:=by
 obtain⟨a,rfl⟩:∃n:Nat,out=n:=⟨out.toNat,by omega⟩;obtain⟨b,rfl⟩:∃n:Nat,kh=n:=⟨kh.toNat,by omega⟩;obtain⟨c,rfl⟩:∃n:Nat,kw=n:=⟨kw.toNat,by omega⟩;have m1:a*b≤16384*64:=Nat.mul_le_mul (by omega) (by omega);have m2:a*b*c≤16384*64*64:=Nat.mul_le_mul m1 (by omega);have m3:1≤a*b*c:=Nat.mul_pos (Nat.mul_pos (by omega) (by omega)) (by omega);rw[←Int.natCast_mul,wrN (by omega),←Int.natCast_mul,wrN (by omega)];exact⟨rfl,by omega,by omega⟩
theorem isl_conv {fr out kh kw st pad:Int}{ws bs':List Rw}{i:Nat}(a1:decide (1≤kh∧kh≤64)=true)(a2:decide (1≤kw∧kw≤64)=true)(a3:decide (1≤st∧st≤64)=true)(h4:decide (pad≥0)=true)(h5:decide (pad<kh)=true)(h6:decide (pad<kw)=true)(h7:(fr==0)=true)(h8:decide (1≤out∧out≤16384)=true)(h9:(((rwR bs').length:Int)==out)=true)
  (h10:decide (1≤((rwR ws).length:Int)∧((rwR ws).length:Int)≤16384∧((rwR ws).length:Int) % IntKind.i64.wrap (IntKind.i64.wrap (out*kh)*kw)=0)=true) (o1:ws.all Rw.ok=true) (o2:bs'.all Rw.ok=true):IsL ⟨2,fr,out,kh,kw,st,pad,ws,bs'⟩ i:=by
 have a1:=of_decide_eq_true a1;have a2:=of_decide_eq_true a2;have a3:=of_decide_eq_true a3;have h4:=of_decide_eq_true h4;have h5:=of_decide_eq_true h5;have h6:=of_decide_eq_true h6;have h8:=of_decide_eq_true h8;have h10:=of_decide_eq_true h10;rw[(cv_m h8 a1 a2).1]at h10;simp only[beq_iff_eq,List.length_map]at h7 h9 h10;obtain⟨kh,rfl⟩:∃n:Nat,kh=n:=⟨kh.toNat,by omega⟩;obtain⟨kw,rfl⟩:∃n:Nat,kw=n:=⟨kw.toNat,by omega⟩;obtain⟨st,rfl⟩:∃n:Nat,st=n:=⟨st.toNat,by omega⟩;obtain⟨pad,rfl⟩:∃n:Nat,pad=n:=⟨pad.toNat,by omega⟩;subst h7 h9;have e1:=rw_can o1;have e2:=rw_can o2;refine⟨.conv kh kw st pad (ws.map Rw.q) (bs'.map Rw.q),?_,⟨⟨by rw[List.length_map];omega,by rw[List.length_map];omega⟩,⟨by rw[List.length_map];omega,by rw[List.length_map];omega⟩,?_,by omega,by omega,by omega,by omega,by omega⟩,o1,o2⟩
 ·have f1:rwD ws=rqsD (ws.map Rw.q):=congrArg (D.sl 3) e1;have f2:rwD bs'=rqsD (bs'.map Rw.q):=congrArg (D.sl 3) e2;simp only[RL.D,Ly.D,Lay.ly,List.length_map];rw[f1,f2]
 ·rw[List.length_map,List.length_map];have:=h10.2.2;rw[←Int.natCast_mul,←Int.natCast_mul,←Int.natCast_emod]at this;omega
theorem zl_conv {k fr out kh kw st pad:Int}{ws bs':List Rw}{i:Nat}(hk:k=2)(h:RLb ⟨k,fr,out,kh,kw,st,pad,ws,bs'⟩)(hi:i≤64):∃b,(b=true→IsL ⟨k,fr,out,kh,kw,st,pad,ws,bs'⟩ i)∧LV Tryz.prog 90 [.agg (RL.A ⟨k,fr,out,kh,kw,st,pad,ws,bs'⟩),vl (.int .i64 (i:Nat))] (vl (.bool b)):=by
 refine zl_of ?_;have hws:ws.length≤80:=h.ws;have cw:=lx_zcanonical h.sw (by have:=h.ws;omega);have cb:=lx_zcanonical h.sb (by have:=h.bs;omega);simp only at cw cb
 have mm:decide (1≤out∧out≤16384)=true→decide (1≤kh∧kh≤64)=true→decide (1≤kw∧kw≤64)=true→LV Tryz.prog 147 [vl (.int .i64 ((rwR ws).length:Int)),vl (.int .i64 (IntKind.i64.wrap (IntKind.i64.wrap (out*kh)*kw)))] (vl (.bool (decide (1≤((rwR ws).length:Int)∧((rwR ws).length:Int)≤16384∧((rwR ws).length:Int) % IntKind.i64.wrap (IntKind.i64.wrap (out*kh)*kw)=0)))):=fun a b c=>by
  obtain⟨m1,m2,m3⟩:=cv_m (of_decide_eq_true a) (of_decide_eq_true b) (of_decide_eq_true c);rw[m1];exact lx_zmultI m2 m3 (by omega) (by rw[List.length_map];omega)
 subst hk
 ·refine LX_run (m:=0) (n0:=0) mix Tryz.func90 rfl rfl rfl rfl ?_;conv=>whnf
  repeat' first
   |exact zl_false
   |(refine bT (by assumption) ?_;conv=>whnf)
   |(refine bF (by assumption) ?_;conv=>whnf)
   |(refine Cn.c lx_within ?_;conv=>whnf)
   |(refine Cn.c cw ?_;conv=>whnf)
   |(refine Cn.c cb ?_;conv=>whnf)
   |(refine Cn.c (mm (by assumption) (by assumption) (by assumption)) ?_;conv=>whnf)
   |(refine bs (fun _=> ?_) (fun _=> ?_)<;>conv=>whnf)
  all_goals exact zl_true (isl_conv (by assumption) (by assumption) (by assumption) (by assumption) (by assumption) (by assumption) (by assumption) (by assumption) (by assumption) (by assumption) (by assumption) (by assumption))
theorem lx_zlayer {x:RL}{i:Nat}(h:RLb x)(hi:i≤64):∃b,(b=true→IsL x i)∧LV Tryz.prog 90 [.agg x.A,vl (.int .i64 (i:Nat))] (vl (.bool b)):=by
 obtain⟨k,fr,out,kh,kw,st,pad,ws,b⟩:=x
 by_cases h1:k=1
 ·exact zl_dense h1 h hi
 by_cases h2:k=2
 ·exact zl_conv h2 h hi
 by_cases h3:k=3
 ·exact zl_pool (.inl h3) h hi
 by_cases h4:k=4
 ·exact zl_pool (.inr h4) h hi
 by_cases h5:k=5
 ·exact zl_relu (.inl h5) h hi
 by_cases h6:k=6
 ·exact zl_relu (.inr h6) h hi
 by_cases h7:k=7
 ·exact zl_add h7 h hi
 exact zl_none (by simp[*]) h hi
abbrev rlR (l:List RL):List (List D):=l.map RL.D
abbrev rmA (inp:List Int)(ls:List RL):List A:=[.d (inD inp),.d (.sl 9 (rlR ls))]
def IsM (ls:List RL):Prop:=∀(i:Nat) x,ls[i]? =some x→IsL x i
theorem lx_zmvalid {inp:List Int}{ls:List RL}(hi:inp.length≤1000)(hl:ls.length≤64)(h:∀x∈ls,RLb x):∃b,(b=true→ShI inp∧IsM ls)∧LV Tryz.prog 51 [.agg (rmA inp ls)] (vl (.bool b)):=by
 suffices hh:LX Tryz.prog 51 [.agg (rmA inp ls)] [] fun v H=>∃b,(b=true→ShI inp∧IsM ls)∧v=vl (.bool b)∧H=[] by
  obtain⟨v,H',⟨b,hb,rfl,rfl⟩,hc⟩:=hh;exact⟨b,hb,_,_,⟨rfl,rfl⟩,hc⟩
 obtain⟨b0,hb0,c0⟩:=lx_zvalidS (xs:=inp) hi;refine LX_run (m:=0) (n0:=0) mix Tryz.func51 rfl rfl rfl rfl ?_;conv=>whnf
 refine .c (c0) ?_;conv=>whnf
 have zf:∀{H:List (Nat×Ent)},Rt 0 H (vl (.bool false)) (fun v H=>∃b,(b=true→ShI inp∧IsM ls)∧v=vl (.bool b)∧H=[]):=fun {H}=>⟨_,_,⟨false,(fun h=>by cases h),rfl,rfl⟩,vR_ _,rfl,trivial,rfl⟩;refine bs (fun g0=> ?_) (fun g0=> ?_)
 ·have hs:ShI inp:=hb0.1 g0;conv=>whnf
  refine bF (decide_eq_false (by rw[List.length_map];omega)) ?_;conv=>whnf
  refine .mk Nat (fun i=>⟨[(3,vl (.int .i64 (i:Nat))),(1,.a (.ptr 0 0))],[(0,.box 25 (rmA inp ls))],1⟩) (fun i=>i≤ls.length∧∀(j:Nat) x,j<i→ls[j]? =some x→IsL x j) (fun i=>ls.length-i) 0 Wk.go ⟨zL_ _,fun j x hj=>by omega⟩ fun i ⟨hi',hj⟩=> ?_;conv=>whnf
  refine bs (fun g1=> ?_) (fun g1=> ?_)
  ·conv=>whnf
   have hlt:i<ls.length:=by simpa using g1
   obtain⟨x,hx⟩:=at_some hlt;obtain⟨b,hb,cl⟩:=lx_zlayer (i:=i) (h x (mG_ hx)) (by omega);refine .mk (i) (x.D) (rfl) (at_map hx) ?_;conv=>whnf
   conv=>whnf
   refine .c (cl) ?_;conv=>whnf
   refine bs (fun g2=> ?_) (fun g2=> ?_)
   ·conv=>whnf
    exact⟨i+1,Wk.go,⟨hlt,fun j y hj' hy=>by
     rcases Nat.lt_or_ge j i with h1|h1
     ·exact hj j y h1 hy
     ·rw[show j=i by omega]at hy ⊢;rw[hx]at hy;injection hy with hy;subst hy;exact hb g2⟩,by omega⟩
   ·conv=>whnf
    exact zf
  ·conv=>whnf
   have e:i=ls.length:=by have:¬i<ls.length:=by simpa using g1
                          omega
   exact⟨_,_,⟨true,(fun _=>⟨hs,fun j x hx=>hj j x (by have:=at_lt hx;omega) hx⟩),rfl,rfl⟩,vR_ _,rfl,trivial,rfl⟩
 ·conv=>whnf
  exact zf
def RL.rel:RL:=⟨5,0,0,0,0,0,0,[],[]⟩
theorem rel_b:RLb RL.rel:=⟨by decide,by decide,by decide,by decide,by decide,by decide,by decide,fun x hx=>(by cases hx),fun x hx=>(by cases hx)⟩
abbrev rlr (n:Nat):List RL:=List.replicate n RL.rel
theorem rlr_snoc (n:Nat):rlR (rlr (n+1))=rlR (rlr n)++[RL.rel.D]:=by rw[rlr,List.replicate_succ',rlR,List.map_append];rfl
theorem rlr_lay (n:Nat)(x:RL):rlR (rlr n++[x])=rlR (rlr n)++[x.D]:=by rw[rlR,List.map_append];rfl
theorem lx_zlv13 {x:RL}{n:Nat}(h:RLb x)(hn:n≤60):∃b,LV Tryz.prog 91 [.agg x.A,vl (.int .i64 (n:Nat))] (vl (.bool b)):=by
 obtain⟨b,_,cl⟩:=lx_zmvalid (inp:=[1]) (ls:=rlr n++[x]) (by decide) (by simp;omega) fun y hy=>by
  rcases List.mem_append.1 hy with hy|hy
  ·rw[List.eq_of_mem_replicate hy];exact rel_b
  ·rw[List.mem_singleton.1 hy];exact h
 refine⟨b,?_⟩;refine LX_run (m:=0) (n0:=0) mix Tryz.func91 rfl rfl rfl rfl ?_;conv=>whnf
 refine .mk Nat (fun i=>⟨[(6,vl (.int .i64 (i:Nat))),(5,.a (.ptr 2 0)),(2,.a (.ptr 0 0)),(1,vl (.int .i64 (n:Nat)))],
  [(0,.box 59 x.A),(1,.arr 3 1 1),(2,.box 25 [.own 1 1 (inR [1]),.own 3 9 (rlR (rlr i))]),(3,.arr 59 9 (rlR (rlr i)).length)],4⟩) (fun i=>i≤n) (fun i=>n-i) 0
  (Wk.trans (Wk.ownB 2 3 1 59 9 rfl rfl rfl) Wk.go) (zL_ _) fun i hi=> ?_
 conv=>whnf
 refine bs (fun g0=> ?_) (fun g0=> ?_)
 ·conv=>whnf
  have hi':i<n:=by simpa using g0
  refine .mk (rlR (rlr (i+1))) rfl (rlr_snoc i) (by simp;omega) ?_;conv=>whnf
  exact⟨i+1,Wk.go,hi',by omega⟩
 ·conv=>whnf
  have e:i=n:=by have:¬i<n:=by simpa using g0
                 omega
  rw[e];refine .mk (rlR (rlr n++[x])) rfl (rlr_lay _ _) (by simp;omega) ?_
  cases b
  all_goals conv=>whnf
  all_goals refine .c (cl) ?_
            conv=>whnf
  all_goals exact .q ⟨rfl,rfl⟩
def ZR (xs:List Int)(v:V):Prop:=∃(ys:List Int) (e:Int),v= .tup [.s (.d (inD ys)),.s (.d (.lit (.int .i64 e)))]∧(e=0→ys=xs∧ShI xs)
theorem zr_err {xs:List Int}{e:Int}(he:e≠0){H:List (Nat×Ent)}:Rt 0 H (.tup [.s (.d (.lit (.slice none 0 0))),.s (.d (.lit (.int .i64 e)))]) (fun v H=>ZR xs v∧H=[]):=
 ⟨_,_,⟨⟨[],e,rfl,fun h=>absurd h he⟩,rfl⟩,WkV.tup ⟨WkA.nil,aR_ _,trivial⟩,rfl,trivial,rfl⟩
theorem lx_zresult {xs:List Int}(hl:xs.length≤1000):∃v,ZR xs v∧LV Tryz.prog 92 [.a (.d (inD xs))] v:=by
 suffices hh:LX Tryz.prog 92 [.a (.d (inD xs))] [] fun v H=>ZR xs v∧H=[] by
  obtain⟨v,H',⟨h1,rfl⟩,hc⟩:=hh;exact⟨v,h1,_,_,⟨rfl,rfl⟩,hc⟩
 obtain⟨b,hb,cl⟩:=lx_zvalidS (xs:=xs) hl;refine LX_run (m:=0) (n0:=0) mix Tryz.func92 rfl rfl rfl rfl ?_;conv=>whnf
 refine .c (cl) ?_;conv=>whnf
 refine bs (fun g0=> ?_) (fun g0=> ?_)
 ·conv=>whnf
  refine .own ?_;conv=>whnf
  refine .mk (inR xs) rfl rfl (by simp;omega) ?_;conv=>whnf
  exact⟨_,_,⟨⟨xs,0,rfl,fun _=>⟨rfl,hb.1 g0⟩⟩,rfl⟩,WkV.tup ⟨WkA.own,aR_ _,trivial⟩,rfl,trivial,rfl⟩
 ·conv=>whnf
  exact zr_err (by decide)
def FitG (l:Lay)(i:Nat)(ss:List (List Nat))(s:List Nat):Prop:=match l with
 | .dense ws bs=>ws.length=bs.length*szS s
 | .conv kh kw st pad ws bs=>WnG (winS s kh kw st pad)∧s.length=3∧ws.length=bs.length*(s.getD 0 0*(kh*kw))
 | .mx kh kw st=>WnG (winS s kh kw st 0)∧s.length=3
 | .av kh kw st=>WnG (winS s kh kw st 0)∧s.length=3
 | .relu=>True
 | .flat=>True
 | .add fr=>ss.getD (fr+1).toNat []=s
def ZO (inp:List Nat)(ss:List (List Nat))(lay:Lay)(v:V):Prop:=∃(ys:List Int) (e:Int),v= .tup [.s (.d (inD ys)),.s (.d (.lit (.int .i64 e)))]∧
 (e=0→ys=nI (outS lay (inS inp ss))∧ShG (outS lay (inS inp ss))∧FitG lay ss.length (inp::ss) (inS inp ss))
theorem zo_err {inp:List Nat}{ss:List (List Nat)}{lay:Lay}{e:Int}(he:e≠0){H:List (Nat×Ent)}:Rt 0 H (.tup [.s (.d (.lit (.slice none 0 0))),.s (.d (.lit (.int .i64 e)))]) (fun v H=>ZO inp ss lay v∧H=[]):=
 ⟨_,_,⟨⟨[],e,rfl,fun h=>absurd h he⟩,rfl⟩,WkV.tup ⟨WkA.nil,aR_ _,trivial⟩,rfl,trivial,rfl⟩
theorem nI_inj {a b:List Nat}(h:nI a=nI b):a=b:=by
 have:∀(a b:List Nat),nI a=nI b→a=b:=by
  intro a
  induction a with
  |nil=>intro b h;cases b with
   |nil=>rfl
   |cons=>cases h
  |cons x a ih=>intro b h;cases b with
   |nil=>cases h
   |cons y b=>
    simp only[nI,List.map_cons,List.cons.injEq]at h;rw[ih b h.2,show x=y by omega]
 exact this a b h
theorem ShI.g {s:List Nat}(h:ShI (nI s)):ShG s:=by
 obtain⟨t,e,ht⟩:=h
 rwa [nI_inj e]
theorem zo_ok {inp:List Nat}{ss:List (List Nat)}{lay:Lay}{xs ys:List Int}{e:Int}(h:e=0→ys=xs∧ShI xs)(hx:xs=nI (outS lay (inS inp ss)))(hf:FitG lay ss.length (inp::ss) (inS inp ss)){H:List (Nat×Ent)}:
  Rt 0 H (.tup [.s (.d (inD ys)),.s (.d (.lit (.int .i64 e)))]) (fun v H=>ZO inp ss lay v∧H=[]):=
 ⟨_,_,⟨⟨ys,e,rfl,fun he=>by obtain⟨h1,h2⟩:=h he;rw[hx]at h1 h2;exact⟨h1,h2.g,hf⟩⟩,rfl⟩,vR_ _,rfl,trivial,rfl⟩
theorem inS_g {inp:List Nat}{ss:List (List Nat)}(hi:ShG inp)(hss:∀s∈ss,ShG s):ShG (inS inp ss):=by
 unfold inS;obtain⟨s,hs⟩:=at_some (l:=inp::ss) (i:=ss.length) (by simp);rw[getD_of hs];rcases List.mem_cons.1 (mG_ hs)with rfl|h
 ·exact hi
 ·exact hss _ h
theorem wn3 {s:List Nat}{W:Wn}(e:s=[W.c,W.h,W.w]):s.length=3∧W=winS s W.kh W.kw W.st W.pad:=by subst e;exact⟨rfl,rfl⟩
theorem lx_zo13 {inp:List Nat}{ss:List (List Nat)}{lay:Lay}{x:RL}(hx:x.D=(Lay.ly lay).D)(hb:RLb x)(hl:ss.length≤60)(hi:ShG inp)(hss:∀s∈ss,ShG s)(hv:LayV ss.length lay):
  ∃v,ZO inp ss lay v∧LV Tryz.prog 52 [.a (.d (shD inp)),.a (.d (ssD ss)),.agg (Lay.ly lay).A] v:=by
 suffices hh:LX Tryz.prog 52 [.a (.d (shD inp)),.a (.d (ssD ss)),.agg (Lay.ly lay).A] [] fun v H=>ZO inp ss lay v∧H=[] by
  obtain⟨v,H',⟨h1,rfl⟩,hc⟩:=hh;exact⟨v,h1,_,_,⟨rfl,rfl⟩,hc⟩
 have ex:x.A=(Lay.ly lay).A:=congrArg (List.map A.d) hx;obtain⟨b,cv⟩:=lx_zlv13 (n:=(ssR ss).length) hb (by rw[List.length_map];exact hl);rw[ex]at cv;have hsg:=inS_g hi hss
 cases b with
 |false=>
  refine LX_run (m:=0) (n0:=0) mix Tryz.func52 rfl rfl rfl rfl ?_;conv=>whnf
  refine .c (lx_zvalidT hi) ?_;conv=>whnf
  refine .c (cv) ?_;conv=>whnf
  exact zo_err (by decide)
 |true=>
 refine LX_run (m:=0) (n0:=0) mix Tryz.func52 rfl rfl rfl rfl ?_;conv=>whnf
 refine .c (lx_zvalidT hi) ?_;conv=>whnf
 refine .c (cv) ?_;conv=>whnf
 refine .mk Nat (fun k=>⟨[(9,vl (.int .i64 (k:Nat))),(8,.a (.d (shD ((inp::ss).getD k [])))),(5,.a (.ptr 0 0)),(1,.a (.d (ssD ss))),(0,.a (.d (shD inp)))],
  [(0,.box 59 (Lay.ly lay).A)],1⟩) (fun k=>k≤ss.length) (fun k=>ss.length-k) 0 Wk.go (zL_ _) fun k hk=> ?_
 conv=>whnf
 refine bs (fun g0=> ?_) (fun g0=> ?_)
 ·conv=>whnf
  have hk':k<ss.length:=by simpa using g0
  obtain⟨s,hs⟩:=at_some hk';refine .mk (k) ([shD s]) (rfl) (at_ss hs) ?_;conv=>whnf
  conv=>whnf
  refine .c (lx_zvalidT (hss s (mG_ hs))) ?_;conv=>whnf
  refine .mk (k) ([shD s]) (rfl) (at_ss hs) ?_;conv=>whnf
  conv=>whnf
  have e1:(inp::ss).getD (k+1) []=s:=by rw[List.getD_cons_succ];exact getD_of hs
  exact⟨k+1,by rw[e1];exact Wk.go,hk',by omega⟩
 conv=>whnf
 have ek:k=ss.length:=by have:¬k<ss.length:=by simpa using g0
                         omega
 have ei:(inp::ss).getD k []=inS inp ss:=by rw[ek];rfl
 rw[ei];clear ei ek g0 hk;have s1:=hsg.sz;refine .c (lx_zsize hsg) ?_;conv=>whnf
 cases lay with
 |dense w' b'=>
  obtain⟨⟨a1,a2⟩,a3,a4⟩:=hv;have m0:b'.length*szS (inS inp ss)≤16384*16384:=Nat.mul_le_mul a2 s1;have m1:IntKind.i64.wrap ((b'.length:Int)*((szS (inS inp ss):Nat):Int))=((b'.length*szS (inS inp ss):Nat):Int):=by rw[←Int.natCast_mul,wrN (by omega)]
  obtain⟨v,⟨ys,e,rfl,hr⟩,cr⟩:=lx_zresult (xs:=[((b'.length:Nat):Int)]) (by simp);conv=>whnf
  rw[show(Lay.ly (.dense w' b')).out=((b'.length:Nat):Int)from rfl,m1];refine bs (fun g1=> ?_) (fun g1=> ?_)
  ·conv=>whnf
   exact zo_err (by decide)
  ·conv=>whnf
   have hl:w'.length=b'.length*szS (inS inp ss):=by have:=g1;simp only[Lay.ly,List.length_map,bne_eq_false_iff_eq]at this;omega
   refine .c (cr) ?_;conv=>whnf
   exact zo_ok (lay:= .dense w' b') hr rfl hl
 |conv kh kw st pad w' b'=>
  obtain⟨⟨a1,a2⟩,a3,a4,a5,a6,a7,a8,a9⟩:=hv;obtain⟨d,hd⟩:=at_some (l:=inS inp ss) (i:=0) (by have:=hsg.l1;omega);have hd0:(inS inp ss).getD 0 0=d:=getD_of hd;have d1:=(hsg.d hd).2;obtain⟨v,⟨L,r,q,e,rfl,hw⟩,cw⟩:=lx_zwindows (s:=inS inp ss) (kh:=((kh:Nat):Int)) (kw:=((kw:Nat):Int)) (st:=((st:Nat):Int)) (pad:=((pad:Nat):Int)) hsg;obtain⟨v,⟨ys,e',rfl,hr⟩,cr⟩:=lx_zresult (xs:=[((b'.length:Nat):Int),r,q]) (by simp);have p1:b'.length*d≤16384*16384:=Nat.mul_le_mul a2 d1;have p2:b'.length*d*kh≤16384*16384*64:=Nat.mul_le_mul p1 a5.2;have p3:b'.length*d*kh*kw≤16384*16384*64*64:=Nat.mul_le_mul p2 a6.2;have m1:IntKind.i64.wrap ((b'.length:Int)*(d:Int))=((b'.length*d:Nat):Int):=by rw[←Int.natCast_mul,wrN (by omega)]
  have m2:IntKind.i64.wrap (((b'.length*d:Nat):Int)*(kh:Int))=((b'.length*d*kh:Nat):Int):=by rw[←Int.natCast_mul,wrN (by omega)]
  have m3:IntKind.i64.wrap (((b'.length*d*kh:Nat):Int)*(kw:Int))=((b'.length*d*kh*kw:Nat):Int):=by rw[←Int.natCast_mul,wrN (by omega)]
  conv=>whnf
  refine .c (cw) ?_;conv=>whnf
  refine bs (fun g1=> ?_) (fun g1=> ?_)
  ·conv=>whnf
   refine .mk (by kernel_rfl) ?_;conv=>whnf
   exact zo_err (by decide)
  ·have he:e=0:=by simpa using g1
   obtain⟨W,w1,w2,w3,w4,w5,w6,w7,w8⟩:=hw he;obtain⟨w9,wW⟩:=wn3 w1;have eW:winS (inS inp ss) kh kw st pad=W:=by
    rw[show kh=W.kh by omega,show kw=W.kw by omega,show st=W.st by omega,show pad=W.pad by omega];exact wW.symm
   conv=>whnf
   refine .mk (0) ([D.lit (.int .i64 (d:Nat))]) (rfl) (at_nI hd) ?_;conv=>whnf
   conv=>whnf
   rw[show(Lay.ly (.conv kh kw st pad w' b')).out=((b'.length:Nat):Int)from rfl,show(Lay.ly (.conv kh kw st pad w' b')).kh=((kh:Nat):Int)from rfl,show(Lay.ly (.conv kh kw st pad w' b')).kw=((kw:Nat):Int)from rfl,m1,m2,m3];refine bs (fun g2=> ?_) (fun g2=> ?_)
   ·conv=>whnf
    refine .mk (by kernel_rfl) ?_;conv=>whnf
    exact zo_err (by decide)
   ·have hl:w'.length=b'.length*d*kh*kw:=by have:=g2;simp only[Lay.ly,List.length_map,bne_eq_false_iff_eq]at this;omega
    conv=>whnf
    refine .mk (by kernel_rfl) ?_;conv=>whnf
    refine .c (cr) ?_;conv=>whnf
    exact zo_ok (lay:= .conv kh kw st pad w' b') hr (by rw[w7,w8,outS,eW];rfl) ⟨by rw[eW];exact w6,w9,by rw[hl,hd0,Nat.mul_assoc (b'.length*d),Nat.mul_assoc b'.length]⟩
 |mx kh kw st=>
  obtain⟨a5,a6,a7⟩:=hv;obtain⟨d,hd⟩:=at_some (l:=inS inp ss) (i:=0) (by have:=hsg.l1;omega);have hd0:(inS inp ss).getD 0 0=d:=getD_of hd;obtain⟨v,⟨L,r,q,e,rfl,hw⟩,cw⟩:=lx_zwindows (s:=inS inp ss) (kh:=((kh:Nat):Int)) (kw:=((kw:Nat):Int)) (st:=((st:Nat):Int)) (pad:=0) hsg;obtain⟨v,⟨ys,e',rfl,hr⟩,cr⟩:=lx_zresult (xs:=[((d:Nat):Int),r,q]) (by simp);conv=>whnf
  refine .c (cw) ?_;conv=>whnf
  refine bs (fun g1=> ?_) (fun g1=> ?_)
  ·conv=>whnf
   refine .mk (by kernel_rfl) ?_;conv=>whnf
   exact zo_err (by decide)
  ·have he:e=0:=by simpa using g1
   obtain⟨W,w1,w2,w3,w4,w5,w6,w7,w8⟩:=hw he;obtain⟨w9,wW⟩:=wn3 w1;have eW:winS (inS inp ss) kh kw st 0=W:=by
    rw[show kh=W.kh by omega,show kw=W.kw by omega,show st=W.st by omega,show 0=W.pad by omega];exact wW.symm
   conv=>whnf
   refine .mk (by kernel_rfl) ?_;conv=>whnf
   refine .mk (0) ([D.lit (.int .i64 (d:Nat))]) (rfl) (at_nI hd) ?_;conv=>whnf
   conv=>whnf
   refine .c (cr) ?_;conv=>whnf
   exact zo_ok (lay:= .mx kh kw st) hr (by rw[w7,w8,outS,eW,hd0];rfl) ⟨by rw[eW];exact w6,w9⟩
 |av kh kw st=>
  obtain⟨a5,a6,a7⟩:=hv;obtain⟨d,hd⟩:=at_some (l:=inS inp ss) (i:=0) (by have:=hsg.l1;omega);have hd0:(inS inp ss).getD 0 0=d:=getD_of hd;obtain⟨v,⟨L,r,q,e,rfl,hw⟩,cw⟩:=lx_zwindows (s:=inS inp ss) (kh:=((kh:Nat):Int)) (kw:=((kw:Nat):Int)) (st:=((st:Nat):Int)) (pad:=0) hsg;obtain⟨v,⟨ys,e',rfl,hr⟩,cr⟩:=lx_zresult (xs:=[((d:Nat):Int),r,q]) (by simp);conv=>whnf
  refine .c (cw) ?_;conv=>whnf
  refine bs (fun g1=> ?_) (fun g1=> ?_)
  ·conv=>whnf
   refine .mk (by kernel_rfl) ?_;conv=>whnf
   exact zo_err (by decide)
  ·have he:e=0:=by simpa using g1
   obtain⟨W,w1,w2,w3,w4,w5,w6,w7,w8⟩:=hw he;obtain⟨w9,wW⟩:=wn3 w1;have eW:winS (inS inp ss) kh kw st 0=W:=by
    rw[show kh=W.kh by omega,show kw=W.kw by omega,show st=W.st by omega,show 0=W.pad by omega];exact wW.symm
   conv=>whnf
   refine .mk (by kernel_rfl) ?_;conv=>whnf
   refine .mk (0) ([D.lit (.int .i64 (d:Nat))]) (rfl) (at_nI hd) ?_;conv=>whnf
   conv=>whnf
   refine .c (cr) ?_;conv=>whnf
   exact zo_ok (lay:= .av kh kw st) hr (by rw[w7,w8,outS,eW,hd0];rfl) ⟨by rw[eW];exact w6,w9⟩
 |relu=>
  obtain⟨v,⟨ys,e,rfl,hr⟩,cr⟩:=lx_zresult (xs:=nI (inS inp ss)) (by have:=hsg.l4;simp;omega);conv=>whnf
  refine .c (cr) ?_;conv=>whnf
  exact zo_ok (lay:= .relu) hr rfl trivial
 |flat=>
  obtain⟨v,⟨ys,e,rfl,hr⟩,cr⟩:=lx_zresult (xs:=[((szS (inS inp ss):Nat):Int)]) (by simp);conv=>whnf
  refine .c (cr) ?_;conv=>whnf
  exact zo_ok (lay:= .flat) hr rfl trivial
 |add fr=>
  obtain⟨a1,a2⟩:=hv;obtain⟨fs,hfs⟩:=at_some (l:=inp::ss) (i:=(fr+1).toNat) (by simp;omega);have hf0:(inp::ss).getD (fr+1).toNat []=fs:=getD_of hfs;have hfg:ShG fs:=by
   rcases List.mem_cons.1 (mG_ hfs)with rfl|h
   ·exact hi
   ·exact hss _ h
  obtain⟨b2,hb2,c2⟩:=lx_ints (xs:=nI fs) (ys:=nI (inS inp ss)) (by have:=hfg.l4;simp;omega) (by have:=hsg.l4;simp;omega);obtain⟨v,⟨ys,e,rfl,hr⟩,cr⟩:=lx_zresult (xs:=nI (inS inp ss)) (by have:=hsg.l4;simp;omega)
  have fin:b2=true→FitG (.add fr) ss.length (inp::ss) (inS inp ss):=fun h=>by
   show(inp::ss).getD (fr+1).toNat []=inS inp ss;rw[hf0];exact nI_inj (hb2.1 h)
  conv=>whnf
  refine bs (fun g1=> ?_) (fun g1=> ?_)
  ·have g1':fr≥0:=of_decide_eq_true g1;obtain⟨j,hj⟩:∃j:Nat,fr=j:=⟨fr.toNat,Int.eq_natCast_toNat.2 g1'⟩;have hfs':ss[j]? =some fs:=by
    rw[show(fr+1).toNat=j+1 by omega]at hfs;simpa using hfs
   conv=>whnf
   refine .mk (j) ([shD fs]) (hj) (at_ss hfs') ?_;conv=>whnf
   conv=>whnf
   cases b2
   ·refine .c (c2) ?_;conv=>whnf
    exact zo_err (by decide)
   ·refine .c (c2) ?_;conv=>whnf
    refine .c (cr) ?_;conv=>whnf
    exact zo_ok (lay:= .add fr) hr rfl (fin rfl)
  ·have g1':¬fr≥0:=of_decide_eq_false g1;have e0:fs=inp:=by
    rw[show(fr+1).toNat=0 by omega]at hfs;simpa using hfs.symm
   rw[e0]at c2;conv=>whnf
   cases b2
   ·refine .c (c2) ?_;conv=>whnf
    exact zo_err (by decide)
   ·refine .c (c2) ?_;conv=>whnf
    refine .c (cr) ?_;conv=>whnf
    exact zo_ok (lay:= .add fr) hr rfl (fin rfl)
theorem choose_list {α β:Type}:∀{ls:List α} {R:Nat→α→β→Prop},(∀i x,ls[i]? =some x→∃y,R i x y)→∃l:List β,l.length=ls.length∧∀i x,ls[i]? =some x→∃y,l[i]? =some y∧R i x y
 |[],_,_=>⟨[],rfl,fun i x h=>by simp at h⟩
 |x::ls,R,h=>by
  obtain⟨y,hy⟩:=h 0 x rfl;obtain⟨l,h1,h2⟩:=choose_list (ls:=ls) (R:=fun i=>R (i+1)) fun i z hz=>h (i+1) z (by simpa using hz);refine⟨y::l,by simp[h1],fun i z hz=> ?_⟩
  cases i with
  |zero=>simp at hz;subst hz;exact⟨y,rfl,hy⟩
  |succ i=>simpa using h2 i z (by simpa using hz)
def One (q:Rat):Prop:=q.num.natAbs≤4294967296∧q.den≤4294967296
theorem one_of {x:Rw}{q:Rat}(h:(can q).D=x.D)(h1:x.n.length≤1)(h2:x.d.length≤1):One q:=by
 simp only[Rw.D,List.cons.injEq,D.lm.injEq,and_true]at h;obtain⟨_,e1,e2⟩:=h;have k1:=lt_pow_sz q.num.natAbs;have k2:=lt_pow_sz (dn q);have l1:sz q.num.natAbs≤1:=by unfold sz;rw[e1];exact h1
 have l2:sz (dn q)≤1:=by unfold sz;rw[e2];exact h2
 have m1:=Nat.lt_of_lt_of_le k1 (Nat.pow_le_pow_right (by decide) l1);have m2:=Nat.lt_of_lt_of_le k2 (Nat.pow_le_pow_right (by decide) l2);refine⟨by omega,?_⟩;unfold dn at m2;split at m2<;>omega
theorem ones_of {xs:List Rw}{qs:List Rat}(h:xs.map Rw.D=rqR qs)(hs:Sml xs):xs.length=qs.length∧∀q∈qs,One q:=by
 have hl:xs.length=qs.length:=by have:=congrArg List.length h;simpa [rqR]using this
 refine⟨hl,fun q hq=> ?_⟩;obtain⟨i,hi⟩:=List.getElem?_of_mem hq;obtain⟨x,hx⟩:=at_some (l:=xs) (i:=i) (by rw[hl];exact at_lt hi);have e:=congrArg (fun l=>l[i]?) h;simp only[rqR,List.getElem?_map,hx,hi,Option.map_some,Option.some.injEq]at e;exact one_of e.symm (hs x (mG_ hx)).1 (hs x (mG_ hx)).2
structure LyB (l:Lay):Prop where
 ws:(Lay.ly l).ws.length≤80
 bs:(Lay.ly l).bs.length≤24
 kh:(Lay.ly l).kh≤6
 kw:(Lay.ly l).kw≤6
 st:(Lay.ly l).st≤6
 one:∀q∈parS l,One q
theorem lyb_of {x:RL}{lay:Lay}(hx:x.D=(Lay.ly lay).D)(h:RLb x):LyB lay:=by
 simp only[RL.D,Ly.D,List.cons.injEq,D.lit.injEq,Value.int.injEq,D.sl.injEq,true_and,and_true]at hx;obtain⟨e1,e2,e3,e4,e5,e6,e7,e8,e9⟩:=hx;obtain⟨k1,k2⟩:=ones_of (xs:=x.ws) (qs:=(Lay.ly lay).ws) e8 h.sw;obtain⟨k3,k4⟩:=ones_of (xs:=x.bs) (qs:=(Lay.ly lay).bs) e9 h.sb;refine⟨by rw[←k1];exact h.ws,by rw[←k3];exact h.bs,by rw[←e4];exact h.kh,by rw[←e5];exact h.kw,by rw[←e6];exact h.st,fun q hq=> ?_⟩
 cases lay<;>simp only[parS,List.not_mem_nil]at hq
 ·exact(List.mem_append.1 hq).elim (k2 q) (k4 q)
 ·exact(List.mem_append.1 hq).elim (k2 q) (k4 q)
structure MoG (m:Mo)(n:Nat):Prop where
 sh:∀i,i≤n→ShG (m.sh i)
 fit:∀i,i<n→FitG (m.lay i) i (m.shs (i+1)) (m.sh i)
def IsMo (inp:List Int)(ls:List RL)(m:Mo):Prop:=rmA inp ls=m.A∧m.ls.length=ls.length∧ShG m.inp∧∀i x,ls[i]? =some x→∃l,m.ls[i]? =some l∧x.D=(Lay.ly l).D∧LayV i l∧LyB l
theorem isMo_of {inp:List Int}{ls:List RL}(hi:ShI inp)(hm:IsM ls)(hb:∀x∈ls,RLb x):∃m,IsMo inp ls m:=by
 obtain⟨s,rfl,hs⟩:=hi
 obtain⟨l,h1,h2⟩:=choose_list (R:=fun i (x:RL) (lay:Lay)=>x.D=(Lay.ly lay).D∧LayV i lay∧LyB lay) fun i x hx=>by
  obtain⟨lay,a,b,c,d⟩:=hm i x hx;exact⟨lay,a,b,lyb_of a (hb x (mG_ hx))⟩
 refine⟨⟨s,l⟩,?_,h1,hs,h2⟩;have e:rlR ls=lyR l:=by
  refine List.ext_getElem? fun i=> ?_;rw[List.getElem?_map,List.getElem?_map]
  cases hx:ls[i]? with
  |none=>
   rw[List.getElem?_eq_none_iff]at hx;rw[List.getElem?_eq_none (by omega)];rfl
  |some x=>
   obtain⟨y,hy,e,_⟩:=h2 i x hx;rw[hy];simp only[Option.map_some,e]
 show [A.d (shD s),A.d (.sl 9 (rlR ls))]=_;rw[e]
def ZS (inp:List Int)(ls:List RL)(v:V):Prop:=∃(L:List (List Nat)) (z e:Int),v= .tup [.s (.d (ssD L)),.s (.d (.lit (.int .i64 z))),.s (.d (.lit (.int .i64 e)))]∧
 (e=0→∃m,IsMo inp ls m∧MoG m ls.length∧L=m.shT ls.length)
theorem zs_err {inp:List Int}{ls:List RL}{z e:Int}(he:e≠0){H:List (Nat×Ent)}:Rt 0 H (.tup [.s (.d (.lit (.slice none 0 0))),.s (.d (.lit (.int .i64 z))),.s (.d (.lit (.int .i64 e)))]) (fun v H=>ZS inp ls v∧H=[]):=
 ⟨_,_,⟨⟨[],z,e,rfl,fun h=>absurd h he⟩,rfl⟩,WkV.tup ⟨WkA.nil,aR_ _,aR_ _,trivial⟩,rfl,trivial,rfl⟩
theorem lx_zofmod {inp:List Int}{ls:List RL}(hi:inp.length≤1000)(hl:ls.length≤60)(hb:∀x∈ls,RLb x):∃v,ZS inp ls v∧LV Tryz.prog 21 [.agg (rmA inp ls)] v:=by
 suffices hh:LX Tryz.prog 21 [.agg (rmA inp ls)] [] fun v H=>ZS inp ls v∧H=[] by
  obtain⟨v,H',⟨h1,rfl⟩,hc⟩:=hh;exact⟨v,h1,_,_,⟨rfl,rfl⟩,hc⟩
 obtain⟨b,hbv,cv⟩:=lx_zmvalid hi (by omega) hb
 cases b with
 |false=>
  refine LX_run (m:=0) (n0:=0) mix Tryz.func21 rfl rfl rfl rfl ?_;conv=>whnf
  refine .c (cv) ?_;conv=>whnf
  exact zs_err (by decide)
 |true=>
 obtain⟨hi',hm⟩:=hbv rfl;obtain⟨m,hmo⟩:=isMo_of hi' hm hb;obtain⟨eA,eL,hs,hlay⟩:=hmo;rw[eA]at cv;rw[eA];refine LX_run (m:=0) (n0:=0) mix Tryz.func21 rfl rfl rfl rfl ?_;conv=>whnf
 refine .c (cv) ?_;conv=>whnf
 refine .mk Nat (fun i=>⟨[(6,vl (.int .i64 (i:Nat))),(5,.a (.own 1 1 (ssR (m.shT i)))),(1,.a (.ptr 0 0))],
  [(0,.box 25 m.A),(1,.arr 22 1 (ssR (m.shT i)).length)],2⟩) (fun i=>i≤ls.length∧MoG m i) (fun i=>ls.length-i) 0
  (Wk.trans (Wk.own 5 1 22 1 rfl rfl (zL_ _)) Wk.go) ⟨zL_ _,fun i hi=>by rw[show i=0 by omega];exact hs,fun i hi=>by omega⟩ fun i ⟨hi,hg⟩=> ?_
 conv=>whnf
 refine bs (fun g0=> ?_) (fun g0=> ?_)
 ·conv=>whnf
  have hi':i<ls.length:=by have:=of_decide_eq_true g0;rw[List.length_map]at this;omega
  obtain⟨x,hx⟩:=at_some hi';obtain⟨l,hml,hxd,hv,hB⟩:=hlay i x hx;have el:m.lay i=l:=getD_of hml;have hin:=shT_in m i;have hln:(m.shT i).length=i:=by simp
  have es:m.sh (i+1)=outS l (m.sh i):=by rw[←el];rfl
  have hss:∀s∈m.shT i,ShG s:=fun s hs'=>by
   obtain⟨j,hj,rfl⟩:=List.mem_map.1 hs';have:=List.mem_range.1 hj;exact hg.sh (j+1) (by omega)
  obtain⟨v,⟨ys,e,rfl,hr⟩,co⟩:=lx_zo13 (inp:=m.inp) (ss:=m.shT i) hxd (hb x (mG_ hx)) (by omega) hs hss (by rw[hln];exact hv);rw[hin,hln,shT_cons,←es]at hr;refine .mk (i) ((Lay.ly l).D) (rfl) (at_ly hml) ?_;conv=>whnf
  conv=>whnf
  refine .c (co) ?_;conv=>whnf
  refine .mk (by kernel_rfl) ?_;conv=>whnf
  refine bs (fun g1=> ?_) (fun g1=> ?_)
  ·conv=>whnf
   exact zs_err (by decide)
  ·have he:e=0:=by simpa using g1
   obtain⟨ey,hsg,hfg⟩:=hr he;rw[ey];conv=>whnf
   refine .mk (ssR (m.shT (i+1))) rfl (shT_snoc m i) (by simp;omega) ?_;conv=>whnf
   exact⟨i+1,Wk.go,⟨hi',fun j hj=>by
    rcases Nat.lt_or_ge i j with h1|h1
    ·rw[show j=i+1 by omega];exact hsg
    ·exact hg.sh j h1,fun j hj=>by
    rcases Nat.lt_or_ge j i with h1|h1
    ·exact hg.fit j h1
    ·rw[show j=i by omega,el];exact hfg⟩,by omega⟩
 ·conv=>whnf
  have e:i=ls.length:=by have:=of_decide_eq_false g0;rw[List.length_map]at this;omega
  rw[e]at hg;rw[e];exact⟨_,_,⟨⟨m.shT ls.length,0,0,rfl,fun _=>⟨m,⟨eA,eL,hs,hlay⟩,hg,rfl⟩⟩,rfl⟩,WkV.tup ⟨WkA.own,aR_ _,aR_ _,trivial⟩,rfl,trivial,rfl⟩
theorem kk36 {l:Lay}{kh kw st:Nat}(e:l= .mx kh kw st)(hv:∃i,LayV i l)(h:LyB l):1≤kh*kw∧kh*kw≤36:=by
 subst e;obtain⟨i,h1,h2,h3⟩:=hv;have h4:=h.kh;have h5:=h.kw;simp only[Lay.ly]at h4 h5;exact⟨Nat.mul_pos h1.1 h2.1,khw (by omega) (by omega)⟩
theorem unS_le {l:Lay}{s:List Nat}{i:Nat}(hs:szS s≤16384)(ho:szS (outS l s)≤16384)(hv:LayV i l)(h:LyB l):unS l s≤36*16384:=by
 cases l with
 |mx kh kw st=>exact Nat.mul_le_mul (tL_ (Nat.sub_le _ _) (kk36 rfl ⟨i,hv⟩ h).2) ho
 |relu=>simp only[unS];omega
 |_=>simp only[unS];omega
theorem lx_zcount {inp:List Int}{ls:List RL}{m:Mo}{z:Int}(hm:IsMo inp ls m)(hg:MoG m ls.length)(hl:ls.length≤60)
  (co:LV Tryz.prog 21 [.agg (rmA inp ls)] (.tup [.s (.d (ssD (m.shT ls.length))),.s (.d (.lit (.int .i64 z))),.s (.d (.lit (.int .i64 0)))])):
  LV Tryz.prog 23 [.agg (rmA inp ls)] (.tup [.s (.d (.lit (.int .i64 (m.un ls.length:Nat)))),.s (.d (.lit (.int .i64 0)))]):=by
 obtain⟨eA,eL,hs,hlay⟩:=hm;rw[eA]at co ⊢;refine LX_run (m:=0) (n0:=0) mix Tryz.func23 rfl rfl rfl rfl ?_;conv=>whnf
 refine .c (co) ?_;conv=>whnf
 refine .mk Nat (fun i=>⟨[(8,vl (.int .i64 (i:Nat))),(7,vl (.int .i64 (m.un i:Nat))),(4,.a (.d (ssD (m.shT ls.length)))),(1,.a (.ptr 0 0))],[(0,.box 25 m.A)],1⟩) (fun i=>i≤ls.length∧m.un i≤i*(36*16384)) (fun i=>ls.length-i) 0 Wk.go ⟨zL_ _,lR_ _⟩ fun i ⟨hi,hu⟩=> ?_;conv=>whnf
 refine bs (fun g0=> ?_) (fun g0=> ?_)
 ·conv=>whnf
  have hi':i<ls.length:=by have:=of_decide_eq_true g0;rw[List.length_map]at this;omega
  obtain⟨x,hx⟩:=at_some hi';obtain⟨l,hml,hxd,hv,hB⟩:=hlay i x hx;have el:m.lay i=l:=getD_of hml;have hz:=lx_zsize (hg.sh (i+1) hi');have hat:=at_shT m hi';have e1:m.un (i+1)=m.un i+unS l (m.sh i):=by rw[Mo.un,el]
  have e2:m.sh (i+1)=outS l (m.sh i):=by rw[Mo.sh,el]
  have u1:=unS_le (hg.sh i (by omega)).sz (by rw[←e2];exact(hg.sh (i+1) hi').sz) hv hB;have u2:m.un (i+1)≤(i+1)*(36*16384):=by rw[e1,Nat.add_mul];omega
  have u3:=(hg.sh (i+1) hi').sz;refine .mk (i) ((Lay.ly l).D) (rfl) (at_ly hml) ?_;conv=>whnf
  conv=>whnf
  cases l with
  |relu=>
   conv=>whnf
   refine .mk (i) ([shD (m.sh (i+1))]) (rfl) (hat) ?_;conv=>whnf
   conv=>whnf
   refine .c (hz) ?_;conv=>whnf
   have e3:m.un (i+1)=m.un i+szS (m.sh (i+1)):=by rw[e1,e2];rfl
   have ew:IntKind.i64.wrap ((m.un i:Int)+(szS (m.sh (i+1)):Int))=(m.un (i+1):Int):=by
    rw[e3,←Int.natCast_add,wrN (by omega)]
   rw[ew];exact⟨i+1,Wk.go,⟨hi',u2⟩,by omega⟩
  |mx kh kw st=>
   have hkk:=kk36 rfl ⟨i,hv⟩ hB;have e3:m.un (i+1)=m.un i+(kh*kw-1)*szS (m.sh (i+1)):=by rw[e1,e2];rfl
   have ew:IntKind.i64.wrap ((m.un i:Int)+IntKind.i64.wrap ((szS (m.sh (i+1)):Int)*IntKind.i64.wrap (IntKind.i64.wrap ((kh:Int)*(kw:Int))-1)))=(m.un (i+1):Int):=by
    have a1:IntKind.i64.wrap ((kh:Int)*(kw:Int))=((kh*kw:Nat):Int):=by rw[←Int.natCast_mul,wrN (by omega)]
    have a2:IntKind.i64.wrap (((kh*kw:Nat):Int)-1)=((kh*kw-1:Nat):Int):=by rw[wr64 (by omega) (by omega)];omega
    have a3:IntKind.i64.wrap ((szS (m.sh (i+1)):Int)*((kh*kw-1:Nat):Int))=(((kh*kw-1)*szS (m.sh (i+1)):Nat):Int):=by rw[←Int.natCast_mul,Nat.mul_comm,wrN (by omega)]
    rw[a1,a2,a3,e3,←Int.natCast_add,wrN (by omega)]
   conv=>whnf
   refine .mk (i) ([shD (m.sh (i+1))]) (rfl) (hat) ?_;conv=>whnf
   conv=>whnf
   refine .c (hz) ?_;conv=>whnf
   refine .mk (by kernel_rfl) ?_;conv=>whnf
   rw[show(Lay.ly (.mx kh kw st)).kh=kh from rfl,show(Lay.ly (.mx kh kw st)).kw=kw from rfl,ew];exact⟨i+1,Wk.go,⟨hi',u2⟩,by omega⟩
  |_=>
   have e3:m.un (i+1)=m.un i:=e1;conv=>whnf
   exact⟨i+1,by rw[e3];exact Wk.go,⟨hi',u2⟩,by omega⟩
 ·conv=>whnf
  have e:i=ls.length:=by have:=of_decide_eq_false g0;rw[List.length_map]at this;omega
  rw[e];exact .q ⟨rfl,rfl⟩
theorem fit_of {lay:Lay}{i:Nat}{ss:List (List Nat)}{s:List Nat}(hf:FitG lay i ss s)(hv:LayV i lay)(hB:LyB lay)(hs:ShG s)(h24:szS s≤24):Fit lay i ss s:=by
 have c1:=hB.kh;have c2:=hB.kw;have c3:=hB.st
 have wok:∀kh kw st pad:Nat,WnG (winS s kh kw st pad)→s.length=3→kh≤6→kw≤6→st≤6→(winS s kh kw st pad).Ok:=fun kh kw st pad hw h3 k1 k2 k3=>by
  match s,h3 with
  |[a,b,c],_=>
   have p1:=hs.pos a (by simp);have p2:=hs.pos b (by simp);have p3:=hs.pos c (by simp);have sz:a*b*c≤24:=by rw[szS3]at h24;exact h24
   exact⟨p1,p2,p3,⟨hw.kh.1,k1⟩,⟨hw.kw.1,k2⟩,⟨hw.st.1,k3⟩,hw.ph,hw.pw,hw.fh,hw.fw,sz⟩
 cases lay with
 |dense w b=>exact⟨hv.1.1,hf⟩
 |conv kh kw st pad w b=>simp only[Lay.ly]at c1 c2 c3;exact⟨wok _ _ _ _ hf.1 hf.2.1 (by omega) (by omega) (by omega),hf.2.1,hv.1.1,hf.2.2⟩
 |mx kh kw st=>simp only[Lay.ly]at c1 c2 c3;exact⟨wok _ _ _ _ hf.1 hf.2 (by omega) (by omega) (by omega),hf.2⟩
 |av kh kw st=>simp only[Lay.ly]at c1 c2 c3;exact⟨wok _ _ _ _ hf.1 hf.2 (by omega) (by omega) (by omega),hf.2⟩
 |relu=>trivial
 |flat=>trivial
 |add fr=>exact⟨hv.1,hv.2,hf⟩
theorem par_len {l:Lay}(h:LyB l):(parS l).length≤104:=by
 have h1:=h.ws;have h2:=h.bs
 cases l<;>simp only[parS,Lay.ly,List.length_append,List.length_nil]at * <;>omega
theorem mo_ok {inp:List Int}{ls:List RL}{m:Mo}(hm:IsMo inp ls m)(hg:MoG m ls.length)(h6:ls.length≤6)(h0:szS m.inp≤24)(hsz:∀i,i<ls.length→szS (m.sh (i+1))≤24)(hu:m.un ls.length≤20):MoOk m:=by
 obtain⟨eA,eL,hs,hlay⟩:=hm
 have h24:∀i,i≤ls.length→szS (m.sh i)≤24:=fun i hi=>by
  cases i with
  |zero=>exact h0
  |succ i=>exact hsz i hi
 have hly:∀i,i<m.ls.length→LayV i (m.lay i)∧LyB (m.lay i):=fun i hi=>by
  obtain⟨x,hx⟩:=at_some (l:=ls) (i:=i) (by omega);obtain⟨l,h1,_,h2,h3⟩:=hlay i x hx;rw[show m.lay i=l from getD_of h1];exact⟨h2,h3⟩
 have hmem:∀l∈m.ls,LyB l:=fun l hl=>by
  obtain⟨i,hi⟩:=List.getElem?_of_mem hl;have:=(hly i (at_lt hi)).2
  rwa [show m.lay i=l from getD_of hi]at this
 refine⟨by omega,fun i hi=> ?_,fun i hi=> ?_,fun l hl q hq=>(hmem l hl).one q hq,fun l hl=>par_len (hmem l hl),by rw[eL];exact hu⟩
 ·have:=hg.sh i (by omega);exact⟨this.l1,this.l4,this.pos,h24 i (by omega)⟩
 ·exact fit_of (hg.fit i (by omega)) (hly i hi).1 (hly i hi).2 (hg.sh i (by omega)) (h24 i (by omega))
theorem lx_limbs {l:List Rw}(hl:l.length≤1000):∃b,(b=true→Sml l)∧LV Tryz.prog 20 [.a (.d (rwD l))] (vl (.bool b)):=by
 suffices hh:LX Tryz.prog 20 [.a (.d (rwD l))] [] fun v H=>∃b,(b=true→Sml l)∧v=vl (.bool b)∧H=[] by
  obtain⟨v,H',⟨b,hb,rfl,rfl⟩,hc⟩:=hh;exact⟨b,hb,_,_,⟨rfl,rfl⟩,hc⟩
 have zf:∀{H:List (Nat×Ent)},Rt 0 H (vl (.bool false)) (fun v H=>∃b,(b=true→Sml l)∧v=vl (.bool b)∧H=[]):=fun {H}=>⟨_,_,⟨false,(fun h=>by cases h),rfl,rfl⟩,vR_ _,rfl,trivial,rfl⟩;refine LX_run (m:=0) (n0:=0) mix Tryz.func20 rfl rfl rfl rfl ?_;conv=>whnf
 refine .mk Nat (fun i=>⟨[(3,vl (.int .i64 (i:Nat))),(0,.a (.d (rwD l)))],[],0⟩) (fun i=>i≤l.length∧Sml (l.take i)) (fun i=>l.length-i) 0 Wk.go ⟨zL_ _,fun x hx=>by simp at hx⟩ fun i ⟨hi,hs⟩=> ?_;conv=>whnf
 refine bs (fun g0=> ?_) (fun g0=> ?_)
 ·conv=>whnf
  have hi':i<l.length:=by simpa using g0
  obtain⟨x,hx⟩:=at_some hi';refine .mk (i) (x.D) (rfl) (at_map hx) ?_;conv=>whnf
  conv=>whnf
  refine bs (fun g1=> ?_) (fun g1=> ?_)
  ·conv=>whnf
   exact zf
  ·conv=>whnf
   refine .mk (i) (x.D) (rfl) (at_map hx) ?_;conv=>whnf
   conv=>whnf
   refine bs (fun g2=> ?_) (fun g2=> ?_)
   ·conv=>whnf
    exact zf
   ·conv=>whnf
    have g1':=of_decide_eq_false g1;have g2':=of_decide_eq_false g2
    exact⟨i+1,Wk.go,⟨hi',fun y hy=>by
     rw[take_snoc hx]at hy;rcases List.mem_append.1 hy with hy|hy
     ·exact hs y hy
     ·rw[List.mem_singleton.1 hy];exact⟨by omega,by omega⟩⟩,by omega⟩
 ·conv=>whnf
  have ei:i=l.length:=by have:¬i<l.length:=by simpa using g0
                         omega
  rw[ei,List.take_length]at hs;exact⟨_,_,⟨true,(fun _=>hs),rfl,rfl⟩,vR_ _,rfl,trivial,rfl⟩
def MdR (inp:List Int)(ls:List RL)(v:V)(H:List (Nat×Ent)):Prop:=∃b,(b=true→∃m:Mo,rmA inp ls=m.A∧MoOk m)∧v=vl (.bool b)∧H=[]
theorem md_false {inp:List Int}{ls:List RL}{H:List (Nat×Ent)}:Rt 0 H (vl (.bool false)) (MdR inp ls):=⟨_,_,⟨false,(fun h=>by cases h),rfl,rfl⟩,vR_ _,rfl,trivial,rfl⟩
theorem lx_modest {inp:List Int}{ls:List RL}(hi:inp.length≤1099511627776)(hl:ls.length≤1099511627776)(hw:∀x∈ls,x.ws.length≤1099511627776∧x.bs.length≤1099511627776):
  ∃b,(b=true→∃m:Mo,rmA inp ls=m.A∧MoOk m)∧LV Tryz.prog 6 [.agg (rmA inp ls)] (vl (.bool b)):=by
 suffices hh:LX Tryz.prog 6 [.agg (rmA inp ls)] [] (MdR inp ls) by
  obtain⟨v,H',⟨b,hb,rfl,rfl⟩,hc⟩:=hh;exact⟨b,hb,_,_,⟨rfl,rfl⟩,hc⟩
 refine LX_run (m:=0) (n0:=0) mix Tryz.func6 rfl rfl rfl rfl ?_;conv=>whnf
 refine bs (fun a1=> ?_) (fun a1=> ?_)
 ·conv=>whnf
  exact md_false
 conv=>whnf
 refine bs (fun a2=> ?_) (fun a2=> ?_)
 ·conv=>whnf
  exact md_false
 conv=>whnf
 have l6:ls.length≤6:=by have:=of_decide_eq_false a1;rw[List.length_map]at this;omega
 have i4:inp.length≤4:=by have:=of_decide_eq_false a2;rw[List.length_map]at this;omega
 clear a1 a2;refine .mk Nat (fun i=>⟨[(3,vl (.int .i64 (i:Nat))),(1,.a (.ptr 0 0))],[(0,.box 25 (rmA inp ls))],1⟩) (fun i=>i≤inp.length) (fun i=>inp.length-i) 0 Wk.go (zL_ _) fun i hi'=> ?_;conv=>whnf
 refine bs (fun g0=> ?_) (fun g0=> ?_)
 ·conv=>whnf
  have hlt:i<inp.length:=by simpa using g0
  obtain⟨d,hd⟩:=at_some hlt;refine .mk (i) ([D.lit (.int .i64 d)]) (rfl) (at_inR hd) ?_;conv=>whnf
  conv=>whnf
  refine bs (fun g1=> ?_) (fun g1=> ?_)
  ·conv=>whnf
   exact md_false
  ·conv=>whnf
   refine .mk (i) ([D.lit (.int .i64 d)]) (rfl) (at_inR hd) ?_;conv=>whnf
   conv=>whnf
   refine bs (fun g2=> ?_) (fun g2=> ?_)
   ·conv=>whnf
    exact md_false
   ·conv=>whnf
    exact⟨i+1,Wk.go,hlt,by omega⟩
 conv=>whnf
 clear g0 hi';refine .mk Nat (fun i=>⟨[(4,vl (.int .i64 (i:Nat))),(1,.a (.ptr 0 0))],[(0,.box 25 (rmA inp ls))],1⟩) (fun i=>i≤ls.length∧∀j x,j<i→ls[j]? =some x→RLb x) (fun i=>ls.length-i) 0 Wk.go ⟨zL_ _,fun j x hj=>by omega⟩ fun i ⟨hi',hb⟩=> ?_;conv=>whnf
 refine bs (fun g0=> ?_) (fun g0=> ?_)
 ·conv=>whnf
  have hlt:i<ls.length:=by simpa using g0
  obtain⟨x,hx⟩:=at_some hlt;refine .mk (i) (x.D) (rfl) (at_map hx) ?_;conv=>whnf
  conv=>whnf
  refine bs (fun t0=> ?_) (fun t0=> ?_)
  ·conv=>whnf
   exact md_false
  conv=>whnf
  refine bs (fun t1=> ?_) (fun t1=> ?_)
  ·conv=>whnf
   exact md_false
  conv=>whnf
  refine bs (fun t2=> ?_) (fun t2=> ?_)
  ·conv=>whnf
   exact md_false
  conv=>whnf
  refine bs (fun t3=> ?_) (fun t3=> ?_)
  ·conv=>whnf
   exact md_false
  conv=>whnf
  refine bs (fun t4=> ?_) (fun t4=> ?_)
  ·conv=>whnf
   exact md_false
  conv=>whnf
  refine bs (fun t5=> ?_) (fun t5=> ?_)
  ·conv=>whnf
   exact md_false
  conv=>whnf
  refine bs (fun t6=> ?_) (fun t6=> ?_)
  ·conv=>whnf
   exact md_false
  conv=>whnf
  have hrb:x.ws.length≤80∧x.bs.length≤24∧x.out≤24∧x.kh≤6∧x.kw≤6∧x.st≤6∧x.pad≤6:=by
   have:=of_decide_eq_false t0;have:=of_decide_eq_false t1;have:=of_decide_eq_false t2;have:=of_decide_eq_false t3;have:=of_decide_eq_false t4;have:=of_decide_eq_false t5;have:=of_decide_eq_false t6;rw[List.length_map]at *
   omega
  clear t0 t1 t2 t3 t4 t5 t6;obtain⟨q1,q2,q3,q4,q5,q6,q7⟩:=hrb;obtain⟨b1,hb1,c1⟩:=lx_limbs (l:=x.ws) (by omega);obtain⟨b2,hb2,c2⟩:=lx_limbs (l:=x.bs) (by omega)
  cases b1
  ·refine .c (c1) ?_;conv=>whnf
   exact md_false
  ·refine .c (c1) ?_;conv=>whnf
   cases b2
   ·refine .c (c2) ?_;conv=>whnf
    exact md_false
   ·refine .c (c2) ?_;conv=>whnf
    exact⟨i+1,Wk.go,⟨hlt,fun j y hj hy=>by
     rcases Nat.lt_or_ge j i with h1|h1
     ·exact hb j y h1 hy
     ·rw[show j=i by omega,hx]at hy;injection hy with hy;subst hy;exact⟨q1,q2,q3,q4,q5,q6,q7,hb1 rfl,hb2 rfl⟩⟩,by omega⟩
 conv=>whnf
 have ei:i=ls.length:=by have:¬i<ls.length:=by simpa using g0
                         omega
 have hall:∀x∈ls,RLb x:=fun x hx=>by
  obtain⟨j,hj⟩:=List.getElem?_of_mem hx;exact hb j x (by rw[ei];exact at_lt hj) hj
 clear g0 hi' hb ei;obtain⟨v,⟨L,z,e,rfl,hz⟩,co⟩:=lx_zofmod (inp:=inp) (ls:=ls) (by omega) (by omega) hall;refine .c (co) ?_;conv=>whnf
 refine bs (fun g1=> ?_) (fun g1=> ?_)
 ·conv=>whnf
  exact md_false
 have he:e=0:=by simpa using g1
 subst he;obtain⟨m,hm,hg,rfl⟩:=hz rfl;have hm':=hm;obtain⟨eA,eL,hs,hlay⟩:=hm;have eI:inD inp=shD m.inp:=by
  have:=congrArg List.head? eA;simpa using this
 have cs:=lx_zsize hs;rw[←eI]at cs;have cc:=lx_zcount hm' hg (by omega) co;conv=>whnf
 refine .c (cs) ?_;conv=>whnf
 refine bs (fun g2=> ?_) (fun g2=> ?_)
 ·conv=>whnf
  exact md_false
 conv=>whnf
 have h0:szS m.inp≤24:=by have:=of_decide_eq_false g2;omega
 refine .mk Nat (fun k=>⟨[(9,vl (.int .i64 (k:Nat))),(6,.a (.d (ssD (m.shT ls.length)))),(1,.a (.ptr 0 0))],[(0,.box 25 (rmA inp ls))],1⟩) (fun k=>k≤ls.length∧∀j,j<k→szS (m.sh (j+1))≤24) (fun k=>ls.length-k) 0 Wk.go ⟨zL_ _,fun j hj=>by omega⟩ fun k ⟨hk,hsz⟩=> ?_;conv=>whnf
 refine bs (fun g3=> ?_) (fun g3=> ?_)
 ·conv=>whnf
  have hlt:k<ls.length:=by have:=of_decide_eq_true g3;rw[List.length_map,List.length_map,List.length_range]at this;omega
  refine .mk (k) ([shD (m.sh (k+1))]) (rfl) (at_shT m hlt) ?_;conv=>whnf
  conv=>whnf
  refine .c (lx_zsize (hg.sh (k+1) hlt)) ?_;conv=>whnf
  refine bs (fun g4=> ?_) (fun g4=> ?_)
  ·conv=>whnf
   exact md_false
  ·conv=>whnf
   exact⟨k+1,Wk.go,⟨hlt,fun j hj=>by
    rcases Nat.lt_or_ge j k with h1|h1
    ·exact hsz j h1
    ·rw[show j=k by omega];have:=of_decide_eq_false g4;omega⟩,by omega⟩
 conv=>whnf
 have ek:k=ls.length:=by have:=of_decide_eq_false g3;rw[List.length_map,List.length_map,List.length_range]at this;omega
 rw[ek]at hsz;refine .c (cc) ?_;conv=>whnf
 refine bs (fun g5=> ?_) (fun g5=> ?_)
 ·conv=>whnf
  exact⟨_,_,⟨true,(fun _=>⟨m,eA,mo_ok hm' hg l6 h0 hsz (by have:=of_decide_eq_true g5;omega)⟩),rfl,rfl⟩,vR_ _,rfl,trivial,rfl⟩
 ·conv=>whnf
  exact md_false
open Go.Shelf
def Z:Go.Shelf.Ren:=⟨fun|99=>227|105=>203|129=>230|156=>205|165=>228|166=>122|169=>125|170=>121|171=>123|206=>236|212=>226|240=>176|241=>237|243=>177|246=>200|263=>234|264=>235|276=>199|277=>240|283=>221|284=>222|285=>223|286=>224|317=>229|318=>231|319=>232|320=>233|337=>238|338=>239|n=>n,fun|0=>0|2=>2|3=>3|4=>4|5=>5|9=>9|20=>20|31=>225|37=>26|46=>196|51=>188|53=>137|70=>168|72=>170|75=>173|76=>174|80=>179|109=>244|127=>214|146=>252|148=>254|164=>222|171=>239|173=>242|212=>249|213=>250|232=>257|233=>258|n=>n,fun|17=>0|18=>1|19=>2|n=>n⟩
def Z2:Go.Shelf.Ren:=⟨fun|17=>204|n=>n,fun|0=>0|3=>3|4=>4|9=>9|24=>225|n=>n,fun|n=>n⟩
theorem L105:Go.Proofs.Lays.n105 Tryz.prog Z:={
 mixed:=by kernel_rfl
 f99:=Tryz.func227.trans (congrArg some (by kernel_rfl))
 f105:=Tryz.func203.trans (congrArg some (by kernel_rfl))
 f165:=Tryz.func228.trans (congrArg some (by kernel_rfl))
 f166:=Tryz.func122.trans (congrArg some (by kernel_rfl))
 f169:=Tryz.func125.trans (congrArg some (by kernel_rfl))
 f170:=Tryz.func121.trans (congrArg some (by kernel_rfl))
 f206:=Tryz.func236.trans (congrArg some (by kernel_rfl))
 f212:=Tryz.func226.trans (congrArg some (by kernel_rfl))
 f240:=Tryz.func176.trans (congrArg some (by kernel_rfl))
 f241:=Tryz.func237.trans (congrArg some (by kernel_rfl))
 f263:=Tryz.func234.trans (congrArg some (by kernel_rfl))
 f264:=Tryz.func235.trans (congrArg some (by kernel_rfl))
 f276:=Tryz.func199.trans (congrArg some (by kernel_rfl))
 f277:=Tryz.func240.trans (congrArg some (by kernel_rfl))
 t0:=Tryz.underlying0
 a0:=Tryz.isAgg0
 z0:=Tryz.sizeOf0
 v0:=Tryz.zeroValue0
 t3:=Tryz.underlying3
 a3:=Tryz.isAgg3
 z3:=Tryz.sizeOf3
 v3:=Tryz.zeroValue3
 t4:=Tryz.underlying4
 a4:=Tryz.isAgg4
 z4:=Tryz.sizeOf4
 v4:=Tryz.zeroValue4
 t5:=Tryz.underlying5
 a5:=Tryz.isAgg5
 z5:=Tryz.sizeOf5
 v5:=Tryz.zeroValue5
 t9:=Tryz.underlying9
 a9:=Tryz.isAgg9
 z9:=Tryz.sizeOf9
 v9:=Tryz.zeroValue9
 t20:=Tryz.underlying20
 a20:=Tryz.isAgg20
 z20:=Tryz.sizeOf20
 v20:=Tryz.zeroValue20
 t37:=Tryz.underlying26
 a37:=Tryz.isAgg26
 z37:=Tryz.sizeOf26
 v37:=Tryz.zeroValue26
 t46:=Tryz.underlying196
 a46:=Tryz.isAgg196
 z46:=Tryz.sizeOf196
 v46:=Tryz.zeroValue196
 t51:=Tryz.underlying188
 a51:=Tryz.isAgg188
 z51:=Tryz.sizeOf188
 v51:=Tryz.zeroValue188
 t53:=Tryz.underlying137
 a53:=Tryz.isAgg137
 z53:=Tryz.sizeOf137
 v53:=Tryz.zeroValue137
 t70:=Tryz.underlying168
 a70:=Tryz.isAgg168
 z70:=Tryz.sizeOf168
 v70:=Tryz.zeroValue168
 t72:=Tryz.underlying170
 a72:=Tryz.isAgg170
 z72:=Tryz.sizeOf170
 v72:=Tryz.zeroValue170
 t75:=Tryz.underlying173
 a75:=Tryz.isAgg173
 z75:=Tryz.sizeOf173
 v75:=Tryz.zeroValue173
 t76:=Tryz.underlying174
 a76:=Tryz.isAgg174
 z76:=Tryz.sizeOf174
 v76:=Tryz.zeroValue174
 t109:=Tryz.underlying244
 a109:=Tryz.isAgg244
 z109:=Tryz.sizeOf244
 v109:=Tryz.zeroValue244
 t127:=Tryz.underlying214
 a127:=Tryz.isAgg214
 z127:=Tryz.sizeOf214
 v127:=Tryz.zeroValue214
 t146:=Tryz.underlying252
 a146:=Tryz.isAgg252
 z146:=Tryz.sizeOf252
 v146:=Tryz.zeroValue252
 t148:=Tryz.underlying254
 a148:=Tryz.isAgg254
 z148:=Tryz.sizeOf254
 v148:=Tryz.zeroValue254
 t164:=Tryz.underlying222
 a164:=Tryz.isAgg222
 z164:=Tryz.sizeOf222
 v164:=Tryz.zeroValue222}
theorem L156:Go.Proofs.Lays.n156 Tryz.prog Z:={
 mixed:=by kernel_rfl
 f156:=Tryz.func205.trans (congrArg some (by kernel_rfl))
 f165:=Tryz.func228.trans (congrArg some (by kernel_rfl))
 f166:=Tryz.func122.trans (congrArg some (by kernel_rfl))
 f169:=Tryz.func125.trans (congrArg some (by kernel_rfl))
 f240:=Tryz.func176.trans (congrArg some (by kernel_rfl))
 f241:=Tryz.func237.trans (congrArg some (by kernel_rfl))
 f276:=Tryz.func199.trans (congrArg some (by kernel_rfl))
 f277:=Tryz.func240.trans (congrArg some (by kernel_rfl))
 t0:=Tryz.underlying0
 a0:=Tryz.isAgg0
 z0:=Tryz.sizeOf0
 v0:=Tryz.zeroValue0
 t3:=Tryz.underlying3
 a3:=Tryz.isAgg3
 z3:=Tryz.sizeOf3
 v3:=Tryz.zeroValue3
 t4:=Tryz.underlying4
 a4:=Tryz.isAgg4
 z4:=Tryz.sizeOf4
 v4:=Tryz.zeroValue4
 t9:=Tryz.underlying9
 a9:=Tryz.isAgg9
 z9:=Tryz.sizeOf9
 v9:=Tryz.zeroValue9
 t20:=Tryz.underlying20
 a20:=Tryz.isAgg20
 z20:=Tryz.sizeOf20
 v20:=Tryz.zeroValue20
 t31:=Tryz.underlying225
 a31:=Tryz.isAgg225
 z31:=Tryz.sizeOf225
 v31:=Tryz.zeroValue225
 t37:=Tryz.underlying26
 a37:=Tryz.isAgg26
 z37:=Tryz.sizeOf26
 v37:=Tryz.zeroValue26
 t70:=Tryz.underlying168
 a70:=Tryz.isAgg168
 z70:=Tryz.sizeOf168
 v70:=Tryz.zeroValue168
 t72:=Tryz.underlying170
 a72:=Tryz.isAgg170
 z72:=Tryz.sizeOf170
 v72:=Tryz.zeroValue170
 t75:=Tryz.underlying173
 a75:=Tryz.isAgg173
 z75:=Tryz.sizeOf173
 v75:=Tryz.zeroValue173
 t76:=Tryz.underlying174
 a76:=Tryz.isAgg174
 z76:=Tryz.sizeOf174
 v76:=Tryz.zeroValue174
 t127:=Tryz.underlying214
 a127:=Tryz.isAgg214
 z127:=Tryz.sizeOf214
 v127:=Tryz.zeroValue214
 t164:=Tryz.underlying222
 a164:=Tryz.isAgg222
 z164:=Tryz.sizeOf222
 v164:=Tryz.zeroValue222}
theorem L171:Go.Proofs.Lays.n171 Tryz.prog Z:={
 mixed:=by kernel_rfl
 f129:=Tryz.func230.trans (congrArg some (by kernel_rfl))
 f171:=Tryz.func123.trans (congrArg some (by kernel_rfl))
 f243:=Tryz.func177.trans (congrArg some (by kernel_rfl))
 f246:=Tryz.func200.trans (congrArg some (by kernel_rfl))
 f283:=Tryz.func221.trans (congrArg some (by kernel_rfl))
 f284:=Tryz.func222.trans (congrArg some (by kernel_rfl))
 f285:=Tryz.func223.trans (congrArg some (by kernel_rfl))
 f286:=Tryz.func224.trans (congrArg some (by kernel_rfl))
 f317:=Tryz.func229.trans (congrArg some (by kernel_rfl))
 f318:=Tryz.func231.trans (congrArg some (by kernel_rfl))
 f319:=Tryz.func232.trans (congrArg some (by kernel_rfl))
 f320:=Tryz.func233.trans (congrArg some (by kernel_rfl))
 f337:=Tryz.func238.trans (congrArg some (by kernel_rfl))
 f338:=Tryz.func239.trans (congrArg some (by kernel_rfl))
 t0:=Tryz.underlying0
 a0:=Tryz.isAgg0
 z0:=Tryz.sizeOf0
 v0:=Tryz.zeroValue0
 t2:=Tryz.underlying2
 a2:=Tryz.isAgg2
 z2:=Tryz.sizeOf2
 v2:=Tryz.zeroValue2
 t3:=Tryz.underlying3
 a3:=Tryz.isAgg3
 z3:=Tryz.sizeOf3
 v3:=Tryz.zeroValue3
 t4:=Tryz.underlying4
 a4:=Tryz.isAgg4
 z4:=Tryz.sizeOf4
 v4:=Tryz.zeroValue4
 t5:=Tryz.underlying5
 a5:=Tryz.isAgg5
 z5:=Tryz.sizeOf5
 v5:=Tryz.zeroValue5
 t9:=Tryz.underlying9
 a9:=Tryz.isAgg9
 z9:=Tryz.sizeOf9
 v9:=Tryz.zeroValue9
 t20:=Tryz.underlying20
 a20:=Tryz.isAgg20
 z20:=Tryz.sizeOf20
 v20:=Tryz.zeroValue20
 t37:=Tryz.underlying26
 a37:=Tryz.isAgg26
 z37:=Tryz.sizeOf26
 v37:=Tryz.zeroValue26
 t46:=Tryz.underlying196
 a46:=Tryz.isAgg196
 z46:=Tryz.sizeOf196
 v46:=Tryz.zeroValue196
 t51:=Tryz.underlying188
 a51:=Tryz.isAgg188
 z51:=Tryz.sizeOf188
 v51:=Tryz.zeroValue188
 t53:=Tryz.underlying137
 a53:=Tryz.isAgg137
 z53:=Tryz.sizeOf137
 v53:=Tryz.zeroValue137
 t171:=Tryz.underlying239
 a171:=Tryz.isAgg239
 z171:=Tryz.sizeOf239
 v171:=Tryz.zeroValue239
 t173:=Tryz.underlying242
 a173:=Tryz.isAgg242
 z173:=Tryz.sizeOf242
 v173:=Tryz.zeroValue242
 t212:=Tryz.underlying249
 a212:=Tryz.isAgg249
 z212:=Tryz.sizeOf249
 v212:=Tryz.zeroValue249
 t213:=Tryz.underlying250
 a213:=Tryz.isAgg250
 z213:=Tryz.sizeOf250
 t232:=Tryz.underlying257
 a232:=Tryz.isAgg257
 z232:=Tryz.sizeOf257
 v232:=Tryz.zeroValue257
 t233:=Tryz.underlying258
 a233:=Tryz.isAgg258
 z233:=Tryz.sizeOf258
 v233:=Tryz.zeroValue258
 g17:=by kernel_rfl
 g18:=by kernel_rfl
 g19:=by kernel_rfl}
theorem LRev:Go.Proofs.Lays2.n17 Tryz.prog Z2:={
 mixed:=by kernel_rfl
 f17:=Tryz.func204.trans (congrArg some (by kernel_rfl))
 t0:=Tryz.underlying0
 a0:=Tryz.isAgg0
 z0:=Tryz.sizeOf0
 v0:=Tryz.zeroValue0
 t3:=Tryz.underlying3
 a3:=Tryz.isAgg3
 z3:=Tryz.sizeOf3
 v3:=Tryz.zeroValue3
 t4:=Tryz.underlying4
 a4:=Tryz.isAgg4
 z4:=Tryz.sizeOf4
 v4:=Tryz.zeroValue4
 t9:=Tryz.underlying9
 a9:=Tryz.isAgg9
 z9:=Tryz.sizeOf9
 v9:=Tryz.zeroValue9
 t24:=Tryz.underlying225
 a24:=Tryz.isAgg225
 z24:=Tryz.sizeOf225
 v24:=Tryz.zeroValue225}
theorem L166:Go.Proofs.Lays.n166 Tryz.prog Z:=by
 obtain⟨⟩:=L156;constructor<;>assumption
theorem L170:Go.Proofs.Lays.n170 Tryz.prog Z:=by
 obtain⟨⟩:=L105;constructor<;>assumption
theorem L169:Go.Proofs.Lays.n169 Tryz.prog Z:=by
 obtain⟨⟩:=L156;constructor<;>assumption
theorem L285:Go.Proofs.Lays.n285 Tryz.prog Z:=by
 obtain⟨⟩:=L171;constructor<;>assumption
theorem L283:Go.Proofs.Lays.n283 Tryz.prog Z:=by
 obtain⟨⟩:=L171;constructor<;>assumption
theorem L129:Go.Proofs.Lays.n129 Tryz.prog Z:=by
 obtain⟨⟩:=L171;constructor<;>assumption
theorem L317:Go.Proofs.Lays.n317 Tryz.prog Z:=by
 obtain⟨⟩:=L171;constructor<;>assumption
theorem L318:Go.Proofs.Lays.n318 Tryz.prog Z:=by
 obtain⟨⟩:=L171;constructor<;>assumption
theorem LEx:Go.Proofs.Builder.Extra Tryz.prog Z:={
 sizeBuilder:=by kernel_rfl
 liesBuilder:=by kernel_rfl
 t5:=Tryz.underlying5
 a5:=Tryz.isAgg5
 z5:=Tryz.sizeOf5
 v5:=Tryz.zeroValue5
 infoByte:=by kernel_rfl
 cellsByte:=by kernel_rfl
 sizeByte:=by kernel_rfl
 neB5:=by decide}
open Go.Sort
theorem lv_ofG {P:Program}{F:FuncId}{args:List V}{v:V}(hc:∀(γ:Gh) (M:MS) (w:World) (rs:List Value),Glb M w→All2 (RdV γ (look []) M w) args rs→Calls P F rs.toArray w (Ret w fun w' r=>OV w' v r)):LV P F args v:=by
 refine⟨_,_,⟨rfl,rfl⟩,fun γ M w rs hr ha=>cM (hc γ M w rs hr.glb ha) ?_⟩;rintro e w' ⟨r,rfl,h1,h2⟩;obtain⟨k1,k2⟩:=rel_below hr h2 fun k=>rfl;exact⟨r,γ,M,rfl,k1,OV.rd k1.u32 h1,k2⟩
theorem fx_belowB {M:MS}{w w':World}(h:Below w.heap.size w w'):∀b i v,Fx M w b i v→Fx M w' b i v:=fun b i v k=>
 ⟨k.1,by rw[World.cell?_of_block (w:=w) (a:=⟨b,i,none⟩) (h.block b (World.block_lt_of_cell? _ _ k.2))];exact k.2⟩
theorem sh_len64 (x:Int)(w:World)(h0:0≤x)(h1:x≤18446744073709551615):Calls Tryz.prog 230 #[.int .u64 x] w fun e w'=>e= .returned (.int .i64 (Lib.bitLen x.toNat))∧w'=w:=Any.bits_Len64 L129 x w h0 h1
theorem sh_log10 (x:Nat)(h:x≤64)(w:World):Calls Tryz.prog 229 #[.int .i64 x] w fun e w'=>e= .returned (.int .i64 (Lib.l10 x))∧w'=w:=Any.internal_strconv_log10Pow2 L317 x h w
theorem sh_bool2 (b:Bool)(w:World):Calls Tryz.prog 231 #[.bool b] w fun e w'=>e= .returned (.int .i64 (if b then 1 else 0))∧w'=w:=Any.internal_strconv_bool2_int L318 b w
theorem sh_small (i:Nat)(h:i<100)(w:World):Calls Tryz.prog 221 #[.int .i64 i] w fun e w'=>e= .returned (.string ⟨(Lib.decDigits i).toArray⟩)∧w'=w:=Any.internal_strconv_small L283 i h w
theorem sh_base10 (blk off cap:Nat)(u:Nat)(d:Array UInt8)(w:World)(hH:Holds (fun(b:UInt8)=>Value.int .u8 (b.toNat:Int)) w blk off d)(hu:u<10^d.size)(hu64:u<18446744073709551616)(hsz:d.size<4611686018427387904):
  Calls Tryz.prog 223 #[.slice (some ⟨blk,off,none⟩) d.size cap,.int .u64 u] w fun e w'=>
   e= .returned (.tuple #[])∧∃(n v':Nat) (dk:Array UInt8),w'=(putRow (fun(b:UInt8)=>Value.int .u8 (b.toNat:Int)) w blk off dk).drewN n∧Lib.FmtInv d.size u 0 v' dk:=Any.internal_strconv_formatBase10 L285 blk off cap u d w hH hu hu64 hsz
theorem p10_row {q:Nat}(h:q<20):∃row,GT 0=some row∧row[q]? =some (.lit (.int .u64 ((10^q:Nat):Int))):=by
 refine⟨_,rfl,?_⟩;refine at_map (f:=fun z=>D.lit (.int .u64 z)) ?_;have key:∀q:Fin 20,([1,10,100,1000,10000,100000,1000000,10000000,100000000,1000000000,10000000000,100000000000,1000000000000,10000000000000,100000000000000,1000000000000000,10000000000000000,100000000000000000,1000000000000000000,10000000000000000000]:List Int)[q.val]? =some ((10^q.val:Nat):Int):=by decide
 exact key ⟨q,h⟩
theorem sh_numD {u:Nat}(h1:1≤u)(h2:u<18446744073709551616){M:MS}{w:World}(hG:Glb M w):
  Calls Tryz.prog 222 #[.int .u64 u] w fun e w'=>e= .returned (.int .i64 (Lib.nDigits u))∧w'=w:=by
 obtain⟨hnd,h19⟩:=Lib.numDigits_eq u h1 h2;have hL:Lib.bitLen u≤64:=Lib.bitLen_le u 64 (lR_ _) h2;have hcell:w.cell? ⟨0,Lib.l10 (Lib.bitLen u),none⟩=some (.int .u64 ((10^Lib.l10 (Lib.bitLen u):Nat):Int)):=by
  obtain⟨row,hr,hq⟩:=p10_row (show Lib.l10 (Lib.bitLen u)<20 by omega);obtain⟨v,hv,hd⟩:=hG 0 row hr _ _ hq;rw[lit_inv hd]at hv;exact hv.2
 have hto:((u:Int)).toNat=u:=by omega
 generalize hq:Lib.l10 (Lib.bitLen u)=q at hnd h19 hcell;generalize hT:10^q=T at hnd hcell;have h20:q<20:=by omega
 have Hnd:=lH hnd;clear hnd hG
 go_enter Tryz.func222,Tryz.ntmps222
 go_wp2_with (first
  |(go_at_call 230;refine(sh_len64 _ _ (by omega) (by omega)).mono ?_;rintro e w' ⟨rfl,rfl⟩)
  |(go_at_call 229;refine(sh_log10 _ (by first|exact hL|(rw[hto];exact hL)) _).mono ?_;rintro e w' ⟨rfl,rfl⟩)
  |(go_at_call 231;refine(sh_bool2 _ _).mono ?_;rintro e w' ⟨rfl,rfl⟩))
 all_goals go_ret
 all_goals (
  refine⟨?_,rfl⟩;have hnd:=Hnd.out
  congr 2
  split at hnd<;>simp_all<;>omega)
theorem sh_fuint {u:Nat}(hu64:u<18446744073709551616){M:MS}{w:World}(hG:Glb M w):
  Calls Tryz.prog 225 #[.int .u64 u,.int .i64 10] w fun e w'=>e= .returned (.string ⟨(Lib.decDigits u).toArray⟩)∧Below w.heap.size w w':=by
 by_cases hs:u<100
 ·go_enter Tryz.func225,Tryz.ntmps225
  go_wp2_with (go_at_call 221;refine(sh_small u hs _).mono ?_;rintro e w' ⟨rfl,rfl⟩)
  go_ret
  exact⟨rfl,bR_ _ _⟩
 ·have hu1:1≤u:=by omega
  have hnd20:Lib.nDigits u≤20:=by have:=Lib.numDigits_eq u hu1 hu64;split at this<;>omega
  have hal:Tryz.prog.arrayLen 239=24:=by simp[Program.arrayLen,Tryz.underlying239]
  have hsl1:∀W,(Instr.sliceAt 239 (.pointer (some ⟨w.heap.size,0,none⟩)) none (some (.int .i64 (Lib.nDigits u:Int))) none).run Tryz.prog W= .ok (.slice (some ⟨w.heap.size,0,none⟩) (Lib.nDigits u) 24) W:=fun W=>by
   rw[run_sliceAt_array_h W 239 ⟨w.heap.size,0,none⟩ (by simp[Program.arrayLen,Program.elem,Tryz.underlying239]) .i64 (Lib.nDigits u:Int) (by omega) (by rw[hal];omega)];go_simp
  have hH0:=Lib.holds_zero0 w 239 (Lib.nDigits u) (by omega);have hfmt:=sh_base10 w.heap.size 0 24 u (Array.replicate (Lib.nDigits u) 0) (w.alloc (.cells Lib.zeros24 239)) hH0 (by rw[Array.size_replicate];exact Lib.lt_pow_nDigits u) hu64 (by rw[Array.size_replicate];omega);rw[Array.size_replicate]at hfmt;have HH0:=lH hH0;clear hH0 hal;have hG1:Glb M (w.alloc (.cells Lib.zeros24 239)):=hG.fx (fx_belowB ((bR_ _ w).alloc (lR_ _) _))
  go_enter Tryz.func225,Tryz.ntmps225
  go_wp2_with (go_at_call 222;refine(sh_numD hu1 hu64 hG1).mono ?_;rintro e w' ⟨rfl,rfl⟩)
  go_at_call 223
  refine hfmt.mono ?_;rintro e w' ⟨rfl,k,v',dk,rfl,hF⟩;have hcv:(convert 26 9 (.slice (some ⟨w.heap.size,0,none⟩) (Lib.nDigits u) 24)).run Tryz.prog ((putRow (fun(b:UInt8)=>Value.int .u8 (b.toNat:Int)) (w.alloc (.cells Lib.zeros24 239)) w.heap.size 0 dk).drewN k)= .ok (.string ⟨(Lib.decDigits u).toArray⟩) ((putRow (fun(b:UInt8)=>Value.int .u8 (b.toNat:Int)) (w.alloc (.cells Lib.zeros24 239)) w.heap.size 0 dk).drewN k):=by
   have h:=run_convert_bytes_back (P:=Tryz.prog) ((putRow (fun(b:UInt8)=>Value.int .u8 (b.toNat:Int)) (w.alloc (.cells Lib.zeros24 239)) w.heap.size 0 dk).drewN k) 26 9 5 ⟨w.heap.size,0,none⟩ 24 (Lib.decDigits u) Tryz.underlying26 Tryz.underlying5 Tryz.underlying9 (fun j hj=>by
    rw[Lib.row_is_numeral hF j hj,Lib.add_plain,World.cell?_drewN];exact cell?_putRow (fun(b:UInt8)=>Value.int .u8 (b.toNat:Int)) _ w.heap.size 0 _ dk HH0.out (by rw[hF.size,Array.size_replicate]) j (by rw[hF.size];rw[Lib.decDigits_length]at hj;exact hj))
   rw[Lib.decDigits_length]at h;exact h
  go_wp2
  go_ret
  obtain⟨os,eo⟩:=Lib.fin_at w (.cells Lib.zeros24 239) dk k 0;refine⟨rfl,?_⟩;rw[eo];exact Lib.below_grow _ _ (lR_ _) _ _
open Go.Lib (decDigits)
theorem sh_repeat (s:ByteArray)(c:Nat)(w:World)(hc:c≤9223372036854775807)(hlen:s.size*c≤140737488355328):
  Calls Tryz.prog 203 #[.string s,.int .i64 c] w fun e w'=>e= .returned (.string ⟨(Lib.repeatL s.data.toList c).toArray⟩)∧Below w.heap.size w w':=Any.strings_Repeat L105 LEx s c w hc hlen
theorem sh_join (bk o c:Nat)(xs:List ByteArray)(sep:ByteArray)(w:World)(hcells:∀(j:Nat) x,xs[j]? =some x→w.cell? ⟨bk,o+j,none⟩=some (.string x))(hbk:bk<w.heap.size)(hN:xs.length≤140737488355328)(hcap:xs.length≤c)(hlen:(Lib.join (xs.map (·.data.toList)) sep.data.toList).length≤140737488355328):
  Calls Tryz.prog 205 #[.slice (some ⟨bk,o,none⟩) xs.length c,.string sep] w fun e w'=>e= .returned (.string ⟨(Lib.join (xs.map (·.data.toList)) sep.data.toList).toArray⟩)∧Below w.heap.size w w':=Any.strings_Join L156 LEx bk o c xs sep w hcells hbk hN hcap hlen
theorem sh_reverse (blk off cap:Nat)(zs:List (List UInt8))(w:World)(hH:Holds encStr w blk off zs.toArray)(hsz:zs.length≤9223372036854775807):
  Calls Tryz.prog 204 #[.slice (some ⟨blk,off,none⟩) zs.length cap] w fun e w'=>e= .returned (.tuple #[])∧∃n,w'=putRow encStr (Sort.ahead w n) blk off zs.reverse.toArray:=Any.slices_Reverse_string LRev blk off cap zs w hH hsz
theorem sh_fmt {u:Nat}(hu64:u<18446744073709551616){M:MS}{w:World}(hG:Glb M w):
  Calls Tryz.prog 202 #[.int .u64 u,.int .i64 10] w fun e w'=>e= .returned (.string ⟨(Lib.decDigits u).toArray⟩)∧Below w.heap.size w w':=by
 go_enter Tryz.func202,Tryz.ntmps202
 go_wp2_with (go_at_call 225;refine(sh_fuint hu64 hG).mono ?_;rintro e w' ⟨rfl,hb⟩)
 go_ret
 exact⟨rfl,hb⟩
theorem chk_small {n:Nat}(h:n<1000000000):chk n=if n=0 then []else [decDigits n]:=by rw[chk,dif_pos h]
theorem chk_big {n:Nat}(h:¬n<1000000000):chk n=(List.replicate (9-(decDigits (n % 1000000000)).length) 48++decDigits (n % 1000000000))::chk (n/1000000000):=by rw[chk,dif_neg h]
theorem chk_step {n:Nat}(h:n≠0):chk n=(if n/1000000000=0 then decDigits (n % 1000000000)else List.replicate (9-(decDigits (n % 1000000000)).length) 48++decDigits (n % 1000000000))::chk (n/1000000000):=by
 by_cases hs:n<1000000000
 ·rw[chk_small hs,if_neg h,if_pos (Nat.div_eq_of_lt hs),Nat.mod_eq_of_lt hs,Nat.div_eq_of_lt hs,chk_small (by decide),if_pos rfl]
 ·rw[chk_big hs,if_neg (by omega)]
theorem chk_len {k:Nat}:∀{n:Nat},n<1000000000^k→(chk n).length≤k:=by
 induction k with
 |zero=>intro n h;rw[show n=0 by simpa using h,chk_small (by decide)];simp
 |succ k ih=>
  intro n h
  by_cases h0:n=0
  ·rw[h0,chk_small (by decide)];simp
  ·rw[chk_step h0,List.length_cons];have:=ih (n:=n/1000000000) (Nat.div_lt_of_lt_mul (by rw[Nat.pow_succ,Nat.mul_comm]at h;exact h));omega
theorem chk_flat {n:Nat}:∀l∈chk n,l.length≤9:=by
 induction n using Nat.strongRecOn with
 |_ n ih=>
  intro l hl
  by_cases h0:n=0
  ·rw[h0,chk_small (by decide)]at hl;simp at hl
  ·rw[chk_step h0]at hl;have hd:=dd_len (u:=n % 1000000000) (k:=8) (by omega);rcases List.mem_cons.1 hl with rfl|hl
   ·split
    ·exact hd
    ·rw[List.length_append,List.length_replicate];omega
   ·exact ih _ (Nat.div_lt_self (by omega) (by decide)) l hl
theorem flat_le {l:List (List UInt8)}(h:∀x∈l,x.length≤9):l.flatten.length≤9*l.length:=by
 induction l with
 |nil=>simp
 |cons x l ih=>
  rw[List.flatten_cons,List.length_append,List.length_cons];have:=h x List.mem_cons_self;have:=ih fun y hy=>h y (List.mem_cons_of_mem _ hy);omega
theorem chk_sz {n L:Nat}(h:sz n≤L):(chk n).length≤2*L:=by
 refine chk_len (Nat.lt_of_lt_of_le (lt_pow_sz n) (tL_ (Nat.pow_le_pow_right (by decide) h) ?_));rw[Nat.pow_mul];exact Nat.pow_le_pow_left (by decide) _
theorem join_nil (l:List (List UInt8)):Lib.join l []=l.flatten:=by
 unfold Lib.join
 induction l with
 |nil=>rfl
 |cons x l ih=>
  cases l with
  |nil=>simp[List.intercalate]
  |cons y l=>
   simp only[List.intercalate,List.intersperse]at ih ⊢;simp only[List.flatten_cons,List.nil_append]at ih ⊢;rw[ih]
theorem rep48 (c:Nat):Lib.repeatL [48] c=List.replicate c 48:=by
 induction c with
 |zero=>rfl
 |succ c ih=>rw[Lib.repeatL,ih];rfl
theorem sh_rep0 (c:Nat)(w:World)(hc:c≤9):Calls Tryz.prog 203 #[.string ⟨#[48]⟩,.int .i64 c] w fun e w'=>e= .returned (.string ⟨(List.replicate c (48:UInt8)).toArray⟩)∧Below w.heap.size w w':=by
 have:=sh_repeat ⟨#[48]⟩ c w (by omega) (by show 1*c≤_;omega)
 rwa [show(⟨#[48]⟩:ByteArray).data.toList=[48]from rfl,rep48]at this
theorem ba_app (a b:Array UInt8):((⟨a⟩:ByteArray)++⟨b⟩)=⟨a++b⟩:=by
 refine ByteArray.ext ?_;rw[ByteArray.data_append]
theorem ba_rep (k:Nat)(l:List UInt8):Value.string ((⟨Array.replicate k 48⟩:ByteArray)++⟨l.toArray⟩)=encStr (List.replicate k 48++l):=by
 rw[ba_app];show Value.string _=Value.string _
 congr 2
 simp
def lenV:Value→Nat
 | .slice _ n _=>n
 |_=>0
theorem i_str:(Tryz.prog.info? 9).map (fun i=>(i.zero,i.size,i.bytes))=some (some (.string ⟨#[]⟩),1,16):=by kernel_rfl
theorem u_strs:Tryz.prog.underlying 225=some (.slice 9):=by kernel_rfl
theorem below_ahead {B:Nat}{a w:World}(h:RowKit.Below B a w)(n:Nat):RowKit.Below B a (Sort.ahead w n):=⟨h.os,h.tape,h.output,h.size,h.block⟩
theorem below_putRow {α:Type}[Inhabited α]{enc:α→Value}{B:Nat}{a w:World}(h:RowKit.Below B a w){blk off:Nat}{d:Array α}(hb:B≤blk):RowKit.Below B a (putRow enc w blk off d):=by
 refine⟨h.os,h.tape,h.output,?_,fun k hk=> ?_⟩
 ·show a.heap.size≤(w.heap.modify blk _).size;rw[Array.size_modify];exact h.size
 ·show(w.heap.modify blk _)[k]? =_;rw[Array.getElem?_modify,if_neg (by omega)];exact h.block k hk
theorem row_below {w w':World}{base:Nat}{e:TypeId}{k n:Nat}{v:Value}{xs:List Value}(h:w.ownsRow base e k v n xs)(hb:RowKit.Below w.heap.size w w'):w'.ownsRow base e k v n xs:=by
 obtain⟨h1,⟨hv,hn⟩|⟨g,cap,cur,hv,hbg,hh,r⟩⟩:=h
 ·exact⟨h1,.inl ⟨hv,hn⟩⟩
 ·exact⟨h1,.inr ⟨g,cap,cur,hv,hbg,(hb.block g (lt_of_block hh)).trans hh,r⟩⟩
def NoU (w:World)(v:Value):Prop:=∀g,v.ownBlock=some g→∀j z,w.cell? ⟨g,j,none⟩≠some (.int .u32 z)
theorem NoU.below {w w':World}{v:Value}(h:NoU w v)(hb:RowKit.Below w.heap.size w w')(hl:∀g,v.ownBlock=some g→g<w.heap.size):NoU w' v:=fun g hg j z=>by
 rw[World.cell?_of_block (w:=w) (a:=⟨g,j,none⟩) (hb.block g (hl g hg))];exact h g hg j z
theorem sl_noU {w w':World}{v u:Value}{xs:List Nat}(h:Sl w v xs)(hu:NoU w u)(hg:w.grownBy w' u.ownBlock):Sl w' v xs:=by
 obtain⟨ad,n,cap,rfl,h1,h2,h3,h4,h5⟩:=h;refine⟨ad,n,cap,rfl,h1,h2,h3,h4,fun h0=> ?_⟩;obtain⟨b,off,e,hlt,hc⟩:=h5 h0;refine⟨b,off,e,Nat.lt_of_lt_of_le hlt hg.size,fun i hi=> ?_⟩;rw[World.cell?_of_block (w:=w) (a:=⟨b,off+i,none⟩) (hg.block b hlt fun e'=>hu b e'.symm _ _ (hc i hi))];exact hc i hi
theorem wp_app_str {P:Program}{w:World}{ops:Array Oper}{rest:List Oper}{o:Oper}{a:Act}{Q:Exit→Act→World→Prop}(hgd:o.guard=none)(s x:Operand)(t:TypeId)
  (ho:o.op= .call {callee:= .builtin .append,args:= #[s,x],argTypes:= #[t,t]})
  (base:Nat) (e:TypeId) (i:TypeInfo) (ht:P.underlying t=some (.slice e)) (hi:P.info? e=some i) (hz:i.zero=some (.string ⟨#[]⟩)) (hsize:i.size=1) (hby:i.bytes=16)
  (v:Value) (n:Nat) (xs:List Value) (hs:a.eval s=v) (hown:w.ownsRow base e 1 v n xs) (hno:NoU w v)
  (ab ao:Nat) (c:Nat) (l:ByteArray) (hx:a.eval x= .slice (some ⟨ab,ao,none⟩) 1 c) (hnew:w.cell? ⟨ab,ao,none⟩=some (.string l))
  (hn:n≤1000000000000) (hbase:base≤w.heap.size)
  (h:∀v' w',w'.ownsRow base e 1 v' (n+1) (xs++[.string l])→w.grownBy w' v.ownBlock→NoU w' v'→wpList P ops Q rest (a.put o.dst v') w'):wpList P ops Q (o::rest) a w:=by
 obtain⟨ad,had⟩:∃ad:Addr,ad=⟨ab,ao,none⟩:=⟨_,rfl⟩;rw[←had]at hx hnew
 have hnews:∀j u,[Value.string l][j]? =some u→w.cell? (ad.add j)=some u:=fun j u hj=>by
  rcases j with _|j
  ·simp at hj;subst hj;subst had;exact hnew
  ·simp at hj
 have h1:∀u∈[Value.string l],u.oneCell'=true:=fun u hu=>by rw[List.mem_singleton.1 hu];rfl
 have hmax:n+1≤maxLen:=by unfold maxLen;omega
 obtain⟨v',w',hr,h2,h3,_⟩:=run_append_own (P:=P) w base t o.type e i _ 1 16 ht hi hz hsize hby rfl (by decide) v n xs hown ad 1 c [.string l] rfl hnews h1 hmax (by omega) hbase;refine wpList_plain hgd fun _ hK=> ?_;unfold Oper.wp execOp;simp only[ho,resolve,invoke,builtin,Sem.run_bind,Sem.run_pure,Result.andThen_ok,List.map_toArray,List.map_cons,List.map_nil,hs,hx,hr];refine hK _ _ (h v' w' h2 h3 ?_)
 have hzu:∀(k m:Nat) x,(Builtin.zeroCells (Value.string ⟨#[]⟩).cells k)[m]? =some x→∀q:Int,x≠ .int .u32 q:=fun k m x hx=>zeroCells_u32 (by decide) (fun x hx q e=>by
  rw[show(Value.string ⟨#[]⟩).cells= #[.string ⟨#[]⟩]from rfl]at hx;simp at hx;rw[hx]at e;cases e) m x hx
 have new:∀(cs:Array Value),(∀(m:Nat) x,cs[m]? =some x→∀q:Int,x≠ .int .u32 q)→∀(n c:Nat) (w0:World),w0.heap.size=w.heap.size→NoU (w0.alloc (.cells cs e)) (.slice (some ⟨w.heap.size,0,none⟩) n c):=fun cs hc n c w0 hw g hg j z hcell=>by
  simp only[Value.ownBlock,Option.some.injEq]at hg;subst hg;rw[←hw,World.cell?_alloc_new]at hcell;exact hc _ _ hcell z rfl
 have strs:∀(m:Nat) x,(#[Value.string l]:Array Value)[m]? =some x→∀q:Int,x≠ .int .u32 q:=fun m x hx q e=>by
  rcases m with _|m
  ·simp at hx;rw[←hx]at e;cases e
  ·simp at hx
 rcases hown.2 with⟨rfl,rfl⟩|⟨g,cap,cur,rfl,hbg,hg,hnc,hcm,hcs,htake⟩
 ·have hx0:xs=[]:=List.eq_nil_of_length_eq_zero (by simpa using hown.1);subst hx0;have hr':=run_append_nil (P:=P) w t o.type e i _ ht hi hz ad 1 c [.string l] (by rw[hsize];rfl) hnews (by decide) (by omega) (by omega);have:=hr.symm.trans hr';injection this with e1 e2;subst e1 e2;refine new _ (fun m x hx=> ?_) _ _ _ rfl;rw[Array.getElem?_append]at hx;split at hx
  ·exact strs m x hx
  ·exact hzu _ _ x hx
 ·have hcur:∀(m:Nat) x,cur[m]? =some x→∀q:Int,x≠ .int .u32 q:=fun m x hx q e=>by
   refine hno g rfl m q ?_;simp only[World.cell?,hg];rw[←e];exact hx
  have hxs:∀(m:Nat) x,xs[m]? =some x→∀q:Int,x≠ .int .u32 q:=fun m x hx=>by
   rw[←htake,List.getElem?_take]at hx;split at hx
   ·exact hcur m x (by simpa using hx)
   ·cases hx
  by_cases hroom:n+1≤cap
  ·have hr':=run_append_room (P:=P) w t o.type e i ht hi g n cap cur hg ad 1 c [.string l] (by rw[hsize];rfl) hnews h1 hroom (by rw[hsize,hcs];simp;omega);have:=hr.symm.trans hr';injection this with e1 e2;subst e1 e2;intro g' hg' j z hcell;simp only[Value.ownBlock,Option.some.injEq]at hg';subst hg';simp only[World.cell?,setRow_heap w g cur _ e _ hg,List.getElem?_toArray]at hcell
   have hc':∀x∈cur.toList,∀q:Int,x≠ .int .u32 q:=fun x hx=>by
    obtain⟨m,hm⟩:=List.getElem?_of_mem hx;exact hcur m x (by simpa using hm)
   rcases List.mem_append.1 (mG_ hcell)with h5|h5
   ·rcases List.mem_append.1 h5 with h5|h5
    ·exact hc' _ (List.mem_of_mem_take h5) z rfl
    ·simp at h5
   ·exact hc' _ (List.mem_of_mem_drop h5) z rfl
  ·have holds:∀j u,xs[j]? =some u→w.cell? ((⟨g,0,none⟩:Addr).add j)=some u:=hown.cells (g:=g) rfl;have hr':=run_append_grow (P:=P) w t o.type e i _ ht hi hz ⟨g,0,none⟩ n cap xs (by rw[hsize];exact hown.1) holds ad 1 c [.string l] (by rw[hsize];rfl) hnews (by omega) (by omega) (growslice_fits (by omega) (by rw[hby];omega));have:=hr.symm.trans hr';injection this with e1 e2;subst e1 e2;refine new _ (fun m x hx=> ?_) _ _ _ rfl;rw[Array.getElem?_append]at hx;split at hx
   ·rw[Array.getElem?_append]at hx;split at hx
    ·exact hxs m x (by simpa using hx)
    ·exact strs _ x (by simpa using hx)
   ·exact hzu _ _ x hx
theorem row_lenV {w:World}{base:Nat}{e:TypeId}{k n:Nat}{v:Value}{xs:List Value}(h:w.ownsRow base e k v n xs):lenV v=n:=by
 obtain⟨h1,⟨hv,hn⟩|⟨g,cap,cur,hv,r⟩⟩:=h
 ·rw[hv,hn];rfl
 ·rw[hv];rfl
def DcI (n0 L:Nat)(w wr:World)(nv pv:Value):Prop:=∃(m:Nat) (done:List (List UInt8)),chk n0=done++chk m∧Can m L wr nv∧wr.ownsRow w.heap.size 9 1 pv done.length (done.map encStr)∧NoU wr pv∧RowKit.Below w.heap.size w wr
theorem sh_decimal {n0 L:Nat}{v:Value}{M:MS}{w:World}(hG:Glb M w)(hn:Can n0 L w v)(hL:L≤100000000):
  Calls Tryz.prog 178 #[v] w fun e w'=>e= .returned (.string ⟨(dcS n0).toArray⟩)∧RowKit.Below w.heap.size w w':=by
 obtain⟨ad,len,cap,rfl,hlen,hrest⟩:=hn.1
 by_cases h0:n0=0
 ·have:len=0:=by rw[←hlen,h0,limbs_zero];rfl
  subst this
  go_enter Tryz.func178,Tryz.ntmps178
  go_wp2
  go_ret
  exact⟨by rw[dcS,if_pos h0];rfl,RowKit.Below.refl _ _⟩
 ·have hp:0<len:=by rw[←hlen];exact sz_pos (by omega)
  obtain⟨i0,hi,hz0,hz1,hz2⟩:=info_parts i_str;have hcl:=chk_sz hn.2;have hc1:1≤(chk n0).length:=by rw[chk_step h0];simp
  go_enter Tryz.func178,Tryz.ntmps178
  go_wp2_with (go_at_call 139;refine(of_can (x:=1000000000) (by decide)).mono ?_;rintro e w1 ⟨bv,rfl,hbn,hb1⟩)
  go_loopw [0,4] (fun nv pv wr=>DcI n0 L w1 wr nv pv) (fun nv pv _=>(chk n0).length-lenV pv)
  case atStart=>exact⟨n0,[],rfl,hn.below hb1,World.ownsRow_nil _ _ _ _,(fun g hg=>by cases hg),RowKit.Below.refl _ _⟩
  case round=>
   obtain⟨m,done,hch,hm,hrow,hno,hB1⟩:=hrel;have hB:RowKit.Below w.heap.size w wr:=hb1.trans (hB1.mono hb1.size);have hln:=row_lenV hrow;obtain⟨a2,l2,c2,rfl,hl2,hr2⟩:=hm.1
   by_cases hm0:m=0
   ·subst hm0;obtain rfl:l2=0:=by rw[←hl2,limbs_zero];rfl
    rw[show chk 0=[] by rw[chk_small (by decide),if_pos rfl],List.append_nil]at hch;obtain⟨_,⟨_,hd0⟩|⟨g,cap,cur,rfl,hbg,hg,hnc,hcm,hcs,htk⟩⟩:=hrow
    ·rw[hch]at hc1;omega
    have hgl:=lt_of_block hg
    have hH:Holds encStr wr g 0 done.toArray:=fun j hj=>by
     have hj':j<done.length:=by simpa using hj
     have e1:cur[j]? =some (encStr (done[j]'hj')):=by
      have h5:(cur.toList.take (done.length*1))[j]? =cur[j]?:=by
       rw[List.getElem?_take,if_pos (by rw[Nat.mul_one];exact hj')];simp
      rw[←h5,htk,List.getElem?_map,List.getElem?_eq_getElem hj'];rfl
     refine⟨?_,?_⟩
     ·simp only[World.cell?,hg,Nat.zero_add];rw[e1,getElem!_pos _ j hj];simp
     ·simp[World.frozen?,hg]
    have hdn:done.length≤2*L:=by rw[hch]at hcl;exact hcl
    have hj2:=sh_reverse g 0 cap done wr hH (by omega);have hres:Lib.join ((done.reverse.map fun l=>(⟨l.toArray⟩:ByteArray)).map (·.data.toList)) []=done.reverse.flatten:=by
     rw[List.map_map,join_nil]
     congr 1
     exact(List.map_congr_left fun l _=>rfl).trans (List.map_id _)
    have hj3:∀nd,Calls Tryz.prog 205 #[.slice (some ⟨g,0,none⟩) done.length cap,.string ⟨#[]⟩] (putRow encStr (Sort.ahead wr nd) g 0 done.reverse.toArray) fun e w'=>e= .returned (.string ⟨(dcS n0).toArray⟩)∧RowKit.Below (putRow encStr (Sort.ahead wr nd) g 0 done.reverse.toArray).heap.size (putRow encStr (Sort.ahead wr nd) g 0 done.reverse.toArray) w':=fun nd=>by
     have:=sh_join g 0 cap (done.reverse.map fun l=>(⟨l.toArray⟩:ByteArray)) ⟨#[]⟩ (putRow encStr (Sort.ahead wr nd) g 0 done.reverse.toArray) (fun j x hx=>by
      rw[List.getElem?_map]at hx;obtain⟨l,hl,rfl⟩:=Option.map_eq_some_iff.1 hx;have hj:j<done.reverse.toArray.size:=by simpa using at_lt hl
      rw[cell?_putRow encStr (Sort.ahead wr nd) g 0 done.toArray done.reverse.toArray hH (by simp) j hj];have e2:done.reverse.toArray[j]! =l:=by
       rw[getElem!_pos _ j hj];have:=List.getElem?_eq_some_iff.1 hl;obtain⟨h6,h7⟩:=this;simpa using h7
      rw[e2])
      (by show g<(putRow encStr (Sort.ahead wr nd) g 0 done.reverse.toArray).heap.size;show g<((Sort.ahead wr nd).heap.modify g _).size;rw[Array.size_modify];exact hgl) (by simp;omega) (by simp;omega)
      (by rw[hres];have:=flat_le (l:=done.reverse) (fun x hx=>chk_flat (n:=n0) x (by rw[hch];exact List.mem_reverse.1 hx));rw[List.length_reverse]at this;omega)
     rw[List.length_map,List.length_reverse,show(⟨#[]⟩:ByteArray).data.toList=[]from rfl,hres]at this;rw[dcS,if_neg h0,hch];exact this
    go_wp2_with (first
     |(go_at_call 204;refine hj2.mono ?_;rintro e w2 ⟨rfl,nd,rfl⟩)
     |(go_at_call 205;refine(hj3 nd).mono ?_;rintro e w3 ⟨rfl,hb3⟩))
    go_ret
    refine⟨rfl,?_⟩;have hb2:RowKit.Below w.heap.size w (putRow encStr (Sort.ahead wr nd) g 0 done.reverse.toArray):=below_putRow (below_ahead hB nd) (tL_ hb1.size hbg);exact hb2.trans (hb3.mono hb2.size)
   ·have hl20:0<l2:=by rw[←hl2];exact sz_pos (by omega)
    have hbn':Can 1000000000 2 wr bv:=hbn.below hB1;have hmod:m % 1000000000<18446744073709551616:=by omega
    have hst:=chk_step hm0;have hdl:(done++chk m).length=(chk n0).length:=by rw[hch]
    rw[List.length_append,hst,List.length_cons]at hdl;have hd9:=dd_len (u:=m % 1000000000) (k:=8) (by omega)
    by_cases hq0:m/1000000000=0
    ·rw[if_pos hq0]at hst
     go_wp2_with (first
      |(go_at_call 182;refine(divmod_pos (by decide) hm.is (hbn'.is) (by omega)).mono ?_;rintro e w2 ⟨_,rfl,⟨qv,rv,rfl,hq,hr⟩,hb2⟩;obtain⟨aq,lq,cq,rfl,hlq,_⟩:=hq.1;obtain rfl:lq=0:=by rw[←hlq,hq0,limbs_zero];rfl)
      |(go_at_call 201;refine(uint_can hmod hr).mono ?_;rintro e w3 ⟨_,rfl,rfl,hb3⟩;have hB3:RowKit.Below w.heap.size w w3:=hB.trans ((hb2.trans (hb3.mono hb2.size)).mono hB.size))
      |(go_at_call 202;refine(sh_fmt hmod (hG.fx (fx_belowB hB3))).mono ?_;rintro e w4 ⟨rfl,hb4⟩;have hb24:RowKit.Below wr.heap.size wr w4:=hb2.trans ((hb3.trans (hb4.mono hb3.size)).mono hb2.size);have hB4:RowKit.Below w1.heap.size w1 w4:=hB1.trans (hb24.mono hB1.size);have hrow4:=row_below hrow hb24;have hno4:=hno.below hb24 fun g hg=>(hrow.lt g hg).2)
      |(at_builtin;refine wp_app_str rfl _ _ 225 rfl w1.heap.size 9 i0 u_strs hi hz0 hz1 hz2 _ _ _ rfl (hrow4.alloc _) (hno4.below ((RowKit.Below.refl _ _).alloc (lR_ _) _) fun g hg=>(hrow4.lt g hg).2) w4.heap.size 0 1 ⟨(decDigits (m % 1000000000)).toArray⟩ rfl (cell_one_new _ _ _ 0 _ rfl) (by omega) (by have:=hB4.size;simp;omega) ?_;intro v' w5 hown' hgrow hno5))
     have hB5:RowKit.Below w1.heap.size w1 w5:=(hB4.alloc hB4.size _).grown hgrow (by have:=hB4.size;simp;omega) fun k e=>(hrow4.lt k e).1;have hq4:=(hq.below (hb3.trans (hb4.mono hb3.size))).below ((RowKit.Below.refl _ w4).alloc (lR_ _) (.cells #[encStr (decDigits (m % 1000000000))] 9));have hq5:Can (m/1000000000) L w5 (.slice aq 0 cq):=⟨sl_noU hq4.1 (hno4.below ((RowKit.Below.refl _ _).alloc (lR_ _) _) fun g hg=>(hrow4.lt g hg).2) hgrow,hq4.2⟩;have hln':=row_lenV hown';refine⟨⟨m/1000000000,done++[decDigits (m % 1000000000)],by rw[hch,hst,List.append_assoc];rfl,hq5,by rw[List.length_append,List.map_append];exact hown',hno5,hB5⟩,?_⟩;rw[hln',hln];omega
    ·rw[if_neg hq0]at hst;have e9:(9:Int)-((decDigits (m % 1000000000)).length:Int)=((9-(decDigits (m % 1000000000)).length:Nat):Int):=by omega
     go_wp2_with (first
      |(go_at_call 182;refine(divmod_pos (by decide) hm.is (hbn'.is) (by omega)).mono ?_;rintro e w2 ⟨_,rfl,⟨qv,rv,rfl,hq,hr⟩,hb2⟩;obtain⟨aq,lq,cq,rfl,hlq,_⟩:=hq.1;have hlq0:0<lq:=by rw[←hlq];exact sz_pos (by omega))
      |(go_at_call 201;refine(uint_can hmod hr).mono ?_;rintro e w3 ⟨_,rfl,rfl,hb3⟩;have hB3:RowKit.Below w.heap.size w w3:=hB.trans ((hb2.trans (hb3.mono hb2.size)).mono hB.size))
      |(go_at_call 202;refine(sh_fmt hmod (hG.fx (fx_belowB hB3))).mono ?_;rintro e w4 ⟨rfl,hb4⟩;have hb24:RowKit.Below wr.heap.size wr w4:=hb2.trans ((hb3.trans (hb4.mono hb3.size)).mono hb2.size);have hB4:RowKit.Below w1.heap.size w1 w4:=hB1.trans (hb24.mono hB1.size);have hrow4:=row_below hrow hb24;have hno4:=hno.below hb24 fun g hg=>(hrow.lt g hg).2)
      |(go_at_call 203;refine(sh_rep0 _ _ (by omega)).mono ?_;rintro e w5 ⟨rfl,hb5⟩;have hb25:RowKit.Below wr.heap.size wr w5:=hb24.trans (hb5.mono hb24.size);have hB5:RowKit.Below w1.heap.size w1 w5:=hB1.trans (hb25.mono hB1.size);have hrow5:=row_below hrow hb25;have hno5:=hno.below hb25 fun g hg=>(hrow.lt g hg).2)
      |(at_builtin;refine wp_app_str rfl _ _ 225 rfl w1.heap.size 9 i0 u_strs hi hz0 hz1 hz2 _ _ _ rfl (hrow5.alloc _) (hno5.below ((RowKit.Below.refl _ _).alloc (lR_ _) _) fun g hg=>(hrow5.lt g hg).2) w5.heap.size 0 1 _ rfl (cell_one_new _ _ _ 0 _ rfl) (by omega) (by have:=hB5.size;simp;omega) ?_;intro v' w6 hown' hgrow hno6))
     have hB6:RowKit.Below w1.heap.size w1 w6:=(hB5.alloc hB5.size _).grown hgrow (by have:=hB5.size;simp;omega) fun k e=>(hrow5.lt k e).1;have hq5:=(hq.below (hb3.trans ((hb4.trans (hb5.mono hb4.size)).mono hb3.size))).below ((RowKit.Below.refl _ w5).alloc (lR_ _) (.cells #[Value.string ((⟨Array.replicate (9-(decDigits (m % 1000000000)).length) 48⟩:ByteArray)++⟨(decDigits (m % 1000000000)).toArray⟩)] 9));have hq6:Can (m/1000000000) L w6 (.slice aq lq cq):=⟨sl_noU hq5.1 (hno5.below ((RowKit.Below.refl _ _).alloc (lR_ _) _) fun g hg=>(hrow5.lt g hg).2) hgrow,hq5.2⟩;have hln':=row_lenV hown';rw[ba_rep]at hown';refine⟨⟨m/1000000000,done++[List.replicate (9-(decDigits (m % 1000000000)).length) 48++decDigits (m % 1000000000)],by rw[hch,hst,List.append_assoc];rfl,hq6,by rw[List.length_append,List.map_append];exact hown',hno6,hB6⟩,?_⟩;rw[hln',hln];omega
open Go.Lib (decDigits)
abbrev strV (l:List UInt8):Value:= .string ⟨l.toArray⟩
theorem lx_decimal {n:Nat}(h:sz n≤100000000):LV Tryz.prog 178 [.a (.d (.nat n))] (vl (strV (dcS n))):=lv_ofG fun γ M w rs hG ha=>by
 obtain⟨r,rfl,hr⟩:=all2_1 ha;refine(sh_decimal hG ⟨rd_sl hr,h⟩ (lR_ _)).mono ?_;rintro e w' ⟨rfl,hb⟩;exact⟨_,rfl,rfl,hb⟩
theorem dcS_len {n L:Nat}(h:sz n≤L):(dcS n).length≤18*L+1:=by
 unfold dcS;split
 ·simp
 ·have h1:=chk_sz h;have h2:=flat_le (l:=(chk n).reverse) fun x hx=>chk_flat (n:=n) x (List.mem_reverse.1 hx);rw[List.length_reverse]at h2;omega
theorem str_size (l:List UInt8):(⟨l.toArray⟩:ByteArray).size=l.length:=by simp[ByteArray.size]
theorem str_app (a b:List UInt8):((⟨a.toArray⟩:ByteArray)++⟨b.toArray⟩)=⟨(a++b).toArray⟩:=by rw[ba_app];simp
theorem sz_q {q:Rat}{k:Nat}(h:Bt k q)(hk:k/32+1≤100000000):sz q.num.natAbs≤100000000∧sz (dn q)≤100000000:=by
 refine⟨tL_ (sz_pow2 h.1) hk,tL_ (sz_pow2 (k:=k) ?_) hk⟩;unfold dn;split
 ·exact zL_ _
 ·exact h.2
theorem lx_size {q:Rat}(h:Sz q):LV Tryz.prog 124 [.agg (can q).A] (vl (strV (szT q))):=by
 obtain⟨k1,k2⟩:=sz_q h (by decide);clear h;have l1:=dcS_len k1;have l2:=dcS_len k2;refine LX_run (m:=0) (n0:=0) mix Tryz.func124 rfl rfl rfl rfl ?_;conv=>whnf
 refine .c (lx_decimal k1) ?_;conv=>whnf
 refine bs (fun g0=> ?_) (fun g0=> ?_)
 ·have hd:dn q=q.den∧q.den≠1:=by
   have:(((limbs (dn q)).length:Nat):Int)>0:=of_decide_eq_true g0;unfold dn at this ⊢;split at this
   ·rw[limbs_zero]at this;simp at this
   ·rename_i h;rw[if_neg h];exact⟨rfl,h⟩
  conv=>whnf
  refine .c (lx_decimal k2) ?_;conv=>whnf
  refine .mk ⟨(47::dcS (dn q)).toArray⟩ (by rw[str_size];show 1+(⟨(dcS (dn q)).toArray⟩:ByteArray).size≤_;rw[str_size];omega) (str_app [47] (dcS (dn q))).symm ?_;conv=>whnf
  refine .mk ⟨(dcS q.num.natAbs++47::dcS (dn q)).toArray⟩ (by rw[str_size,str_size,List.length_cons];omega) (str_app _ _).symm ?_;conv=>whnf
  have e:dcS q.num.natAbs++47::dcS (dn q)=szT q:=by rw[szT,if_neg hd.2,hd.1]
  rw[e];exact .q ⟨rfl,rfl⟩
 ·have hd:q.den=1:=by
   have:=of_decide_eq_false g0;rcases Classical.em (q.den=1)with h|h
   ·exact h
   ·exfalso;apply this;have h5:=limbs_ne_nil (n:=dn q) (by unfold dn;rw[if_neg h];exact q.den_pos);have:0<(limbs (dn q)).length:=List.length_pos_iff.2 h5;show(((limbs (dn q)).length:Nat):Int)>0;omega
  conv=>whnf
  have e:dcS q.num.natAbs=szT q:=by rw[szT,if_pos hd,List.append_nil]
  rw[e];exact .q ⟨rfl,rfl⟩
open Go.Lib (decDigits IsBuilder BuilderAt byteCells strCells byteCells_append byteCells_length)
abbrev Bld (b:Nat)(l:List UInt8)(w:World):Prop:=IsBuilder 170 5 b b (byteCells l) w
theorem Bld.below {b:Nat}{l:List UInt8}{w w':World}(h:Bld b l w)(hb:RowKit.Below w.heap.size w w'):Bld b l w':=by
 have key:∀p,BuilderAt 170 5 b b p (byteCells l) w→BuilderAt 170 5 b b p (byteCells l) w':=fun p h=>by
  obtain⟨h1,v,h2,h3,h4⟩:=h;exact⟨h1,v,(hb.block b (lt_of_block h2)).trans h2,row_below h3 hb,h4⟩
 exact h.elim (fun h=> .inl (key _ h)) fun h=> .inr (key _ h)
theorem Bld.lt {b:Nat}{l:List UInt8}{w:World}(h:Bld b l w):b<w.heap.size:=h.elim (·.lt) (·.lt)
theorem Bld.new (w:World):Bld w.heap.size [] (w.alloc (.cells #[.pointer none,.slice none 0 0] 170)):=
 .inl ⟨lR_ _,_,heap_alloc_new w _,World.ownsRow_nil _ _ _ _,by simp[Value.ownBlock]⟩
theorem sh_len {b:Nat}{l:List UInt8}{w:World}(h:Bld b l w):Calls Tryz.prog 121 #[.pointer (some ⟨b,0,none⟩)] w fun e w'=>e= .returned (.int .i64 (l.length:Nat))∧w'=w:=by
 have:=Any.Builder_Len L170 b b (byteCells l) w h;rw[byteCells_length]at this;exact this
theorem sh_write {b:Nat}{l t:List UInt8}{w:World}(h:Bld b l w)(hl:l.length+t.length≤140737488355328):Calls Tryz.prog 122 #[.pointer (some ⟨b,0,none⟩),strV t] w fun e w'=>(∃r,e= .returned r)∧Bld b (l++t) w'∧RowKit.Below b w w':=by
 have:=Any.Builder_WriteString L166 LEx b b (byteCells l) ⟨t.toArray⟩ w h (by rw[byteCells_length,str_size];exact hl) (Nat.le_of_lt h.lt);refine this.mono ?_;rintro e w' ⟨rfl,h1,h2⟩;exact⟨⟨_,rfl⟩,.inr (by rw[byteCells_append];exact h1),h2⟩
theorem sh_string {b:Nat}{l:List UInt8}{w:World}(h:Bld b l w):Calls Tryz.prog 125 #[.pointer (some ⟨b,0,none⟩)] w fun e w'=>e= .returned (strV l)∧RowKit.Below b w w':=
 Any.Builder_String_any L169 LEx b b l w h (Nat.le_of_lt h.lt)
theorem tx_part {b:Nat}{l t:List UInt8}{neg:Bool}{w:World}(h:Bld b l w)(hl:l.length+3+t.length≤140737488355328):
  Calls Tryz.prog 120 #[.bool neg,strV t,.pointer (some ⟨b,0,none⟩)] w fun e w'=>(∃r,e= .returned r)∧Bld b (l++(sgT (decide (l=[])) neg++t)) w'∧RowKit.Below b w w':=by
 have hlt:=h.lt
 by_cases h0:l=[]
 ·subst h0
  cases neg with
  |true=>
   go_enter Tryz.func120,Tryz.ntmps120
   go_wp2_with (first
    |(go_at_call 121;refine(sh_len h).mono ?_;rintro e w' ⟨rfl,rfl⟩)
    |(go_at_call 122;refine(sh_write (t:=t) h1 (by first|(simp;done)|(simp;omega)|omega)).mono ?_;rintro e w2 ⟨⟨r2,rfl⟩,h2,hb2⟩)
    |(go_at_call 122;refine(sh_write (t:=[45]) h (by first|(simp;done)|(simp;omega)|omega)).mono ?_;rintro e w1 ⟨⟨r1,rfl⟩,h1,hb1⟩))
   go_end0
   exact⟨⟨_,rfl⟩,h2,hb1.trans hb2⟩
  |false=>
   go_enter Tryz.func120,Tryz.ntmps120
   go_wp2_with (first
    |(go_at_call 121;refine(sh_len h).mono ?_;rintro e w' ⟨rfl,rfl⟩)
    |(go_at_call 122;refine(sh_write (t:=t) h (by omega)).mono ?_;rintro e w2 ⟨⟨r2,rfl⟩,h2,hb2⟩))
   go_end0
   exact⟨⟨_,rfl⟩,h2,hb2⟩
 ·have hp:0<l.length:=List.length_pos_iff.2 h0;have hz:(((l.length:Nat):Int)==0)=false:=by simp;omega
  cases neg with
  |true=>
   go_enter Tryz.func120,Tryz.ntmps120
   go_wp2_with (first
    |(go_at_call 121;refine(sh_len h).mono ?_;rintro e w' ⟨rfl,rfl⟩)
    |(go_at_call 122;refine(sh_write (t:=t) h1 (by first|(simp;done)|(simp;omega)|omega)).mono ?_;rintro e w2 ⟨⟨r2,rfl⟩,h2,hb2⟩)
    |(go_at_call 122;refine(sh_write (t:=[32,45,32]) h (by first|(simp;done)|(simp;omega)|omega)).mono ?_;rintro e w1 ⟨⟨r1,rfl⟩,h1,hb1⟩))
   go_end0
   exact⟨⟨_,rfl⟩,by rw[decide_eq_false h0,←List.append_assoc];exact h2,hb1.trans hb2⟩
  |false=>
   go_enter Tryz.func120,Tryz.ntmps120
   go_wp2_with (first
    |(go_at_call 121;refine(sh_len h).mono ?_;rintro e w' ⟨rfl,rfl⟩)
    |(go_at_call 122;refine(sh_write (t:=t) h1 (by first|(simp;done)|(simp;omega)|omega)).mono ?_;rintro e w2 ⟨⟨r2,rfl⟩,h2,hb2⟩)
    |(go_at_call 122;refine(sh_write (t:=[32,43,32]) h (by first|(simp;done)|(simp;omega)|omega)).mono ?_;rintro e w1 ⟨⟨r1,rfl⟩,h1,hb1⟩))
   go_end0
   exact⟨⟨_,rfl⟩,by rw[decide_eq_false h0,←List.append_assoc];exact h2,hb1.trans hb2⟩
open Go.Lib (decDigits IsBuilder BuilderAt byteCells strCells byteCells_append byteCells_length)
abbrev M0:MS:=fun _ _=>False
def γ0:Gh:=fun _=>undef
theorem rel0 {M:MS}{w:World}(h:Glb M w):Rel γ0 (look []) M0 w:=
 ⟨fun key e he=>absurd he (by simp[look]),fun key b i ho=>by simp[Owns,look]at ho,fun k1 k2 b l1=>by simp[look,live]at l1,fun b i n h=>h.elim,fun b i h=>h.elim,h.fx fun b i v k=>⟨fun h=>h,k.2⟩⟩
theorem toM0 {M:MS}{w:World}{d:D}{v:Value}(h:RdD M w d v):RdD M0 w d v:=h.fx fun b i v k=>⟨fun h=>h,k.2⟩
theorem lv_lit {P:Program}{F:FuncId}{args:List V}{u:Value}(h:LV P F args (vl u)){M:MS}{w:World}{rs:List Value}(hG:Glb M w)(ha:All2 (RdV γ0 (look []) M0 w) args rs):
  Calls P F rs.toArray w fun e w'=>e= .returned u∧RowKit.Below w.heap.size w w':=by
 obtain⟨v',H',⟨rfl,rfl⟩,hc⟩:=h;refine cM (hc γ0 M0 w rs (rel0 hG) ha) ?_;rintro e w' ⟨r,γ',M',h1,h2,h3,h4⟩;exact⟨by rw[h1,show r=u from lit_inv h3],h4.os,h4.tape,h4.output,h4.size,fun k hk=>h4.other k hk fun key i ho=>by simp[Owns,look]at ho⟩
theorem tlT_snoc (l:List (Bool×List UInt8))(p:Bool×List UInt8):tlT (l++[p])=tlT l++(sgT false p.1++p.2):=by simp[tlT]
theorem rdT_snoc {l:List (Bool×List UInt8)}(h:∀p∈l,PtOkT p)(p:Bool×List UInt8):rdT (l++[p])=rdT l++(sgT (decide (rdT l=[])) p.1++p.2):=by
 cases l with
 |nil=>simp[rdT,tlT]
 |cons q l=>
  have hne:rdT (q::l)≠[]:=by
   obtain⟨d,r,e,_⟩:=(h q List.mem_cons_self).hd;simp[rdT,e]
  rw[decide_eq_false hne,List.cons_append,rdT,rdT,tlT_snoc];simp[List.append_assoc]
abbrev prT (t:Tm):Bool×List UInt8:=(decide (t.q<0),tmT t)
def acT (f:Af)(i:Nat):List UInt8:=rdT ((f.ts.take i).map prT)
theorem prT_ok {t:Tm}:PtOkT (prT t):=⟨tmT_ch.1,tmT_ch.2⟩
theorem acT_succ {f:Af}{i:Nat}{t:Tm}(h:f.ts[i]? =some t):acT f (i+1)=acT f i++(sgT (decide (acT f i=[])) (decide (t.q<0))++tmT t):=by
 unfold acT;rw[take_snoc h,List.map_append,List.map_cons,List.map_nil,rdT_snoc];intro p hp;obtain⟨t,_,rfl⟩:=List.mem_map.1 hp;exact prT_ok
theorem txt_end (f:Af):txt f=if f.c≠0∨f.ts=[]then acT f f.ts.length++(sgT (decide (acT f f.ts.length=[])) (decide (f.c<0))++szT f.c)else acT f f.ts.length:=by
 unfold txt ptT acT;rw[List.take_length];split
 ·rw[rdT_snoc];intro p hp;obtain⟨t,_,rfl⟩:=List.mem_map.1 hp;exact prT_ok
 ·rw[List.append_nil]
theorem acT_nil {f:Af}:acT f f.ts.length=[]↔f.ts=[]:=by
 unfold acT;rw[List.take_length]
 cases hts:f.ts with
 |nil=>simp[rdT]
 |cons t ts=>
  obtain⟨d,r,e,_⟩:=(prT_ok (t:=t)).hd;simp only[List.map_cons,rdT];constructor
  ·intro h;have:=congrArg List.length h;rw[show tmT t=d::r from e]at this;simp at this
  ·intro h;cases h
theorem szT_len {q:Rat}(h:Sz q):(szT q).length≤4000000000:=by
 obtain⟨k1,k2⟩:=sz_q h (by decide);clear h;have l1:=dcS_len k1;have l2:=dcS_len k2;unfold szT;rw[List.length_append];split
 ·simp;omega
 ·rename_i hd;unfold dn at l2;rw[if_neg hd]at l2;rw[List.length_cons];omega
theorem dd_100 {v:Nat}(h:v<100):(decDigits v).length≤2:=dd_len (k:=1) (by omega)
theorem tmT_len {t:Tm}(h:Sz t.q)(hv:t.v<100):(tmT t).length≤4000000010:=by
 have h1:=szT_len h;have h2:=dd_100 (v:=t.v.toNat) (by omega);unfold tmT;rw[List.length_append,List.length_cons];split
 ·simp;omega
 ·rw[List.length_append];simp;omega
theorem sg_len (b c:Bool):(sgT b c).length≤3:=by cases b<;>cases c<;>decide
theorem acT_len {f:Af}(h:∀t∈f.ts,Sz t.q∧t.v<100):∀i,i≤f.ts.length→(acT f i).length≤i*4000000013
 |0,_=>by simp[acT,rdT]
 |i+1,hi=>by
  obtain⟨t,ht⟩:=at_some (l:=f.ts) (i:=i) (by omega);obtain⟨h1,h2⟩:=h t (mG_ ht);have h3:=acT_len h i (by omega);have h4:=tmT_len h1 h2;have h5:=sg_len (decide (acT f i=[])) (decide (t.q<0));rw[acT_succ ht,List.length_append,List.length_append];clear h1;omega
open Go.Lib (decDigits IsBuilder BuilderAt byteCells strCells byteCells_append byteCells_length)
theorem sh_itoa {v:Nat}(h:v<100)(w:World):Calls Tryz.prog 123 #[.int .i64 (v:Nat)] w fun e w'=>e= .returned (strV (decDigits v))∧w'=w:=Any.strconv_Itoa_small L171 v h w
theorem sh_size {q:Rat}(h:Sz q){M:MS}{w:World}(hG:Glb M w){ng nm dv:Value}(k0:RdD M w (.lit (.bool (decide (q<0)))) ng)(k1:RdD M w (.nat q.num.natAbs) nm)(k2:RdD M w (.nat (dn q)) dv):
  Calls Tryz.prog 124 #[.agg #[ng,nm,dv]] w fun e w'=>e= .returned (strV (szT q))∧RowKit.Below w.heap.size w w':=
 lv_lit (rs:=[.agg #[ng,nm,dv]]) (lx_size h) hG ⟨⟨[ng,nm,dv],rfl,toM0 k0,toM0 k1,toM0 k2,trivial⟩,trivial⟩
theorem tx_text {f:Af}{M:MS}{w:World}(hG:Glb M w)(hn:f.ts.length≤1000)(ht:∀t∈f.ts,Sz t.q∧0≤t.v∧t.v<100)(hc:Sz f.c)
  {ts ng nm dv:Value} (k0:RdD M w (.sl 4 (f.ts.map Tm.D)) ts) (k1:RdD M w (.lit (.bool (decide (f.c<0)))) ng) (k2:RdD M w (.nat f.c.num.natAbs) nm) (k3:RdD M w (.nat (dn f.c)) dv):
  Calls Tryz.prog 69 #[.agg #[ts,ng,nm,dv]] w fun e w'=>e= .returned (strV (txt f))∧RowKit.Below w.heap.size w w':=by
 obtain⟨ad,cap,vs,rfl,hcap,hl,hadr,hone,hrd⟩:∃(ad:Option Addr) (cap:Nat) (vs:Nat→Nat→Value),ts= .slice ad f.ts.length cap∧f.ts.length≤cap∧f.ts.length≤1099511627776∧
   (0<f.ts.length→∃b o,ad=some ⟨b,o,none⟩∧∀(i:Nat) (row:List D) (j:Nat) (d:D),(f.ts.map Tm.D)[i]? =some row→row[j]? =some d→Fx M w b (o+i*4+j) (vs i j))∧
   (∀i j,(vs i j).oneCell'=true)∧∀(i:Nat) (row:List D) (j:Nat) (d:D),(f.ts.map Tm.D)[i]? =some row→row[j]? =some d→RdD M w d (vs i j):=by
  cases k0 with
  |sl _ _ ad cap vs hc hl h0 hk h1 hr=>
   rw[List.length_map]at hc hl h0;exact⟨ad,cap,vs,by rw[List.length_map],hc,hl,h0,h1,hr⟩
 obtain rfl:=lit_inv k1;obtain⟨an,ln,cn,rfl,hln,_⟩:=rd_sl k2;obtain⟨add,ld,cd,rfl,hld,_⟩:=rd_sl k3
 have hlen:∀i,i≤f.ts.length→(acT f i).length≤1000*4000000013:=fun i hi=>
  tL_ (acT_len (fun t h=>⟨(ht t h).1,(ht t h).2.2⟩) i hi) (Nat.mul_le_mul_right _ (by omega))
 obtain⟨W1,hW1⟩:∃W1,w.alloc (.cells #[.slice ad f.ts.length cap,.bool (decide (f.c<0)),.slice an ln cn,.slice add ld cd] 79)=W1:=⟨_,rfl⟩;obtain⟨W2,hW2⟩:∃W2,W1.alloc (.cells #[.pointer none,.slice none 0 0] 170)=W2:=⟨_,rfl⟩;have hs1:W1.heap.size=w.heap.size+1:=by rw[←hW1];simp
 have hb1:RowKit.Below w.heap.size w W1:=by rw[←hW1];exact(RowKit.Below.refl _ _).alloc (lR_ _) _
 have hb2:RowKit.Below W1.heap.size W1 W2:=by rw[←hW2];exact(RowKit.Below.refl _ _).alloc (lR_ _) _
 have hbx:W1.heap[w.heap.size]? =some (.cells #[.slice ad f.ts.length cap,.bool (decide (f.c<0)),.slice an ln cn,.slice add ld cd] 79 (0,0)):=by rw[←hW1];exact heap_alloc_new w _
 have hB2:Bld (w.heap.size+1) [] W2:=by rw[←hs1,←hW2];exact Bld.new W1
 have cf:∀{W':World},W'.heap[w.heap.size]? =W1.heap[w.heap.size]?→W'.cell? ⟨w.heap.size,0,none⟩=some (.slice ad f.ts.length cap)∧W'.cell? ⟨w.heap.size,1,none⟩=some (.bool (decide (f.c<0)))∧W'.cell? ⟨w.heap.size,2,none⟩=some (.slice an ln cn)∧W'.cell? ⟨w.heap.size,3,none⟩=some (.slice add ld cd):=fun h=>by
  have:=h.trans hbx;simp only[World.cell?,this];exact⟨rfl,rfl,rfl,rfl⟩
 obtain⟨d0,d1,d2,d3⟩:=cf (W':=W2) (hb2.block _ (by omega))
 go_enter Tryz.func69,Tryz.ntmps69
 go_wp2_with (first|rw[hW1]|rw[hW2]|fail)
 go_loopw [13] (fun iv wr=>∃i:Nat,i≤f.ts.length∧iv= .int .i64 i∧Bld (w.heap.size+1) (acT f i) wr∧RowKit.Below (w.heap.size+1) W2 wr) (fun iv _=>f.ts.length-(intOf iv).toNat)
 case atStart=>exact⟨0,zL_ _,rfl,hB2,RowKit.Below.refl _ _⟩
 case round=>
  obtain⟨i,hi,rfl,hB,hbr⟩:=hrel;clear d0 d1 d2 d3;obtain⟨d0,d1,d2,d3⟩:=cf (W':=wr) ((hbr.block _ (by omega)).trans (hb2.block _ (by omega)))
  by_cases hlt:i<f.ts.length
  ·obtain⟨t,hti⟩:=at_some hlt;obtain⟨hq,hv0,hv1⟩:=ht t (mG_ hti);obtain⟨tb,o,rfl,hfx⟩:=hadr (by omega);obtain⟨v,hv⟩:∃v:Nat,t.v=v:=⟨t.v.toNat,by omega⟩;have hrow:(f.ts.map Tm.D)[i]? =some t.D:=at_map hti;have hBw:RowKit.Below w.heap.size w wr:=hb1.trans ((hb2.trans (hs1▸hbr)).mono hb1.size);have hGr:Glb M wr:=hG.fx (fx_belowB hBw)
   have cl:∀(j:Nat) d,t.D[j]? =some d→wr.cell? ⟨tb,o+i*4+j,none⟩=some (vs i j)∧RdD M wr d (vs i j):=fun j d hj=>
    ⟨(fx_belowB hBw _ _ _ (hfx i _ j d hrow hj)).2,RdD.fx (fx_belowB hBw) (hrd i _ j d hrow hj)⟩
   obtain⟨e0,r0⟩:=cl 0 _ rfl;obtain⟨e1,r1⟩:=cl 1 _ rfl;obtain⟨e2,r2⟩:=cl 2 _ rfl;obtain⟨e3,r3⟩:=cl 3 _ rfl;have q0:=lit_inv r0;have q1:=lit_inv r1;obtain⟨a2,l2,c2,q2,_⟩:=rd_sl r2;obtain⟨a3,l3,c3,q3,_⟩:=rd_sl r3;rw[q2]at r2;rw[q3]at r3;rw[q0,hv,Nat.add_zero]at e0;rw[q1]at e1;rw[q2]at e2;rw[q3]at e3;clear cl r0 r1 q0 q1 q2 q3 hfx;obtain⟨W3,hW3⟩:∃W3,wr.alloc (.cells #[.int .i64 (v:Nat),.bool (decide (t.q<0)),.slice a2 l2 c2,.slice a3 l3 c3] 107)=W3:=⟨_,rfl⟩;have hb3:RowKit.Below wr.heap.size wr W3:=by rw[←hW3];exact(RowKit.Below.refl _ _).alloc (lR_ _) _
   have hbx3:W3.heap[wr.heap.size]? =some (.cells #[.int .i64 (v:Nat),.bool (decide (t.q<0)),.slice a2 l2 c2,.slice a3 l3 c3] 107 (0,0)):=by rw[←hW3];exact heap_alloc_new wr _
   have hs3:W3.heap.size=wr.heap.size+1:=by rw[←hW3];simp
   have cg:∀{W':World},RowKit.Below W3.heap.size W3 W'→W'.cell? ⟨wr.heap.size,0,none⟩=some (.int .i64 (v:Nat))∧W'.cell? ⟨wr.heap.size,1,none⟩=some (.bool (decide (t.q<0)))∧W'.cell? ⟨wr.heap.size,2,none⟩=some (.slice a2 l2 c2)∧W'.cell? ⟨wr.heap.size,3,none⟩=some (.slice a3 l3 c3):=fun h=>by
    have:=(h.block _ (by omega)).trans hbx3;simp only[World.cell?,this];exact⟨rfl,rfl,rfl,rfl⟩
   obtain⟨m0,m1,m2,m3⟩:=cg (RowKit.Below.refl _ _);have hv1':v<100:=by omega
   have hsz:=sh_size hq (hGr.fx (fx_belowB hb3)) (.lit _) (RdD.fx (fx_belowB hb3) r2) (RdD.fx (fx_belowB hb3) r3);have hB3:=hB.below hb3;have hal:=hlen i hi;have htl:=tmT_len hq (show t.v<100 by omega);have hdl:=dd_100 hv1';have hno1:¬9223372036854775807<1+(decDigits v).length:=by omega
   have hsl:=szT_len hq
   have fin:∀{W5:World},Bld (w.heap.size+1) (acT f i++(sgT (decide (acT f i=[])) (decide (t.q<0))++tmT t)) W5→RowKit.Below (w.heap.size+1) wr W5→(∃i_1:Nat,i_1≤f.ts.length∧Value.int IntKind.i64 ((i:Int)+1)=Value.int IntKind.i64 (i_1:Int)∧Bld (w.heap.size+1) (acT f i_1) W5∧RowKit.Below (w.heap.size+1) W2 W5)∧
     f.ts.length-(intOf (Value.int IntKind.i64 ((i:Int)+1))).toNat<f.ts.length-(intOf (Value.int IntKind.i64 (i:Int))).toNat:=fun h1 h2=>
    ⟨⟨i+1,hlt,by rw[Int.natCast_add];rfl,by rw[acT_succ hti];exact h1,hbr.trans h2⟩,by simp only[intOf];omega⟩
   by_cases h1:szT t.q=[49]
   ·have eT:((⟨#[120]⟩:ByteArray)++⟨(decDigits v).toArray⟩)=⟨(tmT t).toArray⟩:=by
     rw[tmT,if_pos h1,hv,Int.toNat_natCast];exact str_app [120] _
    go_wp2_with (first
     |rw[hW3]
     |(go_at_call 123;refine(sh_itoa hv1' _).mono ?_;rintro e w' ⟨rfl,rfl⟩)
     |(go_at_call 124;refine hsz.mono ?_;rintro e W4 ⟨rfl,hb4⟩;have hB4:=hB3.below hb4;obtain⟨n0,n1,n2,n3⟩:=cg hb4)
     |(go_at_call 120;refine(tx_part (t:=tmT t) hB4 (by clear hq hc hsz;omega)).mono ?_;rintro e W5 ⟨⟨r5,rfl⟩,hB5,hb5⟩))
    exact fin hB5 ((hb3.trans (hb4.mono hb3.size)).mono (Nat.le_of_lt hB.lt) |>.trans hb5)
   ·have eT:((⟨(szT t.q).toArray⟩:ByteArray)++⟨#[42]⟩++(⟨#[120]⟩++⟨(decDigits v).toArray⟩))=⟨(tmT t).toArray⟩:=by
     rw[tmT,if_neg h1,hv,Int.toNat_natCast,str_app (szT t.q) [42],str_app [120] (decDigits v),str_app];rfl
    have hb:(!szT t.q==[49])=true:=by simp[h1]
    have hno2:¬9223372036854775807<(szT t.q).length+1:=by omega
    have hno3:¬9223372036854775807<(szT t.q).length+1+(1+(decDigits v).length):=by omega
    go_wp2_with (first
     |rw[hW3]
     |(go_at_call 123;refine(sh_itoa hv1' _).mono ?_;rintro e w' ⟨rfl,rfl⟩)
     |(go_at_call 124;refine hsz.mono ?_;rintro e W4 ⟨rfl,hb4⟩;have hB4:=hB3.below hb4;obtain⟨n0,n1,n2,n3⟩:=cg hb4)
     |(go_at_call 120;refine(tx_part (t:=tmT t) hB4 (by clear hq hc hsz;omega)).mono ?_;rintro e W5 ⟨⟨r5,rfl⟩,hB5,hb5⟩))
    exact fin hB5 ((hb3.trans (hb4.mono hb3.size)).mono (Nat.le_of_lt hB.lt) |>.trans hb5)
  ·obtain rfl:i=f.ts.length:=by omega
   have hBw:RowKit.Below w.heap.size w wr:=hb1.trans ((hb2.trans (hs1▸hbr)).mono hb1.size);have hGr:Glb M wr:=hG.fx (fx_belowB hBw);have hend:=txt_end f;have hac:=acT_nil (f:=f);have hal:=hlen f.ts.length (lR_ _);have hsl:=szT_len hc;have hlz:0<ln↔f.c≠0:=by
    rw[←hln];constructor
    ·intro h h0;rw[h0]at h;rw[show(0:Rat).num.natAbs=0 from rfl,limbs_zero]at h;simp at h
    ·intro h;refine sz_pos (Nat.pos_of_ne_zero fun h0=>h ?_);have:=Rat.num_eq_zero (q:=f.c);exact this.1 (Int.natAbs_eq_zero.1 h0)
   have hwb:w.heap.size<wr.heap.size:=Nat.lt_of_succ_lt hB.lt;have hbd:RowKit.Below wr.heap.size wr wr.drew:=(RowKit.Below.refl _ _).drew;have hBd:=hB.below hbd;have hBwd:RowKit.Below w.heap.size w wr.drew:=hBw.trans (hbd.mono hBw.size);have hszd:=sh_size hc (hG.fx (fx_belowB hBwd)) (.lit _) (RdD.fx (fx_belowB hBwd) k2) (RdD.fx (fx_belowB hBwd) k3);have hk:wr.heap[w.heap.size]? =W1.heap[w.heap.size]?:=(hbr.block _ (by omega)).trans (hb2.block _ (by omega));have hk4:∀{W4:World},RowKit.Below wr.drew.heap.size wr.drew W4→W4.heap[w.heap.size]? =W1.heap[w.heap.size]?:=fun h=>(h.block _ hwb).trans hk;have hk5:∀{W4 W5:World},W4.heap[w.heap.size]? =W1.heap[w.heap.size]?→RowKit.Below (w.heap.size+1) W4 W5→W5.heap[w.heap.size]? =W1.heap[w.heap.size]?:=fun h h'=>(h'.block _ (by omega)).trans h
   have bel:∀{W4 W5 W6:World},RowKit.Below wr.drew.heap.size wr.drew W4→RowKit.Below (w.heap.size+1) W4 W5→RowKit.Below (w.heap.size+1) W5 W6→RowKit.Below w.heap.size w W6:=fun h4 h5 h6=>
    hBwd.trans ((h4.mono (Nat.le_of_lt hwb)).trans ((h5.trans h6).mono (by omega)))
   by_cases hcond:f.c≠0∨f.ts=[]
   ·rw[if_pos hcond]at hend;have Hend:=lH hend
    by_cases hlp:0<ln
    ·clear hcond hend hlz hac
     go_wp2_with fail
     go_region_held3 (fun w'=>w'.cell? ⟨w.heap.size,0,none⟩=some (.slice ad f.ts.length cap)∧w'.cell? ⟨w.heap.size,1,none⟩=some (.bool (decide (f.c<0)))∧w'.cell? ⟨w.heap.size,2,none⟩=some (.slice an ln cn)∧w'.cell? ⟨w.heap.size,3,none⟩=some (.slice add ld cd))
      (first|exact cf (hk5 (hk4 hb4) hb5)|exact cf (hk4 hb4)|go_keep)
      (first
      |(go_at_call 124;refine hszd.mono ?_;rintro e W4 ⟨rfl,hb4⟩;have hB4:=hBd.below hb4;obtain⟨n0,n1,n2,n3⟩:=cf (hk4 hb4))
      |(go_at_call 120;refine(tx_part (t:=szT f.c) hB4 (by clear hc hszd;omega)).mono ?_;rintro e W5 ⟨⟨r5,rfl⟩,hB5,hb5⟩;obtain⟨p0,p1,p2,p3⟩:=cf (hk5 (hk4 hb4) hb5)))
     go_wp2_with (go_at_call 125;refine(sh_string hB5).mono ?_;rintro e W6 ⟨rfl,hb6⟩)
     go_ret
     exact⟨by rw[Hend.out];rfl,bel hb4 hb5 hb6⟩
    ·have hz:(acT f f.ts.length).length=0:=by
      rcases hcond with h|h
      ·exact absurd (hlz.2 h) hlp
      ·rw[hac.2 h];rfl
     obtain rfl:ln=0:=Nat.eq_zero_of_not_pos hlp;have Hz:=lH hz;clear hcond hend hlz hac hlp hz
     go_wp2_with (go_at_call 121;refine(sh_len hB).mono ?_;rintro e w' ⟨rfl,rfl⟩;rw[Hz.out])
     go_region_held3 (fun w'=>w'.cell? ⟨w.heap.size,0,none⟩=some (.slice ad f.ts.length cap)∧w'.cell? ⟨w.heap.size,1,none⟩=some (.bool (decide (f.c<0)))∧w'.cell? ⟨w.heap.size,2,none⟩=some (.slice an 0 cn)∧w'.cell? ⟨w.heap.size,3,none⟩=some (.slice add ld cd))
      (first|exact cf (hk5 (hk4 hb4) hb5)|exact cf (hk4 hb4)|go_keep)
      (first
      |(go_at_call 124;refine hszd.mono ?_;rintro e W4 ⟨rfl,hb4⟩;have hB4:=hBd.below hb4;obtain⟨n0,n1,n2,n3⟩:=cf (hk4 hb4))
      |(go_at_call 120;refine(tx_part (t:=szT f.c) hB4 (by clear hc hszd;omega)).mono ?_;rintro e W5 ⟨⟨r5,rfl⟩,hB5,hb5⟩;obtain⟨p0,p1,p2,p3⟩:=cf (hk5 (hk4 hb4) hb5)))
     go_wp2_with (go_at_call 125;refine(sh_string hB5).mono ?_;rintro e W6 ⟨rfl,hb6⟩)
     go_ret
     exact⟨by rw[Hend.out];rfl,bel hb4 hb5 hb6⟩
   ·rw[if_neg hcond]at hend;have hl0:ln=0:=Nat.eq_zero_of_not_pos fun h=>hcond (.inl (hlz.1 h));have hz:(((acT f f.ts.length).length:Int)==0)=false:=by
     have:acT f f.ts.length≠[]:=fun h=>hcond (.inr (hac.1 h));have:=List.length_pos_iff.2 this;simp;omega
    have Hend:=lH hend;subst hl0;clear hcond hend hlz hac
    go_wp2_with (first
     |(go_at_call 121;refine(sh_len hB).mono ?_;rintro e w' ⟨rfl,rfl⟩)
     |(go_at_call 125;refine(sh_string hB).mono ?_;rintro e W6 ⟨rfl,hb6⟩))
    go_ret
    exact⟨by rw[Hend.out];rfl,hBw.trans (hb6.mono (tL_ hb1.size (by omega)))⟩
open Go.Maps
theorem lx_text {f:Af}(hn:f.ts.length≤1000)(ht:∀t∈f.ts,Sz t.q∧0≤t.v∧t.v<100)(hc:Sz f.c):LV Tryz.prog 69 [.agg f.A] (vl (strV (txt f))):=lv_ofG fun γ M w rs hG ha=>by
 obtain⟨r,rfl,vs,rfl,hr⟩:=all2_1 ha
 match vs,hr with
 |[a,b,c,d],hr=>
  refine(tx_text hG hn ht hc hr.1 hr.2.1 hr.2.2.1 hr.2.2.2.1).mono ?_;rintro e w' ⟨rfl,hb⟩;exact⟨_,rfl,rfl,hb⟩
def idxT:List Af→List UInt8→Option Nat
 |[],_=>none
 |f::l,s=>if txt f=s then some 0 else(idxT l s).map (· +1)
theorem idxT_some:∀{l:List Af} {s:List UInt8} {k:Nat},idxT l s=some k→∃f,l[k]? =some f∧txt f=s
 |[],_,_,h=>by cases h
 |f::l,s,k,h=>by
  unfold idxT at h;split at h
  ·rename_i e;injection h with h;subst h;exact⟨f,rfl,e⟩
  ·obtain⟨j,hj,rfl⟩:=Option.map_eq_some_iff.1 h;obtain⟨g,h1,h2⟩:=idxT_some hj;exact⟨g,by simpa using h1,h2⟩
theorem idxT_snoc (f:Af)(s:List UInt8):∀l:List Af,idxT (l++[f]) s=match idxT l s with
  |some k=>some k
  |none=>if txt f=s then some l.length else none
 |[]=>by simp[idxT]
 |g::l=>by
  rw[List.cons_append,idxT,idxT];split
  ·rfl
  ·rw[idxT_snoc f s l]
   cases idxT l s with
   |some k=>rfl
   |none=>
    simp only[Option.map_none,List.length_cons];split<;>rfl
def MpT (D:DataW Unit)(l:List Af):Prop:=IsMap D∧∀s zd,D.atKey (.string s) zd=match idxT l s with
 |some k=> .lit (.int .i64 (k:Nat))
 |none=>zd
theorem MpT.put {D:DataW Unit}{l:List Af}{f:Af}(h:MpT D l)(h0:idxT l (txt f)=none):MpT (D.put (.string (txt f)) (.lit (.int .i64 (l.length:Nat)))) (l++[f]):=by
 refine⟨h.1.put _ _,fun s zd=> ?_⟩;rw[idxT_snoc]
 by_cases e:txt f=s
 ·subst e;rw[h0,if_pos rfl];exact atKey_put_same h.1 (show WideAt.IsKeyLit (.string (txt f))from trivial) _ _
 ·rw[if_neg e,atKey_put_other (by intro e2;injection e2 with e2;exact e e2.symm),h.2]
  cases idxT l s<;>rfl
def dupS (n:Nat):Nat→Nat→List Af→List Af→List Af×List Af
 |0,_,us,os=>(us,os)
 |k+1,i,us,os=>match us[i]? with
  |none=>(us,os)
  |some f=>match idxT (us.take i) (txt f)with
   |some j=>dupS n k i (repU n i (varS ((n+j:Nat):Int)) us) (os.map (repF ((n+i:Nat):Int) (varS ((n+j:Nat):Int))))
   |none=>dupS n k (i+1) us os
theorem dupS_end {n k i:Nat}{us os:List Af}(h:us.length≤i):dupS n k i us os=(us,os):=by
 cases k with
 |zero=>rfl
 |succ k=>rw[dupS,List.getElem?_eq_none h]
theorem dup_by {L n i j k:Nat}(h:j<i):By L k ((n+i:Nat):Int) (varS ((n+j:Nat):Int)):=By.var (Int.natCast_nonneg _) (Int.ofNat_lt.2 (by omega))
theorem dup_gs {L n i j:Nat}{us os us' os':List Af}{f:Af}(hL:LOk L)(h:GS L n us os us' os')(hf:us'[i]? =some f)(hj:idxT (us'.take i) (txt f)=some j):
  j<i∧GS L n us os (repU n i (varS ((n+j:Nat):Int)) us') (os'.map (repF ((n+i:Nat):Int) (varS ((n+j:Nat):Int)))):=by
 obtain⟨g,h1,h2⟩:=idxT_some hj;have hji:j<i:=by have:=at_lt h1;rw[List.length_take]at this;omega
 rw[List.getElem?_take,if_pos hji]at h1;have hv:∀(k:Nat) (f:Af),us'[k]? =some f→∀t∈f.ts,0≤t.v:=fun k f hk t ht=>(((h.gk.uf k f hk).ts.cof_mem t ht).2.1);have e:g=f:=txt_inj (hv _ _ h1) (hv _ _ hf) h2;subst e;refine⟨hji,h.rep hL (at_lt hf) (dup_by hji) (.inl fun ξ hξ=> ?_)⟩;rw[hξ i g hf,ph_var,hξ j g h1]
theorem dupS_gs {L n:Nat}{us os:List Af}(hL:LOk L):∀(k i:Nat) (us' os':List Af),GS L n us os us' os'→GS L n us os (dupS n k i us' os').1 (dupS n k i us' os').2
 |0,_,_,_,h=>h
 |k+1,i,us',os',h=>by
  rw[dupS];split
  ·exact h
  ·rename_i f hf;split
   ·rename_i j hj;exact dupS_gs hL k i _ _ (dup_gs hL h hf hj).2
   ·exact dupS_gs hL k (i+1) _ _ h
theorem repU_take {n i:Nat}{b:Af}{us:List Af}(h:i≤us.length):(repU n i b us).take i=us.take i:=by
 unfold repU;rw[List.take_append_of_le_length (by rw[List.length_take];omega),List.take_take,Nat.min_self]
theorem u_msi:Tryz.prog.underlying 115=some (.map 9 3):=by kernel_rfl
theorem u_str9:Tryz.prog.underlying 9=some .string:=by kernel_rfl
theorem u_int3:Tryz.prog.underlying 3=some (.int .i64):=by kernel_rfl
theorem z_int3:(Tryz.prog.info? 3).bind (·.zero)=some (Lit.int .i64 0).value:=by kernel_rfl
abbrev mxT (n:Nat)(D:DataW Unit):MPred:=MXp Tryz.prog 9 3 n D
theorem key_str {l:List UInt8}(h:l.length≤1000000000000000):keyOf Tryz.prog 9 (strV l)=some (.string l):=by
 have:=Go.WideMaps.keyOf_string_mk (P:=Tryz.prog) (k:=9) u_str9 (s:=⟨l.toArray⟩) (by rw[str_size];unfold maxLen;omega);simpa using this
theorem dup_no {n:Nat}{D:DataW Unit}{l:List Af}{s:List UInt8}(h:MpT D l)(hs:s.length≤1000000000000000)(h0:idxT l s=none):LkNo Tryz.prog 115 (mxT n D) (strV s) 9 3 n D (.string s) (.int .i64 0):=
 ⟨u_msi,string_keyed u_str9,rfl,key_str hs,z_int3,fun zd=>by rw[h.2,h0]⟩
theorem dup_yes {n k:Nat}{D:DataW Unit}{l:List Af}{s:List UInt8}(h:MpT D l)(hs:s.length≤1000000000000000)(h0:idxT l s=some k):LkYes Tryz.prog 115 (mxT n D) (strV s) 9 3 n D (.string s) (.int .i64 0) (.int .i64 (k:Nat)):=
 ⟨u_msi,string_keyed u_str9,rfl,key_str hs,z_int3,fun zd=>by rw[h.2,h0],fun v ps h=>plain_int_inv h⟩
theorem dup_mu {n:Nat}{D:DataW Unit}{s:List UInt8}{k:Nat}(hs:s.length≤1000000000000000)(hk:k≤1000000)(hn:n≤1000000):MuOk Tryz.prog 115 (mxT n D) (strV s) (.int .i64 (k:Nat)) 9 3 n D (.string s) (.int .i64 (k:Nat)):=
 ⟨u_msi,string_keyed u_str9,rfl,key_str hs,plainElem_int u_int3 (WalkArith.wf_i64 (by omega)),by unfold maxLen;omega⟩
theorem txt_len {f:Af}(hn:f.ts.length≤1000)(ht:∀t∈f.ts,Sz t.q∧0≤t.v∧t.v<100)(hc:Sz f.c):(txt f).length≤1000000000000000:=by
 have h1:=acT_len (fun t h=>⟨(ht t h).1,(ht t h).2.2⟩) f.ts.length (lR_ _);have h2:=Nat.mul_le_mul_right 4000000013 hn;have h3:=szT_len hc;have h4:=sg_len (decide (acT f f.ts.length=[])) (decide (f.c<0));rw[txt_end];clear hc ht;split
 ·rw[List.length_append,List.length_append];omega
 ·omega
theorem FLv.txt {L e k:Nat}{n:Int}{f:Af}(hL:LOk L)(h:FLv L e k n f)(he:e≤100000)(hk:k≤100000)(hn:n≤100)(h0:0≤n):f.ts.length≤1000∧(∀t∈f.ts,Sz t.q∧0≤t.v∧t.v<100)∧Sz f.c:=by
 refine⟨by have:=h.ts.len h0;omega,fun t ht=> ?_,h.c.z hL hk⟩;obtain⟨c1,c2,c3,c4⟩:=h.ts.cof_mem t ht;have:=(h.co t.v).z hL he;rw[c1]at this;exact⟨this,c2,by omega⟩
theorem varS_wk {key:Nat}{v:Int}:WkV (.agg [.own key 4 [Tm.D ⟨v,((1:Int):Rat)⟩],.d (.lit (.bool false)),.d (.nat 0),.d (.nat 0)]) (.agg (varS v).A):=by
 show WkV _ (.agg (A.d _::(can 0).A));rw[can0];exact WkV.agg ⟨WkA.own,aR_ _,aR_ _,aR_ _,trivial⟩
theorem lx_dups {L n:Nat}{us os:List Af}(hL:LOk L)(h:Gk L n us os)(hn':n≤24)(ho':os.length≤24):
  LV Tryz.prog 35 [.agg (grA n us os)] (.agg (grA n (dupS n 60 0 us os).1 (dupS n 60 0 us os).2)):=by
 have hu:=h.u;refine LX_run (m:=0) (n0:=0) mix Tryz.func35 rfl rfl rfl rfl ?_;conv=>whnf
 refine .mk 9 3 ?_;conv=>whnf
 refine .mk (Nat×Nat×List Af×List Af×DataW Unit) (fun b=>⟨[(4,vl (.int .i64 (b.2.1:Nat))),(3,.a (.mp 2)),(2,.a (.ptr 1 0)),(1,.a (.ptr 0 0))],
  [(0,.box 36 (grA n b.2.2.1 b.2.2.2.1)),(1,.box 36 [.d (.lit (.int .i64 0)),.d (.lit (.slice none 0 0)),.d (.lit (.slice none 0 0))]),(2,.mp (mxT b.2.1 b.2.2.2.2))],3⟩)
  (fun b=>dupS n b.1 b.2.1 b.2.2.1 b.2.2.2.1=dupS n 60 0 us os∧2*b.2.2.1.length≤b.1+b.2.1∧b.2.1≤b.2.2.1.length∧GS L n us os b.2.2.1 b.2.2.2.1∧MpT b.2.2.2.2 (b.2.2.1.take b.2.1)) (fun b=>b.1) (60,0,us,os,.map []) Wk.go ⟨rfl,by simp only;omega,zL_ _,GS.refl h,isMap_empty,fun s zd=>rfl⟩ fun⟨k,i,us',os',D⟩ ⟨h1,h2,h3,h4,h5⟩=> ?_
 simp only at h1 h2 h3 h4 h5;have hu':=h4.gk.u;conv=>whnf
 refine bs (fun g0=> ?_) (fun g0=> ?_)
 ·conv=>whnf
  have hi':i<us'.length:=by simpa using g0
  obtain⟨k,rfl⟩:∃k',k=k'+1:=⟨k-1,by omega⟩;obtain⟨f,hf⟩:=at_some hi';rw[dupS,hf]at h1;simp only at h1;obtain⟨t1,t2,t3⟩:=(h4.gk.uf' hL hf).txt hL (by decide) (by decide) (by omega) (Int.natCast_nonneg _);have tl:=txt_len t1 t2 t3;have ct:=lx_text t1 t2 t3;clear t2 t3;refine .mk (i) (f.D) (rfl) (at_map hf) ?_;conv=>whnf
  conv=>whnf
  refine .c (ct) ?_;conv=>whnf
  cases hx:idxT (us'.take i) (txt f)with
  |some j=>
   obtain⟨hji,hgs⟩:=dup_gs hL h4 hf hx;have by_:=dup_by (L:=L) (n:=n) (k:=kL us'.length) hji;have hrl:(repU n i (varS ((n+j:Nat):Int)) us').length=us'.length-1:=repU_len hi';have htk:(repU n i (varS ((n+j:Nat):Int)) us').take i=us'.take i:=repU_take h3;have ew:IntKind.i64.wrap ((n:Int)+(j:Int))=((n+j:Nat):Int):=by rw[←Int.natCast_add,wrN (by omega)]
   rw[hx]at h1;simp only at h1;refine .yes _ _ _ _ _ _ _ (dup_yes h5 tl hx) ?_;conv=>whnf
   refine .c (lx_rof (z:=1) (by decide) (by decide)) ?_;conv=>whnf
   rw[ew];refine Cn.as (lx_repl (j:=i) hL h4 hn' ho' hi' by_) rfl ⟨vR_ _,vR_ _,varS_wk,trivial⟩ rfl rfl ?_;conv=>whnf
   refine .mk (by kernel_rfl) ?_;conv=>whnf
   generalize repU n i (varS ((n+j:Nat):Int)) us'=U at *
   exact⟨(k,i,U,_,D),Wk.go,⟨h1,by simp only;omega,by simp only;omega,hgs,by simp only;rw[htk];exact h5⟩,by simp only;omega⟩
  |none=>
   rw[hx]at h1;simp only at h1;have hl:(us'.take i).length=i:=by rw[List.length_take];omega
   have hpt:=h5.put hx;rw[hl,←take_snoc hf]at hpt;have ei:IntKind.i64.wrap ((i:Int)+1)=((i+1:Nat):Int):=by rw[wr64 (by omega) (by omega)];omega
   refine .no _ _ _ _ _ _ (dup_no h5 tl hx) ?_;conv=>whnf
   refine .mk _ _ _ _ _ _ (dup_mu (n:=i) (k:=i) tl (by omega) (by omega)) ?_;conv=>whnf
   rw[show((((k+1,i,us',os',D):Nat×Nat×List Af×List Af×DataW Unit).2.1:Nat):Int)=(i:Int)from rfl,ei];exact⟨(k,i+1,us',os',_),Wk.go,⟨h1,by simp only;omega,hi',h4,hpt⟩,by simp only;omega⟩
 ·conv=>whnf
  have hi':us'.length≤i:=by simpa using g0
  rw[dupS_end hi']at h1;rw[←h1];exact .q ⟨rfl,rfl⟩
end Go.Proofs.YtbegidaaiajffaaGreatDoor.Lf
namespace Go.Proofs.YtbegidaaiajffaaGreatDoor.Lf
open Go.RowKit Nt
attribute [local go_sem] Oper.semAt_some
def StA (gb:Nat)(ad:Option Addr)(tb o m cap:Nat)(vs:Nat→Nat→Value)(W:World):Prop:=W.cell? ⟨gb,0,none⟩=some (.slice ad m cap)∧(0<m→ad=some ⟨tb,o,none⟩)∧∀j,j<m→∀i,i<4→W.cell? ⟨tb,o+j*4+i,none⟩=some (vs j i)
abbrev encA (vs:Nat→Nat→Value)(j:Nat):Array Value:= #[.int .i64 (j:Nat),.agg #[vs j 0,vs j 1,vs j 2,vs j 3]]
def KpA (gb:Nat)(ad:Option Addr)(tb o m cap:Nat)(vs:Nat→Nat→Value)(A B:World):Prop:=StA gb ad tb o m cap vs A→StA gb ad tb o m cap vs B
theorem StA.on {gb:Nat}{ad:Option Addr}{tb o m cap:Nat}{vs:Nat→Nat→Value}{W W':World}(h:StA gb ad tb o m cap vs W)(k:∀b i v,W.cell? ⟨b,i,none⟩=some v→W'.cell? ⟨b,i,none⟩=some v):StA gb ad tb o m cap vs W':=
 ⟨k _ _ _ h.1,h.2.1,fun j hj i hi=>k _ _ _ (h.2.2 j hj i hi)⟩
theorem backA_in (n:Nat)(hn:1≤n)(l gb:Nat)(ad:Option Addr)(tb o m cap:Nat)(hm:m≤1000)(vs:Nat→Nat→Value)(J:Nat→World→Prop)
  (hY:∀k W,k<m→J k W→YieldAt Fence.wide (n-1) Tryz.prog l (encA vs (m-1-k)) W fun e W'=>e= .returned (.bool true)∧J (k+1) W'∧KpA gb ad tb o m cap vs W W')
  (W:World) (hW:StA gb ad tb o m cap vs W) (h0:J 0 W):
  CallsIn Fence.wide n Tryz.prog 126 #[.func (.yield l) #[] #[],.pointer (some ⟨gb,0,none⟩)] W fun e W'=>(∃v,e= .returned v)∧J m W':=by
 refine callsIn_of_wp Tryz.func126 rfl trivial ?_ rfl;simp only[Tryz.ntmps126,List.size_toArray,List.length_cons,List.length_nil,Nat.reduceAdd,Nat.reduceSub,Array.replicate_succ,Array.replicate_zero,List.push_toArray,List.append_toArray,List.nil_append,List.cons_append];have d0:=hW.1
 gi_wp2_with fail
 gi_loopw [3] (fun i wr=>∃k:Nat,k≤m∧i= .int .i64 ((m:Int)-k-1)∧StA gb ad tb o m cap vs wr∧J k wr) (fun i _=>(intOf i+1).toNat)
 case atStart=>exact⟨0,zL_ _,by go_num,hW,h0⟩
 case round=>
  obtain⟨k,hk,rfl,hWr,hJr⟩:=hrel;clear d0;have d0:=hWr.1
  by_cases hlt:k<m
  ·obtain⟨j,hj⟩:∃j:Nat,j=m-1-k:=⟨_,rfl⟩;have ej:(m:Int)-k-1=(j:Int):=by omega
   have hjm:j<m:=by omega
   have had:=hWr.2.1 (Nat.lt_of_le_of_lt (zL_ _) hlt);subst had;have c0:=hWr.2.2 j hjm 0 (by decide);have c1:=hWr.2.2 j hjm 1 (by decide);have c2:=hWr.2.2 j hjm 2 (by decide);have c3:=hWr.2.2 j hjm 3 (by decide);rw[Nat.add_zero]at c0;obtain⟨fn,tmps,assign,body,hy,hR⟩:=hY k wr hlt hJr;rw[←hj]at hy
   dsimp only[encA]at hy
   rw[ej]
   have hfin:∀{W3:World},J (k+1) W3→KpA gb (some ⟨tb,o,none⟩) tb o m cap vs wr W3→(∃k':Nat,k'≤m∧Value.int .i64 ((j:Int)-1)= .int .i64 ((m:Int)-k'-1)∧StA gb (some ⟨tb,o,none⟩) tb o m cap vs W3∧J k' W3)∧
     (intOf (Value.int .i64 ((j:Int)-1))+1).toNat<(intOf (Value.int .i64 (j:Int))+1).toNat:=fun h1 h2=>
    ⟨⟨k+1,hlt,by congr 1;omega,h2 hWr,h1⟩,by simp only[intOf];omega⟩
   clear hj ej;gi_wp2;refine hR.mono ?_;rintro e W3 ⟨rfl,hJ3,hk3⟩;gi_wp2;exact hfin hJ3 hk3
  ·have hkm:k=m:=by omega
   subst hkm;have ej:(k:Int)-k-1= -1:=by omega
   rw[ej];clear ej hlt;gi_wp2
   go_end0
   exact⟨⟨_,rfl⟩,hJr⟩
def StB (gb tb o m cap:Nat)(vs:Nat→Bool)(W:World):Prop:=W.cell? ⟨gb,0,none⟩=some (.slice (some ⟨tb,o,none⟩) m cap)∧∀j,j<m→W.cell? ⟨tb,o+j,none⟩=some (.bool (vs j))
abbrev encB (vs:Nat→Bool)(j:Nat):Array Value:= #[.int .i64 (j:Nat),.bool (vs j)]
def KpB (gb tb o m cap:Nat)(vs:Nat→Bool)(A B:World):Prop:=StB gb tb o m cap vs A→StB gb tb o m cap vs B
theorem backB_in (n:Nat)(hn:1≤n)(l gb tb o m cap:Nat)(hm:m≤1000)(vs:Nat→Bool)(J:Nat→World→Prop)
  (hY:∀k W,k<m→J k W→YieldAt Fence.wide (n-1) Tryz.prog l (encB vs (m-1-k)) W fun e W'=>e= .returned (.bool true)∧J (k+1) W'∧KpB gb tb o m cap vs W W')
  (W:World) (hW:StB gb tb o m cap vs W) (h0:J 0 W):
  CallsIn Fence.wide n Tryz.prog 127 #[.func (.yield l) #[] #[],.pointer (some ⟨gb,0,none⟩)] W fun e W'=>(∃v,e= .returned v)∧J m W':=by
 refine callsIn_of_wp Tryz.func127 rfl trivial ?_ rfl;simp only[Tryz.ntmps127,List.size_toArray,List.length_cons,List.length_nil,Nat.reduceAdd,Nat.reduceSub,Array.replicate_succ,Array.replicate_zero,List.push_toArray,List.append_toArray,List.nil_append,List.cons_append];have d0:=hW.1
 gi_wp2_with fail
 gi_loopw [3] (fun i wr=>∃k:Nat,k≤m∧i= .int .i64 ((m:Int)-k-1)∧StB gb tb o m cap vs wr∧J k wr) (fun i _=>(intOf i+1).toNat)
 case atStart=>exact⟨0,zL_ _,by go_num,hW,h0⟩
 case round=>
  obtain⟨k,hk,rfl,hWr,hJr⟩:=hrel;clear d0;have d0:=hWr.1
  by_cases hlt:k<m
  ·obtain⟨j,hj⟩:∃j:Nat,j=m-1-k:=⟨_,rfl⟩;have ej:(m:Int)-k-1=(j:Int):=by omega
   have hjm:j<m:=by omega
   have c0:=hWr.2 j hjm;obtain⟨fn,tmps,assign,body,hy,hR⟩:=hY k wr hlt hJr;rw[←hj]at hy
   dsimp only[encB]at hy
   rw[ej]
   have hfin:∀{W3:World},J (k+1) W3→KpB gb tb o m cap vs wr W3→(∃k':Nat,k'≤m∧Value.int .i64 ((j:Int)-1)= .int .i64 ((m:Int)-k'-1)∧StB gb tb o m cap vs W3∧J k' W3)∧
     (intOf (Value.int .i64 ((j:Int)-1))+1).toNat<(intOf (Value.int .i64 (j:Int))+1).toNat:=fun h1 h2=>
    ⟨⟨k+1,hlt,by congr 1;omega,h2 hWr,h1⟩,by simp only[intOf];omega⟩
   clear hj ej;gi_wp2;refine hR.mono ?_;rintro e W3 ⟨rfl,hJ3,hk3⟩;gi_wp2;exact hfin hJ3 hk3
  ·have hkm:k=m:=by omega
   subst hkm;have ej:(k:Int)-k-1= -1:=by omega
   rw[ej];clear ej hlt;gi_wp2
   go_end0
   exact⟨⟨_,rfl⟩,hJr⟩
end Go.Proofs.YtbegidaaiajffaaGreatDoor.Lf
namespace Go.Proofs.YtbegidaaiajffaaGreatDoor.Lf
open Go.RowKit Nt
def Own5 (g b:Nat):Prop:=g≤b∧b<g+5
def MD (M:MS)(g:Nat):MS:=fun b i=>M b i∨Own5 g b
def γd (g:Nat):Gh:=fun k=>if k=0 then .pointer (some ⟨g,0,none⟩)else if k=1 then .pointer (some ⟨g+3,0,none⟩)else .pointer (some ⟨g+2,0,none⟩)
def cloV (g:Nat):Value:= .func (.func 70) #[] #[.pointer (some ⟨g,0,none⟩),.pointer (some ⟨g+3,0,none⟩)]
structure DS (M:MS)(g n:Nat)(us os:List Af)(ms:List Bool)(W:World):Prop where
 g0:∃u v,W.heap[g]? =some (.cells [Value.int .i64 (n:Nat),u,v].toArray 36 (0,0))∧RdD (MD M g) W (afsD us) u∧RdD (MD M g) W (afsD os) v
 g1:W.heap[g+1]? =some (.cells [Value.int .i64 0,.slice none 0 0,.slice none 0 0].toArray 36 (0,0))
 g2:∃sp:List Value,W.heap[g+2]? =some (.cells (ms.map Value.bool++sp).toArray 4 (0,0))
 g3:∃c,ms.length≤c∧W.heap[g+3]? =some (.cells [Value.slice (some ⟨g+2,0,none⟩) ms.length c].toArray 118 (0,0))
 g4:∃t,W.heap[g+4]? =some (.cells [cloV g].toArray t (0,0))
 dom:∀b i,M b i→b<g
 u32:∀b i n,MD M g b i→W.cell? ⟨b,i,none⟩≠some (.int .u32 n)
 glb:Glb (MD M g) W
structure Kd (g:Nat)(W W':World):Prop where
 os:W'.os=W.os
 tape:W'.tape=W.tape
 output:W'.output=W.output
 size:W.heap.size≤W'.heap.size
 other:∀b,b<W.heap.size→¬Own5 g b→W'.heap[b]? =W.heap[b]?
theorem Kd.refl {g:Nat}{W:World}:Kd g W W:=⟨rfl,rfl,rfl,lR_ _,fun _ _ _=>rfl⟩
theorem Kd.trans {g:Nat}{A B C:World}(h:Kd g A B)(k:Kd g B C):Kd g A C:=
 ⟨k.os.trans h.os,k.tape.trans h.tape,k.output.trans h.output,tL_ h.size k.size,fun b hb hm=>(k.other b (Nat.lt_of_lt_of_le hb h.size) hm).trans (h.other b hb hm)⟩
theorem Kd.of {g:Nat}{W W':World}(h:Below W.heap.size W W'):Kd g W W':=⟨h.os,h.tape,h.output,h.size,fun b hb _=>h.block b hb⟩
theorem Kd.fx {M:MS}{g:Nat}{W W':World}(h:Kd g W W'):∀b i v,Fx (MD M g) W b i v→Fx (MD M g) W' b i v:=fun b i v k=>
 ⟨k.1,by rw[World.cell?_of_block (w:=W) (a:=⟨b,i,none⟩) (h.other b (World.block_lt_of_cell? _ _ k.2) fun ho=>k.1 (.inr ho))];exact k.2⟩
theorem Kd.cell {g:Nat}{W W':World}(h:Kd g W W'){b i:Nat}{v:Value}(hb:¬Own5 g b)(k:W.cell? ⟨b,i,none⟩=some v):W'.cell? ⟨b,i,none⟩=some v:=by
 rw[World.cell?_of_block (w:=W) (a:=⟨b,i,none⟩) (h.other b (World.block_lt_of_cell? _ _ k) hb)];exact k
theorem DS.size {M:MS}{g n:Nat}{us os:List Af}{ms:List Bool}{W:World}(h:DS M g n us os ms W):g+4<W.heap.size:=let ⟨_,h4⟩:=h.g4;(Array.getElem?_eq_some_iff.1 h4).1
theorem DS.domW {M:MS}{g n:Nat}{us os:List Af}{ms:List Bool}{W:World}(h:DS M g n us os ms W){b i:Nat}(hm:MD M g b i):b<W.heap.size:=by
 have hs:=h.size;rcases hm with hm|hm
 ·have:=h.dom b i hm;omega
 ·have:=hm.2;omega
theorem DS.to {M:MS}{g n:Nat}{us os:List Af}{ms:List Bool}{W W':World}(h:DS M g n us os ms W)(k:Below W.heap.size W W'):DS M g n us os ms W':=by
 have hs:=h.size;have hdw:= @DS.domW _ _ _ _ _ _ _ h;have e:∀i,i<5→W'.heap[g+i]? =W.heap[g+i]?:=fun i hi=>k.block _ (by omega);obtain⟨⟨u,v,h0,ru,rv⟩,h1,⟨sp,h2⟩,⟨c,hc,h3⟩,⟨t4,h4⟩,hd,h5,h6⟩:=h;refine⟨⟨u,v,(e 0 (by decide)).trans h0,RdD.fx (Kd.of k).fx ru,RdD.fx (Kd.of k).fx rv⟩,(e 1 (by decide)).trans h1,⟨sp,(e 2 (by decide)).trans h2⟩,⟨c,hc,(e 3 (by decide)).trans h3⟩,⟨t4,(e 4 (by decide)).trans h4⟩,hd,fun b i n hm=> ?_,h6.fx (Kd.of k).fx⟩;rw[World.cell?_of_block (w:=W) (a:=⟨b,i,none⟩) (k.block b (hdw hm))];exact h5 b i n hm
theorem bsV_rd {M:MS}{w:World}:∀ms:List Bool,All2 (RdD M w) (bsR ms).flatten (ms.map Value.bool)
 |[]=>trivial
 |b::ms=>⟨.lit _,bsV_rd ms⟩
theorem bsV_inv {M:MS}{w:World}:∀(ms:List Bool) (vs:List Value),All2 (RdD M w) (bsR ms).flatten vs→vs=ms.map Value.bool
 |[],[],_=>rfl
 |[],_::_,h=>h.elim
 |b::ms,[],h=>h.elim
 |b::ms,v::vs,h=>by rw[lit_inv h.1,bsV_inv ms vs h.2];rfl
theorem DS.rel {M:MS}{g n:Nat}{us os:List Af}{ms:List Bool}{W:World}(h:DS M g n us os ms W):Rel (γd g) (look (deH n us os ms)) (MD M g) W:=by
 have hs:=h.size;have hdw:= @DS.domW _ _ _ _ _ _ _ h;obtain⟨⟨u,v,h0,ru,rv⟩,h1,⟨sp,h2⟩,⟨c,hc,h3⟩,⟨t4,h4⟩,hd,h5,h6⟩:=h
 have ex:∀key e,look (deH n us os ms) key=some e→(key=0∧e= .box 36 (grA n us os))∨(key=1∧e= .box 118 [.tab 2 ms.length])∨(key=2∧e= .tab 4 1 (bsR ms)):=fun key e he=>by
  match key,he with
  |0,he=>exact .inl ⟨rfl,by simpa [look]using he.symm⟩
  |1,he=>exact .inr (.inl ⟨rfl,by simpa [look]using he.symm⟩)
  |2,he=>exact .inr (.inr ⟨rfl,by simpa [look]using he.symm⟩)
  |k+3,he=>exact absurd he (by simp[look])
 have bk:∀key b,(look (deH n us os ms) key).isSome=true→blk (γd g key)=some b→(key=0∧b=g)∨(key=1∧b=g+3)∨(key=2∧b=g+2):=fun key b he hb=>by
  obtain⟨e,he⟩:=Option.isSome_iff_exists.1 he;rcases ex key e he with⟨rfl,_⟩|⟨rfl,_⟩|⟨rfl,_⟩
  ·exact .inl ⟨rfl,by simpa [γd,blk]using hb.symm⟩
  ·exact .inr (.inl ⟨rfl,by simpa [γd,blk]using hb.symm⟩)
  ·exact .inr (.inr ⟨rfl,by simpa [γd,blk]using hb.symm⟩)
 have lv:∀key,live (look (deH n us os ms) key)=true→(look (deH n us os ms) key).isSome=true:=fun key hl=>by
  cases hk:look (deH n us os ms) key with
  |none=>rw[hk]at hl;cases hl
  |some e=>rfl
 refine⟨fun key e he=> ?_,fun key b i ho=> ?_,fun k1 k2 b l1 l2 b1 b2=> ?_,h5,fun b i hm=>hdw hm,h6⟩
 ·rcases ex key e he with⟨rfl,rfl⟩|⟨rfl,rfl⟩|⟨rfl,rfl⟩
  ·exact⟨g,_,rfl,h0,.lit _,ru,rv,trivial⟩
  ·refine⟨g+3,_,rfl,h3,⟨rfl,⟨g+2,c,rfl,rfl,hc⟩,fun e k rows hr=> ?_⟩,trivial⟩;have:(Ent.tab 4 1 (bsR ms))= .tab e k rows:=by simpa [look]using hr
   injection this with _ _ h3;rw[←h3];simp
  ·refine⟨g+2,ms.map Value.bool,sp,rfl,h2,fun row hr=> ?_,?_,fun v hv=> ?_⟩
   ·obtain⟨b,_,rfl⟩:=List.mem_map.1 hr;rfl
   ·exact bsV_rd ms
   ·obtain⟨b,_,rfl⟩:=List.mem_map.1 hv;rfl
 ·have hl:live (look (deH n us os ms) key)=true∧blk (γd g key)=some b:=by
   unfold Owns at ho
   cases hk:look (deH n us os ms) key with
   |none=>rw[hk]at ho;exact ho.elim
   |some e=>
    rcases ex key e hk with⟨rfl,rfl⟩|⟨rfl,rfl⟩|⟨rfl,rfl⟩<;>(rw[hk]at ho;exact⟨rfl,ho⟩)
  rcases bk key b (lv key hl.1) hl.2 with⟨_,rfl⟩|⟨_,rfl⟩|⟨_,rfl⟩<;>exact .inr ⟨by omega,by omega⟩
 ·rcases bk k1 b (lv k1 l1) b1 with⟨e1,e2⟩|⟨e1,e2⟩|⟨e1,e2⟩<;>rcases bk k2 b (lv k2 l2) b2 with⟨e3,e4⟩|⟨e3,e4⟩|⟨e3,e4⟩<;>omega
theorem md_sub {M:MS}{g n:Nat}{us os:List Af}{ms ms':List Bool}{W W':World}{γ':Gh}{M':MS}(hr:Rel γ' (look (deH n us os ms')) M' W')(hs:Stp (γd g) (look (deH n us os ms)) (MD M g) W γ' (look (deH n us os ms')) M' W'):
  (γ' 0=γd g 0∧γ' 1=γd g 1∧γ' 2=γd g 2)∧∀b i,MD M g b i→M' b i:=by
 have k0:γ' 0=γd g 0:=by
  obtain⟨e',h1,_,h2⟩:=hs.key 0 _ rfl;rcases h2 with h2|h2
  ·exact h2
  ·cases e'<;>exact h2.elim
 have k1:γ' 1=γd g 1:=by
  obtain⟨e',h1,_,h2⟩:=hs.key 1 _ rfl;rcases h2 with h2|h2
  ·exact h2
  ·cases e'<;>exact h2.elim
 have k2:γ' 2=γd g 2:=by
  obtain⟨e',h1,_,h2⟩:=hs.key 2 _ rfl;rcases h2 with h2|h2
  ·exact h2
  ·cases e'<;>exact h2.elim
 refine⟨⟨k0,k1,k2⟩,fun b i hm=> ?_⟩;have o0:b=g→M' b i:=fun e=>hr.own 0 b i (show blk (γ' 0)=some b by rw[k0,e];rfl);have o1:b=g+3→M' b i:=fun e=>hr.own 1 b i (show blk (γ' 1)=some b by rw[k1,e];rfl);have o2:b=g+2→M' b i:=fun e=>hr.own 2 b i (show blk (γ' 2)=some b by rw[k2,e];rfl)
 by_cases h0:b=g
 ·exact o0 h0
 ·by_cases h1:b=g+3
  ·exact o1 h1
  ·by_cases h2:b=g+2
   ·exact o2 h2
   ·refine hs.keep b i hm fun key ho=> ?_
    match key,ho with
    |0,ho=>exact h0 (by simpa [Owns,look,γd,blk]using (show blk (γd g 0)=some b from ho).symm)
    |1,ho=>exact h1 (by simpa [Owns,look,γd,blk]using (show blk (γd g 1)=some b from ho).symm)
    |2,ho=>exact h2 (by simpa [Owns,look,γd,blk]using (show blk (γd g 2)=some b from ho).symm)
    |k+3,ho=>exact ho.elim
theorem de1_at {M:MS}{g n:Nat}{us os:List Af}{ms:List Bool}{f:Af}{W:World}{fv:Value}(h:DS M g n us os ms W)(hn:n≤24)(hb:ms.length≤100)(hf:Ts ((n+ms.length:Nat):Int) f)
  (hr:∀(γ:Gh) (hh:Hp),RdV γ hh (MD M g) W (.agg f.A) fv):
  Calls Tryz.prog 70 #[fv,.pointer (some ⟨g,0,none⟩),.pointer (some ⟨g+3,0,none⟩)] W fun e W'=>(∃r,e= .returned r)∧DS M g n us os (mkF n ms f) W'∧Kd g W W':=by
 obtain⟨v,H',⟨rfl,rfl⟩,hc⟩:=lx_dead1 (us:=us) (os:=os) hn hb hf;have hrel:=h.rel;refine cM (hc (γd g) (MD M g) W [fv,.pointer (some ⟨g,0,none⟩),.pointer (some ⟨g+3,0,none⟩)] hrel ⟨hr _ _,⟨rfl,g,rfl,rfl⟩,⟨rfl,g+3,rfl,rfl⟩,trivial⟩) ?_;rintro e W' ⟨r,γ',M',rfl,h1,h2,h3⟩;obtain⟨⟨k0,k1,k2⟩,hsub⟩:=md_sub h1 h3;have hsz:=h.size;have toD:∀{d:D} {v:Value},RdD M' W' d v→RdD (MD M g) W' d v:=fun k=>RdD.fx (fun b i v q=>⟨fun hm=>q.1 (hsub b i hm),q.2⟩) k
 have oth:∀b,b<W.heap.size→b≠g→b≠g+2→b≠g+3→W'.heap[b]? =W.heap[b]?:=fun b hb n0 n2 n3=>h3.other b hb fun key i ho=>by
  match key,ho with
  |0,ho=>exact n0 (by simpa [γd,blk]using (show blk (γd g 0)=some b from ho).symm)
  |1,ho=>exact n3 (by simpa [γd,blk]using (show blk (γd g 1)=some b from ho).symm)
  |2,ho=>exact n2 (by simpa [γd,blk]using (show blk (γd g 2)=some b from ho).symm)
  |k+3,ho=>exact ho.elim
 refine⟨⟨r,rfl⟩,⟨?_,(oth _ (by omega) (by omega) (by omega) (by omega)).trans h.g1,?_,?_,?_,h.dom,fun b i n hm=>h1.u32 b i n (hsub b i hm),h1.glb.fx fun b i v q=>⟨fun hm=>q.1 (hsub b i hm),q.2⟩⟩,
  ⟨h3.os,h3.tape,h3.output,h3.size,fun b hb hm=>oth b hb (fun e=>hm ⟨by omega,by omega⟩) (fun e=>hm ⟨by omega,by omega⟩) (fun e=>hm ⟨by omega,by omega⟩)⟩⟩
 ·obtain⟨g',vs,e1,e2,e3⟩:=h1.ent 0 _ rfl;rw[k0]at e1;obtain rfl:g=g':=by simpa [γd]using e1
  match vs,e3 with
  |[a,u,v],e3=>
   obtain rfl:=lit_inv e3.1;exact⟨u,v,e2,toD e3.2.1,toD e3.2.2.1⟩
 ·obtain⟨g',vs,sp,e1,e2,e3,e4,e5⟩:=h1.ent 2 _ rfl;rw[k2]at e1;obtain rfl:g+2=g':=by simpa [γd]using e1
  exact⟨sp,by rw[bsV_inv _ _ e4]at e2;exact e2⟩
 ·obtain⟨g',vs,e1,e2,e3⟩:=h1.ent 1 _ rfl;rw[k1]at e1;obtain rfl:g+3=g':=by simpa [γd]using e1
  match vs,e3 with
  |[a],e3=>
   obtain⟨_,⟨g2,c,q1,q2,q3⟩,_⟩:=e3.1;rw[k2]at q1;obtain rfl:g+2=g2:=by simpa [γd]using q1
   exact⟨c,q3,by rw[q2]at e2;exact e2⟩
 ·obtain⟨t,h4⟩:=h.g4;exact⟨t,(oth _ (by omega) (by omega) (by omega) (by omega)).trans h4⟩
theorem cells_of_cell {X:World}{b i:Nat}{v:Value}{o:Obj}(k:X.cell? ⟨b,i,none⟩=some v)(h:X.heap[b]? =some o):o.isCells=true:=by
 cases o<;>simp_all [World.cell?,Obj.isCells]
theorem gr_cell {X Y:World}{row:Option Nat}(hg:X.grownBy Y row)(hr:∀r,row=some r→∃o:Obj,X.heap[r]? =some o∧o.isCells=false){b i:Nat}{v:Value}(k:X.cell? ⟨b,i,none⟩=some v):Y.cell? ⟨b,i,none⟩=some v:=by
 have hl:=World.block_lt_of_cell? _ _ k;rw[World.cell?_of_block (w:=X) (a:=⟨b,i,none⟩) (grownBy_keeps_cells hg hr (Array.getElem?_eq_getElem hl) (cells_of_cell k (Array.getElem?_eq_getElem hl)))];exact k
theorem DS.grown {M:MS}{g n:Nat}{us os:List Af}{ms:List Bool}{X Y:World}{row:Option Nat}(h:DS M g n us os ms X)(hg:X.grownBy Y row)(hr:∀r,row=some r→g+5≤r∧∃o:Obj,X.heap[r]? =some o∧o.isCells=false):DS M g n us os ms Y:=by
 have fx:∀b i v,Fx (MD M g) X b i v→Fx (MD M g) Y b i v:=fun b i v k=>⟨k.1,gr_cell hg (fun r e=>(hr r e).2) k.2⟩;have hs:=h.size;obtain⟨⟨u,v,h0,ru,rv⟩,h1,⟨sp,h2⟩,⟨c,hc,h3⟩,⟨t4,h4⟩,hd,h5,h6⟩:=h;have e:∀i cs t,X.heap[g+i]? =some (.cells cs t (0,0))→Y.heap[g+i]? =some (.cells cs t (0,0)):=fun i cs t hi=>(grownBy_keeps_cells hg (fun r e=>(hr r e).2) hi rfl).trans hi;refine⟨⟨u,v,e 0 _ _ h0,RdD.fx fx ru,RdD.fx fx rv⟩,e 1 _ _ h1,⟨sp,e 2 _ _ h2⟩,⟨c,hc,e 3 _ _ h3⟩,⟨t4,e 4 _ _ h4⟩,hd,fun b i n hm=> ?_,h6.fx fx⟩;have hbb:b<g+5:=by
  rcases hm with hm|hm
  ·have:=hd b i hm;omega
  ·exact hm.2
 rw[World.cell?_of_block (w:=X) (a:=⟨b,i,none⟩) (hg.block b (by omega) fun e=>by have:=(hr b e.symm).1;omega)];exact h5 b i n hm
theorem Kd.grown {g B:Nat}{W X Y:World}{row:Option Nat}(h:Kd g W X)(hg:X.grownBy Y row)(hr:∀r,row=some r→B≤r∧∃o:Obj,X.heap[r]? =some o∧o.isCells=false)(hB:W.heap.size≤B):Kd g W Y:=
 ⟨hg.os.trans h.os,hg.tape.trans h.tape,hg.output.trans h.output,tL_ h.size hg.size,fun b hb hm=>(hg.block b (Nat.lt_of_lt_of_le hb h.size) fun e=>by have:=(hr b e.symm).1;omega).trans (h.other b hb hm)⟩
theorem Kd.keeps {g B:Nat}{W X:World}(h:Kd g W X)(hB:g+5≤B):KeepsFrom B W X:=
 ⟨h.size,fun k o hk ho _=>(h.other k (Array.getElem?_eq_some_iff.1 ho).1 fun hm=>by have:=hm.2;omega).trans ho⟩
theorem af_cells {M:MS}{w:World}{l:List Af}{a:Option Addr}{m c k:Nat}{f:Af}(h:RdD M w (afsD l) (.slice a m c))(hk:l[k]? =some f):
  ∃b o v0 v1 v2 v3,a=some ⟨b,o,none⟩∧Fx M w b (o+k*4) v0∧Fx M w b (o+k*4+1) v1∧Fx M w b (o+k*4+2) v2∧Fx M w b (o+k*4+3) v3∧All2 (RdD M w) f.D [v0,v1,v2,v3]:=by
 generalize hx:Value.slice a m c=x at h
 cases h with
 |sl k' ys ad cap vs hc hl h0 hk' h1 hr=>
  injection hx with e1 e2 e3;subst e1;have hlt:=at_lt hk;obtain⟨b,o,rfl,hf⟩:=h0 (by rw[List.length_map];omega);have hm:(l.map Af.D)[k]? =some f.D:=at_map hk;have q:∀j d,f.D[j]? =some d→Fx M w b (o+k*4+j) (vs k j)∧RdD M w d (vs k j):=fun j d hj=>⟨hf k _ j d hm hj,hr k _ j d hm hj⟩;exact⟨b,o,_,_,_,_,rfl,(q 0 _ rfl).1,(q 1 _ rfl).1,(q 2 _ rfl).1,(q 3 _ rfl).1,(q 0 _ rfl).2,(q 1 _ rfl).2,(q 2 _ rfl).2,(q 3 _ rfl).2,trivial⟩
theorem af_rd {M:MS}{w:World}{f:Af}{vs:List Value}(h:All2 (RdD M w) f.D vs):∀(γ:Gh) (hh:Hp),RdV γ hh M w (.agg f.A) (.agg vs.toArray):=fun γ hh=>by
 match vs,h with
 |[a,b,c,d],h=>exact⟨_,rfl,h.1,h.2.1,h.2.2.1,h.2.2.2.1,trivial⟩
end Go.Proofs.YtbegidaaiajffaaGreatDoor.Lf
