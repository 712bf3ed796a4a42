/- Texts Bf Bg Bh Ca of this proof, in this order. -/
import Derived.Test.YtbegidaaiajffaaGreatDoorU01
import Derived.OneCell
import Derived.Test.YtbegidaaiajffaaGreatDoorU03
import Derived.Deep.RegionHeld3
import Derived.Deep.MidRow
set_option linter.unusedVariables false
set_option linter.unusedSimpArgs false
set_option maxRecDepth 100000
set_option maxHeartbeats 4000000
namespace Go.Proofs.YtbegidaaiajffaaGreatDoor
open Go.RowKit Nt
def Box (w:World)(g:Nat)(t:TypeId)(cs:Array Value):Prop:=w.heap[g]? =some (.cells cs t (0,0))
theorem Box.lt {w:World}{g:Nat}{t:TypeId}{cs:Array Value}(h:Box w g t cs):g<w.heap.size:=lt_of_block h
theorem Box.new (w:World)(t:TypeId)(cs:Array Value):Box (w.alloc (.cells cs t)) w.heap.size t cs:=
 heap_alloc_new w _
theorem Box.newAt (w:World)(t:TypeId)(cs:Array Value){n:Nat}(hn:n=w.heap.size):Box (w.alloc (.cells cs t)) n t cs:=by subst hn;exact Box.new _ _ _
theorem Box.alloc {w:World}{g:Nat}{t:TypeId}{cs:Array Value}(h:Box w g t cs)(o:Obj):Box (w.alloc o) g t cs:=
 (Below.heap_alloc w o g h.lt).trans h
theorem Box.drew {w:World}{g:Nat}{t:TypeId}{cs:Array Value}(h:Box w g t cs):Box w.drew g t cs:=h
theorem Box.below {w w':World}{g B:Nat}{t:TypeId}{cs:Array Value}(h:Box w g t cs)(hb:Below B w w')(hg:g<B):Box w' g t cs:=(hb.block g hg).trans h
theorem Box.call {w w':World}{g:Nat}{t:TypeId}{cs:Array Value}(h:Box w g t cs)(hb:Below w.heap.size w w'):Box w' g t cs:=h.below hb h.lt
theorem Box.cell {w:World}{g:Nat}{t:TypeId}{cs:Array Value}(h:Box w g t cs)(i:Nat){v:Value}(hv:cs[i]? =some v):w.cell? ⟨g,i,none⟩=some v:=by
 unfold Box at h;simp[World.cell?,h,hv]
theorem Box.free {w:World}{g:Nat}{t:TypeId}{cs:Array Value}(h:Box w g t cs)(i:Nat):w.frozen? ⟨g,i,none⟩=false:=by
 unfold Box at h;simp[World.frozen?,h]
theorem Box.other {w:World}{g b i:Nat}{t:TypeId}{cs:Array Value}{u:Value}(h:Box w g t cs)(hne:g≠b):Box (w.setCell ⟨b,i,none⟩ u) g t cs:=
 (Below.heap_setCell w _ _ g hne).trans h
theorem Box.set {w:World}{g i:Nat}{t:TypeId}{cs:Array Value}{u:Value}(h:Box w g t cs):Box (w.setCell ⟨g,i,none⟩ u) g t (cs.setIfInBounds i u):=by
 have hlt:=h.lt;have h':w.heap[g]= .cells cs t (0,0):=by unfold Box at h;simpa [Array.getElem?_eq_getElem hlt]using h
 show(w.heap.modify g _)[g]? =_;rw[Array.getElem?_eq_getElem (by simpa using hlt),Array.getElem_modify_self,h'];rfl
theorem Box.set2 {w:World}{g:Nat}{t:TypeId}{x y x' y':Value}(h:Box w g t #[x,y]):Box ((w.setCell ⟨g,0,none⟩ x').setCell ⟨g,1,none⟩ y') g t #[x',y']:=(h.set (i:=0)).set (i:=1)
theorem Box.set3 {w:World}{g:Nat}{t:TypeId}{x y z x' y' z':Value}(h:Box w g t #[x,y,z]):Box (((w.setCell ⟨g,0,none⟩ x').setCell ⟨g,1,none⟩ y').setCell ⟨g,2,none⟩ z') g t #[x',y',z']:=((h.set (i:=0)).set (i:=1)).set (i:=2)
theorem Box.far2 {w:World}{g b:Nat}{t:TypeId}{cs:Array Value}{x y:Value}(h:Box w g t cs)(hne:g≠b):Box ((w.setCell ⟨b,0,none⟩ x).setCell ⟨b,1,none⟩ y) g t cs:=(h.other hne).other hne
theorem Box.far3 {w:World}{g b:Nat}{t:TypeId}{cs:Array Value}{x y z:Value}(h:Box w g t cs)(hne:g≠b):Box (((w.setCell ⟨b,0,none⟩ x).setCell ⟨b,1,none⟩ y).setCell ⟨b,2,none⟩ z) g t cs:=((h.other hne).other hne).other hne
theorem Box.c2 {w:World}{g:Nat}{t:TypeId}{x y:Value}(h:Box w g t #[x,y]):w.cell? ⟨g,0,none⟩=some x∧w.cell? ⟨g,1,none⟩=some y∧w.frozen? ⟨g,0,none⟩=false∧w.frozen? ⟨g,1,none⟩=false:=
 ⟨h.cell 0 rfl,h.cell 1 rfl,h.free 0,h.free 1⟩
theorem Box.c3 {w:World}{g:Nat}{t:TypeId}{x y z:Value}(h:Box w g t #[x,y,z]):
  w.cell? ⟨g,0,none⟩=some x∧w.cell? ⟨g,1,none⟩=some y∧w.cell? ⟨g,2,none⟩=some z∧w.frozen? ⟨g,0,none⟩=false∧w.frozen? ⟨g,1,none⟩=false∧w.frozen? ⟨g,2,none⟩=false:=
 ⟨h.cell 0 rfl,h.cell 1 rfl,h.cell 2 rfl,h.free 0,h.free 1,h.free 2⟩
def Keep (w w':World):Prop:=∀v xs,Sl w v xs→Sl w' v xs
theorem Keep.trans {a b c:World}(h:Keep a b)(k:Keep b c):Keep a c:=fun v xs s=>k v xs (h v xs s)
theorem Keep.call {w w':World}(hb:Below w.heap.size w w'):Keep w w':=fun _ _ h=>h.below hb
abbrev kC:= @Keep.call
theorem Keep.alloc (w:World)(o:Obj):Keep w (w.alloc o):=kC ((bR_ _ _).alloc (lR_ _) o)
theorem Keep.drew (w:World):Keep w w.drew:=fun _ _ h=>h.drew
theorem Keep.poke {w:World}{p:Addr}{x u:Value}(hp:w.cell? p=some x)(hx:∀k n,x≠ .int k n):Keep w (w.setCell p u):=by
 rintro v xs ⟨ad,n,cap,hv,hl,hc,hm,hlm,hs⟩;refine⟨ad,n,cap,hv,hl,hc,hm,hlm,fun h0=> ?_⟩;obtain⟨b,off,ha,hbs,hcell⟩:=hs h0;refine⟨b,off,ha,by simpa using hbs,fun i hi=> ?_⟩;have hne:p≠⟨b,off+i,none⟩:=by
  rintro rfl;rw[hcell i hi]at hp;injection hp with hp;exact hx _ _ hp.symm
 exact(World.cell?_setCell_other _ _ _ _ hne).trans (hcell i hi)
theorem Sl.keep {w w':World}{v:Value}{xs:List Nat}(h:Sl w v xs)(k:Keep w w'):Sl w' v xs:=k _ _ h
def NoInt (v:Value):Prop:=∀k n,v≠ .int k n
theorem NoInt.bool (b:Bool):NoInt (.bool b):=fun _ _ h=>by cases h
abbrev nB_:= @NoInt.bool
theorem NoInt.slice (a:Option Addr)(n c:Nat):NoInt (.slice a n c):=fun _ _ h=>by cases h
abbrev nS_:= @NoInt.slice
theorem Keep.set2 {w:World}{g:Nat}{t:TypeId}{x y x' y':Value}(h:Box w g t #[x,y])(hx:NoInt x)(hy:NoInt y):Keep w ((w.setCell ⟨g,0,none⟩ x').setCell ⟨g,1,none⟩ y'):=
 (Keep.poke h.c2.1 hx).trans (Keep.poke ((h.set (i:=0) (u:=x')).cell 1 rfl) hy)
theorem Keep.set3 {w:World}{g:Nat}{t:TypeId}{x y z x' y' z':Value}(h:Box w g t #[x,y,z])(hx:NoInt x)(hy:NoInt y)(hz:NoInt z):
  Keep w (((w.setCell ⟨g,0,none⟩ x').setCell ⟨g,1,none⟩ y').setCell ⟨g,2,none⟩ z'):=
 ((Keep.poke h.c3.1 hx).trans (Keep.poke ((h.set (i:=0) (u:=x')).cell 1 rfl) hy)).trans (Keep.poke (((h.set (i:=0) (u:=x')).set (i:=1) (u:=y')).cell 2 rfl) hz)
theorem below_set2 {B:Nat}{w0 w:World}{g:Nat}{u u':Value}(h:Below B w0 w)(hg:B≤g):Below B w0 ((w.setCell ⟨g,0,none⟩ u).setCell ⟨g,1,none⟩ u'):=(h.setCell hg _).setCell hg _
theorem below_set3 {B:Nat}{w0 w:World}{g:Nat}{u u' u'':Value}(h:Below B w0 w)(hg:B≤g):Below B w0 (((w.setCell ⟨g,0,none⟩ u).setCell ⟨g,1,none⟩ u').setCell ⟨g,2,none⟩ u''):=((h.setCell hg _).setCell hg _).setCell hg _
theorem below_call {w0 W W':World}(h:Below w0.heap.size w0 W)(hb:Below W.heap.size W W'):Below w0.heap.size w0 W':=h.trans (hb.mono h.size)
abbrev bC:= @below_call
section
variable {P:Program} {ops:Array Oper} {Q:Exit→Act→World→Prop} {md:Region.Mode}
def left (L:Array Bool):Nat:=L.toList.countP (fun b=> !b)
theorem left_set {L:Array Bool}{i:Nat}(h:L[i]? =some false):left (L.setIfInBounds i true)+1=left L:=by
 obtain⟨l⟩:=L;simp only[left,sI];simp only[List.getElem?_toArray]at h
 induction l generalizing i with
 |nil=>simp at h
 |cons b l ih=>
  cases i with
  |zero=>simp at h;subst h;simp
  |succ i=>simp at h;have:=ih h;simp only[sS,List.countP_cons];omega
theorem left_pos {L:Array Bool}{i:Nat}(h:L[i]? =some false):left L≠0:=by have:=left_set h;omega
theorem left_new (n:Nat):left (Array.replicate n false)=n:=by
 simp only[left];rw[show(Array.replicate n false).toList=List.replicate n false by simp,List.countP_replicate];simp
structure Fl where
 i:Nat
 d:Nat
 t:TypeId
 z:Array Value
structure Rel (F:List Fl)(B:Nat)(L:Array Bool)(a:Act)(L':Array Bool)(a':Act)(w:World):Prop where
 size:a'.tmps.size=a.tmps.size
 defers:a'.defers=a.defers
 slot:∀d,(∀f∈F,f.d≠d)→a'.tmps[d]? =a.tmps[d]?
 listed:∀j,(∀f∈F,f.i≠j)→L'[j]? =L[j]?
 no:∀f∈F,L[f.i]? =some false
 yet:∀f∈F,L'[f.i]? =some false∨L'[f.i]? =some true
 made:∀f∈F,L'[f.i]? =some true→∃g,a'.tmps[f.d]? =some (.pointer (some ⟨g,0,none⟩))∧B≤g∧Box w g f.t f.z
 apart:∀f∈F,∀f'∈F,f.i≠f'.i→L'[f.i]? =some true→L'[f'.i]? =some true→a'.tmps[f.d]?≠a'.tmps[f'.d]?
structure Flok (P:Program)(ops:Array Oper)(md:Region.Mode)(F:List Fl)(n:Nat):Prop where
 op:∀f∈F,∃o,ops[f.i]? =some o∧o.dst=some f.d∧o.guard=none∧(∀e∈o.after,Region.binds md e=false)∧
  ∀(ρ:Operand→Value) (w:World),(execOp ρ o).run P w= .ok (.value (.pointer (some ⟨w.heap.size,0,none⟩))) (w.alloc (.cells f.z f.t))
 inj:∀f∈F,∀f'∈F,f.i=f'.i→f=f'
 injd:∀f∈F,∀f'∈F,f.d=f'.d→f=f'
 slot:∀f∈F,f.d<n
def SE (W:World)(E:List Nat)(x:World):Prop:=W.heap.size≤x.heap.size∧∀k,k<W.heap.size→k∉E→x.heap[k]? =W.heap[k]?
theorem SE.of {W x:World}{E:List Nat}(h:Below W.heap.size W x):SE W E x:=⟨h.size,fun k hk _=>h.block k hk⟩
theorem SE.grow {W x y:World}{E:List Nat}(h:SE W E x)(hb:Below x.heap.size x y):SE W E y:=
 ⟨tL_ h.1 hb.size,fun k hk hE=>(hb.block k (Nat.lt_of_lt_of_le hk h.1)).trans (h.2 k hk hE)⟩
theorem SE.store {W x:World}{E:List Nat}(h:SE W E x){g i:Nat}{v:Value}(hg:g∈E∨W.heap.size≤g):SE W E (x.setCell ⟨g,i,none⟩ v):=
 ⟨by simpa using h.1,fun k hk hE=>(Below.heap_setCell x _ _ k (fun e=>hg.elim (fun h1=>hE (e▸h1)) (fun h1=>absurd hk (Nat.not_lt.2 (e▸h1))))).trans (h.2 k hk hE)⟩
theorem SE.store2 {W x:World}{E:List Nat}(h:SE W E x){g:Nat}{u v:Value}(hg:g∈E∨W.heap.size≤g):SE W E ((x.setCell ⟨g,0,none⟩ u).setCell ⟨g,1,none⟩ v):=(h.store hg).store hg
theorem SE.store3 {W x:World}{E:List Nat}(h:SE W E x){g:Nat}{t u v:Value}(hg:g∈E∨W.heap.size≤g):SE W E (((x.setCell ⟨g,0,none⟩ t).setCell ⟨g,1,none⟩ u).setCell ⟨g,2,none⟩ v):=((h.store hg).store hg).store hg
theorem Box.se {W x:World}{E:List Nat}{g:Nat}{t:TypeId}{cs:Array Value}(h:SE W E x)(X:Box W g t cs)(hn:g∉E):Box x g t cs:=(h.2 g X.lt hn).trans X
theorem notin0 {a:Nat}:a∉([]:List Nat):=List.not_mem_nil
theorem notin1 {a b:Nat}(h:a≠b):a∉[b]:=fun k=>h (List.mem_singleton.1 k)
theorem notin2 {a b c:Nat}(h:a≠b)(h':a≠c):a∉[b,c]:=fun k=>(List.mem_cons.1 k).elim h fun k=>h' (List.mem_singleton.1 k)
theorem in1 {b:Nat}{p:Prop}:b∈[b]∨p:= .inl List.mem_cons_self
theorem in21 {b c:Nat}{p:Prop}:b∈[b,c]∨p:= .inl List.mem_cons_self
theorem in22 {b c:Nat}{p:Prop}:c∈[b,c]∨p:= .inl (List.mem_cons_of_mem _ List.mem_cons_self)
def Good (P:Program)(md:Region.Mode)(ops:Array Oper)(Q:Exit→Act→World→Prop)(W:World)(E:List Nat)(F:List Fl)(L:Array Bool)(a:Act)(w:World):Prop:=
 SE W E w→∀L' a' w',Below w.heap.size w w'→Rel F W.heap.size L a L' a' w'→
  wpAnyH P md ops Q (SE W E) (left L') L' a' w'
variable {W:World} {E:List Nat} {F:List Fl} {L:Array Bool} {a:Act} {w:World} {n:Nat}
theorem Rel.grow {L':Array Bool}{a':Act}{w w':World}{B:Nat}(h:Rel F B L a L' a' w)(hb:Below w.heap.size w w'):Rel F B L a L' a' w':=
 {h with made:=fun f hf hl=>let ⟨g,h1,h2,h3⟩:=h.made f hf hl;⟨g,h1,h2,h3.call hb⟩}
theorem Rel.alloc (ok:Flok P ops md F a.tmps.size){B:Nat}{L':Array Bool}{a':Act}{w:World}(h:Rel F B L a L' a' w)(hB:B≤w.heap.size){f:Fl}(hf:f∈F)(hl:L'[f.i]? =some false):
  Rel F B L a (L'.setIfInBounds f.i true) (a'.put (some f.d) (.pointer (some ⟨w.heap.size,0,none⟩))) (w.alloc (.cells f.z f.t)):=by
 have hlt:f.i<L'.size:=(Array.getElem?_eq_some_iff.1 hl).1;have hd:f.d<a'.tmps.size:=by rw[h.size];exact ok.slot f hf
 have old:∀f'∈F,f'≠f→(L'.setIfInBounds f.i true)[f'.i]? =L'[f'.i]?∧(a'.put (some f.d) (.pointer (some ⟨w.heap.size,0,none⟩))).tmps[f'.d]? =a'.tmps[f'.d]?:=by
  intro f' hf' hne;refine⟨Array.getElem?_setIfInBounds_ne fun e=>hne (ok.inj f' hf' f hf e.symm),Array.getElem?_setIfInBounds_ne fun e=>hne (ok.injd f' hf' f hf e.symm)⟩
 have self:(L'.setIfInBounds f.i true)[f.i]? =some true:=by simp[hlt]
 have selfd:(a'.put (some f.d) (.pointer (some ⟨w.heap.size,0,none⟩))).tmps[f.d]? =some (.pointer (some ⟨w.heap.size,0,none⟩)):=by simp[Act.put,hd]
 have mk:∀f'∈F,(L'.setIfInBounds f.i true)[f'.i]? =some true→∃g,(a'.put (some f.d) (.pointer (some ⟨w.heap.size,0,none⟩))).tmps[f'.d]? =some (.pointer (some ⟨g,0,none⟩))∧B≤g∧Box (w.alloc (.cells f.z f.t)) g f'.t f'.z:=by
  intro f' hf' hl'
  by_cases e:f'=f
  ·subst e;exact⟨_,selfd,hB,Box.new _ _ _⟩
  ·obtain⟨h1,h2⟩:=old f' hf' e;rw[h1]at hl';obtain⟨g,k1,k2,k3⟩:=h.made f' hf' hl';exact⟨g,by rw[h2];exact k1,k2,k3.alloc _⟩
 refine⟨by simp[Act.put,h.size],h.defers,?_,?_,h.no,?_,mk,?_⟩
 ·intro d hnd;rw[←h.slot d hnd];exact Array.getElem?_setIfInBounds_ne (hnd f hf)
 ·intro j hj;rw[←h.listed j hj];exact Array.getElem?_setIfInBounds_ne (hj f hf)
 ·intro f' hf'
  by_cases e:f'=f
  ·subst e;exact .inr self
  ·rw[(old f' hf' e).1];exact h.yet f' hf'
 ·intro f1 hf1 f2 hf2 hne l1 l2 he
  by_cases e1:f1=f
  ·subst e1;have e2:f2≠f1:=fun e=>hne (by rw[e]);obtain⟨h1,h2⟩:=old f2 hf2 e2;rw[h1]at l2;obtain⟨g,k1,k2,k3⟩:=h.made f2 hf2 l2;rw[selfd,h2,k1]at he;injection he with he;injection he with he;injection he with he;injection he with he;have:=k3.lt;omega
  ·by_cases e2:f2=f
   ·subst e2;obtain⟨h1,h2⟩:=old f1 hf1 e1;rw[h1]at l1;obtain⟨g,k1,k2,k3⟩:=h.made f1 hf1 l1;rw[selfd,h2,k1]at he;injection he with he;injection he with he;injection he with he;injection he with he;have:=k3.lt;omega
   ·obtain⟨h1,h1'⟩:=old f1 hf1 e1;obtain⟨h2,h2'⟩:=old f2 hf2 e2;rw[h1]at l1;rw[h2]at l2;rw[h1',h2']at he;exact h.apart f1 hf1 f2 hf2 hne l1 l2 he
theorem getD_of {L:Array Bool}{j:Nat}{b:Bool}(h:L[j]? =some b)(d:Bool):L.getD j d=b:=by
 simp[Array.getD_eq_getD_getElem?,h]
theorem Rel.ready {B:Nat}{L':Array Bool}{a':Act}{w:World}(h:Rel F B L a L' a' w){i:Nat}(hi:i∈Region.ready md ops L)(hn:∀f∈F,f.i≠i):i∈Region.ready md ops L':=by
 rw[mem_ready]at *
 obtain⟨h0,o,ho,hall⟩:=hi;refine⟨by rw[←h0];simp only[Array.getD_eq_getD_getElem?,h.listed i hn],o,ho,fun e he hb=> ?_⟩;have h1:=hall e he hb
 by_cases hf:∃f∈F,f.i=e.on
 ·obtain⟨f,hf,e1⟩:=hf;rw[←e1,getD_of (h.no f hf)]at h1;cases h1
 ·rw[←h1];simp only[Array.getD_eq_getD_getElem?];rw[h.listed e.on fun f hg e1=>hf ⟨f,hg,e1⟩]
theorem float_core (ok:Flok P ops md F a.tmps.size)
  (hfull:∀L' a' w',Below w.heap.size w w'→Rel F W.heap.size L a L' a' w'→(∀f∈F,L'[f.i]? =some true)→wpAnyH P md ops Q (SE W E) (left L') L' a' w')
  (hpart:∀L' a' w',Below w.heap.size w w'→Rel F W.heap.size L a L' a' w'→∀i∈Region.ready md ops L',(∀f∈F,f.i≠i)→(∃f∈F,L'[f.i]? =some false)→
   wpOp P ops Q i (fun a1 w1=>SE W E w1∧wpAnyH P md ops Q (SE W E) (left L'-1) (L'.setIfInBounds i true) a1 w1) a' w'):Good P md ops Q W E F L a w:=by
 intro hW L' a' w' hb hr;generalize hn:left L'=n
 induction n generalizing L' a' w' with
 |zero=>
  have hall:∀f∈F,L'[f.i]? =some true:=fun f hf=>(hr.yet f hf).resolve_left fun h=>left_pos h hn;have:=hfull L' a' w' hb hr hall
  rwa [hn]at this
 |succ n ih=>
  by_cases hp:∃f∈F,L'[f.i]? =some false
  ·obtain⟨f,hf,hl⟩:=hp;have rdy:f.i∈Region.ready md ops L':=by
    obtain⟨o,ho,_,_,haf,_⟩:=ok.op f hf;exact mem_ready.2 ⟨getD_of hl _,o,ho,fun e he hb=>absurd hb (by rw[haf e he];simp)⟩
   refine⟨fun h0=>(by rw[h0]at rdy;cases rdy),fun i hi=> ?_⟩
   by_cases hif:∃f'∈F,f'.i=i
   ·obtain⟨f',hf',rfl⟩:=hif;have hl':L'[f'.i]? =some false:=by
     rcases hr.yet f' hf' with h|h
     ·exact h
     ·have:=(mem_ready.1 hi).1;rw[getD_of h]at this;cases this
    obtain⟨o,ho,hd,hg,haf,hrun⟩:=ok.op f' hf';have hB:W.heap.size≤w'.heap.size:=tL_ hW.1 hb.size;have hb2:Below w.heap.size w (w'.alloc (.cells f'.z f'.t)):=hb.alloc hb.size _;have key:=ih (L'.setIfInBounds f'.i true) (a'.put (some f'.d) (.pointer (some ⟨w'.heap.size,0,none⟩))) (w'.alloc (.cells f'.z f'.t)) hb2 (hr.alloc ok hB hf' hl') (by have:=left_set hl';omega);have hS:SE W E (w'.alloc (.cells f'.z f'.t)):=hW.grow hb2;unfold Go.wpOp;simp only[ho];rw[if_pos (by simp[Region.wanted,hg])];refine .inl ?_;simp only[Oper.wp,hrun,Oper.upon,hd];exact⟨hS,key⟩
   ·have h2:=hpart L' a' w' hb hr i hi (fun f hf e=>hif ⟨f,hf,e⟩) ⟨f,hf,hl⟩;rw[hn]at h2;exact h2
  ·have hall:∀f∈F,L'[f.i]? =some true:=fun f hf=>(hr.yet f hf).resolve_left fun h=>hp ⟨f,hf,h⟩;have:=hfull L' a' w' hb hr hall
   rwa [hn]at this
def aloof (ops:Array Oper)(F:List Fl)(o:Oper):Bool:=F.all fun f=> !(o.looksAt ops).contains f.d&&o.dst !=some f.d
theorem Rel.exec {B:Nat}{L':Array Bool}{a':Act}{w:World}(h:Rel F B L a L' a' w){o:Oper}(ha:aloof ops F o=true)(hs:∀cs b,o.op≠ .select cs b):execOp a'.eval o=execOp a.eval o:=by
 refine execOp_congr o hs fun x hx=> ?_
 cases x with
 |tmp t=>
  have ht:∀f∈F,f.d≠t:=by
   intro f hf e;have:=List.all_eq_true.1 ha f hf;simp only[Bool.and_eq_true,Bool.not_eq_true',List.contains_eq_mem,decide_eq_false_iff_not]at this;exact this.1 (List.mem_append_left _ (List.mem_filterMap.2 ⟨.tmp t,by simpa using hx,by rw[e]⟩))
  simp only[Act.eval,Array.getD_eq_getD_getElem?,h.slot t ht]
 |_=>rfl
theorem Rel.wanted {B:Nat}{L':Array Bool}{a':Act}{w:World}(h:Rel F B L a L' a' w){o:Oper}(ha:aloof ops F o=true):Region.wanted o (yielded ops a'.tmps)=Region.wanted o (yielded ops a.tmps):=by
 unfold Region.wanted
 cases hg:o.guard with
 |none=>rfl
 |some gw=>
  obtain⟨g,want⟩:=gw;have hy:yielded ops a'.tmps g=yielded ops a.tmps g:=by
   unfold yielded
   cases ht:(ops[g]?).bind (·.dst)with
   |none=>rfl
   |some t=>
    have ht':∀f∈F,f.d≠t:=by
     intro f hf e;have:=List.all_eq_true.1 ha f hf;simp only[Bool.and_eq_true,Bool.not_eq_true',List.contains_eq_mem,decide_eq_false_iff_not]at this;exact this.1 (by subst e;simp[Oper.looksAt,hg,ht])
    simp only[Option.bind_some,h.slot t ht']
  simp only[hy]
theorem Rel.put {B:Nat}{L':Array Bool}{a':Act}{w:World}(h:Rel F B L a L' a' w){o:Oper}(ha:aloof ops F o=true){i:Nat}(hi:∀f∈F,f.i≠i)(v:Value):
  Rel F B (L.setIfInBounds i true) (a.put o.dst v) (L'.setIfInBounds i true) (a'.put o.dst v) w:=by
 have hd:∀f∈F,o.dst≠some f.d:=by
  intro f hf;have:=List.all_eq_true.1 ha f hf;simp only[Bool.and_eq_true,bne_iff_ne]at this;exact this.2
 have hl:∀f∈F,∀L:Array Bool,(L.setIfInBounds i true)[f.i]? =L[f.i]?:=fun f hf L=>Array.getElem?_setIfInBounds_ne (Ne.symm (hi f hf));have hp:∀f∈F,(a'.put o.dst v).tmps[f.d]? =a'.tmps[f.d]?:=by
  intro f hf
  cases hdo:o.dst with
  |none=>rfl
  |some d=>exact Array.getElem?_setIfInBounds_ne fun e=>hd f hf (by rw[hdo,e])
 refine⟨?_,?_,?_,?_,fun f hf=>by rw[hl f hf];exact h.no f hf,fun f hf=>by rw[hl f hf];exact h.yet f hf,?_,?_⟩
 ·cases o.dst<;>simp[Act.put,h.size]
 ·cases o.dst<;>simp[Act.put,h.defers]
 ·intro d hnd
  cases o.dst with
  |none=>exact h.slot d hnd
  |some d'=>
   simp only[Act.put]
   by_cases e:d'=d
   ·subst e;simp[Array.getElem?_setIfInBounds,h.size]
   ·rw[Array.getElem?_setIfInBounds_ne e,Array.getElem?_setIfInBounds_ne e];exact h.slot d hnd
 ·intro j hj
  by_cases e:i=j
  ·subst e;have hs:=h.listed i hj;rcases Nat.lt_or_ge i L'.size with h1|h1
   ·have h2:i<L.size:=by
     rcases Nat.lt_or_ge i L.size with h2|h2
     ·exact h2
     ·rw[Array.getElem?_eq_none h2,Array.getElem?_eq_getElem h1]at hs;cases hs
    simp[h1,h2]
   ·have h2:L.size≤i:=by
     rcases Nat.lt_or_ge i L.size with h2|h2
     ·rw[Array.getElem?_eq_none h1,Array.getElem?_eq_getElem h2]at hs;cases hs
     ·exact h2
    simp[h1,h2]
  ·rw[Array.getElem?_setIfInBounds_ne e,Array.getElem?_setIfInBounds_ne e];exact h.listed j hj
 ·intro f hf hlf;rw[hl f hf]at hlf;rw[hp f hf];exact h.made f hf hlf
 ·intro f hf f' hf' hne h1 h2;rw[hl f hf]at h1;rw[hl f' hf']at h2;rw[hp f hf,hp f' hf'];exact h.apart f hf f' hf' hne h1 h2
theorem wp_region_float {id:Nat}{a:Act}{w:World}(E:List Nat)(F:List Fl)(hm:P.follows .mixedOrders=true)(hF:(F.all fun f=>decide (f.i<ops.size))=true)
  (n:Nat) (hsz:a.tmps.size=n) (ok:Flok P ops .any F n)
  (h:Flok P ops .any F n→Good P .any ops Q w.drew E F (Array.replicate ops.size false) a w.drew):(Code.region id ops true).wp P Q a w:=by
 replace h:=h ok
 refine wp_region_held (S:=SE w.drew E) hm ?_;have hlt:∀f∈F,f.i<ops.size:=fun f hf=>by simpa using List.all_eq_true.1 hF f hf
 have:=h (SE.of (bR_ _ _)) (Array.replicate ops.size false) a w.drew (bR_ _ _) ⟨rfl,rfl,fun _ _=>rfl,fun _ _=>rfl,fun f hf=>by simp[hlt f hf],fun f hf=>by simp[hlt f hf],
  fun f hf h1=>by simp[hlt f hf]at h1,fun f hf _ _ _ h1=>by simp[hlt f hf]at h1⟩
 rwa [left_new]at this
theorem good_pure (i:Nat){oi:Oper}{v:Value}(hi:ops[i]? =some oi)(hs:Region.noSelect ops=true)(ha:aloof ops F oi=true)(hn:(F.all fun f=>f.i !=i)=true)
  (hf:Region.free md ops L i=true) (hr:(Region.ready md ops L).contains i=true) (hl:(L[i]?==some false)=true)
  (hQ:∀c a w,Q (.panic c) (a.put oi.dst v) w→Q (.panic c) a w)
  (hy:YieldsIf P ops (SE W E) oi v a)
  (h:Good P md ops Q W E F (L.setIfInBounds i true) (a.put oi.dst v) w):Good P md ops Q W E F L a w:=by
 intro hW L' a' w' hb hrel;have hni:∀f∈F,f.i≠i:=fun f hf=>by simpa using List.all_eq_true.1 hn f hf
 have hsel:∀cs b,oi.op≠ .select cs b:=fun cs b=>Region.noSelect_spec hs i oi cs b hi;have hl':L'[i]? =some false:=by rw[hrel.listed i hni];simpa using hl
 have hS:SE W E w':=hW.grow hb;have key:=h hW (L'.setIfInBounds i true) (a'.put oi.dst v) w' hb (hrel.put ha hni v);rw[show left L'=left (L'.setIfInBounds i true)+1 from(left_set hl').symm];refine wpAnyH_first hi (Region.noSelect_spec hs) hQ _ _ _ _ ?_ (hrel.ready (by simpa using hr) hni) (hy.of_same (hrel.exec ha hsel) (hrel.wanted ha)) hS key;intro j oj hj hji hun hno;refine Region.free_spec hi hf j oj hj hji ?_ hno
 by_cases hjf:∃f∈F,f.i=j
 ·obtain⟨f,hf,rfl⟩:=hjf;exact getD_of (hrel.no f hf) _
 ·rw[←hun];simp only[Array.getD_eq_getD_getElem?];rw[hrel.listed j fun f hf e=>hjf ⟨f,hf,e⟩]
def allOn (F:List Fl)(L:Array Bool):Array Bool:=F.foldl (fun L f=>L.setIfInBounds f.i true) L
theorem allOn_other {F:List Fl}{j:Nat}(h:∀f∈F,f.i≠j):∀L:Array Bool,(allOn F L)[j]? =L[j]?:=by
 induction F with
 |nil=>intro L;rfl
 |cons f F ih=>
  intro L;have:=ih (fun g hg=>h g (List.mem_cons_of_mem _ hg)) (L.setIfInBounds f.i true);rw[show allOn (f::F) L=allOn F (L.setIfInBounds f.i true)from rfl,this];exact Array.getElem?_setIfInBounds_ne (h f List.mem_cons_self)
theorem allOn_mem {F:List Fl}{f:Fl}(hf:f∈F):∀L:Array Bool,f.i<L.size→(allOn F L)[f.i]? =some true:=by
 induction F with
 |nil=>cases hf
 |cons g F ih=>
  intro L hlt;rw[show allOn (g::F) L=allOn F (L.setIfInBounds g.i true)from rfl]
  by_cases hm:∃f'∈F,f'.i=f.i
  ·obtain⟨f',hf',e⟩:=hm;have:∀(F':List Fl) (L:Array Bool),f'.i<L.size→f'∈F'→(allOn F' L)[f'.i]? =some true:=by
    intro F'
    induction F' with
    |nil=>intro _ _ h;cases h
    |cons g' F' ih'=>
     intro L hlt hm;rw[show allOn (g'::F') L=allOn F' (L.setIfInBounds g'.i true)from rfl]
     by_cases hin:∃f''∈F',f''.i=f'.i
     ·rcases List.mem_cons.1 hm with rfl|hm'
      ·obtain⟨f'',h2,e2⟩:=hin;clear ih' hm hf' ih;have gen:∀(F3:List Fl) (L:Array Bool),L[f'.i]? =some true→(allOn F3 L)[f'.i]? =some true:=by
        intro F3
        induction F3 with
        |nil=>intro L h;exact h
        |cons g3 F3 ih3=>
         intro L h;refine ih3 (L.setIfInBounds g3.i true) ?_
         by_cases e3:g3.i=f'.i
         ·rw[e3];simp[(Array.getElem?_eq_some_iff.1 h).1]
         ·rw[Array.getElem?_setIfInBounds_ne e3];exact h
       exact gen F' _ (by simp[hlt])
      ·exact ih' _ (by simpa using hlt) hm'
     ·rw[allOn_other fun f'' h2 e2=>hin ⟨f'',h2,e2⟩];rcases List.mem_cons.1 hm with rfl|hm'
      ·simp[hlt]
      ·exact absurd ⟨f',hm',rfl⟩ hin
   rw[←e];exact this F _ (by rw[e];simpa using hlt) hf'
  ·rcases List.mem_cons.1 hf with rfl|hf'
   ·rw[allOn_other fun f' h2 e2=>hm ⟨f',h2,e2⟩];simp[hlt]
   ·exact absurd ⟨f,hf',rfl⟩ hm
theorem Rel.readyOn {B:Nat}{L':Array Bool}{a':Act}{w:World}(h:Rel F B L a L' a' w){i:Nat}(hi:i∈Region.ready md ops L')(hn:∀f∈F,f.i≠i):i∈Region.ready md ops (allOn F L):=by
 rw[mem_ready]at *
 obtain⟨h0,o,ho,hall⟩:=hi;refine⟨by rw[←h0];simp only[Array.getD_eq_getD_getElem?];rw[allOn_other hn,h.listed i hn],o,ho,fun e he hb=> ?_⟩;have h1:=hall e he hb
 by_cases hf:∃f∈F,f.i=e.on
 ·obtain⟨f,hf,e1⟩:=hf;rw[←e1];exact getD_of (allOn_mem hf _ (Array.getElem?_eq_some_iff.1 (h.no f hf)).1) _
 ·rw[←h1];simp only[Array.getD_eq_getD_getElem?];rw[allOn_other (fun f hg e1=>hf ⟨f,hg,e1⟩),h.listed e.on fun f hg e1=>hf ⟨f,hg,e1⟩]
theorem good_call (i f:Nat){oi:Oper}{x:Array Operand}{tys:Array TypeId}{args:Array Value}(hi:ops[i]? =some oi)(hop:oi.op=Op.call {callee:=Callee.value (Operand.func f),args:=x,argTypes:=tys})
  (ok:Flok P ops md F a.tmps.size) (ha:aloof ops F oi=true) (hn:(F.all fun f=>f.i !=i)=true)
  (hr:(Region.ready md ops L).contains i=true) (hl:(L[i]?==some false)=true) (hone:Region.ready md ops (allOn F L)=[i])
  (hw:Region.wanted oi (yielded ops a.tmps)=true)
  {fn:Func} {c:Code} (hf:P.funcs[f]? =some fn) (hname:(fn.name== "runtime.NumGoroutine")=false) (hb:fn.body=some c)
  (hargs:x.map a.eval=args)
  (hc:∀w',Below w.heap.size w w'→Calls P f args w' (Ret w' fun w2 v=>Good P md ops Q W E F (L.setIfInBounds i true) (a.put oi.dst v) w2)):Good P md ops Q W E F L a w:=by
 intro hW;have hni:∀f∈F,f.i≠i:=fun f hf=>by simpa using List.all_eq_true.1 hn f hf
 have hl0:L[i]? =some false:=by simpa using hl
 have step:∀L' a' w',Below w.heap.size w w'→Rel F W.heap.size L a L' a' w'→
   wpOp P ops Q i (fun a1 w1=>SE W E w1∧wpAnyH P md ops Q (SE W E) (left L'-1) (L'.setIfInBounds i true) a1 w1) a' w':=by
  intro L' a' w' hbw hrel;have hl':L'[i]? =some false:=by rw[hrel.listed i hni];exact hl0
  have hex:=hrel.exec ha (fun cs b=>by rw[hop];intro h;cases h);unfold Go.wpOp;simp only[hi];rw[if_pos ((hrel.wanted ha).trans hw)];refine .inl ?_;have key:oi.upon P a' (fun a1 w1=>SE W E w1∧wpAnyH P md ops Q (SE W E) (left L'-1) (L'.setIfInBounds i true) a1 w1) Q (.ok (.enter f args) w'):=by
   rw[Oper.upon_enter];refine(hc w' hbw).mono ?_;rintro e w2 ⟨v,rfl,h1,h2⟩;have hW2:SE W E w2:=(hW.grow hbw).grow h2;refine⟨hW2,?_⟩;have:=h1 hW2 (L'.setIfInBounds i true) (a'.put oi.dst v) w2 (bR_ _ _) ((hrel.grow h2).put ha hni v)
   rwa [show left (L'.setIfInBounds i true)=left L'-1 by have:=left_set hl';omega]at this
  unfold Oper.wp;have e:(execOp a'.eval oi).run P w'= .ok (.enter f args) w':=by
   rw[hex];obtain⟨dst,op,ty,pos,after,guard⟩:=oi
   dsimp only at hop
   subst hop;rw[execOp_call_go,hargs];simpa using run_enter hf hname hb args w'
  rw[e];exact key
 refine float_core ok ?_ ?_ hW
 ·intro L' a' w' hbw hrel hall;have hl':L'[i]? =some false:=by rw[hrel.listed i hni];exact hl0
  have hin:i∈Region.ready md ops L':=hrel.ready (by simpa using hr) hni;have s:=step L' a' w' hbw hrel;rw[show left L'=(left L'-1)+1 by have:=left_pos hl';omega];refine⟨fun h0=>(by rw[h0]at hin;cases hin),fun j hj=> ?_⟩;have hnj:∀f∈F,f.i≠j:=by
   rintro f hf rfl;have:=(mem_ready.1 hj).1;rw[getD_of (hall f hf)]at this;cases this
  have hj':=hrel.readyOn hj hnj;rw[hone]at hj';rw[List.mem_singleton.1 hj'];exact s
 ·intro L' a' w' hbw hrel j hj hnj _;have hj':=hrel.readyOn hj hnj;rw[hone]at hj';rw[List.mem_singleton.1 hj'];exact step L' a' w' hbw hrel
theorem Flok.nil:Flok P ops md [] n:=⟨fun f hf=>(nomatch hf),fun f hf=>(nomatch hf),fun f hf=>(nomatch hf),fun f hf=>(nomatch hf)⟩
theorem good_end0 (k:Nat)(hk:left L=k)
  (h:SE W E w→∀w',Below w.heap.size w w'→wpAnyH P md ops Q (SE W E) k L a w'):Good P md ops Q W E [] L a w:=by
 intro hW L' a' w' hb hr;have e1:L'=L:=Array.ext_getElem? fun x=>hr.listed x (fun f hf=>nomatch hf);have e2:a'=a:=by
  have:=Array.ext_getElem? fun x=>hr.slot x (fun f hf=>nomatch hf);obtain⟨T,D⟩:=a;obtain⟨T',D'⟩:=a';have hd:=hr.defers
  dsimp only at this hd
  rw[this,hd]
 subst e1;subst e2;rw[hk];exact h hW w' hb
def parts (ops:Array Oper)(i:Nat):Option (Option Tmp×Op×Option (Nat×Bool)):=(ops[i]?).map fun o=>(o.dst,o.op,o.guard)
def plainOp:Op→Bool
 | .call .. | .next .. | .select .. | .go .. | .defer .. =>false
 |_=>true
def bare (d:Option Tmp)(op:Op)(g:Option (Nat×Bool)):Oper:={dst:=d,op,type:=0,pos:= "",after:= #[],guard:=g}
theorem exec_bare {o:Oper}(h:plainOp o.op=true)(ρ:Operand→Value):execOp ρ o=execOp ρ (bare o.dst o.op o.guard):=by
 obtain⟨dst,op,type,pos,after,guard⟩:=o
 cases op<;>first|rfl|cases h
theorem parts_some {i:Nat}{d:Option Tmp}{op:Op}{g:Option (Nat×Bool)}(h:parts ops i=some (d,op,g)):∃o,ops[i]? =some o∧o.dst=d∧o.op=op∧o.guard=g:=by
 unfold parts at h
 cases ho:ops[i]? with
 |none=>rw[ho]at h;cases h
 |some o=>rw[ho]at h;injection h with h;injection h with h1 h;injection h with h2 h3;exact⟨o,rfl,h1,h2,h3⟩
theorem wanted_bare (o:Oper)(f:Nat→Option Bool):Region.wanted (bare o.dst o.op o.guard) f=Region.wanted o f:=rfl
theorem aloof_bare (o:Oper):aloof ops F (bare o.dst o.op o.guard)=aloof ops F o:=rfl
theorem good_pureX (i:Nat)(d:Option Tmp)(op:Op)(g:Option (Nat×Bool))(v:Value)(hi:parts ops i=some (d,op,g))
  (hc:(Region.noSelect ops&&plainOp op&&aloof ops F (bare d op g)&&(F.all fun f=>f.i !=i)&&Region.free md ops L i&&(Region.ready md ops L).contains i&&(L[i]?==some false))=true)
  (hw:Region.wanted (bare d op g) (yielded ops a.tmps)=true) (hQ:∀c a w,Q (.panic c) (a.put d v) w→Q (.panic c) a w)
  (hy:∀w',SE W E w'→(execOp a.eval {dst:=d,op:=op,type:=0,pos:= "",after:= #[],guard:=g}).run P w'= .ok (.value v) w')
  (h:Good P md ops Q W E F (L.setIfInBounds i true) (a.put d v) w):Good P md ops Q W E F L a w:=by
 obtain⟨o,ho,rfl,rfl,rfl⟩:=parts_some hi;simp only[Bool.and_eq_true]at hc;obtain⟨⟨⟨⟨⟨⟨c1,c2⟩,c3⟩,c4⟩,c5⟩,c6⟩,c7⟩:=hc;exact good_pure i ho c1 (by rw[←aloof_bare];exact c3) c4 c5 c6 c7 hQ (.inl ⟨hw,fun w' hw'=>by rw[exec_bare c2];exact hy w' hw'⟩) h
theorem good_callX (i f:Nat)(d:Option Tmp)(x:Array Operand)(tys:Array TypeId)(g:Option (Nat×Bool))(args:Array Value)
  (hi:parts ops i=some (d,Op.call {callee:=Callee.value (Operand.func f),args:=x,argTypes:=tys},g)) (ok:Flok P ops md F n) (hsz:a.tmps.size=n)
  (hc:(aloof ops F (bare d (Op.call {callee:=Callee.value (Operand.func f),args:=x,argTypes:=tys}) g)&&(F.all fun f=>f.i !=i)&&(Region.ready md ops L).contains i&&(L[i]?==some false))=true)
  (hone:Region.ready md ops (allOn F L)=[i]) (hw:Region.wanted (bare d (Op.call {callee:=Callee.value (Operand.func f),args:=x,argTypes:=tys}) g) (yielded ops a.tmps)=true)
  {fn:Func} {c:Code} (hf:P.funcs[f]? =some fn) (hname:(fn.name== "runtime.NumGoroutine")=false) (hb:fn.body=some c)
  (hargs:x.map a.eval=args)
  (hcall:∀w',Below w.heap.size w w'→Calls P f args w' (Ret w' fun w2 v=>Good P md ops Q W E F (L.setIfInBounds i true) (a.put d v) w2)):Good P md ops Q W E F L a w:=by
 subst hsz;obtain⟨o,ho,rfl,h2,rfl⟩:=parts_some hi;simp only[Bool.and_eq_true]at hc;obtain⟨⟨⟨c1,c2⟩,c3⟩,c4⟩:=hc;rw[←h2]at c1 hw;exact good_call i f ho h2 ok (by rw[←aloof_bare];exact c1) c2 c3 c4 hone hw hf hname hb hargs hcall
theorem held_pureX {S:World→Prop}{m:Nat}(i:Nat)(d:Option Tmp)(op:Op)(g:Option (Nat×Bool))(v:Value)(hi:parts ops i=some (d,op,g))
  (hc:(Region.noSelect ops&&plainOp op&&Region.free md ops L i&&(Region.ready md ops L).contains i)=true)
  (hw:Region.wanted (bare d op g) (yielded ops a.tmps)=true) (hQ:∀c a w,Q (.panic c) (a.put d v) w→Q (.panic c) a w)
  (hy:∀w',(execOp a.eval {dst:=d,op:=op,type:=0,pos:= "",after:= #[],guard:=g}).run P w'= .ok (.value v) w') (hS:S w)
  (h:wpAnyH P md ops Q S m (L.setIfInBounds i true) (a.put d v) w):wpAnyH P md ops Q S (m+1) L a w:=by
 obtain⟨o,ho,rfl,rfl,rfl⟩:=parts_some hi;simp only[Bool.and_eq_true]at hc;obtain⟨⟨⟨c1,c2⟩,c3⟩,c4⟩:=hc;exact wpAnyH_take ho c1 c3 c4 hQ (.inl ⟨hw,fun w' _=>by rw[exec_bare c2];exact hy w'⟩) hS h
theorem held_oneX {S:World→Prop}{m:Nat}(i:Nat)(op:Op)(g:Option (Nat×Bool))(w2:World)(hi:parts ops i=some (none,op,g))
  (hp:plainOp op=true) (hone:Region.ready md ops L=[i]) (hw:Region.wanted (bare none op g) (yielded ops a.tmps)=true)
  (hrun:(execOp a.eval {dst:=none,op:=op,type:=0,pos:= "",after:= #[],guard:=g}).run P w= .ok .skip w2) (hS:S w2) (h:wpAnyH P md ops Q S m (L.setIfInBounds i true) a w2):wpAnyH P md ops Q S (m+1) L a w:=by
 obtain⟨o,ho,hd,rfl,rfl⟩:=parts_some hi;refine⟨fun h0=>(by rw[hone]at h0;cases h0),fun j hj=> ?_⟩;rw[hone]at hj;rw[List.mem_singleton.1 hj];unfold Go.wpOp;simp only[ho];rw[if_pos (by rw[←wanted_bare,hd];exact hw)];refine .inl ?_;have hrun:(execOp a.eval (bare none o.op o.guard)).run P w= .ok .skip w2:=hrun;rw[←hd,←exec_bare hp]at hrun;simp only[Oper.wp,hrun,Oper.upon,hd];exact⟨hS,h⟩
end
theorem frozen_new (w:World)(c:Array Value)(t:TypeId)(i:Nat):(w.alloc (.cells c t)).frozen? ⟨w.heap.size,i,none⟩=false:=by
 rw[frozen?_alloc_cells];simp[World.frozen?]
theorem box_kept {w w1:World}{x y:Value}{t:TypeId}(hb:Below (w.alloc (.cells #[x,y] t)).heap.size (w.alloc (.cells #[x,y] t)) w1):
  w1.cell? ⟨w.heap.size,0,none⟩=some x∧w1.cell? ⟨w.heap.size,1,none⟩=some y∧w1.frozen? ⟨w.heap.size,0,none⟩=false∧w1.frozen? ⟨w.heap.size,1,none⟩=false:=by
 have hs:w.heap.size<(w.alloc (.cells #[x,y] t)).heap.size:=by simp
 refine⟨(hb.cell hs).trans ?_,(hb.cell hs).trans ?_,(hb.frozen hs).trans ?_,(hb.frozen hs).trans ?_⟩
 ·rw[World.cell?_alloc_at _ _ _ _ (by simp)];rfl
 ·rw[World.cell?_alloc_at _ _ _ _ (by simp)];rfl
 ·exact frozen_new _ _ _ _
 ·exact frozen_new _ _ _ _
theorem results_mid {fn:Func}{p:Tmp}{ty:TypeId}(h:fn.results= #[.cell p ty])(tmps:Array Value)(P:Program)(w:World)(g:Nat)(cs:List Value)(d:TypeDesc)
  (hp:tmps.getD p undef= .pointer (some ⟨g,0,none⟩)) (hc:w.rangeAt g 0 cs) (hu:P.underlying ty=some d) (hd:d.isRow=true) (hi:(P.info? ty).map (·.size)=some cs.length):
  (results fn tmps).run P w= .ok (.agg cs.toArray) w:=by
 have hp':tmps[p]?.getD undef= .pointer (some ⟨g,0,none⟩):=by simpa using hp
 simp[results,h,hp',asAddr,run_loadVar_mid w g 0 ty cs d hc hu hd hi]
theorem range2 {w:World}{g:Nat}{x y:Value}(h0:w.cell? ⟨g,0,none⟩=some x)(h1:w.cell? ⟨g,1,none⟩=some y):w.rangeAt g 0 [x,y]:=by
 intro j v hv
 match j,hv with
 |0,hv=>cases hv;exact h0
 |1,hv=>cases hv;exact h1
 |j+2,hv=>simp at hv
theorem ret_int {fn:Func}{p:Tmp}(h:fn.results= #[.cell p 96])(tmps:Array Value)(w:World)(g:Nat)(x y:Value)
  (hp:tmps.getD p undef= .pointer (some ⟨g,0,none⟩)) (h0:w.cell? ⟨g,0,none⟩=some x) (h1:w.cell? ⟨g,1,none⟩=some y):(results fn tmps).run Tryz.prog w= .ok (.agg #[x,y]) w:=
 results_mid h tmps _ w g [x,y] _ hp (range2 h0 h1) Tryz.underlying96 rfl (by kernel_rfl)
theorem box_set {w:World}{b:Nat}{x y x' y':Value}(h0:w.cell? ⟨b,0,none⟩=some x)(h1:w.cell? ⟨b,1,none⟩=some y):
  ((w.setCell ⟨b,0,none⟩ x').setCell ⟨b,1,none⟩ y').cell? ⟨b,0,none⟩=some x'∧((w.setCell ⟨b,0,none⟩ x').setCell ⟨b,1,none⟩ y').cell? ⟨b,1,none⟩=some y':=by
 have hne:(⟨b,0,none⟩:Addr)≠⟨b,1,none⟩:=by simp
 have k0:(w.setCell ⟨b,0,none⟩ x').cell? ⟨b,0,none⟩=some x':=World.cell?_setCell_same' _ _ _ (by rw[h0];rfl);have k1:(w.setCell ⟨b,0,none⟩ x').cell? ⟨b,1,none⟩=some y:=(World.cell?_setCell_other _ _ _ _ hne).trans h1;exact⟨(World.cell?_setCell_other _ _ _ _ (Ne.symm hne)).trans k0,World.cell?_setCell_same' _ _ _ (by rw[k1];rfl)⟩
theorem boxes2 {w w1:World}{x y x' y':Value}{o:Obj}{t t':TypeId}(hb:Below (((w.alloc (.cells #[x,y] t)).alloc (.cells #[x',y'] t')).alloc o).drew.heap.size (((w.alloc (.cells #[x,y] t)).alloc (.cells #[x',y'] t')).alloc o).drew w1):
  w1.cell? ⟨w.heap.size,0,none⟩=some x∧w1.cell? ⟨w.heap.size,1,none⟩=some y∧w1.cell? ⟨w.heap.size+1,0,none⟩=some x'∧w1.cell? ⟨w.heap.size+1,1,none⟩=some y':=by
 have b1:Below (w.alloc (.cells #[x,y] t)).heap.size (w.alloc (.cells #[x,y] t)) w1:=
  ((((bR_ _ _).alloc (by simp) _).alloc (by simp) _).drew).trans (hb.mono (by simp[World.drew]))
 have b2:Below ((w.alloc (.cells #[x,y] t)).alloc (.cells #[x',y'] t')).heap.size ((w.alloc (.cells #[x,y] t)).alloc (.cells #[x',y'] t')) w1:=
  (((bR_ _ _).alloc (by simp) _).drew).trans (hb.mono (by simp[World.drew]))
 have h1:=box_kept b1;have h2:=box_kept b2;rw[World.size_alloc]at h2;exact⟨h1.1,h1.2.1,h2.1,h2.2.1⟩
theorem boxes2s {w1:World}{g:Nat}{a b c d u u':Value}(h:w1.cell? ⟨g,0,none⟩=some a∧w1.cell? ⟨g,1,none⟩=some b∧w1.cell? ⟨g+1,0,none⟩=some c∧w1.cell? ⟨g+1,1,none⟩=some d):
  ((w1.setCell ⟨g+1+1,0,none⟩ u).setCell ⟨g+1+1,1,none⟩ u').cell? ⟨g,0,none⟩=some a∧((w1.setCell ⟨g+1+1,0,none⟩ u).setCell ⟨g+1+1,1,none⟩ u').cell? ⟨g,1,none⟩=some b∧
    ((w1.setCell ⟨g+1+1,0,none⟩ u).setCell ⟨g+1+1,1,none⟩ u').cell? ⟨g+1,0,none⟩=some c∧((w1.setCell ⟨g+1+1,0,none⟩ u).setCell ⟨g+1+1,1,none⟩ u').cell? ⟨g+1,1,none⟩=some d:=by
 have far:∀(b i:Nat),b<g+1+1→((w1.setCell ⟨g+1+1,0,none⟩ u).setCell ⟨g+1+1,1,none⟩ u').cell? ⟨b,i,none⟩=w1.cell? ⟨b,i,none⟩:=fun b i hb=>
  (World.cell?_setCell_other _ _ _ _ (by intro he;injection he with he;omega)).trans (World.cell?_setCell_other _ _ _ _ (by intro he;injection he with he;omega))
 exact⟨(far _ _ (by omega)).trans h.1,(far _ _ (by omega)).trans h.2.1,(far _ _ (by omega)).trans h.2.2.1,(far _ _ (by omega)).trans h.2.2.2⟩
theorem Sl.lit {w:World}{v:Value}{xs:List Nat}(h:Sl w v xs):∃ad n cap,v= .slice ad n cap:=let ⟨ad,n,cap,hv,_⟩:=h;⟨ad,n,cap,hv⟩
theorem Sl.poke {w:World}{v u x:Value}{xs:List Nat}(h:Sl w v xs){p:Addr}(hp:w.cell? p=some x)(hx:∀k n,x≠ .int k n):Sl (w.setCell p u) v xs:=by
 obtain⟨ad,n,cap,hv,hl,hc,hm,hlm,hs⟩:=h;refine⟨ad,n,cap,hv,hl,hc,hm,hlm,fun h0=> ?_⟩;obtain⟨b,off,ha,hbs,hcell⟩:=hs h0;refine⟨b,off,ha,by simpa using hbs,fun i hi=> ?_⟩;have hne:p≠⟨b,off+i,none⟩:=by
  rintro rfl;rw[hcell i hi]at hp;injection hp with hp;exact hx _ _ hp.symm
 exact(World.cell?_setCell_other _ _ _ _ hne).trans (hcell i hi)
theorem Sl.box {w:World}{g:Nat}{v u u':Value}{b:Bool}{s:Option Addr}{m c:Nat}{xs:List Nat}(h:Sl w v xs)(h0:w.cell? ⟨g,0,none⟩=some (.bool b))(h1:w.cell? ⟨g,1,none⟩=some (.slice s m c)):
  Sl ((w.setCell ⟨g,0,none⟩ u).setCell ⟨g,1,none⟩ u') v xs:=by
 have hne:(⟨g,0,none⟩:Addr)≠⟨g,1,none⟩:=by simp
 exact(h.poke h0 (by simp)).poke ((World.cell?_setCell_other _ _ _ _ hne).trans h1) (by simp)
theorem below_box {w0 w:World}{g:Nat}{u u':Value}(h:Below w0.heap.size w0 w)(hg:w0.heap.size≤g):Below w0.heap.size w0 ((w.setCell ⟨g,0,none⟩ u).setCell ⟨g,1,none⟩ u'):=(h.setCell hg _).setCell hg _
def iv (neg:Bool)(m:Nat):Int:=if neg then -(m:Int)else m
def CI (z:Int)(w:World)(v:Value):Prop:=∃s,v= .agg #[.bool (decide (z<0)),s]∧Num z.natAbs w s
theorem iv_abs (neg:Bool)(m:Nat):(iv neg m).natAbs=m:=by unfold iv;split<;>omega
theorem iv_lt (neg:Bool)(m:Nat):decide (iv neg m<0)=(neg&&decide (0<m)):=by
 unfold iv;cases neg<;>simp
theorem imake_any (neg:Bool)(v:Value)(xs:List Nat)(w:World)(h:Sl w v xs):Calls Tryz.prog 136 #[.bool neg,v] w (Ret w (CI (iv neg (val xs)))):=by
 have H:=lH h;clear h
 go_enter Tryz.func136,Tryz.ntmps136
 go_wp2_with fail
 refine(make_any _ _ _ (H.out.below ((bR_ _ _).alloc (lR_ _) _))).mono ?_;rintro e w1 ⟨v1,rfl,h1,hb⟩;obtain⟨c0,c1,f0,f1⟩:=box_kept hb;have hB:=lH (below1 hb);have hlt:w.heap.size<w1.heap.size:=Nat.lt_of_lt_of_le (by simp) hb.size;clear hb;have H1:=lH h1;obtain⟨ad,n,cap,rfl,hn,-⟩:=h1;have hz:decide (iv neg (val xs)<0)=(neg&&decide (0<n)):=by
  rw[iv_lt,←hn];have:= @sz_eq_zero (val xs);unfold sz at this
  congr 1
  simp only[decide_eq_decide];omega
 have fin:∀u:Bool,u=(neg&&decide (0<n))→Ret w (CI (iv neg (val xs))) (.returned (.agg #[.bool u,.slice ad n cap])) ((w1.setCell ⟨w.heap.size,0,none⟩ (.bool u)).setCell ⟨w.heap.size,1,none⟩ (.slice ad n cap)):=by
  rintro u rfl;refine⟨_,rfl,⟨_,by rw[hz],?_⟩,below_box hB.out (lR_ _)⟩;rw[iv_abs];exact Sl.box H1.out c0 c1
 cases neg
 ·obtain⟨k0,k1⟩:=box_set (x':= .bool false) (y':= .slice ad n cap) c0 c1;go_wp2;refine bodyPost_ret (ret_int rfl _ _ w.heap.size _ _ rfl k0 k1) rfl ?_;exact fin false rfl
 ·by_cases h0:0<n
  ·have d0:decide ((0:Int)<n)=true:=by simpa using h0
   obtain⟨k0,k1⟩:=box_set (x':= .bool true) (y':= .slice ad n cap) c0 c1;go_wp2;refine bodyPost_ret (ret_int rfl _ _ w.heap.size _ _ rfl k0 k1) rfl ?_;exact fin true (by simp[h0])
  ·have d0:decide ((0:Int)<n)=false:=by simpa using h0
   obtain⟨k0,k1⟩:=box_set (x':= .bool false) (y':= .slice ad n cap) c0 c1;go_wp2;refine bodyPost_ret (ret_int rfl _ _ w.heap.size _ _ rfl k0 k1) rfl ?_;exact fin false (by simp[h0])
theorem rimake_any (neg:Bool)(v:Value)(xs:List Nat)(w:World)(h:Sl w v xs):Calls Tryz.prog 88 #[.bool neg,v] w (Ret w (CI (iv neg (val xs)))):=by
 have H:=lH h;clear h
 go_enter Tryz.func88,Tryz.ntmps88
 go_wp2_with fail
 refine(rmake_any _ _ _ (H.out.below ((bR_ _ _).alloc (lR_ _) _))).mono ?_;rintro e w1 ⟨v1,rfl,h1,hb⟩;obtain⟨c0,c1,f0,f1⟩:=box_kept hb;have hB:=lH (below1 hb);have hlt:w.heap.size<w1.heap.size:=Nat.lt_of_lt_of_le (by simp) hb.size;clear hb;have H1:=lH h1;obtain⟨ad,n,cap,rfl,hn,-⟩:=h1;have hz:decide (iv neg (val xs)<0)=(neg&&decide (0<n)):=by
  rw[iv_lt,←hn];have:= @sz_eq_zero (val xs);unfold sz at this
  congr 1
  simp only[decide_eq_decide];omega
 have fin:∀u:Bool,u=(neg&&decide (0<n))→Ret w (CI (iv neg (val xs))) (.returned (.agg #[.bool u,.slice ad n cap])) ((w1.setCell ⟨w.heap.size,0,none⟩ (.bool u)).setCell ⟨w.heap.size,1,none⟩ (.slice ad n cap)):=by
  rintro u rfl;refine⟨_,rfl,⟨_,by rw[hz],?_⟩,below_box hB.out (lR_ _)⟩;rw[iv_abs];exact Sl.box H1.out c0 c1
 cases neg
 ·obtain⟨k0,k1⟩:=box_set (x':= .bool false) (y':= .slice ad n cap) c0 c1;go_wp2;refine bodyPost_ret (ret_int rfl _ _ w.heap.size _ _ rfl k0 k1) rfl ?_;exact fin false rfl
 ·by_cases h0:0<n
  ·have d0:decide ((0:Int)<n)=true:=by simpa using h0
   obtain⟨k0,k1⟩:=box_set (x':= .bool true) (y':= .slice ad n cap) c0 c1;go_wp2;refine bodyPost_ret (ret_int rfl _ _ w.heap.size _ _ rfl k0 k1) rfl ?_;exact fin true (by simp[h0])
  ·have d0:decide ((0:Int)<n)=false:=by simpa using h0
   obtain⟨k0,k1⟩:=box_set (x':= .bool false) (y':= .slice ad n cap) c0 c1;go_wp2;refine bodyPost_ret (ret_int rfl _ _ w.heap.size _ _ rfl k0 k1) rfl ?_;exact fin false (by simp[h0])
def AI (z:Int)(L:Nat)(w:World)(v:Value):Prop:=∃neg s m,v= .agg #[.bool neg,s]∧Is m L w s∧iv neg m=z
def CL (z:Int)(L:Nat)(w:World)(v:Value):Prop:=CI z w v∧sz z.natAbs≤L
theorem CL.ai {z:Int}{L:Nat}{w:World}{v:Value}(h:CL z L w v):AI z L w v:=by
 obtain⟨⟨s,h1,h2⟩,h3⟩:=h;refine⟨_,s,z.natAbs,h1,⟨_,h2,val_limbs _,h3⟩,?_⟩;unfold iv
 by_cases hz:z<0<;>simp[hz]<;>omega
theorem CL.mono {z:Int}{L M:Nat}{w:World}{v:Value}(h:CL z L w v)(hl:L≤M):CL z M w v:=⟨h.1,tL_ h.2 hl⟩
theorem imake_ai {neg:Bool}{m L:Nat}{s:Value}{w:World}(h:Is m L w s):Calls Tryz.prog 136 #[.bool neg,s] w (Ret w (CL (iv neg m) L)):=by
 have hs:=h.sz_le;obtain⟨xs,h,rfl,hl⟩:=h;refine(imake_any _ _ _ _ h).mono ?_;rintro e w' ⟨v,rfl,hn,hb⟩;exact⟨v,rfl,⟨hn,by rw[iv_abs];exact hs⟩,hb⟩
theorem rimake_ai {neg:Bool}{m L:Nat}{s:Value}{w:World}(h:Is m L w s):Calls Tryz.prog 88 #[.bool neg,s] w (Ret w (CL (iv neg m) L)):=by
 have hs:=h.sz_le;obtain⟨xs,h,rfl,hl⟩:=h;refine(rimake_any _ _ _ _ h).mono ?_;rintro e w' ⟨v,rfl,hn,hb⟩;exact⟨v,rfl,⟨hn,by rw[iv_abs];exact hs⟩,hb⟩
theorem iv_not (neg:Bool)(m:Nat):iv (!neg) m= -iv neg m:=by cases neg<;>simp[iv]
theorem iv_mul (na nb:Bool)(ma mb:Nat):iv (!na==nb) (ma*mb)=iv na ma*iv nb mb:=by
 cases na<;>cases nb<;>simp[iv,Int.natCast_mul,Int.neg_mul,Int.mul_neg]
theorem iv_add (na:Bool)(ma mb:Nat):iv na (ma+mb)=iv na ma+iv na mb:=by
 cases na<;>simp[iv]<;>omega
theorem imul_bx {L M:Nat}{ma mb:Nat}{sa sb:Value}{w:World}{na nb:Bool}(h:Is ma L w sa)(h':Is mb M w sb)(hL:L≤4294967296)(hM:M≤4294967296):
  Calls Tryz.prog 183 #[.agg #[.bool na,sa],.agg #[.bool nb,sb]] w (Ret w (CL (iv na ma*iv nb mb) (L+M))):=by
 have H:=lH h;have H':=lH h';clear h h'
 go_enter Tryz.func183,Tryz.ntmps183
 go_wp2_with fail
 obtain⟨W3,hW3⟩:∃W3,W3=(((w.alloc (.cells #[.bool na,sa] 96)).alloc (.cells #[.bool nb,sb] 96)).alloc (.cells #[.bool false,.slice none 0 0] 96)):=⟨_,rfl⟩;have hBW:Below w.heap.size w W3.drew:=by rw[hW3];exact((((bR_ _ _).alloc (lR_ _) _).alloc (by simp) _).alloc (by simp;omega) _).drew
 have A3:=lH (H.out.below hBW);have B3:=lH (H'.out.below hBW);have HBW:=lH hBW;clear hBW;subst hW3
 go_region_held3 (fun w'=>w'.cell? ⟨w.heap.size,0,none⟩=some (.bool na)∧w'.cell? ⟨w.heap.size,1,none⟩=some sa∧w'.cell? ⟨w.heap.size+1,0,none⟩=some (.bool nb)∧w'.cell? ⟨w.heap.size+1,1,none⟩=some sb)
  (first|exact boxes2s (boxes2 (hb1.trans (hb2.mono hb1.size)))|exact boxes2 (hb1.trans (hb2.mono hb1.size))|exact boxes2 hb1|go_keep)
  (first|(go_at_call 132;refine(mul_is A3.out B3.out hL hM).mono ?_;rintro e w1 ⟨v1,rfl,h1,hb1⟩)
        |(go_at_call 136;refine(imake_ai h1.is).mono ?_;rintro e w2 ⟨v2,rfl,⟨⟨s2,rfl,h2⟩,hs2⟩,hb2⟩;obtain⟨ad,n,cap,rfl⟩:=h2.lit;obtain⟨c0,c1,f0,f1⟩:=box_kept (((bR_ _ _).drew).trans (hb1.trans (hb2.mono hb1.size)));rw[World.size_alloc,World.size_alloc]at c0 c1 f0 f1))
 obtain⟨k0,k1⟩:=box_set (x':= .bool (decide (iv (!na==nb) (ma*mb)<0))) (y':= .slice ad n cap) c0 c1;go_wp2;refine bodyPost_ret (ret_int rfl _ _ (w.heap.size+1+1) _ _ rfl k0 k1) rfl ?_;rw[←iv_mul];exact⟨_,rfl,⟨⟨_,rfl,Sl.box h2 c0 c1⟩,hs2⟩,below_box (HBW.out.trans ((hb1.trans (hb2.mono hb1.size)).mono HBW.out.size)) (by omega)⟩
theorem iadd_bx_false {L M:Nat}{ma mb:Nat}{sa sb:Value}{w:World}(h:Is ma L w sa)(h':Is mb M w sb)(hL:L≤4294967296)(hM:M≤4294967296):
  Calls Tryz.prog 131 #[.agg #[.bool false,sa],.agg #[.bool false,sb]] w (Ret w (CL (iv false ma+iv false mb) (max L M+1))):=by
 have H:=lH h;have H':=lH h';clear h h'
 go_enter Tryz.func131,Tryz.ntmps131
 go_wp2_with fail
 obtain⟨W3,hW3⟩:∃W3,W3=(((w.alloc (.cells #[.bool false,sa] 96)).alloc (.cells #[.bool false,sb] 96)).alloc (.cells #[.bool false,.slice none 0 0] 96)):=⟨_,rfl⟩;have hBW:Below w.heap.size w W3.drew:=by rw[hW3];exact((((bR_ _ _).alloc (lR_ _) _).alloc (by simp) _).alloc (by simp;omega) _).drew
 have A3:=lH (H.out.below hBW);have B3:=lH (H'.out.below hBW);have HBW:=lH hBW;clear hBW;subst hW3
 go_region_held3 (fun w'=>w'.cell? ⟨w.heap.size,0,none⟩=some (.bool false)∧w'.cell? ⟨w.heap.size,1,none⟩=some sa∧w'.cell? ⟨w.heap.size+1,0,none⟩=some (.bool false)∧w'.cell? ⟨w.heap.size+1,1,none⟩=some sb)
  (first|exact boxes2s (boxes2 (hb1.trans (hb2.mono hb1.size)))|exact boxes2 (hb1.trans (hb2.mono hb1.size))|exact boxes2 hb1|go_keep)
  (first|(go_at_call 184;refine(add_is A3.out B3.out hL hM).mono ?_;rintro e w1 ⟨v1,rfl,h1,hb1⟩)
        |(go_at_call 136;refine(imake_ai h1.is).mono ?_;rintro e w2 ⟨v2,rfl,⟨⟨s2,rfl,h2⟩,hs2⟩,hb2⟩;obtain⟨ad,n,cap,rfl⟩:=h2.lit;obtain⟨c0,c1,f0,f1⟩:=box_kept (((bR_ _ _).drew).trans (hb1.trans (hb2.mono hb1.size)));rw[World.size_alloc,World.size_alloc]at c0 c1 f0 f1))
 obtain⟨k0,k1⟩:=box_set (x':= .bool (decide (iv false (ma+mb)<0))) (y':= .slice ad n cap) c0 c1;go_wp2;refine bodyPost_ret (ret_int rfl _ _ (w.heap.size+1+1) _ _ rfl k0 k1) rfl ?_;rw[←iv_add];exact⟨_,rfl,⟨⟨_,rfl,Sl.box h2 c0 c1⟩,hs2⟩,below_box (HBW.out.trans ((hb1.trans (hb2.mono hb1.size)).mono HBW.out.size)) (by omega)⟩
theorem iadd_bx_true {L M:Nat}{ma mb:Nat}{sa sb:Value}{w:World}(h:Is ma L w sa)(h':Is mb M w sb)(hL:L≤4294967296)(hM:M≤4294967296):
  Calls Tryz.prog 131 #[.agg #[.bool true,sa],.agg #[.bool true,sb]] w (Ret w (CL (iv true ma+iv true mb) (max L M+1))):=by
 have H:=lH h;have H':=lH h';clear h h'
 go_enter Tryz.func131,Tryz.ntmps131
 go_wp2_with fail
 obtain⟨W3,hW3⟩:∃W3,W3=(((w.alloc (.cells #[.bool true,sa] 96)).alloc (.cells #[.bool true,sb] 96)).alloc (.cells #[.bool false,.slice none 0 0] 96)):=⟨_,rfl⟩;have hBW:Below w.heap.size w W3.drew:=by rw[hW3];exact((((bR_ _ _).alloc (lR_ _) _).alloc (by simp) _).alloc (by simp;omega) _).drew
 have A3:=lH (H.out.below hBW);have B3:=lH (H'.out.below hBW);have HBW:=lH hBW;clear hBW;subst hW3
 go_region_held3 (fun w'=>w'.cell? ⟨w.heap.size,0,none⟩=some (.bool true)∧w'.cell? ⟨w.heap.size,1,none⟩=some sa∧w'.cell? ⟨w.heap.size+1,0,none⟩=some (.bool true)∧w'.cell? ⟨w.heap.size+1,1,none⟩=some sb)
  (first|exact boxes2s (boxes2 (hb1.trans (hb2.mono hb1.size)))|exact boxes2 (hb1.trans (hb2.mono hb1.size))|exact boxes2 hb1|go_keep)
  (first|(go_at_call 184;refine(add_is A3.out B3.out hL hM).mono ?_;rintro e w1 ⟨v1,rfl,h1,hb1⟩)
        |(go_at_call 136;refine(imake_ai h1.is).mono ?_;rintro e w2 ⟨v2,rfl,⟨⟨s2,rfl,h2⟩,hs2⟩,hb2⟩;obtain⟨ad,n,cap,rfl⟩:=h2.lit;obtain⟨c0,c1,f0,f1⟩:=box_kept (((bR_ _ _).drew).trans (hb1.trans (hb2.mono hb1.size)));rw[World.size_alloc,World.size_alloc]at c0 c1 f0 f1))
 obtain⟨k0,k1⟩:=box_set (x':= .bool (decide (iv true (ma+mb)<0))) (y':= .slice ad n cap) c0 c1;go_wp2;refine bodyPost_ret (ret_int rfl _ _ (w.heap.size+1+1) _ _ rfl k0 k1) rfl ?_;rw[←iv_add];exact⟨_,rfl,⟨⟨_,rfl,Sl.box h2 c0 c1⟩,hs2⟩,below_box (HBW.out.trans ((hb1.trans (hb2.mono hb1.size)).mono HBW.out.size)) (by omega)⟩
theorem imul_ai {y z:Int}{L M:Nat}{u v:Value}{w:World}(h:AI y L w u)(h':AI z M w v)(hL:L≤4294967296)(hM:M≤4294967296):
  Calls Tryz.prog 183 #[u,v] w (Ret w (CL (y*z) (L+M))):=by
 obtain⟨na,sa,ma,rfl,h,rfl⟩:=h;obtain⟨nb,sb,mb,rfl,h',rfl⟩:=h';exact imul_bx h h' hL hM
theorem Is.keep {n L:Nat}{w w':World}{v:Value}(h:Is n L w v)(k:Keep w w'):Is n L w' v:=let ⟨xs,h1,h2⟩:=h;⟨xs,k _ _ h1,h2⟩
abbrev iK:= @Is.keep
theorem Can.keep {n L:Nat}{w w':World}{v:Value}(h:Can n L w v)(k:Keep w w'):Can n L w' v:=⟨k _ _ h.1,h.2⟩
theorem CI.keep {z:Int}{w w':World}{v:Value}(h:CI z w v)(k:Keep w w'):CI z w' v:=let ⟨s,h1,h2⟩:=h;⟨s,h1,k _ _ h2⟩
theorem CL.keep {z:Int}{L:Nat}{w w':World}{v:Value}(h:CL z L w v)(k:Keep w w'):CL z L w' v:=⟨h.1.keep k,h.2⟩
theorem Is.lit {n L:Nat}{w:World}{v:Value}(h:Is n L w v):∃ad m cap,v= .slice ad m cap:=let ⟨_,h1,_⟩:=h;Sl.lit h1
theorem CL.lit {z:Int}{L:Nat}{w:World}{v:Value}(h:CL z L w v):∃ad n cap,v= .agg #[.bool (decide (z<0)),.slice ad n cap]:=by
 obtain⟨⟨s,rfl,h2⟩,-⟩:=h;obtain⟨ad,n,cap,rfl⟩:=Sl.lit h2;exact⟨ad,n,cap,rfl⟩
theorem boxes_1 (w:World)(c:Array Value)(t:TypeId){W:World}(hW:W=w.alloc (.cells c t)):
  Box W w.heap.size t c∧Keep w W∧Below w.heap.size w W:=by
 subst hW;exact⟨Box.new _ _ _,Keep.alloc _ _,(bR_ _ _).alloc (lR_ _) _⟩
theorem boxes_2 (w:World)(c c':Array Value)(t t':TypeId){W:World}(hW:W=(w.alloc (.cells c t)).alloc (.cells c' t')):
  Box W w.heap.size t c∧Box W (w.heap.size+1) t' c'∧Keep w W∧Below w.heap.size w W:=by
 subst hW;exact⟨(Box.new _ _ _).alloc _,Box.newAt _ _ _ (by simp),(Keep.alloc _ _).trans (Keep.alloc _ _),((bR_ _ _).alloc (lR_ _) _).alloc (by simp) _⟩
theorem boxes_3 (w:World)(c c' c'':Array Value)(t t' t'':TypeId){W:World}(hW:W=((w.alloc (.cells c t)).alloc (.cells c' t')).alloc (.cells c'' t'')):
  Box W w.heap.size t c∧Box W (w.heap.size+1) t' c'∧Box W (w.heap.size+1+1) t'' c''∧Keep w W∧Below w.heap.size w W:=by
 subst hW;exact⟨((Box.new _ _ _).alloc _).alloc _,(Box.newAt _ _ _ (by simp)).alloc _,Box.newAt _ _ _ (by simp),((Keep.alloc _ _).trans (Keep.alloc _ _)).trans (Keep.alloc _ _),(((bR_ _ _).alloc (lR_ _) _).alloc (by simp) _).alloc (by simp;omega) _⟩
theorem boxes_4 (w:World)(c c' c'' c''':Array Value)(t t' t'' t''':TypeId){W:World}(hW:W=(((w.alloc (.cells c t)).alloc (.cells c' t')).alloc (.cells c'' t'')).alloc (.cells c''' t''')):
  Box W w.heap.size t c∧Box W (w.heap.size+1) t' c'∧Box W (w.heap.size+1+1) t'' c''∧Box W (w.heap.size+1+1+1) t''' c'''∧Keep w W∧Below w.heap.size w W:=by
 subst hW;exact⟨(((Box.new _ _ _).alloc _).alloc _).alloc _,((Box.newAt _ _ _ (by simp)).alloc _).alloc _,(Box.newAt _ _ _ (by simp)).alloc _,Box.newAt _ _ _ (by simp),
  (((Keep.alloc _ _).trans (Keep.alloc _ _)).trans (Keep.alloc _ _)).trans (Keep.alloc _ _),((((bR_ _ _).alloc (lR_ _) _).alloc (by simp) _).alloc (by simp;omega) _).alloc (by simp;omega) _⟩
theorem iv_sub (na:Bool){ma mb:Nat}(h:mb≤ma):iv na (ma-mb)=iv na ma+iv (!na) mb:=by
 cases na<;>simp[iv]<;>omega
theorem iv_sub' (na:Bool){ma mb:Nat}(h:ma≤mb):iv (!na) (mb-ma)=iv na ma+iv (!na) mb:=by
 cases na<;>simp[iv]<;>omega
theorem Box.pcall {w w':World}{g:Nat}{t:TypeId}{cs:Array Value}(hb:Below w.heap.size w w')(h:Box w g t cs):Box w' g t cs:=h.call hb
abbrev xP:= @Box.pcall
theorem CL.cast {y z:Int}{L:Nat}{w:World}{v:Value}(e:y=z)(h:CL y L w v):CL z L w v:=e▸h
theorem stored2 {W W':World}{g:Nat}{t:TypeId}{x y x' y':Value}(hW:W'=(W.setCell ⟨g,0,none⟩ x').setCell ⟨g,1,none⟩ y')(X:Box W g t #[x,y])(hx:NoInt x)(hy:NoInt y):
  Box W' g t #[x',y']∧Keep W W'∧(∀g' t' cs,Box W g' t' cs→g'≠g→Box W' g' t' cs)∧(∀w0:World,Below w0.heap.size w0 W→w0.heap.size≤g→Below w0.heap.size w0 W'):=by
 subst hW;exact⟨X.set2,Keep.set2 X hx hy,fun _ _ _ h hne=>h.far2 hne,fun _ h hg=>below_set2 h hg⟩
theorem stored3 {W W':World}{g:Nat}{t:TypeId}{x y z x' y' z':Value}(hW:W'=((W.setCell ⟨g,0,none⟩ x').setCell ⟨g,1,none⟩ y').setCell ⟨g,2,none⟩ z')(X:Box W g t #[x,y,z])(hx:NoInt x)(hy:NoInt y)(hz:NoInt z):
  Box W' g t #[x',y',z']∧Keep W W'∧(∀g' t' cs,Box W g' t' cs→g'≠g→Box W' g' t' cs)∧(∀w0:World,Below w0.heap.size w0 W→w0.heap.size≤g→Below w0.heap.size w0 W'):=by
 subst hW;exact⟨X.set3,Keep.set3 X hx hy hz,fun _ _ _ h hne=>h.far3 hne,fun _ h hg=>below_set3 h hg⟩
theorem swapped2 {W W':World}{g h:Nat}{t t':TypeId}{x y x' y' u v u' v':Value}(hW:W'=(((W.setCell ⟨g,0,none⟩ x').setCell ⟨g,1,none⟩ y').setCell ⟨h,0,none⟩ u').setCell ⟨h,1,none⟩ v')
  (X:Box W g t #[x,y]) (Y:Box W h t' #[u,v]) (hne:g≠h) (hx:NoInt x) (hy:NoInt y) (hu:NoInt u) (hv:NoInt v):
  Box W' g t #[x',y']∧Box W' h t' #[u',v']∧Keep W W'∧(∀g' t' cs,Box W g' t' cs→g'≠g→g'≠h→Box W' g' t' cs)∧(∀w0:World,Below w0.heap.size w0 W→w0.heap.size≤g→w0.heap.size≤h→Below w0.heap.size w0 W'):=by
 subst hW;have Y1:=Y.far2 (x:=x') (y:=y') (Ne.symm hne);exact⟨X.set2.far2 hne,Y1.set2,(Keep.set2 X hx hy).trans (Keep.set2 Y1 hu hv),fun _ _ _ k h1 h2=>(k.far2 h1).far2 h2,fun _ k h1 h2=>below_set2 (below_set2 k h1) h2⟩
theorem ret_cl {fn:Func}{p:Tmp}{a:Act}{w0 W:World}{g L n cap:Nat}{t:TypeId}{x y:Value}{z:Int}{b:Bool}{ad:Option Addr}(hres:fn.results= #[.cell p 96])
  (hp:a.tmps.getD p undef= .pointer (some ⟨g,0,none⟩)) (hd:a.defers=[]) (X:Box W g t #[x,y]) (hx:NoInt x) (hy:NoInt y) (h:CL z L W (.agg #[.bool b,.slice ad n cap]))
  (HB:Below w0.heap.size w0 W) (hg:w0.heap.size≤g):bodyPost Tryz.prog fn (Ret w0 (CL z L)) .ret a ((W.setCell ⟨g,0,none⟩ (.bool b)).setCell ⟨g,1,none⟩ (.slice ad n cap)):=
 have k:=X.set2 (x':= .bool b) (y':= .slice ad n cap)
 bodyPost_ret (ret_int hres _ _ g _ _ hp (k.cell 0 rfl) (k.cell 1 rfl)) hd ⟨_,rfl,h.keep (Keep.set2 X hx hy),below_set2 HB hg⟩
theorem cmpN_ge {a b:Nat}(h:b≤a):decide (cmpN a b<0)=false:=by
 unfold cmpN;rw[if_neg (by omega)];split<;>rfl
theorem Ret.mono_cl {z:Int}{L M:Nat}{w w':World}{e:Ending}(h:Ret w (CL z L) e w')(hl:L≤M):Ret w (CL z M) e w':=
 let ⟨v,h1,h2,h3⟩:=h;⟨v,h1,h2.mono hl,h3⟩
theorem iadd_ge_false {L M:Nat}{ma mb:Nat}{sa sb:Value}{w:World}(k:Int)(hk:cmpN ma mb=k)(hk0:decide (k<0)=false)(hc:mb≤ma)(ha:Is ma L w sa)(hb:Is mb M w sb)(hL:L≤4294967296)(hM:M≤4294967296):
  Calls Tryz.prog 131 #[.agg #[.bool false,sa],.agg #[.bool true,sb]] w (Ret w (CL (iv false ma+iv true mb) (max L M))):=by
 have Ha:=lH ha;have Hb:=lH hb;have Hc:=lH hc;have Hk:=lH hk;clear ha hb hc hk
 go_enter Tryz.func131,Tryz.ntmps131
 go_wp2_with fail
 obtain⟨W,hW⟩:∃W,W=(((w.alloc (.cells #[.bool false,sa] 96)).alloc (.cells #[.bool true,sb] 96)).alloc (.cells #[.bool false,.slice none 0 0] 96)):=⟨_,rfl⟩;rw[←hW];obtain⟨x1,x2,x3,hk,hb⟩:=boxes_3 _ _ _ _ _ _ _ hW;clear hW;have Ha:=lH (iK Ha.out hk);have Hb:=lH (iK Hb.out hk);have X1:=lH x1;have X2:=lH x2;have X3:=lH x3;have HB:=lH hb;clear hk hb x1 x2 x3
 (first|(have hcall:=cmp_is k Ha.out Hb.out Hk.out;refine cM hcall ?_;clear hcall)|refine cM (cmp_is k Ha.out Hb.out Hk.out) ?_)
 rintro e w1 ⟨v1,rfl,rfl,hb⟩;have Ha:=lH (iK Ha.out (kC hb));have Hb:=lH (iK Hb.out (kC hb));have X1:=lH (xP hb X1.out);have X2:=lH (xP hb X2.out);have X3:=lH (xP hb X3.out);have HB:=lH (bC HB.out hb);clear hb;obtain⟨c10,c11,f10,f11⟩:=X1.out.c2;obtain⟨c20,c21,f20,f21⟩:=X2.out.c2;obtain⟨c30,c31,f30,f31⟩:=X3.out.c2
 go_wp2_with fail
 clear c10 c11 f10 f11 c20 c21 f20 f21 c30 c31 f30 f31
 (first|(have hcall:=sub_is2 (subErr_le Hc.out) Ha.out Hb.out hL;refine cM hcall ?_;clear hcall)|refine cM (sub_is2 (subErr_le Hc.out) Ha.out Hb.out hL) ?_)
 rintro e w2 ⟨t2,rfl,⟨v2,rfl,hd⟩,hb⟩;have X1:=lH (xP hb X1.out);have X2:=lH (xP hb X2.out);have X3:=lH (xP hb X3.out);have HB:=lH (bC HB.out hb);have Hd:=lH hd;clear hb hd;obtain⟨c10,c11,f10,f11⟩:=X1.out.c2;obtain⟨c20,c21,f20,f21⟩:=X2.out.c2;obtain⟨c30,c31,f30,f31⟩:=X3.out.c2
 go_wp2_with fail
 clear c10 c11 f10 f11 c20 c21 f20 f21 c30 c31 f30 f31
 (first|(have hcall:=imake_ai (neg:=false) Hd.out.is;refine cM hcall ?_;clear hcall)|refine cM (imake_ai (neg:=false) Hd.out.is) ?_)
 rintro e w3 ⟨v3,rfl,hr,hb⟩;obtain⟨adr,nr,capr,rfl⟩:=hr.lit;have X1:=lH (xP hb X1.out);have X2:=lH (xP hb X2.out);have X3:=lH (xP hb X3.out);have HB:=lH (bC HB.out hb);have Hr:=lH hr;clear hb hr;have e0:=iv_sub false Hc.out;have Hs:=lH (CL.mono (CL.cast e0 Hr.out) (Nat.le_max_left L M));clear e0 Hc Hk;obtain⟨c10,c11,f10,f11⟩:=X1.out.c2;obtain⟨c20,c21,f20,f21⟩:=X2.out.c2;obtain⟨c30,c31,f30,f31⟩:=X3.out.c2;go_wp2;exact ret_cl rfl rfl rfl X3.out (nB_ _) (nS_ _ _ _) Hs.out HB.out (by omega)
theorem iadd_lt_false {L M:Nat}{ma mb:Nat}{p1 p2:Option Addr}{n1 n2 q1 q2:Nat}{w:World}(k:Int)(hk:cmpN ma mb=k)(hk0:decide (k<0)=true)(hc:ma<mb)(ha:Is ma L w (.slice p1 n1 q1))(hb:Is mb M w (.slice p2 n2 q2))(hL:L≤4294967296)(hM:M≤4294967296):
  Calls Tryz.prog 131 #[.agg #[.bool false,.slice p1 n1 q1],.agg #[.bool true,.slice p2 n2 q2]] w (Ret w (CL (iv false ma+iv true mb) (max L M))):=by
 have Ha:=lH ha;have Hb:=lH hb;have Hc:=lH hc;have Hk:=lH hk;clear ha hb hc hk
 go_enter Tryz.func131,Tryz.ntmps131
 go_wp2_with fail
 obtain⟨W,hW⟩:∃W,W=(((w.alloc (.cells #[.bool false,.slice p1 n1 q1] 96)).alloc (.cells #[.bool true,.slice p2 n2 q2] 96)).alloc (.cells #[.bool false,.slice none 0 0] 96)):=⟨_,rfl⟩;rw[←hW];obtain⟨x1,x2,x3,hk,hb⟩:=boxes_3 _ _ _ _ _ _ _ hW;clear hW;have Ha:=lH (iK Ha.out hk);have Hb:=lH (iK Hb.out hk);have X1:=lH x1;have X2:=lH x2;have X3:=lH x3;have HB:=lH hb;clear hk hb x1 x2 x3
 (first|(have hcall:=cmp_is k Ha.out Hb.out Hk.out;refine cM hcall ?_;clear hcall)|refine cM (cmp_is k Ha.out Hb.out Hk.out) ?_)
 rintro e w1 ⟨v1,rfl,rfl,hb⟩;have Ha:=lH (iK Ha.out (kC hb));have Hb:=lH (iK Hb.out (kC hb));have X1:=lH (xP hb X1.out);have X2:=lH (xP hb X2.out);have X3:=lH (xP hb X3.out);have HB:=lH (bC HB.out hb);clear hb;obtain⟨c10,c11,f10,f11⟩:=X1.out.c2;obtain⟨c20,c21,f20,f21⟩:=X2.out.c2;obtain⟨c30,c31,f30,f31⟩:=X3.out.c2
 go_wp2_with fail
 clear c10 c11 f10 f11 c20 c21 f20 f21 c30 c31 f30 f31;obtain⟨W2,hW⟩:∃W2,W2=(World.setCell (World.setCell (World.setCell (World.setCell w1 ⟨w.heap.size,0,none⟩ (.bool true)) ⟨w.heap.size,1,none⟩ (.slice p2 n2 q2)) ⟨w.heap.size+1,0,none⟩ (.bool false)) ⟨w.heap.size+1,1,none⟩ (.slice p1 n1 q1)):=⟨_,rfl⟩;rw[←hW];obtain⟨x1,x2,hk,hf,hbb⟩:=swapped2 hW X1.out X2.out (by omega) (by first|exact nB_ _|exact nS_ _ _ _|exact Ha.out.noInt|exact Hb.out.noInt) (by first|exact nB_ _|exact nS_ _ _ _|exact Ha.out.noInt|exact Hb.out.noInt) (by first|exact nB_ _|exact nS_ _ _ _|exact Ha.out.noInt|exact Hb.out.noInt) (by first|exact nB_ _|exact nS_ _ _ _|exact Ha.out.noInt|exact Hb.out.noInt);have Ha:=lH (iK Ha.out hk);have Hb:=lH (iK Hb.out hk);have X1:=lH x1;have X2:=lH x2;have X3:=lH (hf _ _ _ X3.out (by omega) (by omega));have HB:=lH (hbb _ HB.out (by omega) (by omega));clear hW hk hf hbb x1 x2
 (first|(have hcall:=sub_is2 (subErr_le (Nat.le_of_lt Hc.out)) Hb.out Ha.out hM;refine cM hcall ?_;clear hcall)|refine cM (sub_is2 (subErr_le (Nat.le_of_lt Hc.out)) Hb.out Ha.out hM) ?_)
 rintro e w3 ⟨t3,rfl,⟨v3,rfl,hd⟩,hb⟩;have X1:=lH (xP hb X1.out);have X2:=lH (xP hb X2.out);have X3:=lH (xP hb X3.out);have HB:=lH (bC HB.out hb);have Hd:=lH hd;clear hb hd;obtain⟨c10,c11,f10,f11⟩:=X1.out.c2;obtain⟨c20,c21,f20,f21⟩:=X2.out.c2;obtain⟨c30,c31,f30,f31⟩:=X3.out.c2
 go_wp2_with fail
 clear c10 c11 f10 f11 c20 c21 f20 f21 c30 c31 f30 f31
 (first|(have hcall:=imake_ai (neg:=true) Hd.out.is;refine cM hcall ?_;clear hcall)|refine cM (imake_ai (neg:=true) Hd.out.is) ?_)
 rintro e w4 ⟨v4,rfl,hr,hb⟩;obtain⟨adr,nr,capr,rfl⟩:=hr.lit;have X1:=lH (xP hb X1.out);have X2:=lH (xP hb X2.out);have X3:=lH (xP hb X3.out);have HB:=lH (bC HB.out hb);have Hr:=lH hr;clear hb hr;have e0:=iv_sub' false (Nat.le_of_lt Hc.out);have Hs:=lH (CL.mono (CL.cast e0 Hr.out) (Nat.le_max_right L M));clear e0 Hc Hk;obtain⟨c10,c11,f10,f11⟩:=X1.out.c2;obtain⟨c20,c21,f20,f21⟩:=X2.out.c2;obtain⟨c30,c31,f30,f31⟩:=X3.out.c2;go_wp2;exact ret_cl rfl rfl rfl X3.out (nB_ _) (nS_ _ _ _) Hs.out HB.out (by omega)
theorem iadd_ge_true {L M:Nat}{ma mb:Nat}{sa sb:Value}{w:World}(k:Int)(hk:cmpN ma mb=k)(hk0:decide (k<0)=false)(hc:mb≤ma)(ha:Is ma L w sa)(hb:Is mb M w sb)(hL:L≤4294967296)(hM:M≤4294967296):
  Calls Tryz.prog 131 #[.agg #[.bool true,sa],.agg #[.bool false,sb]] w (Ret w (CL (iv true ma+iv false mb) (max L M))):=by
 have Ha:=lH ha;have Hb:=lH hb;have Hc:=lH hc;have Hk:=lH hk;clear ha hb hc hk
 go_enter Tryz.func131,Tryz.ntmps131
 go_wp2_with fail
 obtain⟨W,hW⟩:∃W,W=(((w.alloc (.cells #[.bool true,sa] 96)).alloc (.cells #[.bool false,sb] 96)).alloc (.cells #[.bool false,.slice none 0 0] 96)):=⟨_,rfl⟩;rw[←hW];obtain⟨x1,x2,x3,hk,hb⟩:=boxes_3 _ _ _ _ _ _ _ hW;clear hW;have Ha:=lH (iK Ha.out hk);have Hb:=lH (iK Hb.out hk);have X1:=lH x1;have X2:=lH x2;have X3:=lH x3;have HB:=lH hb;clear hk hb x1 x2 x3
 (first|(have hcall:=cmp_is k Ha.out Hb.out Hk.out;refine cM hcall ?_;clear hcall)|refine cM (cmp_is k Ha.out Hb.out Hk.out) ?_)
 rintro e w1 ⟨v1,rfl,rfl,hb⟩;have Ha:=lH (iK Ha.out (kC hb));have Hb:=lH (iK Hb.out (kC hb));have X1:=lH (xP hb X1.out);have X2:=lH (xP hb X2.out);have X3:=lH (xP hb X3.out);have HB:=lH (bC HB.out hb);clear hb;obtain⟨c10,c11,f10,f11⟩:=X1.out.c2;obtain⟨c20,c21,f20,f21⟩:=X2.out.c2;obtain⟨c30,c31,f30,f31⟩:=X3.out.c2
 go_wp2_with fail
 clear c10 c11 f10 f11 c20 c21 f20 f21 c30 c31 f30 f31
 (first|(have hcall:=sub_is2 (subErr_le Hc.out) Ha.out Hb.out hL;refine cM hcall ?_;clear hcall)|refine cM (sub_is2 (subErr_le Hc.out) Ha.out Hb.out hL) ?_)
 rintro e w2 ⟨t2,rfl,⟨v2,rfl,hd⟩,hb⟩;have X1:=lH (xP hb X1.out);have X2:=lH (xP hb X2.out);have X3:=lH (xP hb X3.out);have HB:=lH (bC HB.out hb);have Hd:=lH hd;clear hb hd;obtain⟨c10,c11,f10,f11⟩:=X1.out.c2;obtain⟨c20,c21,f20,f21⟩:=X2.out.c2;obtain⟨c30,c31,f30,f31⟩:=X3.out.c2
 go_wp2_with fail
 clear c10 c11 f10 f11 c20 c21 f20 f21 c30 c31 f30 f31
 (first|(have hcall:=imake_ai (neg:=true) Hd.out.is;refine cM hcall ?_;clear hcall)|refine cM (imake_ai (neg:=true) Hd.out.is) ?_)
 rintro e w3 ⟨v3,rfl,hr,hb⟩;obtain⟨adr,nr,capr,rfl⟩:=hr.lit;have X1:=lH (xP hb X1.out);have X2:=lH (xP hb X2.out);have X3:=lH (xP hb X3.out);have HB:=lH (bC HB.out hb);have Hr:=lH hr;clear hb hr;have e0:=iv_sub true Hc.out;have Hs:=lH (CL.mono (CL.cast e0 Hr.out) (Nat.le_max_left L M));clear e0 Hc Hk;obtain⟨c10,c11,f10,f11⟩:=X1.out.c2;obtain⟨c20,c21,f20,f21⟩:=X2.out.c2;obtain⟨c30,c31,f30,f31⟩:=X3.out.c2;go_wp2;exact ret_cl rfl rfl rfl X3.out (nB_ _) (nS_ _ _ _) Hs.out HB.out (by omega)
theorem iadd_lt_true {L M:Nat}{ma mb:Nat}{p1 p2:Option Addr}{n1 n2 q1 q2:Nat}{w:World}(k:Int)(hk:cmpN ma mb=k)(hk0:decide (k<0)=true)(hc:ma<mb)(ha:Is ma L w (.slice p1 n1 q1))(hb:Is mb M w (.slice p2 n2 q2))(hL:L≤4294967296)(hM:M≤4294967296):
  Calls Tryz.prog 131 #[.agg #[.bool true,.slice p1 n1 q1],.agg #[.bool false,.slice p2 n2 q2]] w (Ret w (CL (iv true ma+iv false mb) (max L M))):=by
 have Ha:=lH ha;have Hb:=lH hb;have Hc:=lH hc;have Hk:=lH hk;clear ha hb hc hk
 go_enter Tryz.func131,Tryz.ntmps131
 go_wp2_with fail
 obtain⟨W,hW⟩:∃W,W=(((w.alloc (.cells #[.bool true,.slice p1 n1 q1] 96)).alloc (.cells #[.bool false,.slice p2 n2 q2] 96)).alloc (.cells #[.bool false,.slice none 0 0] 96)):=⟨_,rfl⟩;rw[←hW];obtain⟨x1,x2,x3,hk,hb⟩:=boxes_3 _ _ _ _ _ _ _ hW;clear hW;have Ha:=lH (iK Ha.out hk);have Hb:=lH (iK Hb.out hk);have X1:=lH x1;have X2:=lH x2;have X3:=lH x3;have HB:=lH hb;clear hk hb x1 x2 x3
 (first|(have hcall:=cmp_is k Ha.out Hb.out Hk.out;refine cM hcall ?_;clear hcall)|refine cM (cmp_is k Ha.out Hb.out Hk.out) ?_)
 rintro e w1 ⟨v1,rfl,rfl,hb⟩;have Ha:=lH (iK Ha.out (kC hb));have Hb:=lH (iK Hb.out (kC hb));have X1:=lH (xP hb X1.out);have X2:=lH (xP hb X2.out);have X3:=lH (xP hb X3.out);have HB:=lH (bC HB.out hb);clear hb;obtain⟨c10,c11,f10,f11⟩:=X1.out.c2;obtain⟨c20,c21,f20,f21⟩:=X2.out.c2;obtain⟨c30,c31,f30,f31⟩:=X3.out.c2
 go_wp2_with fail
 clear c10 c11 f10 f11 c20 c21 f20 f21 c30 c31 f30 f31;obtain⟨W2,hW⟩:∃W2,W2=(World.setCell (World.setCell (World.setCell (World.setCell w1 ⟨w.heap.size,0,none⟩ (.bool false)) ⟨w.heap.size,1,none⟩ (.slice p2 n2 q2)) ⟨w.heap.size+1,0,none⟩ (.bool true)) ⟨w.heap.size+1,1,none⟩ (.slice p1 n1 q1)):=⟨_,rfl⟩;rw[←hW];obtain⟨x1,x2,hk,hf,hbb⟩:=swapped2 hW X1.out X2.out (by omega) (by first|exact nB_ _|exact nS_ _ _ _|exact Ha.out.noInt|exact Hb.out.noInt) (by first|exact nB_ _|exact nS_ _ _ _|exact Ha.out.noInt|exact Hb.out.noInt) (by first|exact nB_ _|exact nS_ _ _ _|exact Ha.out.noInt|exact Hb.out.noInt) (by first|exact nB_ _|exact nS_ _ _ _|exact Ha.out.noInt|exact Hb.out.noInt);have Ha:=lH (iK Ha.out hk);have Hb:=lH (iK Hb.out hk);have X1:=lH x1;have X2:=lH x2;have X3:=lH (hf _ _ _ X3.out (by omega) (by omega));have HB:=lH (hbb _ HB.out (by omega) (by omega));clear hW hk hf hbb x1 x2
 (first|(have hcall:=sub_is2 (subErr_le (Nat.le_of_lt Hc.out)) Hb.out Ha.out hM;refine cM hcall ?_;clear hcall)|refine cM (sub_is2 (subErr_le (Nat.le_of_lt Hc.out)) Hb.out Ha.out hM) ?_)
 rintro e w3 ⟨t3,rfl,⟨v3,rfl,hd⟩,hb⟩;have X1:=lH (xP hb X1.out);have X2:=lH (xP hb X2.out);have X3:=lH (xP hb X3.out);have HB:=lH (bC HB.out hb);have Hd:=lH hd;clear hb hd;obtain⟨c10,c11,f10,f11⟩:=X1.out.c2;obtain⟨c20,c21,f20,f21⟩:=X2.out.c2;obtain⟨c30,c31,f30,f31⟩:=X3.out.c2
 go_wp2_with fail
 clear c10 c11 f10 f11 c20 c21 f20 f21 c30 c31 f30 f31
 (first|(have hcall:=imake_ai (neg:=false) Hd.out.is;refine cM hcall ?_;clear hcall)|refine cM (imake_ai (neg:=false) Hd.out.is) ?_)
 rintro e w4 ⟨v4,rfl,hr,hb⟩;obtain⟨adr,nr,capr,rfl⟩:=hr.lit;have X1:=lH (xP hb X1.out);have X2:=lH (xP hb X2.out);have X3:=lH (xP hb X3.out);have HB:=lH (bC HB.out hb);have Hr:=lH hr;clear hb hr;have e0:=iv_sub' true (Nat.le_of_lt Hc.out);have Hs:=lH (CL.mono (CL.cast e0 Hr.out) (Nat.le_max_right L M));clear e0 Hc Hk;obtain⟨c10,c11,f10,f11⟩:=X1.out.c2;obtain⟨c20,c21,f20,f21⟩:=X2.out.c2;obtain⟨c30,c31,f30,f31⟩:=X3.out.c2;go_wp2;exact ret_cl rfl rfl rfl X3.out (nB_ _) (nS_ _ _ _) Hs.out HB.out (by omega)
theorem iadd_ai {y z:Int}{L M:Nat}{u v:Value}{w:World}(h:AI y L w u)(h':AI z M w v)(hL:L≤4294967296)(hM:M≤4294967296):
  Calls Tryz.prog 131 #[u,v] w (Ret w (CL (y+z) (max L M+1))):=by
 obtain⟨na,sa,ma,rfl,ha,rfl⟩:=h;obtain⟨nb,sb,mb,rfl,hb,rfl⟩:=h';obtain⟨p1,n1,q1,rfl⟩:=ha.lit;obtain⟨p2,n2,q2,rfl⟩:=hb.lit;rcases Nat.lt_or_ge ma mb with hc|hc<;>cases na<;>cases nb
 ·exact iadd_bx_false ha hb hL hM
 ·exact(iadd_lt_false _ rfl (by rw[cmpN_lt hc];rfl) hc ha hb hL hM).mono fun e w' h=>h.mono_cl (Nat.le_succ _)
 ·exact(iadd_lt_true _ rfl (by rw[cmpN_lt hc];rfl) hc ha hb hL hM).mono fun e w' h=>h.mono_cl (Nat.le_succ _)
 ·exact iadd_bx_true ha hb hL hM
 ·exact iadd_bx_false ha hb hL hM
 ·exact(iadd_ge_false _ rfl (by rw[cmpN_ge hc]) hc ha hb hL hM).mono fun e w' h=>h.mono_cl (Nat.le_succ _)
 ·exact(iadd_ge_true _ rfl (by rw[cmpN_ge hc]) hc ha hb hL hM).mono fun e w' h=>h.mono_cl (Nat.le_succ _)
 ·exact iadd_bx_true ha hb hL hM
theorem AI.mk {n:Bool}{m L:Nat}{w:World}{s:Value}(h:Is m L w s):AI (iv n m) L w (.agg #[.bool n,s]):=⟨_,_,_,rfl,h,rfl⟩
theorem iv_sign_0 {n:Bool}{m:Nat}(h:m=0):(iv n m).sign=0:=by subst h;cases n<;>rfl
theorem iv_sign_false {m:Nat}(h:0<m):(iv false m).sign=1:=by
 show(m:Int).sign=1;exact Int.sign_eq_one_of_pos (by omega)
theorem iv_sign_true {m:Nat}(h:0<m):(iv true m).sign= -1:=by
 show(-(m:Int)).sign= -1;exact Int.sign_eq_neg_one_of_neg (by omega)
theorem bits_zero {m L:Nat}{s:Value}{w:World}(hm:m=0)(h:Is m L w s)(hL:L≤4294967296):Calls Tryz.prog 135 #[s] w (Ret w (Val (.int .i64 0))):=by
 obtain⟨xs,h,hv,hl⟩:=h;have:=bits_any _ _ _ h (by omega);rw[hv,hm]at this;exact this
def NotZ (_:World)(v:Value):Prop:=∃U:Int,v= .int .i64 U∧(U==0)=false
theorem bits_pos {m L:Nat}{s:Value}{w:World}(hm:0<m)(h:Is m L w s)(hL:L≤4294967296):Calls Tryz.prog 135 #[s] w (Ret w NotZ):=by
 obtain⟨xs,h,hv,hl⟩:=h;refine(bits_any _ _ _ h (by omega)).mono ?_;rintro e w' ⟨v,rfl,rfl,hb⟩;refine⟨_,rfl,⟨_,rfl,?_⟩,hb⟩;rw[hv];unfold blen;rw[if_neg (by omega)];simp only[beq_eq_false_iff_ne,ne_eq];omega
def Lit0 (n:Bool)(b:Bool)(_:World)(v:Value):Prop:=∃ad n1 cap,v= .agg #[.bool n,.slice ad n1 cap]∧((n1:Int)==0)=b
theorem limbs_len0 {m n:Nat}(hn:(limbs m).length=n)(b:Bool)(h:(m==0)=b):((n:Int)==0)=b:=by
 have:= @sz_eq_zero m;unfold sz at this;subst h hn;rw[Bool.eq_iff_iff];simp only[beq_iff_eq];omega
theorem rimake_0 {n:Bool}{m L:Nat}{s:Value}{w:World}(hm:m=0)(h:Is m L w s):Calls Tryz.prog 88 #[.bool n,s] w (Ret w (Lit0 false true)):=by
 refine(rimake_ai h).mono ?_;rintro e w' ⟨v,rfl,⟨⟨s1,rfl,h2⟩,-⟩,hb⟩;obtain⟨ad,n1,cap,rfl,hn,-⟩:=h2;refine⟨_,rfl,⟨ad,n1,cap,?_,limbs_len0 hn true (by rw[iv_abs,hm];rfl)⟩,hb⟩;rw[iv_lt,hm];simp
theorem rimake_true {m L:Nat}{s:Value}{w:World}(hm:0<m)(h:Is m L w s):Calls Tryz.prog 88 #[.bool true,s] w (Ret w (Lit0 true false)):=by
 refine(rimake_ai h).mono ?_;rintro e w' ⟨v,rfl,⟨⟨s1,rfl,h2⟩,-⟩,hb⟩;obtain⟨ad,n1,cap,rfl,hn,-⟩:=h2;refine⟨_,rfl,⟨ad,n1,cap,?_,limbs_len0 hn false (by rw[iv_abs];simp;omega)⟩,hb⟩;rw[iv_lt];simp[hm]
theorem rimake_false {m L:Nat}{s:Value}{w:World}(hm:0<m)(h:Is m L w s):Calls Tryz.prog 88 #[.bool false,s] w (Ret w (Lit0 false false)):=by
 refine(rimake_ai h).mono ?_;rintro e w' ⟨v,rfl,⟨⟨s1,rfl,h2⟩,-⟩,hb⟩;obtain⟨ad,n1,cap,rfl,hn,-⟩:=h2;refine⟨_,rfl,⟨ad,n1,cap,?_,limbs_len0 hn false (by rw[iv_abs];simp;omega)⟩,hb⟩;rw[iv_lt];simp
theorem sub_sign_lt {y z:Int}(h:y.sign<z.sign):(y-z).sign= -1:=by
 apply Int.sign_eq_neg_one_of_neg
 rcases Int.lt_trichotomy y 0 with h1|h1|h1<;>rcases Int.lt_trichotomy z 0 with h2|h2|h2<;>
  simp[Int.sign_eq_neg_one_of_neg,Int.sign_eq_one_of_pos,h1,h2]at h<;>omega
theorem sub_sign_gt {y z:Int}(h:z.sign<y.sign):(y-z).sign=1:=by
 apply Int.sign_eq_one_of_pos
 rcases Int.lt_trichotomy y 0 with h1|h1|h1<;>rcases Int.lt_trichotomy z 0 with h2|h2|h2<;>
  simp[Int.sign_eq_neg_one_of_neg,Int.sign_eq_one_of_pos,h1,h2]at h<;>omega
theorem cmpN_sign (a b:Nat):cmpN a b=((a:Int)-b).sign:=by
 rcases Nat.lt_trichotomy a b with h|h|h
 ·rw[cmpN_lt h,Int.sign_eq_neg_one_of_neg (by omega)]
 ·rw[cmpN_eq h,h];simp
 ·rw[cmpN_gt h,Int.sign_eq_one_of_pos (by omega)]
theorem sign_neg_iff {y:Int}:y.sign<0↔y<0:=by
 rcases Int.lt_trichotomy y 0 with h1|h1|h1
 ·simp[Int.sign_eq_neg_one_of_neg h1,h1]
 ·simp[h1]
 ·simp[Int.sign_eq_one_of_pos h1];omega
theorem cmp_neg {na nb:Bool}{ma mb:Nat}(h:(iv na ma).sign<0)(hs:(iv na ma).sign=(iv nb mb).sign):cmpN mb ma=(iv na ma-iv nb mb).sign:=by
 have h2:(iv nb mb).sign<0:=hs▸h;rw[sign_neg_iff]at h h2;rw[cmpN_sign]
 congr 1
 cases na<;>cases nb<;>simp[iv]at h h2 ⊢ <;>omega
theorem cmp_pos {na nb:Bool}{ma mb:Nat}(h:¬(iv na ma).sign<0)(hs:(iv na ma).sign=(iv nb mb).sign):cmpN ma mb=(iv na ma-iv nb mb).sign:=by
 have h2:¬(iv nb mb).sign<0:=hs▸h;rw[sign_neg_iff]at h h2;rw[cmpN_sign]
 congr 1
 cases na<;>cases nb<;>simp[iv]at h h2 ⊢ <;>omega
theorem isign_0 {L m:Nat}{sa:Value}{w:World}(n:Bool)(ha:Is m L w sa)(hL:L≤4294967296)(hm:m=0):
  Calls Tryz.prog 79 #[.agg #[.bool n,sa]] w (Ret w (Val (.int .i64 0))):=by
 have Ha:=lH ha;have Hm:=lH hm;clear ha hm
 go_enter Tryz.func79,Tryz.ntmps79
 go_wp2_with fail
 obtain⟨W,hW⟩:∃W,W=(w.alloc (.cells #[.bool n,sa] 96)):=⟨_,rfl⟩;rw[←hW];obtain⟨x1,hk,hb⟩:=boxes_1 _ _ _ hW;clear hW;have Ha:=lH (iK Ha.out hk);have X1:=lH x1;have HB:=lH hb;clear hk hb x1
 (first|(have hcall:=bits_zero Hm.out Ha.out hL;refine cM hcall ?_;clear hcall)|refine cM (bits_zero Hm.out Ha.out hL) ?_)
 rintro e w1 ⟨v1,rfl,rfl,hb⟩;have X1:=lH (xP hb X1.out);have HB:=lH (bC HB.out hb);clear hb;go_wp2
 all_goals (go_ret;exact⟨_,rfl,rfl,HB.out⟩)
theorem isign_true {L m:Nat}{sa:Value}{w:World}(ha:Is m L w sa)(hL:L≤4294967296)(hm:0<m):
  Calls Tryz.prog 79 #[.agg #[.bool true,sa]] w (Ret w (Val (.int .i64 (-1)))):=by
 have Ha:=lH ha;have Hm:=lH hm;clear ha hm
 go_enter Tryz.func79,Tryz.ntmps79
 go_wp2_with fail
 obtain⟨W,hW⟩:∃W,W=(w.alloc (.cells #[.bool true,sa] 96)):=⟨_,rfl⟩;rw[←hW];obtain⟨x1,hk,hb⟩:=boxes_1 _ _ _ hW;clear hW;have Ha:=lH (iK Ha.out hk);have X1:=lH x1;have HB:=lH hb;clear hk hb x1
 (first|(have hcall:=bits_pos Hm.out Ha.out hL;refine cM hcall ?_;clear hcall)|refine cM (bits_pos Hm.out Ha.out hL) ?_)
 rintro e w1 ⟨v1,rfl,⟨U,rfl,hU⟩,hb⟩;have X1:=lH (xP hb X1.out);have HB:=lH (bC HB.out hb);clear hb;obtain⟨c10,c11,f10,f11⟩:=X1.out.c2
 go_wp2_with fail
 go_wp2
 all_goals (go_ret;exact⟨_,rfl,rfl,HB.out⟩)
theorem isign_false {L m:Nat}{sa:Value}{w:World}(ha:Is m L w sa)(hL:L≤4294967296)(hm:0<m):
  Calls Tryz.prog 79 #[.agg #[.bool false,sa]] w (Ret w (Val (.int .i64 1))):=by
 have Ha:=lH ha;have Hm:=lH hm;clear ha hm
 go_enter Tryz.func79,Tryz.ntmps79
 go_wp2_with fail
 obtain⟨W,hW⟩:∃W,W=(w.alloc (.cells #[.bool false,sa] 96)):=⟨_,rfl⟩;rw[←hW];obtain⟨x1,hk,hb⟩:=boxes_1 _ _ _ hW;clear hW;have Ha:=lH (iK Ha.out hk);have X1:=lH x1;have HB:=lH hb;clear hk hb x1
 (first|(have hcall:=bits_pos Hm.out Ha.out hL;refine cM hcall ?_;clear hcall)|refine cM (bits_pos Hm.out Ha.out hL) ?_)
 rintro e w1 ⟨v1,rfl,⟨U,rfl,hU⟩,hb⟩;have X1:=lH (xP hb X1.out);have HB:=lH (bC HB.out hb);clear hb;obtain⟨c10,c11,f10,f11⟩:=X1.out.c2
 go_wp2_with fail
 go_wp2
 all_goals (go_ret;exact⟨_,rfl,rfl,HB.out⟩)
theorem risign_0 {L m:Nat}{sa:Value}{w:World}(n:Bool)(ha:Is m L w sa)(hm:m=0):
  Calls Tryz.prog 87 #[.agg #[.bool n,sa]] w (Ret w (Val (.int .i64 0))):=by
 have Ha:=lH ha;have Hm:=lH hm;clear ha hm
 go_enter Tryz.func87,Tryz.ntmps87
 go_wp2_with fail
 obtain⟨W,hW⟩:∃W,W=(w.alloc (.cells #[.bool n,sa] 96)):=⟨_,rfl⟩;rw[←hW];obtain⟨x1,hk,hb⟩:=boxes_1 _ _ _ hW;clear hW;have Ha:=lH (iK Ha.out hk);have X1:=lH x1;have HB:=lH hb;clear hk hb x1
 (first|(have hcall:=rimake_0 Hm.out Ha.out;refine cM hcall ?_;clear hcall)|refine cM (rimake_0 Hm.out Ha.out) ?_)
 rintro e w1 ⟨v1,rfl,⟨ad,n1,cap,rfl,hn1⟩,hb⟩;have X1:=lH (xP hb X1.out);have HB:=lH (bC HB.out hb);clear hb;obtain⟨c10,c11,f10,f11⟩:=X1.out.c2
 go_wp2_with fail
 go_wp2
 go_ret
 exact⟨_,rfl,rfl,by first|exact HB.out|exact below_set2 HB.out (by omega)|exact below_set3 HB.out (by omega)⟩
theorem risign_true {L m:Nat}{sa:Value}{w:World}(ha:Is m L w sa)(hm:0<m):
  Calls Tryz.prog 87 #[.agg #[.bool true,sa]] w (Ret w (Val (.int .i64 (-1)))):=by
 have Ha:=lH ha;have Hm:=lH hm;clear ha hm
 go_enter Tryz.func87,Tryz.ntmps87
 go_wp2_with fail
 obtain⟨W,hW⟩:∃W,W=(w.alloc (.cells #[.bool true,sa] 96)):=⟨_,rfl⟩;rw[←hW];obtain⟨x1,hk,hb⟩:=boxes_1 _ _ _ hW;clear hW;have Ha:=lH (iK Ha.out hk);have X1:=lH x1;have HB:=lH hb;clear hk hb x1
 (first|(have hcall:=rimake_true Hm.out Ha.out;refine cM hcall ?_;clear hcall)|refine cM (rimake_true Hm.out Ha.out) ?_)
 rintro e w1 ⟨v1,rfl,⟨ad,n1,cap,rfl,hn1⟩,hb⟩;have X1:=lH (xP hb X1.out);have HB:=lH (bC HB.out hb);clear hb;obtain⟨c10,c11,f10,f11⟩:=X1.out.c2
 go_wp2_with fail
 go_wp2
 go_ret
 exact⟨_,rfl,rfl,by first|exact HB.out|exact below_set2 HB.out (by omega)|exact below_set3 HB.out (by omega)⟩
theorem risign_false {L m:Nat}{sa:Value}{w:World}(ha:Is m L w sa)(hm:0<m):
  Calls Tryz.prog 87 #[.agg #[.bool false,sa]] w (Ret w (Val (.int .i64 1))):=by
 have Ha:=lH ha;have Hm:=lH hm;clear ha hm
 go_enter Tryz.func87,Tryz.ntmps87
 go_wp2_with fail
 obtain⟨W,hW⟩:∃W,W=(w.alloc (.cells #[.bool false,sa] 96)):=⟨_,rfl⟩;rw[←hW];obtain⟨x1,hk,hb⟩:=boxes_1 _ _ _ hW;clear hW;have Ha:=lH (iK Ha.out hk);have X1:=lH x1;have HB:=lH hb;clear hk hb x1
 (first|(have hcall:=rimake_false Hm.out Ha.out;refine cM hcall ?_;clear hcall)|refine cM (rimake_false Hm.out Ha.out) ?_)
 rintro e w1 ⟨v1,rfl,⟨ad,n1,cap,rfl,hn1⟩,hb⟩;have X1:=lH (xP hb X1.out);have HB:=lH (bC HB.out hb);clear hb;obtain⟨c10,c11,f10,f11⟩:=X1.out.c2
 go_wp2_with fail
 go_wp2
 go_ret
 exact⟨_,rfl,rfl,by first|exact HB.out|exact below_set2 HB.out (by omega)|exact below_set3 HB.out (by omega)⟩
theorem isign_ai {z:Int}{L:Nat}{u:Value}{w:World}(k:Int)(h:AI z L w u)(hk:z.sign=k)(hL:L≤4294967296):
  Calls Tryz.prog 79 #[u] w (Ret w (Val (.int .i64 k))):=by
 obtain⟨n,s,m,rfl,h,rfl⟩:=h;subst hk;rcases eP_ m with h0|h0
 ·rw[iv_sign_0 h0];exact isign_0 n h hL h0
 ·cases n
  ·rw[iv_sign_false h0];exact isign_false h hL h0
  ·rw[iv_sign_true h0];exact isign_true h hL h0
theorem risign_ai {z:Int}{L:Nat}{u:Value}{w:World}(k:Int)(h:AI z L w u)(hk:z.sign=k):
  Calls Tryz.prog 87 #[u] w (Ret w (Val (.int .i64 k))):=by
 obtain⟨n,s,m,rfl,h,rfl⟩:=h;subst hk;rcases eP_ m with h0|h0
 ·rw[iv_sign_0 h0];exact risign_0 n h h0
 ·cases n
  ·rw[iv_sign_false h0];exact risign_false h h0
  ·rw[iv_sign_true h0];exact risign_true h h0
theorem icmp_lt {L M:Nat}{ma mb:Nat}{na nb:Bool}{sa sb:Value}{w:World}(s t:Int)(hs:(iv na ma).sign=s)(ht:(iv nb mb).sign=t)(h1:decide (s<t)=true)(ha:Is ma L w sa)(hb:Is mb M w sb)(hL:L≤4294967296)(hM:M≤4294967296):
  Calls Tryz.prog 175 #[.agg #[.bool na,sa],.agg #[.bool nb,sb]] w (Ret w (Val (.int .i64 (-1)))):=by
 have Ha:=lH ha;have Hb:=lH hb;have Hs:=lH hs;have Ht:=lH ht;clear ha hb hs ht
 go_enter Tryz.func175,Tryz.ntmps175
 go_wp2_with fail
 obtain⟨W,hW⟩:∃W,W=((w.alloc (.cells #[.bool na,sa] 96)).alloc (.cells #[.bool nb,sb] 96)):=⟨_,rfl⟩;rw[←hW];obtain⟨x1,x2,hk,hb⟩:=boxes_2 _ _ _ _ _ hW;clear hW;have Ha:=lH (iK Ha.out hk);have Hb:=lH (iK Hb.out hk);have X1:=lH x1;have X2:=lH x2;have HB:=lH hb;clear hk hb x1 x2;have Ha:=lH (iK Ha.out (Keep.drew W));have Hb:=lH (iK Hb.out (Keep.drew W));have X1:=lH (Box.drew X1.out);have X2:=lH (Box.drew X2.out);have HB:=lH (Below.drew HB.out);have tok0:True:=trivial
 go_region_held3 (fun w'=>w'.cell? ⟨w.heap.size,0,none⟩=some (.bool na)∧w'.cell? ⟨w.heap.size,1,none⟩=some (sa)∧w'.cell? ⟨w.heap.size+1,0,none⟩=some (.bool nb)∧w'.cell? ⟨w.heap.size+1,1,none⟩=some (sb))
  (first|exact⟨X1.out.cell 0 rfl,X1.out.cell 1 rfl,X2.out.cell 0 rfl,X2.out.cell 1 rfl⟩|go_keep)
  (first|(have _t:=tok0;go_at_call 79;(first|(have hcall:=isign_ai s (AI.mk Ha.out) Hs.out hL;refine cM hcall ?_;clear hcall)|refine cM (isign_ai s (AI.mk Ha.out) Hs.out hL) ?_);rintro e w1 ⟨v1,rfl,rfl,hb⟩;have Hb:=lH (iK Hb.out (kC hb));have X1:=lH (xP hb X1.out);have X2:=lH (xP hb X2.out);have HB:=lH (bC HB.out hb);clear hb tok0 _t;have tok1:True:=trivial)
        |(have _t:=tok1;go_at_call 79;(first|(have hcall:=isign_ai t (AI.mk Hb.out) Ht.out hM;refine cM hcall ?_;clear hcall)|refine cM (isign_ai t (AI.mk Hb.out) Ht.out hM) ?_);rintro e w2 ⟨v2,rfl,rfl,hb⟩;have X1:=lH (xP hb X1.out);have X2:=lH (xP hb X2.out);have HB:=lH (bC HB.out hb);clear hb tok1 _t))
 go_wp2
 all_goals (go_ret;exact⟨_,rfl,rfl,HB.out⟩)
theorem icmp_gt {L M:Nat}{ma mb:Nat}{na nb:Bool}{sa sb:Value}{w:World}(s t:Int)(hs:(iv na ma).sign=s)(ht:(iv nb mb).sign=t)(h1:decide (s<t)=false)(h2:decide (t<s)=true)(ha:Is ma L w sa)(hb:Is mb M w sb)(hL:L≤4294967296)(hM:M≤4294967296):
  Calls Tryz.prog 175 #[.agg #[.bool na,sa],.agg #[.bool nb,sb]] w (Ret w (Val (.int .i64 1))):=by
 have Ha:=lH ha;have Hb:=lH hb;have Hs:=lH hs;have Ht:=lH ht;clear ha hb hs ht
 go_enter Tryz.func175,Tryz.ntmps175
 go_wp2_with fail
 obtain⟨W,hW⟩:∃W,W=((w.alloc (.cells #[.bool na,sa] 96)).alloc (.cells #[.bool nb,sb] 96)):=⟨_,rfl⟩;rw[←hW];obtain⟨x1,x2,hk,hb⟩:=boxes_2 _ _ _ _ _ hW;clear hW;have Ha:=lH (iK Ha.out hk);have Hb:=lH (iK Hb.out hk);have X1:=lH x1;have X2:=lH x2;have HB:=lH hb;clear hk hb x1 x2;have Ha:=lH (iK Ha.out (Keep.drew W));have Hb:=lH (iK Hb.out (Keep.drew W));have X1:=lH (Box.drew X1.out);have X2:=lH (Box.drew X2.out);have HB:=lH (Below.drew HB.out);have tok0:True:=trivial
 go_region_held3 (fun w'=>w'.cell? ⟨w.heap.size,0,none⟩=some (.bool na)∧w'.cell? ⟨w.heap.size,1,none⟩=some (sa)∧w'.cell? ⟨w.heap.size+1,0,none⟩=some (.bool nb)∧w'.cell? ⟨w.heap.size+1,1,none⟩=some (sb))
  (first|exact⟨X1.out.cell 0 rfl,X1.out.cell 1 rfl,X2.out.cell 0 rfl,X2.out.cell 1 rfl⟩|go_keep)
  (first|(have _t:=tok0;go_at_call 79;(first|(have hcall:=isign_ai s (AI.mk Ha.out) Hs.out hL;refine cM hcall ?_;clear hcall)|refine cM (isign_ai s (AI.mk Ha.out) Hs.out hL) ?_);rintro e w1 ⟨v1,rfl,rfl,hb⟩;have Hb:=lH (iK Hb.out (kC hb));have X1:=lH (xP hb X1.out);have X2:=lH (xP hb X2.out);have HB:=lH (bC HB.out hb);clear hb tok0 _t;have tok1:True:=trivial)
        |(have _t:=tok1;go_at_call 79;(first|(have hcall:=isign_ai t (AI.mk Hb.out) Ht.out hM;refine cM hcall ?_;clear hcall)|refine cM (isign_ai t (AI.mk Hb.out) Ht.out hM) ?_);rintro e w2 ⟨v2,rfl,rfl,hb⟩;have X1:=lH (xP hb X1.out);have X2:=lH (xP hb X2.out);have HB:=lH (bC HB.out hb);clear hb tok1 _t))
 go_wp2
 all_goals (go_ret;exact⟨_,rfl,rfl,HB.out⟩)
theorem icmp_neg {L M:Nat}{ma mb:Nat}{na nb:Bool}{sa sb:Value}{w:World}(s t:Int)(hs:(iv na ma).sign=s)(ht:(iv nb mb).sign=t)(k:Int)(h1:decide (s<t)=false)(h2:decide (t<s)=false)(h3:decide (s<0)=true)(hk:cmpN mb ma=k)(ha:Is ma L w sa)(hb:Is mb M w sb)(hL:L≤4294967296)(hM:M≤4294967296):
  Calls Tryz.prog 175 #[.agg #[.bool na,sa],.agg #[.bool nb,sb]] w (Ret w (Val (.int .i64 k))):=by
 have Ha:=lH ha;have Hb:=lH hb;have Hs:=lH hs;have Ht:=lH ht;have Hk:=lH hk;clear ha hb hs ht hk
 go_enter Tryz.func175,Tryz.ntmps175
 go_wp2_with fail
 obtain⟨W,hW⟩:∃W,W=((w.alloc (.cells #[.bool na,sa] 96)).alloc (.cells #[.bool nb,sb] 96)):=⟨_,rfl⟩;rw[←hW];obtain⟨x1,x2,hk,hb⟩:=boxes_2 _ _ _ _ _ hW;clear hW;have Ha:=lH (iK Ha.out hk);have Hb:=lH (iK Hb.out hk);have X1:=lH x1;have X2:=lH x2;have HB:=lH hb;clear hk hb x1 x2;have Ha:=lH (iK Ha.out (Keep.drew W));have Hb:=lH (iK Hb.out (Keep.drew W));have X1:=lH (Box.drew X1.out);have X2:=lH (Box.drew X2.out);have HB:=lH (Below.drew HB.out);have tok0:True:=trivial
 go_region_held3 (fun w'=>w'.cell? ⟨w.heap.size,0,none⟩=some (.bool na)∧w'.cell? ⟨w.heap.size,1,none⟩=some (sa)∧w'.cell? ⟨w.heap.size+1,0,none⟩=some (.bool nb)∧w'.cell? ⟨w.heap.size+1,1,none⟩=some (sb))
  (first|exact⟨X1.out.cell 0 rfl,X1.out.cell 1 rfl,X2.out.cell 0 rfl,X2.out.cell 1 rfl⟩|go_keep)
  (first|(have _t:=tok0;go_at_call 79;(first|(have hcall:=isign_ai s (AI.mk Ha.out) Hs.out hL;refine cM hcall ?_;clear hcall)|refine cM (isign_ai s (AI.mk Ha.out) Hs.out hL) ?_);rintro e w1 ⟨v1,rfl,rfl,hb⟩;have Ha:=lH (iK Ha.out (kC hb));have Hb:=lH (iK Hb.out (kC hb));have X1:=lH (xP hb X1.out);have X2:=lH (xP hb X2.out);have HB:=lH (bC HB.out hb);clear hb tok0 _t;have tok1:True:=trivial)
        |(have _t:=tok1;go_at_call 79;(first|(have hcall:=isign_ai t (AI.mk Hb.out) Ht.out hM;refine cM hcall ?_;clear hcall)|refine cM (isign_ai t (AI.mk Hb.out) Ht.out hM) ?_);rintro e w2 ⟨v2,rfl,rfl,hb⟩;have Ha:=lH (iK Ha.out (kC hb));have Hb:=lH (iK Hb.out (kC hb));have X1:=lH (xP hb X1.out);have X2:=lH (xP hb X2.out);have HB:=lH (bC HB.out hb);clear hb tok1 _t))
 obtain⟨c10,c11,f10,f11⟩:=X1.out.c2;obtain⟨c20,c21,f20,f21⟩:=X2.out.c2
 go_wp2_with fail
 clear c10 c11 f10 f11 c20 c21 f20 f21
 (first|(have hcall:=cmp_is k Hb.out Ha.out Hk.out;refine cM hcall ?_;clear hcall)|refine cM (cmp_is k Hb.out Ha.out Hk.out) ?_)
 rintro e w3 ⟨v3,rfl,rfl,hb⟩;have X1:=lH (xP hb X1.out);have X2:=lH (xP hb X2.out);have HB:=lH (bC HB.out hb);clear hb;go_wp2
 all_goals (go_ret;exact⟨_,rfl,rfl,HB.out⟩)
theorem icmp_pos {L M:Nat}{ma mb:Nat}{na nb:Bool}{sa sb:Value}{w:World}(s t:Int)(hs:(iv na ma).sign=s)(ht:(iv nb mb).sign=t)(k:Int)(h1:decide (s<t)=false)(h2:decide (t<s)=false)(h3:decide (s<0)=false)(hk:cmpN ma mb=k)(ha:Is ma L w sa)(hb:Is mb M w sb)(hL:L≤4294967296)(hM:M≤4294967296):
  Calls Tryz.prog 175 #[.agg #[.bool na,sa],.agg #[.bool nb,sb]] w (Ret w (Val (.int .i64 k))):=by
 have Ha:=lH ha;have Hb:=lH hb;have Hs:=lH hs;have Ht:=lH ht;have Hk:=lH hk;clear ha hb hs ht hk
 go_enter Tryz.func175,Tryz.ntmps175
 go_wp2_with fail
 obtain⟨W,hW⟩:∃W,W=((w.alloc (.cells #[.bool na,sa] 96)).alloc (.cells #[.bool nb,sb] 96)):=⟨_,rfl⟩;rw[←hW];obtain⟨x1,x2,hk,hb⟩:=boxes_2 _ _ _ _ _ hW;clear hW;have Ha:=lH (iK Ha.out hk);have Hb:=lH (iK Hb.out hk);have X1:=lH x1;have X2:=lH x2;have HB:=lH hb;clear hk hb x1 x2;have Ha:=lH (iK Ha.out (Keep.drew W));have Hb:=lH (iK Hb.out (Keep.drew W));have X1:=lH (Box.drew X1.out);have X2:=lH (Box.drew X2.out);have HB:=lH (Below.drew HB.out);have tok0:True:=trivial
 go_region_held3 (fun w'=>w'.cell? ⟨w.heap.size,0,none⟩=some (.bool na)∧w'.cell? ⟨w.heap.size,1,none⟩=some (sa)∧w'.cell? ⟨w.heap.size+1,0,none⟩=some (.bool nb)∧w'.cell? ⟨w.heap.size+1,1,none⟩=some (sb))
  (first|exact⟨X1.out.cell 0 rfl,X1.out.cell 1 rfl,X2.out.cell 0 rfl,X2.out.cell 1 rfl⟩|go_keep)
  (first|(have _t:=tok0;go_at_call 79;(first|(have hcall:=isign_ai s (AI.mk Ha.out) Hs.out hL;refine cM hcall ?_;clear hcall)|refine cM (isign_ai s (AI.mk Ha.out) Hs.out hL) ?_);rintro e w1 ⟨v1,rfl,rfl,hb⟩;have Ha:=lH (iK Ha.out (kC hb));have Hb:=lH (iK Hb.out (kC hb));have X1:=lH (xP hb X1.out);have X2:=lH (xP hb X2.out);have HB:=lH (bC HB.out hb);clear hb tok0 _t;have tok1:True:=trivial)
        |(have _t:=tok1;go_at_call 79;(first|(have hcall:=isign_ai t (AI.mk Hb.out) Ht.out hM;refine cM hcall ?_;clear hcall)|refine cM (isign_ai t (AI.mk Hb.out) Ht.out hM) ?_);rintro e w2 ⟨v2,rfl,rfl,hb⟩;have Ha:=lH (iK Ha.out (kC hb));have Hb:=lH (iK Hb.out (kC hb));have X1:=lH (xP hb X1.out);have X2:=lH (xP hb X2.out);have HB:=lH (bC HB.out hb);clear hb tok1 _t))
 obtain⟨c10,c11,f10,f11⟩:=X1.out.c2;obtain⟨c20,c21,f20,f21⟩:=X2.out.c2
 go_wp2_with fail
 clear c10 c11 f10 f11 c20 c21 f20 f21
 (first|(have hcall:=cmp_is k Ha.out Hb.out Hk.out;refine cM hcall ?_;clear hcall)|refine cM (cmp_is k Ha.out Hb.out Hk.out) ?_)
 rintro e w3 ⟨v3,rfl,rfl,hb⟩;have X1:=lH (xP hb X1.out);have X2:=lH (xP hb X2.out);have HB:=lH (bC HB.out hb);clear hb;go_wp2
 all_goals (go_ret;exact⟨_,rfl,rfl,HB.out⟩)
theorem icmp_ai {y z:Int}{L M:Nat}{u v:Value}{w:World}(k:Int)(h:AI y L w u)(h':AI z M w v)(hk:(y-z).sign=k)(hL:L≤4294967296)(hM:M≤4294967296):
  Calls Tryz.prog 175 #[u,v] w (Ret w (Val (.int .i64 k))):=by
 obtain⟨na,sa,ma,rfl,h,rfl⟩:=h;obtain⟨nb,sb,mb,rfl,h',rfl⟩:=h';subst hk;rcases Int.lt_trichotomy (iv na ma).sign (iv nb mb).sign with hs|hs|hs
 ·rw[sub_sign_lt hs];exact icmp_lt _ _ rfl rfl (by simpa using hs) h h' hL hM
 ·by_cases hn:(iv na ma).sign<0
  ·exact icmp_neg _ _ rfl rfl _ (by simp;omega) (by simp;omega) (by simpa using hn) (cmp_neg hn hs) h h' hL hM
  ·exact icmp_pos _ _ rfl rfl _ (by simp;omega) (by simp;omega) (by simpa using hn) (cmp_pos (by omega) hs) h h' hL hM
 ·rw[sub_sign_gt hs];exact icmp_gt _ _ rfl rfl (by simp;omega) (by simpa using hs) h h' hL hM
theorem Ret.imp {w w':World}{e:Ending}{R S:World→Value→Prop}(h:Ret w R e w')(hRS:∀w v,R w v→S w v):Ret w S e w':=let ⟨v,h1,h2,h3⟩:=h;⟨v,h1,hRS _ _ h2,h3⟩
theorem CL.of_can {x:Int}{L:Nat}{w:World}{s:Value}(b:Bool)(hb:decide (x<0)=b)(h:Can x.natAbs L w s):CL x L w (.agg #[.bool b,s]):=⟨⟨s,by rw[hb],h.1⟩,h.2⟩
theorem u64_wrap (n:Int):IntKind.u64.wrap n=n % 18446744073709551616:=rfl
theorem neg_arg {x:Int}(h1: -9223372036854775808≤x)(h2:x<0):IntKind.u64.wrap (-IntKind.u64.wrap x)=((x.natAbs:Nat):Int):=by
 rw[u64_wrap,u64_wrap];omega
theorem of_neg {x:Int}(h1: -9223372036854775808≤x)(h2:x<0)(w:World):Calls Tryz.prog 139 #[.int .u64 (IntKind.u64.wrap (-IntKind.u64.wrap x))] w (Ret w (Can x.natAbs 2)):=by
 rw[neg_arg h1 h2];exact of_can (by omega)
theorem rof_neg {x:Int}(h1: -9223372036854775808≤x)(h2:x<0)(w:World):Calls Tryz.prog 89 #[.int .u64 (IntKind.u64.wrap (-IntKind.u64.wrap x))] w (Ret w (Can x.natAbs 2)):=by
 rw[neg_arg h1 h2];exact rof_can (by omega)
theorem of_pos {x:Int}(h1:0≤x)(h2:x<9223372036854775808)(w:World):Calls Tryz.prog 139 #[.int .u64 x] w (Ret w (Can x.natAbs 2)):=by
 obtain⟨n,rfl⟩:=Int.eq_ofNat_of_zero_le h1;exact of_can (by omega)
theorem rof_pos {x:Int}(h1:0≤x)(h2:x<9223372036854775808)(w:World):Calls Tryz.prog 89 #[.int .u64 x] w (Ret w (Can x.natAbs 2)):=by
 obtain⟨n,rfl⟩:=Int.eq_ofNat_of_zero_le h1;exact rof_can (by omega)
theorem iv_of_neg {x:Int}(h:x<0):iv true x.natAbs=x:=by simp[iv];omega
theorem iv_of_pos {x:Int}(h:0≤x):iv false x.natAbs=x:=by simp[iv];omega
def intV (z:Int):Int:=if -9223372036854775808≤z∧z<9223372036854775808 then z else 0
theorem iof_neg {x:Int}{w:World}(h1: -9223372036854775808≤x)(h2:x<0):
  Calls Tryz.prog 84 #[.int .i64 x] w (Ret w (CL x 2)):=by
 have h0:decide (x<0)=true:=by simp;omega
 go_enter Tryz.func84,Tryz.ntmps84
 go_wp2_with fail
 obtain⟨W,hW⟩:∃W,W=(w.alloc (.cells #[.bool false,.slice none 0 0] 96)):=⟨_,rfl⟩;rw[←hW];obtain⟨x3,hk,hb⟩:=boxes_1 _ _ _ hW;clear hW;have X3:=lH x3;have HB:=lH hb;clear hk hb x3;refine cM (of_neg h1 h2 _) ?_;rintro e w1 ⟨v1,rfl,hm,hb⟩;obtain⟨adm,nm,capm,rfl⟩:=hm.is.lit;have X3:=lH (xP hb X3.out);have HB:=lH (bC HB.out hb);have Hm:=lH hm;clear hb hm;have Hs:=lH (CL.of_can true h0 Hm.out);obtain⟨c30,c31,f30,f31⟩:=X3.out.c2;go_wp2;exact ret_cl rfl rfl rfl X3.out (nB_ _) (nS_ _ _ _) Hs.out HB.out (by omega)
theorem riof_neg {x:Int}{w:World}(h1: -9223372036854775808≤x)(h2:x<0):
  Calls Tryz.prog 50 #[.int .i64 x] w (Ret w (CL x 2)):=by
 have h0:decide (x<0)=true:=by simp;omega
 go_enter Tryz.func50,Tryz.ntmps50
 go_wp2_with fail
 obtain⟨W,hW⟩:∃W,W=(w.alloc (.cells #[.bool false,.slice none 0 0] 96)):=⟨_,rfl⟩;rw[←hW];obtain⟨x3,hk,hb⟩:=boxes_1 _ _ _ hW;clear hW;have X3:=lH x3;have HB:=lH hb;clear hk hb x3;refine cM (rof_neg h1 h2 _) ?_;rintro e w1 ⟨v1,rfl,hm,hb⟩;have X3:=lH (xP hb X3.out);have HB:=lH (bC HB.out hb);have Hm:=lH hm;clear hb hm;obtain⟨c30,c31,f30,f31⟩:=X3.out.c2
 go_wp2_with fail
 clear c30 c31 f30 f31
 (first|(have hcall:=rimake_ai (neg:=true) Hm.out.is;refine cM hcall ?_;clear hcall)|refine cM (rimake_ai (neg:=true) Hm.out.is) ?_)
 rintro e w2 ⟨v2,rfl,hn,hb⟩;obtain⟨adn,nn,capn,rfl⟩:=hn.lit;have X3:=lH (xP hb X3.out);have HB:=lH (bC HB.out hb);have Hn:=lH hn;clear hb hn;have Hs:=lH (CL.cast (iv_of_neg h2) Hn.out);clear Hn;obtain⟨c30,c31,f30,f31⟩:=X3.out.c2;go_wp2;exact ret_cl rfl rfl rfl X3.out (nB_ _) (nS_ _ _ _) Hs.out HB.out (by omega)
theorem iof_pos {x:Int}{w:World}(h1:0≤x)(h2:x<9223372036854775808):
  Calls Tryz.prog 84 #[.int .i64 x] w (Ret w (CL x 2)):=by
 have h0:decide (x<0)=false:=by simp;omega
 go_enter Tryz.func84,Tryz.ntmps84
 go_wp2_with fail
 obtain⟨W,hW⟩:∃W,W=(w.alloc (.cells #[.bool false,.slice none 0 0] 96)):=⟨_,rfl⟩;rw[←hW];obtain⟨x3,hk,hb⟩:=boxes_1 _ _ _ hW;clear hW;have X3:=lH x3;have HB:=lH hb;clear hk hb x3;refine cM (of_pos h1 h2 _) ?_;rintro e w1 ⟨v1,rfl,hm,hb⟩;obtain⟨adm,nm,capm,rfl⟩:=hm.is.lit;have X3:=lH (xP hb X3.out);have HB:=lH (bC HB.out hb);have Hm:=lH hm;clear hb hm;have Hs:=lH (CL.of_can false h0 Hm.out);obtain⟨c30,c31,f30,f31⟩:=X3.out.c2;go_wp2;exact ret_cl rfl rfl rfl X3.out (nB_ _) (nS_ _ _ _) Hs.out HB.out (by omega)
theorem riof_pos {x:Int}{w:World}(h1:0≤x)(h2:x<9223372036854775808):
  Calls Tryz.prog 50 #[.int .i64 x] w (Ret w (CL x 2)):=by
 have h0:decide (x<0)=false:=by simp;omega
 go_enter Tryz.func50,Tryz.ntmps50
 go_wp2_with fail
 obtain⟨W,hW⟩:∃W,W=(w.alloc (.cells #[.bool false,.slice none 0 0] 96)):=⟨_,rfl⟩;rw[←hW];obtain⟨x3,hk,hb⟩:=boxes_1 _ _ _ hW;clear hW;have X3:=lH x3;have HB:=lH hb;clear hk hb x3;refine cM (rof_pos h1 h2 _) ?_;rintro e w1 ⟨v1,rfl,hm,hb⟩;have X3:=lH (xP hb X3.out);have HB:=lH (bC HB.out hb);have Hm:=lH hm;clear hb hm;obtain⟨c30,c31,f30,f31⟩:=X3.out.c2
 go_wp2_with fail
 clear c30 c31 f30 f31
 (first|(have hcall:=rimake_ai (neg:=false) Hm.out.is;refine cM hcall ?_;clear hcall)|refine cM (rimake_ai (neg:=false) Hm.out.is) ?_)
 rintro e w2 ⟨v2,rfl,hn,hb⟩;obtain⟨adn,nn,capn,rfl⟩:=hn.lit;have X3:=lH (xP hb X3.out);have HB:=lH (bC HB.out hb);have Hn:=lH hn;clear hb hn;have Hs:=lH (CL.cast (iv_of_pos h1) Hn.out);clear Hn;obtain⟨c30,c31,f30,f31⟩:=X3.out.c2;go_wp2;exact ret_cl rfl rfl rfl X3.out (nB_ _) (nS_ _ _ _) Hs.out HB.out (by omega)
theorem iof_any {x:Int}{w:World}(h1: -9223372036854775808≤x)(h2:x<9223372036854775808):Calls Tryz.prog 84 #[.int .i64 x] w (Ret w (CL x 2)):=by
 rcases Int.lt_or_le x 0 with h|h
 ·exact iof_neg h1 h
 ·exact iof_pos h h2
theorem riof_any {x:Int}{w:World}(h1: -9223372036854775808≤x)(h2:x<9223372036854775808):Calls Tryz.prog 50 #[.int .i64 x] w (Ret w (CL x 2)):=by
 rcases Int.lt_or_le x 0 with h|h
 ·exact riof_neg h1 h
 ·exact riof_pos h h2
theorem CL.litb {z:Int}{L:Nat}{w:World}{v:Value}(h:CL z L w v):∃b ad n cap,v= .agg #[.bool b,.slice ad n cap]:=let ⟨ad,n,cap,h⟩:=h.lit;⟨_,ad,n,cap,h⟩
def un (d:Nat):Nat:=if d=0 then 1 else d
theorem un_pos (d:Nat):0<un d:=by unfold un;split<;>omega
theorem un_ne (d:Nat):un d≠0:=Nat.ne_of_gt (un_pos d)
def rv (neg:Bool)(n d:Nat):Rat:=mkRat (iv neg n) (un d)
def AR (q:Rat)(L:Nat)(w:World)(v:Value):Prop:=∃neg s t n d,v= .agg #[.bool neg,s,t]∧Is n L w s∧Is d L w t∧rv neg n d=q
def dn (q:Rat):Nat:=if q.den=1 then 0 else q.den
def CQ (q:Rat)(w:World)(v:Value):Prop:=∃s t,v= .agg #[.bool (decide (q<0)),s,t]∧Num q.num.natAbs w s∧Num (dn q) w t
def Sm (L:Nat)(q:Rat):Prop:=sz q.num.natAbs≤L∧sz q.den≤L
def CR (q:Rat)(L:Nat)(w:World)(v:Value):Prop:=CQ q w v∧Sm L q
theorem AR.keep {q:Rat}{L:Nat}{w w':World}{v:Value}(h:AR q L w v)(k:Keep w w'):AR q L w' v:=
 let ⟨neg,s,t,n,d,h1,h2,h3,h4⟩:=h;⟨neg,s,t,n,d,h1,h2.keep k,h3.keep k,h4⟩
theorem CQ.keep {q:Rat}{w w':World}{v:Value}(h:CQ q w v)(k:Keep w w'):CQ q w' v:=let ⟨s,t,h1,h2,h3⟩:=h;⟨s,t,h1,k _ _ h2,k _ _ h3⟩
theorem CR.keep {q:Rat}{L:Nat}{w w':World}{v:Value}(h:CR q L w v)(k:Keep w w'):CR q L w' v:=⟨h.1.keep k,h.2⟩
theorem un_dn (q:Rat):un (dn q)=q.den:=by
 unfold un dn;have:=q.den_pos
 by_cases h:q.den=1
 ·rw[if_pos h,if_pos rfl,h]
 ·rw[if_neg h,if_neg (by omega)]
theorem num_sign (q:Rat):iv (decide (q<0)) q.num.natAbs=q.num:=by
 unfold iv
 by_cases h:q<0
 ·have:¬0≤q.num:=by rw[Rat.num_nonneg];exact Rat.not_le.mpr h
  simp[h];omega
 ·have:0≤q.num:=by rw[Rat.num_nonneg];exact Rat.not_lt.mp h
  simp[h];omega
theorem rv_self (q:Rat):rv (decide (q<0)) q.num.natAbs (dn q)=q:=by
 unfold rv;rw[num_sign,un_dn];exact Rat.mkRat_self q
theorem sz_zero_le (L:Nat):sz 0≤L:=by rw[sz_zero];exact zL_ _
theorem Sm.dn {L:Nat}{q:Rat}(h:Sm L q):sz (dn q)≤L:=by
 unfold Go.Proofs.YtbegidaaiajffaaGreatDoor.dn;split
 ·exact sz_zero_le L
 ·exact h.2
theorem Sm.mono {L M:Nat}{q:Rat}(h:Sm L q)(hl:L≤M):Sm M q:=⟨tL_ h.1 hl,tL_ h.2 hl⟩
theorem CR.mono {q:Rat}{L M:Nat}{w:World}{v:Value}(h:CR q L w v)(hl:L≤M):CR q M w v:=⟨h.1,h.2.mono hl⟩
theorem CR.cast {y z:Rat}{L:Nat}{w:World}{v:Value}(e:y=z)(h:CR y L w v):CR z L w v:=e▸h
theorem CR.litb {q:Rat}{L:Nat}{w:World}{v:Value}(h:CR q L w v):∃b a n c a' n' c',v= .agg #[.bool b,.slice a n c,.slice a' n' c']:=by
 obtain⟨⟨s,t,rfl,h2,h3⟩,-⟩:=h;obtain⟨a,n,c,rfl⟩:=Sl.lit h2;obtain⟨a',n',c',rfl⟩:=Sl.lit h3;exact⟨_,_,_,_,_,_,_,rfl⟩
theorem AR.agg {q:Rat}{L:Nat}{w:World}{v:Value}(h:AR q L w v):∃neg s t,v= .agg #[.bool neg,s,t]:=let ⟨n,s,t,_,_,h1,_⟩:=h;⟨n,s,t,h1⟩
theorem AR.mk {neg:Bool}{n d L:Nat}{s t:Value}{w:World}(h:Is n L w s)(h':Is d L w t):AR (rv neg n d) L w (.agg #[.bool neg,s,t]):=⟨_,_,_,_,_,rfl,h,h',rfl⟩
theorem agg3_inj {a b c a' b' c':Value}(h:Value.agg #[a,b,c]= .agg #[a',b',c']):a=a'∧b=b'∧c=c':=by
 injection h with h;injection h with h;injection h with e1 h;injection h with e2 h;injection h with e3 _;exact⟨e1,e2,e3⟩
theorem CR.numC {q:Rat}{L:Nat}{w:World}{b:Bool}{s t:Value}(h:CR q L w (.agg #[.bool b,s,t])):Can q.num.natAbs L w s:=by
 obtain⟨⟨s',t',he,h2,h3⟩,h4⟩:=h;obtain⟨e1,e2,e3⟩:=agg3_inj he;subst e2;exact⟨h2,h4.1⟩
theorem CR.denC {q:Rat}{L:Nat}{w:World}{b:Bool}{s t:Value}(h:CR q L w (.agg #[.bool b,s,t])):Can (dn q) L w t:=by
 obtain⟨⟨s',t',he,h2,h3⟩,h4⟩:=h;obtain⟨e1,e2,e3⟩:=agg3_inj he;subst e3;exact⟨h3,h4.dn⟩
theorem CR.negC {q:Rat}{L:Nat}{w:World}{b:Bool}{s t:Value}(h:CR q L w (.agg #[.bool b,s,t])):b=decide (q<0):=by
 obtain⟨⟨s',t',he,h2,h3⟩,h4⟩:=h;obtain⟨e1,e2,e3⟩:=agg3_inj he;injection e1
theorem mkRat_lt {z:Int}{d:Nat}(hd:0<d):mkRat z d<0↔z<0:=by
 rw[←Rat.not_le,←Rat.divInt_ofNat,Rat.divInt_nonneg_iff_of_pos_right (by omega)];omega
theorem iv_neg_iff {neg:Bool}{n:Nat}(hn:0<n):iv neg n<0↔neg=true:=by cases neg<;>simp[iv]<;>omega
theorem rat_num {neg:Bool}{n d:Nat}(hd:0<d):(mkRat (iv neg n) d).num.natAbs=n/Nat.gcd n d:=by
 rw[Rat.num_mkRat,if_neg (by omega),iv_abs,Nat.gcd_comm];have hdv:((Nat.gcd n d:Nat):Int)∣(n:Int):=by exact_mod_cast Nat.gcd_dvd_left n d
 cases neg
 ·simp[iv];rfl
 ·show(-(n:Int)/_).natAbs=_;rw[Int.neg_ediv_of_dvd hdv,Int.natAbs_neg];rfl
theorem rat_den {neg:Bool}{n d:Nat}(hd:0<d):(mkRat (iv neg n) d).den=d/Nat.gcd n d:=by
 rw[Rat.den_mkRat,if_neg (by omega),iv_abs,Nat.gcd_comm]
theorem CR.of_parts {neg:Bool}{n d L:Nat}{s t:Value}{w:World}(hn:0<n)(hd:0<d)(hs:Can (n/Nat.gcd n d) L w s)(ht:Can (if d/Nat.gcd n d=1 then 0 else d/Nat.gcd n d) L w t)(hL:1≤L):
  CR (mkRat (iv neg n) d) L w (.agg #[.bool neg,s,t]):=by
 refine⟨⟨s,t,?_,?_,?_⟩,?_,?_⟩
 ·rw[show decide (mkRat (iv neg n) d<0)=neg by rw[Bool.eq_iff_iff];simp only[decide_eq_true_eq];rw[mkRat_lt hd,iv_neg_iff hn]]
 ·rw[rat_num hd];exact hs.1
 ·unfold dn;rw[rat_den hd];exact ht.1
 ·rw[rat_num hd];exact hs.2
 ·rw[rat_den hd];have h2:=ht.2;split at h2
  ·next h=>rw[h];exact tL_ (sz_le (by decide)) hL
  ·exact h2
theorem CR.zero (w:World):CR 0 1 w (.agg #[.bool false,.slice none 0 0,.slice none 0 0]):=by
 refine⟨⟨_,_,rfl,?_,?_⟩,?_,?_⟩
 ·show Sl w _ (limbs 0);rw[limbs_zero];exact Sl.nil w
 ·show Sl w _ (limbs 0);rw[limbs_zero];exact Sl.nil w
 ·exact sz_zero_le _
 ·exact sz_le (by decide)
theorem box_range {w:World}{g:Nat}{t:TypeId}{cs:Array Value}(h:Box w g t cs):w.rangeAt g 0 cs.toList:=by
 intro j v hv;rw[Nat.zero_add];exact h.cell j (by simpa using hv)
theorem results_ie {fn:Func}{p r:Tmp}{ty:TypeId}(h:fn.results= #[.cell p ty,.tmp r])(tmps:Array Value)(P:Program)(w:World)(g:Nat)(cs:List Value)(z:Value)(d:TypeDesc)
  (hp:tmps.getD p undef= .pointer (some ⟨g,0,none⟩)) (hz:tmps.getD r undef=z) (hc:w.rangeAt g 0 cs) (hu:P.underlying ty=some d) (hd:d.isRow=true) (hi:(P.info? ty).map (·.size)=some cs.length):
  (results fn tmps).run P w= .ok (.tuple #[.agg cs.toArray,z]) w:=by
 have hp':tmps[p]?.getD undef= .pointer (some ⟨g,0,none⟩):=by simpa using hp
 have hz':tmps[r]?.getD undef=z:=by simpa using hz
 simp[results,h,hp',hz',asAddr,run_loadVar_mid w g 0 ty cs d hc hu hd hi]
theorem results_ii {fn:Func}{p q:Tmp}{ty ty':TypeId}(h:fn.results= #[.cell p ty,.cell q ty'])(tmps:Array Value)(P:Program)(w:World)(g g':Nat)(cs cs':List Value)(d d':TypeDesc)
  (hp:tmps.getD p undef= .pointer (some ⟨g,0,none⟩)) (hq:tmps.getD q undef= .pointer (some ⟨g',0,none⟩)) (hc:w.rangeAt g 0 cs) (hc':w.rangeAt g' 0 cs')
  (hu:P.underlying ty=some d) (hd:d.isRow=true) (hi:(P.info? ty).map (·.size)=some cs.length) (hu':P.underlying ty'=some d') (hd':d'.isRow=true) (hi':(P.info? ty').map (·.size)=some cs'.length):
  (results fn tmps).run P w= .ok (.tuple #[.agg cs.toArray,.agg cs'.toArray]) w:=by
 have hp':tmps[p]?.getD undef= .pointer (some ⟨g,0,none⟩):=by simpa using hp
 have hq':tmps[q]?.getD undef= .pointer (some ⟨g',0,none⟩):=by simpa using hq
 simp[results,h,hp',hq',asAddr,run_loadVar_mid w g 0 ty cs d hc hu hd hi,run_loadVar_mid w g' 0 ty' cs' d' hc' hu' hd' hi']
theorem ret_int1 {fn:Func}{p:Tmp}{a:Act}{w0 W:World}{R:World→Value→Prop}{g:Nat}{t:TypeId}{x y:Value}(hres:fn.results= #[.cell p 96])
  (hp:a.tmps.getD p undef= .pointer (some ⟨g,0,none⟩)) (hd:a.defers=[]) (X:Box W g t #[x,y]) (hR:R W (.agg #[x,y])) (HB:Below w0.heap.size w0 W):bodyPost Tryz.prog fn (Ret w0 R) .ret a W:=
 bodyPost_ret (results_mid hres a.tmps _ W g [x,y] _ hp (box_range X) Tryz.underlying96 rfl (by kernel_rfl)) hd ⟨_,rfl,hR,HB⟩
theorem ret_rat1 {fn:Func}{p:Tmp}{a:Act}{w0 W:World}{R:World→Value→Prop}{g:Nat}{t:TypeId}{x y z:Value}(hres:fn.results= #[.cell p 56])
  (hp:a.tmps.getD p undef= .pointer (some ⟨g,0,none⟩)) (hd:a.defers=[]) (X:Box W g t #[x,y,z]) (hR:R W (.agg #[x,y,z])) (HB:Below w0.heap.size w0 W):bodyPost Tryz.prog fn (Ret w0 R) .ret a W:=
 bodyPost_ret (results_mid hres a.tmps _ W g [x,y,z] _ hp (box_range X) Tryz.underlying56 rfl (by kernel_rfl)) hd ⟨_,rfl,hR,HB⟩
theorem ret_re {fn:Func}{p r:Tmp}{a:Act}{w0 W:World}{R:World→Value→Prop}{g:Nat}{t:TypeId}{x y z u:Value}(hres:fn.results= #[.cell p 56,.tmp r])
  (hp:a.tmps.getD p undef= .pointer (some ⟨g,0,none⟩)) (hz:a.tmps.getD r undef=u) (hd:a.defers=[]) (X:Box W g t #[x,y,z]) (hR:R W (.tuple #[.agg #[x,y,z],u])) (HB:Below w0.heap.size w0 W):bodyPost Tryz.prog fn (Ret w0 R) .ret a W:=
 bodyPost_ret (results_ie hres a.tmps _ W g [x,y,z] u _ hp hz (box_range X) Tryz.underlying56 rfl (by kernel_rfl)) hd ⟨_,rfl,hR,HB⟩
theorem ret_ii {fn:Func}{p q:Tmp}{a:Act}{w0 W:World}{R:World→Value→Prop}{g h:Nat}{t t':TypeId}{x y x' y':Value}(hres:fn.results= #[.cell p 96,.cell q 96])
  (hp:a.tmps.getD p undef= .pointer (some ⟨g,0,none⟩)) (hq:a.tmps.getD q undef= .pointer (some ⟨h,0,none⟩)) (hd:a.defers=[]) (X:Box W g t #[x,y]) (Y:Box W h t' #[x',y'])
  (hR:R W (.tuple #[.agg #[x,y],.agg #[x',y']])) (HB:Below w0.heap.size w0 W):bodyPost Tryz.prog fn (Ret w0 R) .ret a W:=
 bodyPost_ret (results_ii hres a.tmps _ W g h [x,y] [x',y'] _ _ hp hq (box_range X) (box_range Y) Tryz.underlying96 rfl (by kernel_rfl) Tryz.underlying96 rfl (by kernel_rfl)) hd ⟨_,rfl,hR,HB⟩
def CL2 (y z:Int)(L M:Nat)(w:World)(v:Value):Prop:=∃a b,v= .tuple #[a,b]∧CL y L w a∧CL z M w b
def CRE (q:Rat)(L:Nat)(err:Int)(w:World)(v:Value):Prop:=∃a,v= .tuple #[a,.int .i64 err]∧CR q L w a
theorem Is.cast {m n L:Nat}{w:World}{v:Value}(e:m=n)(h:Is m L w v):Is n L w v:=e▸h
theorem Can.len {m L:Nat}{w:World}{a:Option Addr}{n c:Nat}(h:Can m L w (.slice a n c)):n=sz m:=by
 obtain⟨⟨ad,n',cap,he,hn,-⟩,-⟩:=h;injection he with e1 e2 e3;subst e2;exact hn.symm
theorem Can.len0 {m L:Nat}{w:World}{a:Option Addr}{n c:Nat}(h:Can m L w (.slice a n c))(b:Bool)(hb:(m==0)=b):((n:Int)==0)=b:=limbs_len0 (by rw[h.len];rfl) b hb
theorem Is.one (w:World)(t:TypeId):Is 1 1 (w.alloc (.cells #[.int .u32 1] t)) (.slice (some ⟨w.heap.size,0,none⟩) 1 1):=⟨_,sl_one w t 1 (by decide),by simp[val],by simp⟩
theorem one_is (w:World):Calls Tryz.prog 138 #[] w (Ret w (Is 1 1)):=by
 go_enter Tryz.func138,Tryz.ntmps138
 go_wp2
 go_ret
 exact⟨_,rfl,Is.one _ _,(bR_ _ _).alloc (lR_ _) _⟩
theorem unit_any {m L:Nat}{s:Value}{w:World}(B:Bool)(hB:(m==1)=B)(h:Can m L w s):Calls Tryz.prog 180 #[s] w (Ret w (Val (.bool B))):=by
 subst hB;obtain⟨⟨ad,n,cap,rfl,hn,hnc,hm,hl,hs⟩,-⟩:=h;have hz:= @sz_eq_zero m;unfold sz at hz;rcases eP_ m with h0|h0
 ·obtain rfl:n=0:=by omega
  clear hz hs hn hl;rw[show(m==1)=false by simp;omega]
  go_enter Tryz.func180,Tryz.ntmps180
  go_wp2
  go_ret
  exact⟨_,rfl,rfl,bR_ _ _⟩
 ·by_cases h1:m<4294967296
  ·rw[limbs_single h0 h1]at hn hs;obtain rfl:n=1:=by simpa using hn.symm
   obtain⟨b,off,rfl,hb,hc⟩:=hs (by decide);have hc0:w.cell? ⟨b,off,none⟩=some (.int .u32 (m:Int)):=hc 0 (by decide);clear hz hs hn hl hc hm
   by_cases h2:m=1
   ·subst h2
    go_enter Tryz.func180,Tryz.ntmps180
    go_wp2
    go_ret
    exact⟨_,rfl,rfl,bR_ _ _⟩
   ·rw[show(m==1)=false by simpa using h2];have hd:((m:Int)==1)=false:=by simp;omega
    go_enter Tryz.func180,Tryz.ntmps180
    go_wp2
    go_ret
    exact⟨_,rfl,rfl,bR_ _ _⟩
  ·have h2:n≠1:=by
    rintro rfl;have:=val_lt (xs:=limbs m) hl;rw[val_limbs,hn]at this;omega
   clear hz hs hn hl;rw[show(m==1)=false by simp;omega];have hd:((n:Int)==1)=false:=by simp;omega
   go_enter Tryz.func180,Tryz.ntmps180
   go_wp2
   go_ret
   exact⟨_,rfl,rfl,bR_ _ _⟩
theorem gcd_pos {n d:Nat}(h:0<d):0<Nat.gcd n d:=Nat.gcd_pos_of_pos_right n h
theorem one_le_of_is {d M:Nat}{w:World}{t:Value}(hd:0<d)(h:Is d M w t):1≤M:=by
 have h1:=sz_pos hd;have:=h.sz_le;omega
theorem quot_zero {neg:Bool}{n d L M:Nat}{w W:World}{t:Value}(hz:n=0)(hd:0<d)(h:Is d M w t):CR (mkRat (iv neg n) d) (max L M) W (.agg #[.bool false,.slice none 0 0,.slice none 0 0]):=by
 have h1:=one_le_of_is hd h;rw[hz,show iv neg 0=0 by cases neg<;>rfl,Rat.zero_mkRat];exact(CR.zero W).mono (by omega)
theorem quot_one {neg:Bool}{n d L M:Nat}{w W:World}{s t:Value}(hz:0<n)(hd:0<d)(hv:(d==1)=true)(hs:Can n L W s)(h:Is d M w t):CR (mkRat (iv neg n) d) (max L M) W (.agg #[.bool neg,s,.slice none 0 0]):=by
 have h1:=one_le_of_is hd h;have e:d=1:=by simpa using hv
 subst e;refine CR.of_parts hz hd ?_ ?_ (by omega)
 ·rw[Nat.gcd_one_right,Nat.div_one];exact hs.mono (Nat.le_max_left _ _)
 ·rw[Nat.gcd_one_right,Nat.div_one,if_pos rfl];exact⟨by show Sl W _ (limbs 0);rw[limbs_zero];exact Sl.nil W,sz_zero_le _⟩
theorem quot_two {neg:Bool}{n d L M:Nat}{W:World}{s t:Value}(hz:0<n)(hd:0<d)(hv:(d==1)=false)(hg:(Nat.gcd n d==1)=true)(hs:Can n L W s)(ht:Can d M W t):CR (mkRat (iv neg n) d) (max L M) W (.agg #[.bool neg,s,t]):=by
 have h1:=one_le_of_is hd ht.is;have e:Nat.gcd n d=1:=by simpa using hg
 have e':d≠1:=by simpa using hv
 refine CR.of_parts hz hd ?_ ?_ (by omega)
 ·rw[e,Nat.div_one];exact hs.mono (Nat.le_max_left _ _)
 ·rw[e,Nat.div_one,if_neg e'];exact ht.mono (Nat.le_max_right _ _)
theorem quot_three {neg:Bool}{n d L M:Nat}{w W:World}{s t:Value}(hz:0<n)(hd:0<d)(he:(d/Nat.gcd n d==1)=true)(hs:Can (n/Nat.gcd n d) L W s)(ht:Is d M w t):CR (mkRat (iv neg n) d) (max L M) W (.agg #[.bool neg,s,.slice none 0 0]):=by
 have h1:=one_le_of_is hd ht;refine CR.of_parts hz hd (hs.mono (Nat.le_max_left _ _)) ?_ (by omega);rw[if_pos (by simpa using he)];exact⟨by show Sl W _ (limbs 0);rw[limbs_zero];exact Sl.nil W,sz_zero_le _⟩
theorem quot_four {neg:Bool}{n d L M:Nat}{W:World}{s t:Value}(hz:0<n)(hd:0<d)(he:(d/Nat.gcd n d==1)=false)(hs:Can (n/Nat.gcd n d) L W s)(ht:Can (d/Nat.gcd n d) M W t):CR (mkRat (iv neg n) d) (max L M) W (.agg #[.bool neg,s,t]):=by
 have hp:0<d/Nat.gcd n d:=Nat.div_pos (Nat.le_of_dvd hd (Nat.gcd_dvd_right n d)) (gcd_pos hd);have h1:=one_le_of_is hp ht.is;refine CR.of_parts hz hd (hs.mono (Nat.le_max_left _ _)) ?_ (by omega);rw[if_neg (by simpa using he)];exact ht.mono (Nat.le_max_right _ _)
theorem stored2s {W W':World}{g:Nat}{t:TypeId}{x y x' y':Value}(hW:W'=(W.setCell ⟨g,0,none⟩ x').setCell ⟨g,1,none⟩ y')(X:Box W g t #[x,y])(hx:NoInt x)(hy:NoInt y):
  Box W' g t #[x',y']∧Keep W W'∧(∀g' t' cs,Box W g' t' cs→g'≠g→Box W' g' t' cs)∧(∀w0:World,Below w0.heap.size w0 W→w0.heap.size≤g→Below w0.heap.size w0 W')∧W'.heap.size=W.heap.size:=
 let ⟨a,b,c,d⟩:=stored2 hW X hx hy;⟨a,b,c,d,by subst hW;simp⟩
theorem stored3s {W W':World}{g:Nat}{t:TypeId}{x y z x' y' z':Value}(hW:W'=((W.setCell ⟨g,0,none⟩ x').setCell ⟨g,1,none⟩ y').setCell ⟨g,2,none⟩ z')(X:Box W g t #[x,y,z])(hx:NoInt x)(hy:NoInt y)(hz:NoInt z):
  Box W' g t #[x',y',z']∧Keep W W'∧(∀g' t' cs,Box W g' t' cs→g'≠g→Box W' g' t' cs)∧(∀w0:World,Below w0.heap.size w0 W→w0.heap.size≤g→Below w0.heap.size w0 W')∧W'.heap.size=W.heap.size:=
 let ⟨a,b,c,d⟩:=stored3 hW X hx hy hz;⟨a,b,c,d,by subst hW;simp⟩
theorem quot_0 {neg:Bool}{n d L M:Nat}{s t:Value}{w:World}(hz:n=0)(hn:Is n L w s)(hm:Is d M w t)(hd:0<d)(hL:L≤1000000000)(hM:M≤1000000000):
  Calls Tryz.prog 128 #[.bool neg,s,t] w (Ret w (CR (mkRat (iv neg n) d) (max L M))):=by
 have Hn:=lH hn;have Hm:=lH hm;have Hd:=lH hd;have Hz:=lH hz;clear hn hm hd hz
 go_enter Tryz.func128,Tryz.ntmps128
 have HB:=lH (bR_ w.heap.size w)
 go_wp2_with fail
 obtain⟨W1,hW⟩:∃W1,W1=(World.alloc w (.cells #[.bool false,.slice none 0 0,.slice none 0 0] 56)):=⟨_,rfl⟩;rw[←hW];obtain⟨xa0,hk,hb⟩:=boxes_1 _ _ _ hW;clear hW;have Hn:=lH (iK Hn.out hk);have Hm:=lH (iK Hm.out hk);have Ga0:=lH (show w.heap.size≤w.heap.size from tL_ HB.out.size (by omega));have Xa0:=lH xa0;have HB:=lH (bC HB.out hb);clear hk hb xa0
 (first|(have hcall:=make_is Hn.out;refine cM hcall ?_;clear hcall)|refine cM (make_is Hn.out) ?_)
 rintro e w2 ⟨v2,rfl,hx,hb⟩;obtain⟨x_a,x_n,x_c,rfl⟩:=hx.is.lit;have Hm:=lH (iK Hm.out (kC hb));have Xa0:=lH (xP hb Xa0.out);have HB:=lH (bC HB.out hb);have Hx:=lH hx;clear hb hx;have dx:((x_n:Int)==0)=true:=Hx.out.len0 true (by rw[Hz.out];rfl);obtain⟨ca00,ca01,ca02,fa00,fa01,fa02⟩:=Xa0.out.c3;have la0:=Xa0.out.lt;go_wp2;clear ca00 ca01 ca02 fa00 fa01 fa02 la0;obtain⟨W3,hW⟩:∃W3,W3=(World.setCell (World.setCell (World.setCell w2 ⟨w.heap.size,0,none⟩ (.bool false)) ⟨w.heap.size,1,none⟩ (.slice none 0 0)) ⟨w.heap.size,2,none⟩ (.slice none 0 0)):=⟨_,rfl⟩;rw[←hW];obtain⟨xa0,hk,hf,hbb,hz⟩:=stored3s hW Xa0.out (by first|exact nB_ _|exact nS_ _ _ _) (by first|exact nB_ _|exact nS_ _ _ _) (by first|exact nB_ _|exact nS_ _ _ _);have Hm:=lH (iK Hm.out hk);have Xa0:=lH xa0;have HB:=lH (hbb _ HB.out Ga0.out);clear hW hk hf hbb xa0;clear hz;exact ret_rat1 rfl rfl rfl Xa0.out (quot_zero Hz.out Hd.out Hm.out) HB.out
theorem quot_1 {neg:Bool}{n d L M:Nat}{s t:Value}{w:World}(hz:0<n)(hv:(d==1)=true)(hn:Is n L w s)(hm:Is d M w t)(hd:0<d)(hL:L≤1000000000)(hM:M≤1000000000):
  Calls Tryz.prog 128 #[.bool neg,s,t] w (Ret w (CR (mkRat (iv neg n) d) (max L M))):=by
 have Hn:=lH hn;have Hm:=lH hm;have Hd:=lH hd;have Hz:=lH hz;have Hv:=lH hv;clear hn hm hd hz hv
 go_enter Tryz.func128,Tryz.ntmps128
 have HB:=lH (bR_ w.heap.size w)
 go_wp2_with fail
 obtain⟨W1,hW⟩:∃W1,W1=(World.alloc w (.cells #[.bool false,.slice none 0 0,.slice none 0 0] 56)):=⟨_,rfl⟩;rw[←hW];obtain⟨xa0,hk,hb⟩:=boxes_1 _ _ _ hW;clear hW;have Hn:=lH (iK Hn.out hk);have Hm:=lH (iK Hm.out hk);have Ga0:=lH (show w.heap.size≤w.heap.size from tL_ HB.out.size (by omega));have Xa0:=lH xa0;have HB:=lH (bC HB.out hb);clear hk hb xa0
 (first|(have hcall:=make_is Hn.out;refine cM hcall ?_;clear hcall)|refine cM (make_is Hn.out) ?_)
 rintro e w2 ⟨v2,rfl,hx,hb⟩;obtain⟨x_a,x_n,x_c,rfl⟩:=hx.is.lit;have Hm:=lH (iK Hm.out (kC hb));have Xa0:=lH (xP hb Xa0.out);have HB:=lH (bC HB.out hb);have Hx:=lH hx;clear hb hx;have dx:((x_n:Int)==0)=false:=Hx.out.len0 false (beq_eq_false_iff_ne.2 (Nat.ne_of_gt Hz.out));obtain⟨ca00,ca01,ca02,fa00,fa01,fa02⟩:=Xa0.out.c3;have la0:=Xa0.out.lt
 go_wp2_with fail
 clear ca00 ca01 ca02 fa00 fa01 fa02 la0
 (first|(have hcall:=make_is Hm.out;refine cM hcall ?_;clear hcall)|refine cM (make_is Hm.out) ?_)
 rintro e w3 ⟨v3,rfl,hy,hb⟩;obtain⟨y_a,y_n,y_c,rfl⟩:=hy.is.lit;have Hm:=lH (iK Hm.out (kC hb));have Hx:=lH (Can.keep Hx.out (kC hb));have Xa0:=lH (xP hb Xa0.out);have HB:=lH (bC HB.out hb);have Hy:=lH hy;clear hb hy;obtain⟨ca00,ca01,ca02,fa00,fa01,fa02⟩:=Xa0.out.c3;have la0:=Xa0.out.lt
 go_wp2_with fail
 clear ca00 ca01 ca02 fa00 fa01 fa02 la0
 (first|(have hcall:=unit_any true Hv.out Hy.out;refine cM hcall ?_;clear hcall)|refine cM (unit_any true Hv.out Hy.out) ?_)
 rintro e w4 ⟨v4,rfl,rfl,hb⟩;have Hm:=lH (iK Hm.out (kC hb));have Hx:=lH (Can.keep Hx.out (kC hb));have Xa0:=lH (xP hb Xa0.out);have HB:=lH (bC HB.out hb);clear hb;obtain⟨ca00,ca01,ca02,fa00,fa01,fa02⟩:=Xa0.out.c3;have la0:=Xa0.out.lt;go_wp2;clear ca00 ca01 ca02 fa00 fa01 fa02 la0;obtain⟨W5,hW⟩:∃W5,W5=(World.setCell (World.setCell (World.setCell w4 ⟨w.heap.size,0,none⟩ (.bool neg)) ⟨w.heap.size,1,none⟩ (.slice x_a x_n x_c)) ⟨w.heap.size,2,none⟩ (.slice none 0 0)):=⟨_,rfl⟩;rw[←hW];obtain⟨xa0,hk,hf,hbb,hz⟩:=stored3s hW Xa0.out (by first|exact nB_ _|exact nS_ _ _ _) (by first|exact nB_ _|exact nS_ _ _ _) (by first|exact nB_ _|exact nS_ _ _ _);have Hm:=lH (iK Hm.out hk);have Hx:=lH (Can.keep Hx.out hk);have Xa0:=lH xa0;have HB:=lH (hbb _ HB.out Ga0.out);clear hW hk hf hbb xa0;clear hz;exact ret_rat1 rfl rfl rfl Xa0.out (quot_one Hz.out Hd.out Hv.out Hx.out Hm.out) HB.out
theorem quot_2 {neg:Bool}{n d L M:Nat}{s t:Value}{w:World}(hz:0<n)(hv:(d==1)=false)(hg:(Nat.gcd n d==1)=true)(hn:Is n L w s)(hm:Is d M w t)(hd:0<d)(hL:L≤1000000000)(hM:M≤1000000000):
  Calls Tryz.prog 128 #[.bool neg,s,t] w (Ret w (CR (mkRat (iv neg n) d) (max L M))):=by
 have Hn:=lH hn;have Hm:=lH hm;have Hd:=lH hd;have Hz:=lH hz;have Hv:=lH hv;have Hg:=lH hg;clear hn hm hd hz hv hg
 go_enter Tryz.func128,Tryz.ntmps128
 have HB:=lH (bR_ w.heap.size w)
 go_wp2_with fail
 obtain⟨W1,hW⟩:∃W1,W1=(World.alloc w (.cells #[.bool false,.slice none 0 0,.slice none 0 0] 56)):=⟨_,rfl⟩;rw[←hW];obtain⟨xa0,hk,hb⟩:=boxes_1 _ _ _ hW;clear hW;have Hn:=lH (iK Hn.out hk);have Hm:=lH (iK Hm.out hk);have Ga0:=lH (show w.heap.size≤w.heap.size from tL_ HB.out.size (by omega));have Xa0:=lH xa0;have HB:=lH (bC HB.out hb);clear hk hb xa0
 (first|(have hcall:=make_is Hn.out;refine cM hcall ?_;clear hcall)|refine cM (make_is Hn.out) ?_)
 rintro e w2 ⟨v2,rfl,hx,hb⟩;obtain⟨x_a,x_n,x_c,rfl⟩:=hx.is.lit;have Hm:=lH (iK Hm.out (kC hb));have Xa0:=lH (xP hb Xa0.out);have HB:=lH (bC HB.out hb);have Hx:=lH hx;clear hb hx;have dx:((x_n:Int)==0)=false:=Hx.out.len0 false (beq_eq_false_iff_ne.2 (Nat.ne_of_gt Hz.out));obtain⟨ca00,ca01,ca02,fa00,fa01,fa02⟩:=Xa0.out.c3;have la0:=Xa0.out.lt
 go_wp2_with fail
 clear ca00 ca01 ca02 fa00 fa01 fa02 la0
 (first|(have hcall:=make_is Hm.out;refine cM hcall ?_;clear hcall)|refine cM (make_is Hm.out) ?_)
 rintro e w3 ⟨v3,rfl,hy,hb⟩;obtain⟨y_a,y_n,y_c,rfl⟩:=hy.is.lit;have Hx:=lH (Can.keep Hx.out (kC hb));have Xa0:=lH (xP hb Xa0.out);have HB:=lH (bC HB.out hb);have Hy:=lH hy;clear hb hy;obtain⟨ca00,ca01,ca02,fa00,fa01,fa02⟩:=Xa0.out.c3;have la0:=Xa0.out.lt
 go_wp2_with fail
 clear ca00 ca01 ca02 fa00 fa01 fa02 la0
 (first|(have hcall:=unit_any false Hv.out Hy.out;refine cM hcall ?_;clear hcall)|refine cM (unit_any false Hv.out Hy.out) ?_)
 rintro e w4 ⟨v4,rfl,rfl,hb⟩;have Hx:=lH (Can.keep Hx.out (kC hb));have Hy:=lH (Can.keep Hy.out (kC hb));have Xa0:=lH (xP hb Xa0.out);have HB:=lH (bC HB.out hb);clear hb;obtain⟨ca00,ca01,ca02,fa00,fa01,fa02⟩:=Xa0.out.c3;have la0:=Xa0.out.lt
 go_wp2_with fail
 clear ca00 ca01 ca02 fa00 fa01 fa02 la0
 (first|(have hcall:=gcd_can Hx.out.is Hy.out.is (by omega) (by omega);refine cM hcall ?_;clear hcall)|refine cM (gcd_can Hx.out.is Hy.out.is (by omega) (by omega)) ?_)
 rintro e w5 ⟨v5,rfl,hk,hb⟩;obtain⟨k_a,k_n,k_c,rfl⟩:=hk.is.lit;have Hx:=lH (Can.keep Hx.out (kC hb));have Hy:=lH (Can.keep Hy.out (kC hb));have Xa0:=lH (xP hb Xa0.out);have HB:=lH (bC HB.out hb);have Hk:=lH hk;clear hb hk;obtain⟨ca00,ca01,ca02,fa00,fa01,fa02⟩:=Xa0.out.c3;have la0:=Xa0.out.lt
 go_wp2_with fail
 clear ca00 ca01 ca02 fa00 fa01 fa02 la0
 (first|(have hcall:=unit_any true Hg.out Hk.out;refine cM hcall ?_;clear hcall)|refine cM (unit_any true Hg.out Hk.out) ?_)
 rintro e w6 ⟨v6,rfl,rfl,hb⟩;have Hx:=lH (Can.keep Hx.out (kC hb));have Hy:=lH (Can.keep Hy.out (kC hb));have Xa0:=lH (xP hb Xa0.out);have HB:=lH (bC HB.out hb);clear hb;obtain⟨ca00,ca01,ca02,fa00,fa01,fa02⟩:=Xa0.out.c3;have la0:=Xa0.out.lt
 go_wp2_with fail
 clear ca00 ca01 ca02 fa00 fa01 fa02 la0
 (first|(have hcall:=unit_any false Hv.out Hy.out;refine cM hcall ?_;clear hcall)|refine cM (unit_any false Hv.out Hy.out) ?_)
 rintro e w7 ⟨v7,rfl,rfl,hb⟩;have Hx:=lH (Can.keep Hx.out (kC hb));have Hy:=lH (Can.keep Hy.out (kC hb));have Xa0:=lH (xP hb Xa0.out);have HB:=lH (bC HB.out hb);clear hb;obtain⟨ca00,ca01,ca02,fa00,fa01,fa02⟩:=Xa0.out.c3;have la0:=Xa0.out.lt;go_wp2;clear ca00 ca01 ca02 fa00 fa01 fa02 la0;obtain⟨W8,hW⟩:∃W8,W8=(World.setCell (World.setCell (World.setCell w7 ⟨w.heap.size,0,none⟩ (.bool neg)) ⟨w.heap.size,1,none⟩ (.slice x_a x_n x_c)) ⟨w.heap.size,2,none⟩ (.slice y_a y_n y_c)):=⟨_,rfl⟩;rw[←hW];obtain⟨xa0,hk,hf,hbb,hz⟩:=stored3s hW Xa0.out (by first|exact nB_ _|exact nS_ _ _ _) (by first|exact nB_ _|exact nS_ _ _ _) (by first|exact nB_ _|exact nS_ _ _ _);have Hx:=lH (Can.keep Hx.out hk);have Hy:=lH (Can.keep Hy.out hk);have Xa0:=lH xa0;have HB:=lH (hbb _ HB.out Ga0.out);clear hW hk hf hbb xa0;clear hz;exact ret_rat1 rfl rfl rfl Xa0.out (quot_two Hz.out Hd.out Hv.out Hg.out Hx.out Hy.out) HB.out
theorem quot_3 {neg:Bool}{n d L M:Nat}{s t:Value}{w:World}(hz:0<n)(hv:(d==1)=false)(hg:(Nat.gcd n d==1)=false)(he:(d/Nat.gcd n d==1)=true)(hn:Is n L w s)(hm:Is d M w t)(hd:0<d)(hL:L≤1000000000)(hM:M≤1000000000):
  Calls Tryz.prog 128 #[.bool neg,s,t] w (Ret w (CR (mkRat (iv neg n) d) (max L M))):=by
 have Hn:=lH hn;have Hm:=lH hm;have Hd:=lH hd;have Hz:=lH hz;have Hv:=lH hv;have Hg:=lH hg;have He:=lH he;clear hn hm hd hz hv hg he
 go_enter Tryz.func128,Tryz.ntmps128
 have HB:=lH (bR_ w.heap.size w)
 go_wp2_with fail
 obtain⟨W1,hW⟩:∃W1,W1=(World.alloc w (.cells #[.bool false,.slice none 0 0,.slice none 0 0] 56)):=⟨_,rfl⟩;rw[←hW];obtain⟨xa0,hk,hb⟩:=boxes_1 _ _ _ hW;clear hW;have Hn:=lH (iK Hn.out hk);have Hm:=lH (iK Hm.out hk);have Ga0:=lH (show w.heap.size≤w.heap.size from tL_ HB.out.size (by omega));have Xa0:=lH xa0;have HB:=lH (bC HB.out hb);clear hk hb xa0
 (first|(have hcall:=make_is Hn.out;refine cM hcall ?_;clear hcall)|refine cM (make_is Hn.out) ?_)
 rintro e w2 ⟨v2,rfl,hx,hb⟩;obtain⟨x_a,x_n,x_c,rfl⟩:=hx.is.lit;have Hm:=lH (iK Hm.out (kC hb));have Xa0:=lH (xP hb Xa0.out);have HB:=lH (bC HB.out hb);have Hx:=lH hx;clear hb hx;have dx:((x_n:Int)==0)=false:=Hx.out.len0 false (beq_eq_false_iff_ne.2 (Nat.ne_of_gt Hz.out));obtain⟨ca00,ca01,ca02,fa00,fa01,fa02⟩:=Xa0.out.c3;have la0:=Xa0.out.lt
 go_wp2_with fail
 clear ca00 ca01 ca02 fa00 fa01 fa02 la0
 (first|(have hcall:=make_is Hm.out;refine cM hcall ?_;clear hcall)|refine cM (make_is Hm.out) ?_)
 rintro e w3 ⟨v3,rfl,hy,hb⟩;obtain⟨y_a,y_n,y_c,rfl⟩:=hy.is.lit;have Hm:=lH (iK Hm.out (kC hb));have Hx:=lH (Can.keep Hx.out (kC hb));have Xa0:=lH (xP hb Xa0.out);have HB:=lH (bC HB.out hb);have Hy:=lH hy;clear hb hy;obtain⟨ca00,ca01,ca02,fa00,fa01,fa02⟩:=Xa0.out.c3;have la0:=Xa0.out.lt
 go_wp2_with fail
 clear ca00 ca01 ca02 fa00 fa01 fa02 la0
 (first|(have hcall:=unit_any false Hv.out Hy.out;refine cM hcall ?_;clear hcall)|refine cM (unit_any false Hv.out Hy.out) ?_)
 rintro e w4 ⟨v4,rfl,rfl,hb⟩;have Hm:=lH (iK Hm.out (kC hb));have Hx:=lH (Can.keep Hx.out (kC hb));have Hy:=lH (Can.keep Hy.out (kC hb));have Xa0:=lH (xP hb Xa0.out);have HB:=lH (bC HB.out hb);clear hb;obtain⟨ca00,ca01,ca02,fa00,fa01,fa02⟩:=Xa0.out.c3;have la0:=Xa0.out.lt
 go_wp2_with fail
 clear ca00 ca01 ca02 fa00 fa01 fa02 la0
 (first|(have hcall:=gcd_can Hx.out.is Hy.out.is (by omega) (by omega);refine cM hcall ?_;clear hcall)|refine cM (gcd_can Hx.out.is Hy.out.is (by omega) (by omega)) ?_)
 rintro e w5 ⟨v5,rfl,hk,hb⟩;obtain⟨k_a,k_n,k_c,rfl⟩:=hk.is.lit;have Hm:=lH (iK Hm.out (kC hb));have Hx:=lH (Can.keep Hx.out (kC hb));have Hy:=lH (Can.keep Hy.out (kC hb));have Xa0:=lH (xP hb Xa0.out);have HB:=lH (bC HB.out hb);have Hk:=lH hk;clear hb hk;obtain⟨ca00,ca01,ca02,fa00,fa01,fa02⟩:=Xa0.out.c3;have la0:=Xa0.out.lt
 go_wp2_with fail
 clear ca00 ca01 ca02 fa00 fa01 fa02 la0
 (first|(have hcall:=unit_any false Hg.out Hk.out;refine cM hcall ?_;clear hcall)|refine cM (unit_any false Hg.out Hk.out) ?_)
 rintro e w6 ⟨v6,rfl,rfl,hb⟩;have Hm:=lH (iK Hm.out (kC hb));have Hx:=lH (Can.keep Hx.out (kC hb));have Hy:=lH (Can.keep Hy.out (kC hb));have Hk:=lH (Can.keep Hk.out (kC hb));have Xa0:=lH (xP hb Xa0.out);have HB:=lH (bC HB.out hb);clear hb;obtain⟨ca00,ca01,ca02,fa00,fa01,fa02⟩:=Xa0.out.c3;have la0:=Xa0.out.lt
 go_wp2_with fail
 clear ca00 ca01 ca02 fa00 fa01 fa02 la0
 (first|(have hcall:=divmod_pos (gcd_pos Hd.out) Hx.out.is Hk.out.is (by omega);refine cM hcall ?_;clear hcall)|refine cM (divmod_pos (gcd_pos Hd.out) Hx.out.is Hk.out.is (by omega)) ?_)
 rintro e w7 ⟨t7,rfl,⟨v7,u7,rfl,hqa,hra⟩,hb⟩;obtain⟨qa_a,qa_n,qa_c,rfl⟩:=hqa.is.lit;obtain⟨ra_a,ra_n,ra_c,rfl⟩:=hra.is.lit;have Hm:=lH (iK Hm.out (kC hb));have Hy:=lH (Can.keep Hy.out (kC hb));have Hk:=lH (Can.keep Hk.out (kC hb));have Xa0:=lH (xP hb Xa0.out);have HB:=lH (bC HB.out hb);have Hqa:=lH hqa;have Hra:=lH hra;clear hb hqa hra;obtain⟨ca00,ca01,ca02,fa00,fa01,fa02⟩:=Xa0.out.c3;have la0:=Xa0.out.lt
 go_wp2_with fail
 clear ca00 ca01 ca02 fa00 fa01 fa02 la0
 (first|(have hcall:=divmod_pos (gcd_pos Hd.out) Hy.out.is Hk.out.is (by omega);refine cM hcall ?_;clear hcall)|refine cM (divmod_pos (gcd_pos Hd.out) Hy.out.is Hk.out.is (by omega)) ?_)
 rintro e w8 ⟨t8,rfl,⟨v8,u8,rfl,hqb,hrb⟩,hb⟩;obtain⟨qb_a,qb_n,qb_c,rfl⟩:=hqb.is.lit;obtain⟨rb_a,rb_n,rb_c,rfl⟩:=hrb.is.lit;have Hm:=lH (iK Hm.out (kC hb));have Hqa:=lH (Can.keep Hqa.out (kC hb));have Xa0:=lH (xP hb Xa0.out);have HB:=lH (bC HB.out hb);have Hqb:=lH hqb;have Hrb:=lH hrb;clear hb hqb hrb;obtain⟨ca00,ca01,ca02,fa00,fa01,fa02⟩:=Xa0.out.c3;have la0:=Xa0.out.lt
 go_wp2_with fail
 clear ca00 ca01 ca02 fa00 fa01 fa02 la0
 (first|(have hcall:=unit_any true He.out Hqb.out;refine cM hcall ?_;clear hcall)|refine cM (unit_any true He.out Hqb.out) ?_)
 rintro e w9 ⟨v9,rfl,rfl,hb⟩;have Hm:=lH (iK Hm.out (kC hb));have Hqa:=lH (Can.keep Hqa.out (kC hb));have Xa0:=lH (xP hb Xa0.out);have HB:=lH (bC HB.out hb);clear hb;obtain⟨ca00,ca01,ca02,fa00,fa01,fa02⟩:=Xa0.out.c3;have la0:=Xa0.out.lt;go_wp2;clear ca00 ca01 ca02 fa00 fa01 fa02 la0;obtain⟨W10,hW⟩:∃W10,W10=(World.setCell (World.setCell (World.setCell w9 ⟨w.heap.size,0,none⟩ (.bool neg)) ⟨w.heap.size,1,none⟩ (.slice qa_a qa_n qa_c)) ⟨w.heap.size,2,none⟩ (.slice none 0 0)):=⟨_,rfl⟩;rw[←hW];obtain⟨xa0,hk,hf,hbb,hz⟩:=stored3s hW Xa0.out (by first|exact nB_ _|exact nS_ _ _ _) (by first|exact nB_ _|exact nS_ _ _ _) (by first|exact nB_ _|exact nS_ _ _ _);have Hm:=lH (iK Hm.out hk);have Hqa:=lH (Can.keep Hqa.out hk);have Xa0:=lH xa0;have HB:=lH (hbb _ HB.out Ga0.out);clear hW hk hf hbb xa0;clear hz;exact ret_rat1 rfl rfl rfl Xa0.out (quot_three Hz.out Hd.out He.out Hqa.out Hm.out) HB.out
theorem quot_4 {neg:Bool}{n d L M:Nat}{s t:Value}{w:World}(hz:0<n)(hv:(d==1)=false)(hg:(Nat.gcd n d==1)=false)(he:(d/Nat.gcd n d==1)=false)(hn:Is n L w s)(hm:Is d M w t)(hd:0<d)(hL:L≤1000000000)(hM:M≤1000000000):
  Calls Tryz.prog 128 #[.bool neg,s,t] w (Ret w (CR (mkRat (iv neg n) d) (max L M))):=by
 have Hn:=lH hn;have Hm:=lH hm;have Hd:=lH hd;have Hz:=lH hz;have Hv:=lH hv;have Hg:=lH hg;have He:=lH he;clear hn hm hd hz hv hg he
 go_enter Tryz.func128,Tryz.ntmps128
 have HB:=lH (bR_ w.heap.size w)
 go_wp2_with fail
 obtain⟨W1,hW⟩:∃W1,W1=(World.alloc w (.cells #[.bool false,.slice none 0 0,.slice none 0 0] 56)):=⟨_,rfl⟩;rw[←hW];obtain⟨xa0,hk,hb⟩:=boxes_1 _ _ _ hW;clear hW;have Hn:=lH (iK Hn.out hk);have Hm:=lH (iK Hm.out hk);have Ga0:=lH (show w.heap.size≤w.heap.size from tL_ HB.out.size (by omega));have Xa0:=lH xa0;have HB:=lH (bC HB.out hb);clear hk hb xa0
 (first|(have hcall:=make_is Hn.out;refine cM hcall ?_;clear hcall)|refine cM (make_is Hn.out) ?_)
 rintro e w2 ⟨v2,rfl,hx,hb⟩;obtain⟨x_a,x_n,x_c,rfl⟩:=hx.is.lit;have Hm:=lH (iK Hm.out (kC hb));have Xa0:=lH (xP hb Xa0.out);have HB:=lH (bC HB.out hb);have Hx:=lH hx;clear hb hx;have dx:((x_n:Int)==0)=false:=Hx.out.len0 false (beq_eq_false_iff_ne.2 (Nat.ne_of_gt Hz.out));obtain⟨ca00,ca01,ca02,fa00,fa01,fa02⟩:=Xa0.out.c3;have la0:=Xa0.out.lt
 go_wp2_with fail
 clear ca00 ca01 ca02 fa00 fa01 fa02 la0
 (first|(have hcall:=make_is Hm.out;refine cM hcall ?_;clear hcall)|refine cM (make_is Hm.out) ?_)
 rintro e w3 ⟨v3,rfl,hy,hb⟩;obtain⟨y_a,y_n,y_c,rfl⟩:=hy.is.lit;have Hx:=lH (Can.keep Hx.out (kC hb));have Xa0:=lH (xP hb Xa0.out);have HB:=lH (bC HB.out hb);have Hy:=lH hy;clear hb hy;obtain⟨ca00,ca01,ca02,fa00,fa01,fa02⟩:=Xa0.out.c3;have la0:=Xa0.out.lt
 go_wp2_with fail
 clear ca00 ca01 ca02 fa00 fa01 fa02 la0
 (first|(have hcall:=unit_any false Hv.out Hy.out;refine cM hcall ?_;clear hcall)|refine cM (unit_any false Hv.out Hy.out) ?_)
 rintro e w4 ⟨v4,rfl,rfl,hb⟩;have Hx:=lH (Can.keep Hx.out (kC hb));have Hy:=lH (Can.keep Hy.out (kC hb));have Xa0:=lH (xP hb Xa0.out);have HB:=lH (bC HB.out hb);clear hb;obtain⟨ca00,ca01,ca02,fa00,fa01,fa02⟩:=Xa0.out.c3;have la0:=Xa0.out.lt
 go_wp2_with fail
 clear ca00 ca01 ca02 fa00 fa01 fa02 la0
 (first|(have hcall:=gcd_can Hx.out.is Hy.out.is (by omega) (by omega);refine cM hcall ?_;clear hcall)|refine cM (gcd_can Hx.out.is Hy.out.is (by omega) (by omega)) ?_)
 rintro e w5 ⟨v5,rfl,hk,hb⟩;obtain⟨k_a,k_n,k_c,rfl⟩:=hk.is.lit;have Hx:=lH (Can.keep Hx.out (kC hb));have Hy:=lH (Can.keep Hy.out (kC hb));have Xa0:=lH (xP hb Xa0.out);have HB:=lH (bC HB.out hb);have Hk:=lH hk;clear hb hk;obtain⟨ca00,ca01,ca02,fa00,fa01,fa02⟩:=Xa0.out.c3;have la0:=Xa0.out.lt
 go_wp2_with fail
 clear ca00 ca01 ca02 fa00 fa01 fa02 la0
 (first|(have hcall:=unit_any false Hg.out Hk.out;refine cM hcall ?_;clear hcall)|refine cM (unit_any false Hg.out Hk.out) ?_)
 rintro e w6 ⟨v6,rfl,rfl,hb⟩;have Hx:=lH (Can.keep Hx.out (kC hb));have Hy:=lH (Can.keep Hy.out (kC hb));have Hk:=lH (Can.keep Hk.out (kC hb));have Xa0:=lH (xP hb Xa0.out);have HB:=lH (bC HB.out hb);clear hb;obtain⟨ca00,ca01,ca02,fa00,fa01,fa02⟩:=Xa0.out.c3;have la0:=Xa0.out.lt
 go_wp2_with fail
 clear ca00 ca01 ca02 fa00 fa01 fa02 la0
 (first|(have hcall:=divmod_pos (gcd_pos Hd.out) Hx.out.is Hk.out.is (by omega);refine cM hcall ?_;clear hcall)|refine cM (divmod_pos (gcd_pos Hd.out) Hx.out.is Hk.out.is (by omega)) ?_)
 rintro e w7 ⟨t7,rfl,⟨v7,u7,rfl,hqa,hra⟩,hb⟩;obtain⟨qa_a,qa_n,qa_c,rfl⟩:=hqa.is.lit;obtain⟨ra_a,ra_n,ra_c,rfl⟩:=hra.is.lit;have Hy:=lH (Can.keep Hy.out (kC hb));have Hk:=lH (Can.keep Hk.out (kC hb));have Xa0:=lH (xP hb Xa0.out);have HB:=lH (bC HB.out hb);have Hqa:=lH hqa;have Hra:=lH hra;clear hb hqa hra;obtain⟨ca00,ca01,ca02,fa00,fa01,fa02⟩:=Xa0.out.c3;have la0:=Xa0.out.lt
 go_wp2_with fail
 clear ca00 ca01 ca02 fa00 fa01 fa02 la0
 (first|(have hcall:=divmod_pos (gcd_pos Hd.out) Hy.out.is Hk.out.is (by omega);refine cM hcall ?_;clear hcall)|refine cM (divmod_pos (gcd_pos Hd.out) Hy.out.is Hk.out.is (by omega)) ?_)
 rintro e w8 ⟨t8,rfl,⟨v8,u8,rfl,hqb,hrb⟩,hb⟩;obtain⟨qb_a,qb_n,qb_c,rfl⟩:=hqb.is.lit;obtain⟨rb_a,rb_n,rb_c,rfl⟩:=hrb.is.lit;have Hqa:=lH (Can.keep Hqa.out (kC hb));have Xa0:=lH (xP hb Xa0.out);have HB:=lH (bC HB.out hb);have Hqb:=lH hqb;have Hrb:=lH hrb;clear hb hqb hrb;obtain⟨ca00,ca01,ca02,fa00,fa01,fa02⟩:=Xa0.out.c3;have la0:=Xa0.out.lt
 go_wp2_with fail
 clear ca00 ca01 ca02 fa00 fa01 fa02 la0
 (first|(have hcall:=unit_any false He.out Hqb.out;refine cM hcall ?_;clear hcall)|refine cM (unit_any false He.out Hqb.out) ?_)
 rintro e w9 ⟨v9,rfl,rfl,hb⟩;have Hqa:=lH (Can.keep Hqa.out (kC hb));have Hqb:=lH (Can.keep Hqb.out (kC hb));have Xa0:=lH (xP hb Xa0.out);have HB:=lH (bC HB.out hb);clear hb;obtain⟨ca00,ca01,ca02,fa00,fa01,fa02⟩:=Xa0.out.c3;have la0:=Xa0.out.lt;go_wp2;clear ca00 ca01 ca02 fa00 fa01 fa02 la0;obtain⟨W10,hW⟩:∃W10,W10=(World.setCell (World.setCell (World.setCell w9 ⟨w.heap.size,0,none⟩ (.bool neg)) ⟨w.heap.size,1,none⟩ (.slice qa_a qa_n qa_c)) ⟨w.heap.size,2,none⟩ (.slice qb_a qb_n qb_c)):=⟨_,rfl⟩;rw[←hW];obtain⟨xa0,hk,hf,hbb,hz⟩:=stored3s hW Xa0.out (by first|exact nB_ _|exact nS_ _ _ _) (by first|exact nB_ _|exact nS_ _ _ _) (by first|exact nB_ _|exact nS_ _ _ _);have Hqa:=lH (Can.keep Hqa.out hk);have Hqb:=lH (Can.keep Hqb.out hk);have Xa0:=lH xa0;have HB:=lH (hbb _ HB.out Ga0.out);clear hW hk hf hbb xa0;clear hz;exact ret_rat1 rfl rfl rfl Xa0.out (quot_four Hz.out Hd.out He.out Hqa.out Hqb.out) HB.out
theorem quot_is {neg:Bool}{n d L M:Nat}{s t:Value}{w:World}(hd:0<d)(hn:Is n L w s)(hm:Is d M w t)(hL:L≤1000000000)(hM:M≤1000000000):
  Calls Tryz.prog 128 #[.bool neg,s,t] w (Ret w (CR (mkRat (iv neg n) d) (max L M))):=by
 rcases eP_ n with h0|h0
 ·exact quot_0 h0 hn hm hd hL hM
 ·cases h1:d==1
  ·cases h2:Nat.gcd n d==1
   ·cases h3:d/Nat.gcd n d==1
    ·exact quot_4 h0 h1 h2 h3 hn hm hd hL hM
    ·exact quot_3 h0 h1 h2 h3 hn hm hd hL hM
   ·exact quot_2 h0 h1 h2 hn hm hd hL hM
  ·exact quot_1 h0 h1 hn hm hd hL hM
theorem un_zero {d:Nat}(h:d=0):1=un d:=by subst h;rfl
theorem un_of {d:Nat}(h:0<d):d=un d:=by unfold un;rw[if_neg (by omega)]
theorem mkRat_one (z:Int):mkRat z 1=(z:Rat):=Rat.ext (by rw[Rat.num_mkRat];simp) (by rw[Rat.den_mkRat];simp)
theorem div_sign (ba bb:Bool)(na nb:Nat)(h:0<nb):mkRat (iv (!ba==bb) na) nb=((iv ba na:Int):Rat)/((iv bb nb:Int):Rat):=by
 rw[←Rat.divInt_eq_div]
 cases bb
 ·rw[show(!ba==false)=ba by cases ba<;>rfl];show _=Rat.divInt (iv ba na) (nb:Int);rw[Rat.divInt_ofNat]
 ·rw[show(!ba==true)=(!ba) by cases ba<;>rfl,iv_not];show _=Rat.divInt (iv ba na) (-(nb:Int));rw[Rat.divInt_neg',Rat.divInt_ofNat]
theorem rv_sign (b:Bool)(n d:Nat):(iv b n).sign=(rv b n d).num.sign:=by
 have h:=mkRat_lt (z:=iv b n) (un_pos d);have h2:=Rat.mkRat_eq_zero (n:=iv b n) (un_ne d);rcases Int.lt_trichotomy (iv b n) 0 with h3|h3|h3
 ·rw[Int.sign_eq_neg_one_of_neg h3,Int.sign_eq_neg_one_of_neg];have:=h.2 h3;rw[←Rat.not_le,←Rat.num_nonneg]at this;unfold rv;omega
 ·unfold rv;rw[h3];simp
 ·rw[Int.sign_eq_one_of_pos h3,Int.sign_eq_one_of_pos];have h4:¬mkRat (iv b n) (un d)<0:=by rw[h];omega
  have h5:¬mkRat (iv b n) (un d)=0:=by rw[h2];omega
  rw[←Rat.num_eq_zero]at h5;rw[Rat.not_lt,←Rat.num_nonneg]at h4;unfold rv;omega
theorem under_0 {ba:Bool}{da L:Nat}{sa ta:Value}{w:World}(hz:da=0)(hda:Is da L w ta)(hL:L≤1000000000):
  Calls Tryz.prog 129 #[.agg #[.bool ba,sa,ta]] w (Ret w (Is (un da) (max L 1))):=by
 have Hda:=lH hda;have Hz:=lH hz;clear hda hz
 go_enter Tryz.func129,Tryz.ntmps129
 have HB:=lH (bR_ w.heap.size w)
 go_wp2_with fail
 obtain⟨W1,hW⟩:∃W1,W1=(World.alloc w (.cells #[.bool ba,sa,ta] 56)):=⟨_,rfl⟩;rw[←hW];obtain⟨xa0,hk,hb⟩:=boxes_1 _ _ _ hW;clear hW;have Hda:=lH (iK Hda.out hk);have Ga0:=lH (show w.heap.size≤w.heap.size from tL_ HB.out.size (by omega));have Xa0:=lH xa0;have HB:=lH (bC HB.out hb);clear hk hb xa0
 (first|(have hcall:=bits_zero Hz.out Hda.out (by omega);refine cM hcall ?_;clear hcall)|refine cM (bits_zero Hz.out Hda.out (by omega)) ?_)
 rintro e w2 ⟨v2,rfl,rfl,hb⟩;have Xa0:=lH (xP hb Xa0.out);have HB:=lH (bC HB.out hb);clear hb;obtain⟨ca00,ca01,ca02,fa00,fa01,fa02⟩:=Xa0.out.c3;have la0:=Xa0.out.lt
 go_wp2_with fail
 clear ca00 ca01 ca02 fa00 fa01 fa02 la0;refine cM (one_is _) ?_;rintro e w3 ⟨v3,rfl,hu,hb⟩;obtain⟨u_a,u_n,u_c,rfl⟩:=hu.lit;have Xa0:=lH (xP hb Xa0.out);have HB:=lH (bC HB.out hb);have Hu:=lH hu;clear hb hu;obtain⟨ca00,ca01,ca02,fa00,fa01,fa02⟩:=Xa0.out.c3;have la0:=Xa0.out.lt;go_wp2;clear ca00 ca01 ca02 fa00 fa01 fa02 la0
 go_ret
 exact⟨_,rfl,Is.cast (un_zero Hz.out) (Is.mono Hu.out (Nat.le_max_right _ _)),HB.out⟩
theorem under_1 {ba:Bool}{da L:Nat}{sa ta:Value}{w:World}(hz:0<da)(hda:Is da L w ta)(hL:L≤1000000000):
  Calls Tryz.prog 129 #[.agg #[.bool ba,sa,ta]] w (Ret w (Is (un da) (max L 1))):=by
 have Hda:=lH hda;have Hz:=lH hz;clear hda hz
 go_enter Tryz.func129,Tryz.ntmps129
 have HB:=lH (bR_ w.heap.size w)
 go_wp2_with fail
 obtain⟨W1,hW⟩:∃W1,W1=(World.alloc w (.cells #[.bool ba,sa,ta] 56)):=⟨_,rfl⟩;rw[←hW];obtain⟨xa0,hk,hb⟩:=boxes_1 _ _ _ hW;clear hW;have Hda:=lH (iK Hda.out hk);have Ga0:=lH (show w.heap.size≤w.heap.size from tL_ HB.out.size (by omega));have Xa0:=lH xa0;have HB:=lH (bC HB.out hb);clear hk hb xa0
 (first|(have hcall:=bits_pos Hz.out Hda.out (by omega);refine cM hcall ?_;clear hcall)|refine cM (bits_pos Hz.out Hda.out (by omega)) ?_)
 rintro e w2 ⟨v2,rfl,⟨U,rfl,hU⟩,hb⟩;have Hda:=lH (iK Hda.out (kC hb));have Xa0:=lH (xP hb Xa0.out);have HB:=lH (bC HB.out hb);clear hb;obtain⟨ca00,ca01,ca02,fa00,fa01,fa02⟩:=Xa0.out.c3;have la0:=Xa0.out.lt;go_wp2;clear ca00 ca01 ca02 fa00 fa01 fa02 la0
 go_ret
 exact⟨_,rfl,Is.cast (un_of Hz.out) (Is.mono Hda.out (Nat.le_max_left _ _)),HB.out⟩
theorem under_is {b:Bool}{d L:Nat}{s t:Value}{w:World}(h:Is d L w t)(hL:L≤1000000000):Calls Tryz.prog 129 #[.agg #[.bool b,s,t]] w (Ret w (Is (un d) (max L 1))):=by
 rcases eP_ d with h0|h0
 ·exact under_0 h0 h hL
 ·exact under_1 h0 h hL
theorem signed_is {neg:Bool}{na L:Nat}{sa ta:Value}{w:World}(hna:Is na L w sa):
  Calls Tryz.prog 80 #[.agg #[.bool neg,sa,ta]] w (Ret w (CL (iv neg na) L)):=by
 have Hna:=lH hna;clear hna
 go_enter Tryz.func80,Tryz.ntmps80
 have HB:=lH (bR_ w.heap.size w)
 go_wp2_with fail
 obtain⟨W1,hW⟩:∃W1,W1=(World.alloc (World.alloc w (.cells #[.bool neg,sa,ta] 56)) (.cells #[.bool false,.slice none 0 0] 96)):=⟨_,rfl⟩;rw[←hW];obtain⟨xa0,xb0,hk,hb⟩:=boxes_2 _ _ _ _ _ hW;clear hW;have Hna:=lH (iK Hna.out hk);have Ga0:=lH (show w.heap.size≤w.heap.size from tL_ HB.out.size (by omega));have Gb0:=lH (show w.heap.size≤w.heap.size+1 from tL_ HB.out.size (by omega));have Xa0:=lH xa0;have Xb0:=lH xb0;have HB:=lH (bC HB.out hb);clear hk hb xa0 xb0
 (first|(have hcall:=imake_ai (neg:=neg) Hna.out;refine cM hcall ?_;clear hcall)|refine cM (imake_ai (neg:=neg) Hna.out) ?_)
 rintro e w2 ⟨v2,rfl,hz,hb⟩;obtain⟨z_b,z_a,z_n,z_c,rfl⟩:=hz.litb;have Xa0:=lH (xP hb Xa0.out);have Xb0:=lH (xP hb Xb0.out);have HB:=lH (bC HB.out hb);have Hz:=lH hz;clear hb hz;obtain⟨ca00,ca01,ca02,fa00,fa01,fa02⟩:=Xa0.out.c3;have la0:=Xa0.out.lt;obtain⟨cb00,cb01,fb00,fb01⟩:=Xb0.out.c2;have lb0:=Xb0.out.lt;go_wp2;clear ca00 ca01 ca02 fa00 fa01 fa02 la0 cb00 cb01 fb00 fb01 lb0;obtain⟨W3,hW⟩:∃W3,W3=(World.setCell (World.setCell w2 ⟨w.heap.size+1,0,none⟩ (.bool z_b)) ⟨w.heap.size+1,1,none⟩ (.slice z_a z_n z_c)):=⟨_,rfl⟩;rw[←hW];obtain⟨xb0,hk,hf,hbb,hz⟩:=stored2s hW Xb0.out (by first|exact nB_ _|exact nS_ _ _ _) (by first|exact nB_ _|exact nS_ _ _ _);have Hz:=lH (CL.keep Hz.out hk);have Xa0:=lH (hf _ _ _ Xa0.out (by omega));have Xb0:=lH xb0;have HB:=lH (hbb _ HB.out Gb0.out);clear hW hk hf hbb xb0;clear hz;exact ret_int1 rfl rfl rfl Xb0.out Hz.out HB.out
theorem canon_p {L:Nat}{ba:Bool}{na da:Nat}{sa ta:Value}{w:World}(hna:Is na L w sa)(hda:Is da L w ta)(hL:L≤100000000):
  Calls Tryz.prog 73 #[.agg #[.bool ba,sa,ta]] w (Ret w (CR (rv ba na da) (max L 1))):=by
 have Hna:=lH hna;have Hda:=lH hda;clear hna hda
 go_enter Tryz.func73,Tryz.ntmps73
 have HB:=lH (bR_ w.heap.size w)
 go_wp2_with fail
 obtain⟨W1,hW⟩:∃W1,W1=(World.alloc (World.alloc w (.cells #[.bool ba,sa,ta] 56)) (.cells #[.bool false,.slice none 0 0,.slice none 0 0] 56)):=⟨_,rfl⟩;rw[←hW];obtain⟨xa0,xb0,hk,hb⟩:=boxes_2 _ _ _ _ _ hW;clear hW;have Hna:=lH (iK Hna.out hk);have Hda:=lH (iK Hda.out hk);have Ga0:=lH (show w.heap.size≤w.heap.size from tL_ HB.out.size (by omega));have Gb0:=lH (show w.heap.size≤w.heap.size+1 from tL_ HB.out.size (by omega));have Xa0:=lH xa0;have Xb0:=lH xb0;have HB:=lH (bC HB.out hb);clear hk hb xa0 xb0;have Hna:=lH (iK Hna.out (Keep.drew W1));have Hda:=lH (iK Hda.out (Keep.drew W1));have Xa0:=lH (Box.drew Xa0.out);have Xb0:=lH (Box.drew Xb0.out);have HB:=lH (Below.drew HB.out);refine wp_region_float [w.heap.size+1] [] (by kernel_rfl) (by kernel_rfl) 10 (by kernel_rfl) Flok.nil ?_;intro ok;have Hok:=lH ok;clear ok;have HG:=lH (bR_ (W1.drew).heap.size (W1.drew));refine good_pureX 0 (some 3) (Go.Op.fieldAddr 56 (Go.Operand.tmp 1) 0) (none) (.pointer (some ⟨w.heap.size,0,none⟩)) (by kernel_rfl) (by kernel_rfl) (by kernel_rfl) (fun _ _ _ h=>h) (fun w' hw'=> ?_) ?_
 ·first|(go_simp;done)|(go_simp;simp_all;done)|(go_simp;rfl)
 simp only[Act.put,sI,sZ,sS];refine good_pureX 1 (some 4) (Go.Op.load 4 (Go.Operand.tmp 3)) (none) (.bool ba) (by kernel_rfl) (by kernel_rfl) (by kernel_rfl) (fun _ _ _ h=>h) (fun w' hw'=> ?_) ?_
 ·obtain⟨ca00,ca01,ca02,fa00,fa01,fa02⟩:=(Box.se hw' Xa0.out (notin1 (by omega))).c3
  first|(go_simp;done)|(go_simp;simp_all;done)|(go_simp;rfl)
 simp only[Act.put,sI,sZ,sS];refine good_pureX 2 (some 5) (Go.Op.fieldAddr 56 (Go.Operand.tmp 1) 1) (none) (.pointer (some ⟨w.heap.size,1,none⟩)) (by kernel_rfl) (by kernel_rfl) (by kernel_rfl) (fun _ _ _ h=>h) (fun w' hw'=> ?_) ?_
 ·first|(go_simp;done)|(go_simp;simp_all;done)|(go_simp;rfl)
 simp only[Act.put,sI,sZ,sS];refine good_pureX 3 (some 6) (Go.Op.load 54 (Go.Operand.tmp 5)) (none) (sa) (by kernel_rfl) (by kernel_rfl) (by kernel_rfl) (fun _ _ _ h=>h) (fun w' hw'=> ?_) ?_
 ·obtain⟨ca00,ca01,ca02,fa00,fa01,fa02⟩:=(Box.se hw' Xa0.out (notin1 (by omega))).c3
  first|(go_simp;done)|(go_simp;simp_all;done)|(go_simp;rfl)
 simp only[Act.put,sI,sZ,sS];refine good_pureX 4 (some 7) (Go.Op.load 56 (Go.Operand.tmp 1)) (none) (.agg #[.bool ba,sa,ta]) (by kernel_rfl) (by kernel_rfl) (by kernel_rfl) (fun _ _ _ h=>h) (fun w' hw'=> ?_) ?_
 ·obtain⟨ca00,ca01,ca02,fa00,fa01,fa02⟩:=(Box.se hw' Xa0.out (notin1 (by omega))).c3
  first|(go_simp;done)|(go_simp;simp_all;done)|(go_simp;rfl)
 simp only[Act.put,sI,sZ,sS];refine good_callX 5 129 (some 8) #[Go.Operand.tmp 7] #[56] (none) #[.agg #[.bool ba,sa,ta]] (by kernel_rfl) Hok.out (by kernel_rfl) (by kernel_rfl) (by kernel_rfl) (by kernel_rfl) rfl rfl rfl (by kernel_rfl) (fun w2 hb=> ?_);have HG:=lH (bC HG.out hb);clear hb
 (first|(have hcall:=under_is (b:=ba) (iK Hda.out (kC HG.out)) (by omega);refine cM hcall ?_;clear hcall)|refine cM (under_is (b:=ba) (iK Hda.out (kC HG.out)) (by omega)) ?_)
 rintro e w3 ⟨v3,rfl,hu,hb⟩;obtain⟨u_a,u_n,u_c,rfl⟩:=hu.lit;refine⟨_,rfl,?_,hb⟩;have HG:=lH (bC HG.out hb);have Hu:=lH hu;clear hb hu;simp only[Act.put,sI,sZ,sS];refine good_callX 6 128 (some 9) #[Go.Operand.tmp 4,Go.Operand.tmp 6,Go.Operand.tmp 8] #[4,54,54] (none) #[.bool ba,sa,.slice u_a u_n u_c] (by kernel_rfl) Hok.out (by kernel_rfl) (by kernel_rfl) (by kernel_rfl) (by kernel_rfl) rfl rfl rfl (by kernel_rfl) (fun w4 hb=> ?_);have Hu:=lH (iK Hu.out (kC hb));have HG:=lH (bC HG.out hb);clear hb;refine cM (quot_is (neg:=ba) (un_pos _) (iK Hna.out (kC HG.out)) Hu.out (by omega) (by omega)) ?_;rintro e w5 ⟨v5,rfl,hz,hb⟩;obtain⟨z_b,z_a,z_n,z_c,z_d,z_m,z_e,rfl⟩:=hz.litb;refine⟨_,rfl,?_,hb⟩;have HG:=lH (bC HG.out hb);have Hz:=lH hz;clear hb hz;simp only[Act.put,sI,sZ,sS];refine good_end0 1 (by kernel_rfl) (fun _ w6 hb=> ?_);have Hz:=lH (CR.keep Hz.out (kC hb));have HG:=lH (bC HG.out hb);clear hb;have Xa0:=lH (xP HG.out Xa0.out);have Xb0:=lH (xP HG.out Xb0.out);have HB:=lH (bC HB.out HG.out);have HS:=lH (SE.of (E:=[w.heap.size+1]) HG.out);refine held_oneX 7 (Go.Op.store 56 (Go.Operand.tmp 2) (Go.Operand.tmp 9)) (none) (World.setCell (World.setCell (World.setCell w6 ⟨w.heap.size+1,0,none⟩ (.bool z_b)) ⟨w.heap.size+1,1,none⟩ (.slice z_a z_n z_c)) ⟨w.heap.size+1,2,none⟩ (.slice z_d z_m z_e)) (by kernel_rfl) (by kernel_rfl) (by kernel_rfl) (by kernel_rfl) ?_ (HS.out.store3 in1) ?_
 ·obtain⟨cb00,cb01,cb02,fb00,fb01,fb02⟩:=Xb0.out.c3
  first|(go_simp;done)|(go_simp;simp_all;done)|(go_simp;rfl)
 obtain⟨W7,hW⟩:∃W7,W7=(World.setCell (World.setCell (World.setCell w6 ⟨w.heap.size+1,0,none⟩ (.bool z_b)) ⟨w.heap.size+1,1,none⟩ (.slice z_a z_n z_c)) ⟨w.heap.size+1,2,none⟩ (.slice z_d z_m z_e)):=⟨_,rfl⟩;rw[←hW];obtain⟨xb0,hk,hf,hbb,hz⟩:=stored3s hW Xb0.out (by first|exact nB_ _|exact nS_ _ _ _) (by first|exact nB_ _|exact nS_ _ _ _) (by first|exact nB_ _|exact nS_ _ _ _);have Hz:=lH (CR.keep Hz.out hk);have Xa0:=lH (hf _ _ _ Xa0.out (by omega));have Xb0:=lH xb0;have HB:=lH (hbb _ HB.out Gb0.out);have HS:=lH (show SE (W1.drew) [w.heap.size+1] W7 from by rw[hW];exact HS.out.store3 in1);clear hW hk hf hbb xb0;clear hz;refine wpAnyH_done (by kernel_rfl) ?_ _;clear HG HS Hok;obtain⟨ca00,ca01,ca02,fa00,fa01,fa02⟩:=Xa0.out.c3;have la0:=Xa0.out.lt;obtain⟨cb00,cb01,cb02,fb00,fb01,fb02⟩:=Xb0.out.c3;have lb0:=Xb0.out.lt;go_wp2;clear ca00 ca01 ca02 fa00 fa01 fa02 la0 cb00 cb01 cb02 fb00 fb01 fb02 lb0;exact ret_rat1 rfl rfl rfl Xb0.out (CR.mono Hz.out (by omega)) HB.out
theorem canon_ar {q:Rat}{L:Nat}{v:Value}{w:World}(h:AR q L w v)(hL:L≤100000000):Calls Tryz.prog 73 #[v] w (Ret w (CR q (max L 1))):=by
 obtain⟨b,s,t,n,d,rfl,h1,h2,rfl⟩:=h;exact canon_p h1 h2 hL
theorem whole_p {L:Nat}{ba:Bool}{na:Nat}{sa:Value}{w:World}(hna:Is na L w sa)(hL:L≤100000000):
  Calls Tryz.prog 83 #[.agg #[.bool ba,sa]] w (Ret w (CR ((iv ba na:Int):Rat) (max L 1))):=by
 have Hna:=lH hna;clear hna
 go_enter Tryz.func83,Tryz.ntmps83
 have HB:=lH (bR_ w.heap.size w)
 go_wp2_with fail
 obtain⟨W1,hW⟩:∃W1,W1=(World.alloc (World.alloc w (.cells #[.bool ba,sa] 96)) (.cells #[.bool false,.slice none 0 0,.slice none 0 0] 56)):=⟨_,rfl⟩;rw[←hW];obtain⟨xa0,xb0,hk,hb⟩:=boxes_2 _ _ _ _ _ hW;clear hW;have Hna:=lH (iK Hna.out hk);have Ga0:=lH (show w.heap.size≤w.heap.size from tL_ HB.out.size (by omega));have Gb0:=lH (show w.heap.size≤w.heap.size+1 from tL_ HB.out.size (by omega));have Xa0:=lH xa0;have Xb0:=lH xb0;have HB:=lH (bC HB.out hb);clear hk hb xa0 xb0;have Hna:=lH (iK Hna.out (Keep.drew W1));have Xa0:=lH (Box.drew Xa0.out);have Xb0:=lH (Box.drew Xb0.out);have HB:=lH (Below.drew HB.out);refine wp_region_float [w.heap.size+1] [] (by kernel_rfl) (by kernel_rfl) 9 (by kernel_rfl) Flok.nil ?_;intro ok;have Hok:=lH ok;clear ok;have HG:=lH (bR_ (W1.drew).heap.size (W1.drew));refine good_pureX 0 (some 3) (Go.Op.fieldAddr 96 (Go.Operand.tmp 1) 0) (none) (.pointer (some ⟨w.heap.size,0,none⟩)) (by kernel_rfl) (by kernel_rfl) (by kernel_rfl) (fun _ _ _ h=>h) (fun w' hw'=> ?_) ?_
 ·first|(go_simp;done)|(go_simp;simp_all;done)|(go_simp;rfl)
 simp only[Act.put,sI,sZ,sS];refine good_pureX 1 (some 4) (Go.Op.load 4 (Go.Operand.tmp 3)) (none) (.bool ba) (by kernel_rfl) (by kernel_rfl) (by kernel_rfl) (fun _ _ _ h=>h) (fun w' hw'=> ?_) ?_
 ·obtain⟨ca00,ca01,fa00,fa01⟩:=(Box.se hw' Xa0.out (notin1 (by omega))).c2
  first|(go_simp;done)|(go_simp;simp_all;done)|(go_simp;rfl)
 simp only[Act.put,sI,sZ,sS];refine good_pureX 2 (some 5) (Go.Op.fieldAddr 96 (Go.Operand.tmp 1) 1) (none) (.pointer (some ⟨w.heap.size,1,none⟩)) (by kernel_rfl) (by kernel_rfl) (by kernel_rfl) (fun _ _ _ h=>h) (fun w' hw'=> ?_) ?_
 ·first|(go_simp;done)|(go_simp;simp_all;done)|(go_simp;rfl)
 simp only[Act.put,sI,sZ,sS];refine good_pureX 3 (some 6) (Go.Op.load 54 (Go.Operand.tmp 5)) (none) (sa) (by kernel_rfl) (by kernel_rfl) (by kernel_rfl) (fun _ _ _ h=>h) (fun w' hw'=> ?_) ?_
 ·obtain⟨ca00,ca01,fa00,fa01⟩:=(Box.se hw' Xa0.out (notin1 (by omega))).c2
  first|(go_simp;done)|(go_simp;simp_all;done)|(go_simp;rfl)
 simp only[Act.put,sI,sZ,sS];refine good_callX 4 138 (some 7) #[] #[] (none) #[] (by kernel_rfl) Hok.out (by kernel_rfl) (by kernel_rfl) (by kernel_rfl) (by kernel_rfl) rfl rfl rfl (by kernel_rfl) (fun w2 hb=> ?_);have HG:=lH (bC HG.out hb);clear hb;refine cM (one_is _) ?_;rintro e w3 ⟨v3,rfl,hu,hb⟩;obtain⟨u_a,u_n,u_c,rfl⟩:=hu.lit;refine⟨_,rfl,?_,hb⟩;have HG:=lH (bC HG.out hb);have Hu:=lH hu;clear hb hu;simp only[Act.put,sI,sZ,sS];refine good_callX 5 128 (some 8) #[Go.Operand.tmp 4,Go.Operand.tmp 6,Go.Operand.tmp 7] #[4,54,54] (none) #[.bool ba,sa,.slice u_a u_n u_c] (by kernel_rfl) Hok.out (by kernel_rfl) (by kernel_rfl) (by kernel_rfl) (by kernel_rfl) rfl rfl rfl (by kernel_rfl) (fun w4 hb=> ?_);have Hu:=lH (iK Hu.out (kC hb));have HG:=lH (bC HG.out hb);clear hb
 (first|(have hcall:=quot_is (neg:=ba) (by decide) (iK Hna.out (kC HG.out)) Hu.out (by omega) (by omega);refine cM hcall ?_;clear hcall)|refine cM (quot_is (neg:=ba) (by decide) (iK Hna.out (kC HG.out)) Hu.out (by omega) (by omega)) ?_)
 rintro e w5 ⟨v5,rfl,hz,hb⟩;obtain⟨z_b,z_a,z_n,z_c,z_d,z_m,z_e,rfl⟩:=hz.litb;refine⟨_,rfl,?_,hb⟩;have HG:=lH (bC HG.out hb);have Hz:=lH hz;clear hb hz;simp only[Act.put,sI,sZ,sS];refine good_end0 1 (by kernel_rfl) (fun _ w6 hb=> ?_);have Hz:=lH (CR.keep Hz.out (kC hb));have HG:=lH (bC HG.out hb);clear hb;have Xa0:=lH (xP HG.out Xa0.out);have Xb0:=lH (xP HG.out Xb0.out);have HB:=lH (bC HB.out HG.out);have HS:=lH (SE.of (E:=[w.heap.size+1]) HG.out);refine held_oneX 6 (Go.Op.store 56 (Go.Operand.tmp 2) (Go.Operand.tmp 8)) (none) (World.setCell (World.setCell (World.setCell w6 ⟨w.heap.size+1,0,none⟩ (.bool z_b)) ⟨w.heap.size+1,1,none⟩ (.slice z_a z_n z_c)) ⟨w.heap.size+1,2,none⟩ (.slice z_d z_m z_e)) (by kernel_rfl) (by kernel_rfl) (by kernel_rfl) (by kernel_rfl) ?_ (HS.out.store3 in1) ?_
 ·obtain⟨cb00,cb01,cb02,fb00,fb01,fb02⟩:=Xb0.out.c3
  first|(go_simp;done)|(go_simp;simp_all;done)|(go_simp;rfl)
 obtain⟨W7,hW⟩:∃W7,W7=(World.setCell (World.setCell (World.setCell w6 ⟨w.heap.size+1,0,none⟩ (.bool z_b)) ⟨w.heap.size+1,1,none⟩ (.slice z_a z_n z_c)) ⟨w.heap.size+1,2,none⟩ (.slice z_d z_m z_e)):=⟨_,rfl⟩;rw[←hW];obtain⟨xb0,hk,hf,hbb,hz⟩:=stored3s hW Xb0.out (by first|exact nB_ _|exact nS_ _ _ _) (by first|exact nB_ _|exact nS_ _ _ _) (by first|exact nB_ _|exact nS_ _ _ _);have Hz:=lH (CR.keep Hz.out hk);have Xa0:=lH (hf _ _ _ Xa0.out (by omega));have Xb0:=lH xb0;have HB:=lH (hbb _ HB.out Gb0.out);have HS:=lH (show SE (W1.drew) [w.heap.size+1] W7 from by rw[hW];exact HS.out.store3 in1);clear hW hk hf hbb xb0;clear hz;refine wpAnyH_done (by kernel_rfl) ?_ _;clear HG HS Hok;obtain⟨ca00,ca01,fa00,fa01⟩:=Xa0.out.c2;have la0:=Xa0.out.lt;obtain⟨cb00,cb01,cb02,fb00,fb01,fb02⟩:=Xb0.out.c3;have lb0:=Xb0.out.lt;go_wp2;clear ca00 ca01 fa00 fa01 la0 cb00 cb01 cb02 fb00 fb01 fb02 lb0;exact ret_rat1 rfl rfl rfl Xb0.out (CR.cast (mkRat_one _) Hz.out) HB.out
theorem whole_ai {z:Int}{L:Nat}{v:Value}{w:World}(h:AI z L w v)(hL:L≤100000000):Calls Tryz.prog 83 #[v] w (Ret w (CR (z:Rat) (max L 1))):=by
 obtain⟨b,s,n,rfl,h1,rfl⟩:=h;exact whole_p h1 hL
theorem of_rat {x:Int}{w:World}(h1: -9223372036854775808≤x)(h2:x<9223372036854775808):
  Calls Tryz.prog 47 #[.int .i64 x] w (Ret w (CR (x:Rat) 2)):=by
 go_enter Tryz.func47,Tryz.ntmps47
 have HB:=lH (bR_ w.heap.size w)
 go_wp2_with fail
 obtain⟨W1,hW⟩:∃W1,W1=(World.alloc w (.cells #[.bool false,.slice none 0 0,.slice none 0 0] 56)):=⟨_,rfl⟩;rw[←hW];obtain⟨xa0,hk,hb⟩:=boxes_1 _ _ _ hW;clear hW;have Ga0:=lH (show w.heap.size≤w.heap.size from tL_ HB.out.size (by omega));have Xa0:=lH xa0;have HB:=lH (bC HB.out hb);clear hk hb xa0;refine cM (iof_any h1 h2) ?_;rintro e w2 ⟨v2,rfl,ho,hb⟩;obtain⟨o_b,o_a,o_n,o_c,rfl⟩:=ho.litb;have Xa0:=lH (xP hb Xa0.out);have HB:=lH (bC HB.out hb);have Ho:=lH ho;clear hb ho;obtain⟨ca00,ca01,ca02,fa00,fa01,fa02⟩:=Xa0.out.c3;have la0:=Xa0.out.lt
 go_wp2_with fail
 clear ca00 ca01 ca02 fa00 fa01 fa02 la0
 (first|(have hcall:=whole_ai Ho.out.ai (by omega);refine cM hcall ?_;clear hcall)|refine cM (whole_ai Ho.out.ai (by omega)) ?_)
 rintro e w3 ⟨v3,rfl,hz,hb⟩;obtain⟨z_b,z_a,z_n,z_c,z_d,z_m,z_e,rfl⟩:=hz.litb;have Xa0:=lH (xP hb Xa0.out);have HB:=lH (bC HB.out hb);have Hz:=lH hz;clear hb hz;obtain⟨ca00,ca01,ca02,fa00,fa01,fa02⟩:=Xa0.out.c3;have la0:=Xa0.out.lt;go_wp2;clear ca00 ca01 ca02 fa00 fa01 fa02 la0;obtain⟨W4,hW⟩:∃W4,W4=(World.setCell (World.setCell (World.setCell w3 ⟨w.heap.size,0,none⟩ (.bool z_b)) ⟨w.heap.size,1,none⟩ (.slice z_a z_n z_c)) ⟨w.heap.size,2,none⟩ (.slice z_d z_m z_e)):=⟨_,rfl⟩;rw[←hW];obtain⟨xa0,hk,hf,hbb,hz⟩:=stored3s hW Xa0.out (by first|exact nB_ _|exact nS_ _ _ _) (by first|exact nB_ _|exact nS_ _ _ _) (by first|exact nB_ _|exact nS_ _ _ _);have Hz:=lH (CR.keep Hz.out hk);have Xa0:=lH xa0;have HB:=lH (hbb _ HB.out Ga0.out);clear hW hk hf hbb xa0;clear hz;exact ret_rat1 rfl rfl rfl Xa0.out Hz.out HB.out
theorem rmk_1 {L M:Nat}{ba:Bool}{na:Nat}{sa:Value}{bb:Bool}{nb:Nat}{sb:Value}{w:World}(k:Int)(hk:(iv bb nb).sign=k)(hk0:(k==0)=false)(hp:0<nb)(hna:Is na L w sa)(hnb:Is nb M w sb)(hL:L≤100000000)(hM:M≤100000000):
  Calls Tryz.prog 172 #[.agg #[.bool ba,sa],.agg #[.bool bb,sb]] w (Ret w (CRE ((iv ba na:Int)/(iv bb nb:Int)) (max L M) 0)):=by
 have Hna:=lH hna;have Hnb:=lH hnb;have Hk:=lH hk;have Hk0:=lH hk0;have Hp:=lH hp;clear hna hnb hk hk0 hp
 go_enter Tryz.func172,Tryz.ntmps172
 have HB:=lH (bR_ w.heap.size w)
 go_wp2_with fail
 obtain⟨W1,hW⟩:∃W1,W1=(World.alloc (World.alloc (World.alloc w (.cells #[.bool ba,sa] 96)) (.cells #[.bool bb,sb] 96)) (.cells #[.bool false,.slice none 0 0,.slice none 0 0] 56)):=⟨_,rfl⟩;rw[←hW];obtain⟨xa0,xb0,xc0,hk,hb⟩:=boxes_3 _ _ _ _ _ _ _ hW;clear hW;have Hna:=lH (iK Hna.out hk);have Hnb:=lH (iK Hnb.out hk);have Ga0:=lH (show w.heap.size≤w.heap.size from tL_ HB.out.size (by omega));have Gb0:=lH (show w.heap.size≤w.heap.size+1 from tL_ HB.out.size (by omega));have Gc0:=lH (show w.heap.size≤w.heap.size+1+1 from tL_ HB.out.size (by omega));have Xa0:=lH xa0;have Xb0:=lH xb0;have Xc0:=lH xc0;have HB:=lH (bC HB.out hb);clear hk hb xa0 xb0 xc0
 (first|(have hcall:=isign_ai k (AI.mk (n:=bb) Hnb.out) Hk.out (by omega);refine cM hcall ?_;clear hcall)|refine cM (isign_ai k (AI.mk (n:=bb) Hnb.out) Hk.out (by omega)) ?_)
 rintro e w2 ⟨v2,rfl,rfl,hb⟩;have Hna:=lH (iK Hna.out (kC hb));have Hnb:=lH (iK Hnb.out (kC hb));have Xa0:=lH (xP hb Xa0.out);have Xb0:=lH (xP hb Xb0.out);have Xc0:=lH (xP hb Xc0.out);have HB:=lH (bC HB.out hb);clear hb;have hk0:(k==0)=false:=Hk0.out;obtain⟨ca00,ca01,fa00,fa01⟩:=Xa0.out.c2;have la0:=Xa0.out.lt;obtain⟨cb00,cb01,fb00,fb01⟩:=Xb0.out.c2;have lb0:=Xb0.out.lt;obtain⟨cc00,cc01,cc02,fc00,fc01,fc02⟩:=Xc0.out.c3;have lc0:=Xc0.out.lt
 go_wp2_with fail
 clear ca00 ca01 fa00 fa01 la0 cb00 cb01 fb00 fb01 lb0 cc00 cc01 cc02 fc00 fc01 fc02 lc0
 (first|(have hcall:=quot_is (neg:=(!ba==bb)) (Hp.out) Hna.out Hnb.out (by omega) (by omega);refine cM hcall ?_;clear hcall)|refine cM (quot_is (neg:=(!ba==bb)) (Hp.out) Hna.out Hnb.out (by omega) (by omega)) ?_)
 rintro e w3 ⟨v3,rfl,hz,hb⟩;obtain⟨z_b,z_a,z_n,z_c,z_d,z_m,z_e,rfl⟩:=hz.litb;have Xa0:=lH (xP hb Xa0.out);have Xb0:=lH (xP hb Xb0.out);have Xc0:=lH (xP hb Xc0.out);have HB:=lH (bC HB.out hb);have Hz:=lH hz;clear hb hz;obtain⟨ca00,ca01,fa00,fa01⟩:=Xa0.out.c2;have la0:=Xa0.out.lt;obtain⟨cb00,cb01,fb00,fb01⟩:=Xb0.out.c2;have lb0:=Xb0.out.lt;obtain⟨cc00,cc01,cc02,fc00,fc01,fc02⟩:=Xc0.out.c3;have lc0:=Xc0.out.lt;go_wp2;clear ca00 ca01 fa00 fa01 la0 cb00 cb01 fb00 fb01 lb0 cc00 cc01 cc02 fc00 fc01 fc02 lc0;obtain⟨W4,hW⟩:∃W4,W4=(World.setCell (World.setCell (World.setCell w3 ⟨w.heap.size+1+1,0,none⟩ (.bool z_b)) ⟨w.heap.size+1+1,1,none⟩ (.slice z_a z_n z_c)) ⟨w.heap.size+1+1,2,none⟩ (.slice z_d z_m z_e)):=⟨_,rfl⟩;rw[←hW];obtain⟨xc0,hk,hf,hbb,hz⟩:=stored3s hW Xc0.out (by first|exact nB_ _|exact nS_ _ _ _) (by first|exact nB_ _|exact nS_ _ _ _) (by first|exact nB_ _|exact nS_ _ _ _);have Hz:=lH (CR.keep Hz.out hk);have Xa0:=lH (hf _ _ _ Xa0.out (by omega));have Xb0:=lH (hf _ _ _ Xb0.out (by omega));have Xc0:=lH xc0;have HB:=lH (hbb _ HB.out Gc0.out);clear hW hk hf hbb xc0;clear hz;exact ret_re rfl rfl rfl rfl Xc0.out ⟨_,rfl,CR.cast (div_sign _ _ _ _ Hp.out) Hz.out⟩ HB.out
theorem rmk_ai {y z:Int}{L M:Nat}{u v:Value}{w:World}(hz:z≠0)(h:AI y L w u)(h':AI z M w v)(hL:L≤100000000)(hM:M≤100000000):
  Calls Tryz.prog 172 #[u,v] w (Ret w (CRE ((y:Rat)/(z:Rat)) (max L M) 0)):=by
 obtain⟨ba,sa,na,rfl,h1,rfl⟩:=h;obtain⟨bb,sb,nb,rfl,h2,rfl⟩:=h';have hp:0<nb:=by
  rcases eP_ nb with rfl|h0
  ·exact absurd (by cases bb<;>rfl) hz
  ·exact h0
 exact rmk_1 _ rfl (by simpa [Int.sign_eq_zero_iff_zero]using hz) hp h1 h2 hL hM
theorem rsign_p {L:Nat}{ba:Bool}{na da:Nat}{sa ta:Value}{w:World}(k:Int)(hk:(iv ba na).sign=k)(hna:Is na L w sa)(hda:Is da L w ta)(hL:L≤100000000):
  Calls Tryz.prog 42 #[.agg #[.bool ba,sa,ta]] w (Ret w (Val (.int .i64 k))):=by
 have Hna:=lH hna;have Hda:=lH hda;have Hk:=lH hk;clear hna hda hk
 go_enter Tryz.func42,Tryz.ntmps42
 have HB:=lH (bR_ w.heap.size w)
 go_wp2_with fail
 obtain⟨W1,hW⟩:∃W1,W1=(World.alloc w (.cells #[.bool ba,sa,ta] 56)):=⟨_,rfl⟩;rw[←hW];obtain⟨xa0,hk,hb⟩:=boxes_1 _ _ _ hW;clear hW;have Hna:=lH (iK Hna.out hk);have Ga0:=lH (show w.heap.size≤w.heap.size from tL_ HB.out.size (by omega));have Xa0:=lH xa0;have HB:=lH (bC HB.out hb);clear hk hb xa0
 (first|(have hcall:=signed_is (neg:=ba) Hna.out;refine cM hcall ?_;clear hcall)|refine cM (signed_is (neg:=ba) Hna.out) ?_)
 rintro e w2 ⟨v2,rfl,hz,hb⟩;obtain⟨z_b,z_a,z_n,z_c,rfl⟩:=hz.litb;have Xa0:=lH (xP hb Xa0.out);have HB:=lH (bC HB.out hb);have Hz:=lH hz;clear hb hz;obtain⟨ca00,ca01,ca02,fa00,fa01,fa02⟩:=Xa0.out.c3;have la0:=Xa0.out.lt
 go_wp2_with fail
 clear ca00 ca01 ca02 fa00 fa01 fa02 la0
 (first|(have hcall:=isign_ai k Hz.out.ai Hk.out (by omega);refine cM hcall ?_;clear hcall)|refine cM (isign_ai k Hz.out.ai Hk.out (by omega)) ?_)
 rintro e w3 ⟨v3,rfl,rfl,hb⟩;have Xa0:=lH (xP hb Xa0.out);have HB:=lH (bC HB.out hb);clear hb;obtain⟨ca00,ca01,ca02,fa00,fa01,fa02⟩:=Xa0.out.c3;have la0:=Xa0.out.lt;go_wp2;clear ca00 ca01 ca02 fa00 fa01 fa02 la0
 go_ret
 exact⟨_,rfl,rfl,HB.out⟩
theorem rsign_ar {q:Rat}{L:Nat}{v:Value}{w:World}(k:Int)(h:AR q L w v)(hk:q.num.sign=k)(hL:L≤100000000):Calls Tryz.prog 42 #[v] w (Ret w (Val (.int .i64 k))):=by
 obtain⟨b,s,t,n,d,rfl,h1,h2,rfl⟩:=h;exact rsign_p k (by rw[←hk,rv_sign]) h1 h2 hL
end Go.Proofs.YtbegidaaiajffaaGreatDoor
