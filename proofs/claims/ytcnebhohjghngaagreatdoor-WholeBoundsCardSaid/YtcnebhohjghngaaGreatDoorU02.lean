/- Texts LfH LfS LfM LfN LfT LfI LfJ LfK Bb of this proof, in this order. -/
import Derived.Test.YtcnebhohjghngaaGreatDoorU01
import Derived.Maps.Own
import Derived.Test.YtcnebhohjghngaaGreatDoorRows
import Derived.WalkSmall
set_option linter.unusedVariables false
set_option linter.unusedSimpArgs false
set_option maxRecDepth 100000
set_option maxHeartbeats 4000000
namespace Go.Proofs.YtcnebhohjghngaaGreatDoor.Lf
open Go.RowKit Nt
structure St where
 T:List (Nat×V)
 H:List (Nat×Ent)
 n:Nat
def Wk (m:Nat)(s s':St):Prop:=∀(N:Nat) (γ0:Gh) (h0:Hp) (M0:MS) (w0:World) (a:Act) (w:World),(∀key,(h0 key).isSome=true→key<m)→(∀b i,M0 b i→b<w0.heap.size)→
 SR N γ0 h0 M0 w0 (look s.T) (look s.H) a w→SR N γ0 h0 M0 w0 (look s'.T) (look s'.H) a w
theorem Wk.refl (m:Nat)(s:St):Wk m s s:=fun _ _ _ _ _ _ _ _ _ k=>k
theorem Wk.trans {m:Nat}{s s' s'':St}(h:Wk m s s')(k:Wk m s' s''):Wk m s s'':=fun _ _ _ _ _ _ _ h1 h2 h3=>k _ _ _ _ _ _ _ h1 h2 (h _ _ _ _ _ _ _ h1 h2 h3)
section
variable {γ γ':Gh} {h h':Hp} {M M':MS} {w w':World} {T T':Nat→Option V} {a:Act} {P:Program} {N m:Nat}
theorem stp_drew (γ:Gh)(h:Hp)(M:MS)(w:World):Stp γ h M w γ h M w.drew:=
 ⟨rfl,rfl,rfl,lR_ _,fun _ _ _ k=>k,fun _ _ _=>rfl,fun _ _ k _=>k,fun key b i k _=>⟨key,k⟩,fun key e he=>⟨e,he,Goes.refl e,.inl rfl⟩⟩
theorem SR.drew {γ0:Gh}{h0:Hp}{M0:MS}{w0:World}(hd:∀b i,M0 b i→b<w0.heap.size)(k:SR N γ0 h0 M0 w0 T h a w):SR N γ0 h0 M0 w0 T h a w.drew:=by
 obtain⟨γ,M,h1,h2,h3,h4,h5⟩:=k;have s:=stp_drew γ h M w;exact⟨γ,M,⟨fun key e he=>EntR.stp s (h1.ent key e he) rfl fun _ _ _=>rfl,h1.own,h1.inj,h1.u32,h1.dom,h1.glb.fx s.fx⟩,h2.stp s,h3,h4,h5.trans s hd⟩
def WkA (x y:A):Prop:=∀(γ:Gh) (h:Hp) (M:MS) (w:World) (r:Value),RdA γ h M w x r→RdA γ h M w y r
theorem WkA.refl (x:A):WkA x x:=fun _ _ _ _ _ k=>k
abbrev aR_:= @WkA.refl
theorem WkA.own {key k:Nat}{xs:List (List D)}:WkA (.own key k xs) (.d (.sl k xs)):=fun _ _ _ _ _ k=>k.1
theorem WkA.nil {k:Nat}:WkA (.d (.lit (.slice none 0 0))) (.d (.sl k [])):=fun _ _ _ _ _ q=>by rw[lit_inv q];exact nil_ok k
theorem WkV.of {x y:A}(h:WkA x y):WkV (.a x) (.a y):=h
theorem all2_wk {γ:Gh}{h:Hp}{M:MS}{w:World}:∀{xs ys:List A} {vs:List Value},All2 WkA xs ys→All2 (RdA γ h M w) xs vs→All2 (RdA γ h M w) ys vs
 |[],[],[],_,_=>trivial
 |_::_,_::_,_::_,h,k=>⟨h.1 _ _ _ _ _ k.1,all2_wk h.2 k.2⟩
 |[],[],_::_,_,k=>k.elim
 |[],_::_,_,h,_=>h.elim
 |_::_,[],_,h,_=>h.elim
 |_::_,_::_,[],_,k=>k.elim
theorem WkV.agg {xs ys:List A}(h:All2 WkA xs ys):WkV (.agg xs) (.agg ys):=fun _ _ _ _ _ ⟨vs,h1,h2⟩=>⟨vs,h1,all2_wk h h2⟩
def WkD (x y:D):Prop:=∀(M:MS) (w:World) (r:Value),RdD M w x r→RdD M w y r
theorem WkD.refl (x:D):WkD x x:=fun _ _ _ k=>k
theorem all2_wkD {M:MS}{w:World}:∀{xs ys:List (List D)} {vs:List Value},All2 (All2 WkD) xs ys→All2 (RdD M w) xs.flatten vs→All2 (RdD M w) ys.flatten vs:=by
 have one:∀{xs ys:List D},All2 WkD xs ys→∀{zs zs':List D} {vs:List Value},(∀us,All2 (RdD M w) zs us→All2 (RdD M w) zs' us)→All2 (RdD M w) (xs++zs) vs→All2 (RdD M w) (ys++zs') vs:=by
  intro xs
  induction xs with
  |nil=>intro ys h zs zs' vs k q;cases ys with
   |nil=>exact k _ q
   |cons=>exact h.elim
  |cons x xs ih=>intro ys h zs zs' vs k q;cases ys with
   |nil=>exact h.elim
   |cons y ys=>cases vs with
    |nil=>exact q.elim
    |cons v vs=>exact⟨h.1 _ _ _ q.1,ih h.2 k q.2⟩
 intro xs
 induction xs with
 |nil=>intro ys vs h q;cases ys with
  |nil=>exact q
  |cons=>exact h.elim
 |cons x xs ih=>intro ys vs h q;cases ys with
  |nil=>exact h.elim
  |cons y ys=>exact one h.1 (fun us=>ih h.2) q
theorem all2_len {xs ys:List (List D)}{k:Nat}(h:All2 (All2 WkD) xs ys)(hk:∀row∈xs,row.length=k):∀row∈ys,row.length=k:=by
 intro row hr;obtain⟨i,hi⟩:=List.mem_iff_getElem?.1 hr;have hl:=h.len;have hlt:=(List.getElem?_eq_some_iff.1 hi).1;obtain⟨y,e1,e2⟩:=All2.get h (i:=i) (x:=xs[i]'(by omega)) (List.getElem?_eq_getElem _);rw[hi]at e1;injection e1 with e1;subst e1;rw[←e2.len];exact hk _ (List.getElem_mem _)
def WkE (e e':Ent):Prop:=
 match e' with
 | .gone=>True
 | .box t cs'=>∃cs,e= .box t cs∧All2 WkA cs cs'
 | .arr t k n=>e= .arr t k n
 | .tab t k rows=>∃rows0,e= .tab t k rows0∧All2 (All2 WkD) rows0 rows
 | .mp φ=>∃φ0,e= .mp φ0∧∀o,φ0 o→φ o
def keysE:Ent→List Nat
 | .box _ cs=>cs.flatMap keysA
 |_=>[]
def inH (H:List (Nat×Ent))(ks:List Nat):Bool:=ks.all fun k=>(look H k).isSome
def subT (T:List (Nat×V))(H':List (Nat×Ent)):List (Nat×V)→Prop
 |[]=>True
 |(d,v')::r=>(∃v,look T d=some v∧WkV v v'∧inH H' (keysV v')=true)∧subT T H' r
def subH (H H':List (Nat×Ent)):List (Nat×Ent)→Prop
 |[]=>True
 |(k,e')::r=>(∃e,look H k=some e∧WkE e e'∧inH H' (keysE e')=true)∧subH H H' r
def subM (m:Nat)(H H':List (Nat×Ent)):Bool:=(List.range m).all fun k=> !(look H k).isSome||(look H' k).isSome
theorem subT_at {T:List (Nat×V)}{H':List (Nat×Ent)}:∀{L:List (Nat×V)},subT T H' L→∀{d:Nat} {v':V},look L d=some v'→∃v,look T d=some v∧WkV v v'∧inH H' (keysV v')=true
 |(e,x)::r,hs,d,v',hl=>by
  simp only[look]at hl;split at hl
  ·rename_i hd;subst hd;injection hl with hl;subst hl;exact hs.1
  ·exact subT_at hs.2 hl
theorem subH_at {H H':List (Nat×Ent)}:∀{L:List (Nat×Ent)},subH H H' L→∀{d:Nat} {e':Ent},look L d=some e'→∃e,look H d=some e∧WkE e e'∧inH H' (keysE e')=true
 |(e,x)::r,hs,d,v',hl=>by
  simp only[look]at hl;split at hl
  ·rename_i hd;subst hd;injection hl with hl;subst hl;exact hs.1
  ·exact subH_at hs.2 hl
theorem renB_id (x:BA):renB id x=x:=by cases x<;>rfl
theorem renA_id (x:A):renA id x=x:=by
 cases x<;>simp[renA]
 have hl:∀l:List BA,l.map (renB id)=l:=fun l=>by rw[show(renB id)=id from funext renB_id];simp
 exact⟨hl _,hl _⟩
theorem renW_id (x:W):renW id x=x:=by
 cases x with
 |s x=>simp[renW,renA_id]
 |g xs=>simp[renW,show(renA id)=id from funext renA_id]
theorem renV_id (x:V):renV id x=x:=by
 cases x with
 |a x=>simp[renV,renA_id]
 |agg xs=>simp[renV,show(renA id)=id from funext renA_id]
 |tup xs=>simp[renV,show(renW id)=id from funext renW_id]
theorem rel_sub (r:Rel γ h M w){H':List (Nat×Ent)}(hs:∀(d:Nat) (e':Ent),look H' d=some e'→∃e,h d=some e∧WkE e e'∧inH H' (keysE e')=true):
  Rel γ (look H') M w∧(∀v x,RdV γ h M w v x→inH H' (keysV v)=true→RdV γ (look H') M w v x)∧(∀{γ0:Gh} {h0:Hp} {M0:MS} {w0:World},(∀key,(h0 key).isSome=true→(h key).isSome=true→(look H' key).isSome=true)→Stp γ0 h0 M0 w0 γ h M w→Stp γ0 h0 M0 w0 γ (look H') M w):=by
 have hsame:∀key,(look H' key).isSome=true→SameKey id γ h γ (look H') key:=by
  intro key hk;obtain⟨e',he'⟩:=Option.isSome_iff_exists.1 hk;obtain⟨e,he,hw,_⟩:=hs key e' he';refine⟨rfl,fun hp=> ?_,fun hp=> ?_,fun _=>hk,fun e0 k n hq=> ?_,fun e0 k n hq=> ?_⟩
  ·rw[he]at hp;simp only[id_eq,he']
   cases e' with
   |gone=>rfl
   |box=>rfl
   |tab=>rfl
   |mp=>obtain⟨φ0,rfl,_⟩:=hw;cases hp
   |arr=>rw[show e=_ from hw]at hp;exact hp
  ·rw[he]at hp;simp only[id_eq,he']
   cases e' with
   |gone=>rfl
   |box=>obtain⟨_,rfl,_⟩:=hw;cases hp
   |tab=>obtain⟨_,rfl,_⟩:=hw;cases hp
   |mp=>rfl
   |arr=>rw[show e=_ from hw]at hp;cases hp
  ·simp only[id_eq]at hq;rw[he']at hq;injection hq with hq;subst hq;rw[he,show e=_ from hw]
  ·simp only[id_eq]at hq;rw[he']at hq;injection hq with hq;subst hq;obtain⟨rows0,rfl,h0⟩:=hw;exact⟨_,he,h0.len.symm⟩
 have hin:∀{ks:List Nat},inH H' ks=true→∀key∈ks,(look H' key).isSome=true:=fun hi key hk=>List.all_eq_true.1 hi key hk;have hlive:∀key,live (look H' key)=true→live (h key)=true:=by
  intro key hl
  cases he':look H' key with
  |none=>rw[he']at hl;cases hl
  |some e'=>
   obtain⟨e,he,hw,_⟩:=hs key e' he';rw[he']at hl;rw[he]
   cases e' with
   |gone=>cases hl
   |box=>obtain⟨cs,rfl,_⟩:=hw;rfl
   |tab=>obtain⟨cs,rfl,_⟩:=hw;rfl
   |mp=>obtain⟨cs,rfl,_⟩:=hw;rfl
   |arr=>rw[show e=_ from hw];rfl
 have hown:∀key b i,Owns γ (look H') key b i→Owns γ h key b i:=by
  intro key b i ho;unfold Owns at ho ⊢
  cases he':look H' key with
  |none=>rw[he']at ho;exact ho.elim
  |some e'=>
   obtain⟨e,he,hw,_⟩:=hs key e' he';rw[he']at ho;rw[he]
   cases e' with
   |gone=>exact ho.elim
   |box=>obtain⟨cs,rfl,_⟩:=hw;exact ho
   |tab=>obtain⟨cs,rfl,_⟩:=hw;exact ho
   |mp=>obtain⟨cs,rfl,_⟩:=hw;exact ho
   |arr=>rw[show e=_ from hw];exact ho
 refine⟨⟨fun key e' he'=> ?_,fun key b i ho=>r.own key b i (hown key b i ho),fun k1 k2 b l1 l2=>r.inj k1 k2 b (hlive k1 l1) (hlive k2 l2),r.u32,r.dom,r.glb⟩,fun v x hv hi=> ?_,fun {γ0 h0 M0 w0} hm s=> ?_⟩
 ·obtain⟨e,he,hw,hi⟩:=hs key e' he';have hr:=r.ent key e he
  cases e' with
  |gone=>trivial
  |arr t k n=>rw[show e=_ from hw]at hr;exact hr
  |mp φ=>
   obtain⟨φ0,rfl,h0⟩:=hw;obtain⟨g,o,k1,k2,k3,k4⟩:=hr;exact⟨g,o,k1,k2,h0 o k3,k4⟩
  |tab t k rows=>
   obtain⟨rows0,rfl,h0⟩:=hw;obtain⟨g,vs,sp,k1,k2,k3,k4,k5⟩:=hr;exact⟨g,vs,sp,k1,k2,all2_len h0 k3,all2_wkD h0 k4,k5⟩
  |box t cs'=>
   obtain⟨cs,rfl,hcs⟩:=hw;obtain⟨g,vs,k1,k2,k3⟩:=hr;refine⟨g,vs,k1,k2,?_⟩;have k4:=All2.renA (f:=id) (γ':=γ) (h':=look H') (all2_wk hcs k3) fun key hk=>hsame key (hin hi key hk)
   rwa [show(renA id)=id from funext renA_id,List.map_id]at k4
 ·have:=RdV.ren (f:=id) (γ':=γ) (h':=look H') hv fun key hk=>hsame key (hin hi key hk)
  rwa [renV_id]at this
 ·refine⟨s.os,s.tape,s.output,s.size,s.fx,s.other,s.keep,fun key b i ho hb=>s.new key b i (hown key b i ho) hb,fun key e he=> ?_⟩;obtain⟨e1,h1,h2,h3⟩:=s.key key e he;have hk:=hm key (by rw[he];rfl) (by rw[h1];rfl);obtain⟨e',he'⟩:=Option.isSome_iff_exists.1 hk;obtain⟨e2,he2,hw,_⟩:=hs key e' he';rw[h1]at he2;injection he2 with he2;subst he2;refine⟨e',he',?_,?_⟩
  ·cases e' with
   |gone=>cases e<;>trivial
   |box=>obtain⟨cs,rfl,_⟩:=hw;cases e<;>exact h2
   |tab=>obtain⟨cs,rfl,h0⟩:=hw;cases e<;>first|exact h2|exact h0.len.symm.trans h2
   |mp=>obtain⟨cs,rfl,h0⟩:=hw;cases e<;>exact h2
   |arr=>rw[show e1=_ from hw]at h2;exact h2
  ·rcases h3 with h3|h3
   ·exact .inl h3
   ·right
    cases e' with
    |gone=>cases e<;>cases e1<;>first|trivial|exact h3.elim|exact h3
    |box=>obtain⟨cs,rfl,_⟩:=hw;cases e<;>exact h3.elim
    |tab=>obtain⟨cs,rfl,_⟩:=hw;cases e<;>exact h3.elim
    |mp=>obtain⟨cs,rfl,_⟩:=hw;cases e<;>exact h3.elim
    |arr=>rw[show e1=_ from hw]at h3;exact h3
theorem Wk.of {m:Nat}{s s':St}(h1:subT s.T s'.H s'.T)(h2:subH s.H s'.H s'.H)(h3:subM m s.H s'.H=true):Wk m s s':=by
 intro N γ0 h0 M0 w0 a w hm hd hS;obtain⟨γ,M,k1,k2,k3,k4,k5⟩:=hS;obtain⟨r1,r2,r3⟩:=rel_sub k1 (H':=s'.H) fun d e' he=>subH_at h2 he;refine⟨γ,M,r1,⟨k2.1,fun d v' hv'=> ?_⟩,k3,k4,r3 (fun key hk0 hk=> ?_) k5⟩
 ·obtain⟨v,hv,hw,hi⟩:=subT_at h1 hv';obtain⟨x,q1,q2⟩:=k2.2 d v hv;exact⟨x,q1,r2 v' x (hw _ _ _ _ _ q2) hi⟩
 ·have:=List.all_eq_true.1 h3 key (List.mem_range.2 (hm key hk0));simpa [hk]using this
theorem Wk.own {m:Nat}{s:St}(d key:Nat)(e:TypeId)(k:Nat)(hT:look s.T d=some (vl (.slice none 0 0)))(hk:look s.H key=none)(hkm:m≤key):
  Wk m s ⟨(d,.a (.own key k []))::s.T,(key,.arr e k 0)::s.H,s.n⟩:=by
 intro N γ0 h0 M0 w0 a w hm hd hS;obtain⟨γ,M,k1,k2,k3,k4,k5⟩:=hS;obtain⟨q1,q2⟩:=new_nil k1 hk e k;have e1:look ((key,Ent.arr e k 0)::s.H)=over [(key,.arr e k 0)] (look s.H):=look_app [(key,Ent.arr e k 0)] s.H;refine⟨_,M,by rw[e1];exact q1,⟨k2.1,fun d' v' hv'=> ?_⟩,k3,k4,by rw[e1];exact k5.trans q2 hd⟩;simp only[look]at hv';split at hv'
 ·rename_i hdd;subst hdd;injection hv' with hv';subst hv';obtain⟨x,y1,y2⟩:=k2.2 _ _ hT;have y3:=lit_inv y2;subst y3;refine⟨_,y1,nil_ok k,by simp[look],fun e' k' n he=> ?_⟩;simp only[look,if_true]at he;injection he with he;injection he with _ _ he;subst he;exact⟨lR_ _,fun _=>by rw[upd_same]⟩
 ·obtain⟨x,y1,y2⟩:=k2.2 d' v' hv';exact⟨x,y1,by rw[e1];exact RdV.stp q2 y2⟩
end
section
variable {γ γ':Gh} {h h':Hp} {M M':MS} {w w':World} {T T':Nat→Option V} {a:Act} {P:Program}
theorem flat_row {k:Nat}:∀{rows:List (List D)} {m:Nat} {row:List D},(∀r∈rows,r.length=k)→rows[m]? =some row→
  ∃pre post:List D,rows.flatten=pre++(row++post)∧pre.length=m*k∧∀row',(rows.set m row').flatten=pre++(row'++post)
 |[],m,row,_,hm=>by simp at hm
 |r::rows,0,row,hk,hm=>by
  simp at hm;subst hm;exact⟨[],rows.flatten,by simp,by simp,fun row'=>by simp⟩
 |r::rows,m+1,row,hk,hm=>by
  simp at hm;obtain⟨pre,post,h1,h2,h3⟩:=flat_row (fun r hr=>hk r (by simp[hr])) hm;exact⟨r++pre,post,by simp[h1],by simp[h2,hk r (by simp),Nat.add_mul];omega,fun row'=>by simp[h3]⟩
theorem take_mid {α:Type}{pre row post:List α}{j:Nat}(hj:j≤row.length):(pre++(row++post)).take (pre.length+j)=pre++row.take j:=by
 rw[List.take_length_add_append,List.take_append_of_le_length hj]
theorem drop_mid {α:Type}{pre row post:List α}{j:Nat}(hj:j≤row.length):(pre++(row++post)).drop (pre.length+j)=row.drop j++post:=by
 rw[List.drop_length_add_append,List.drop_append_of_le_length hj]
theorem OT_ixt {o:Oper}{t e:TypeId}{x i:Operand}{key nn m s:Nat}(ho:o.op= .indexAddr t x i)(hx:evL T x=some (.a (.tab key nn)))(hi:natI (evL T i)=some m)(he:elemT P t=some (e,s))(hm:m<nn):OT P o T h (.a (.ptr key (m*s))) [] []:=by
 intro T' h' γ M w a next Q hT hk hr ht hn
 have hx':evL T' x=some (.a (.tab key nn)):=by rw[←hx];exact evL_congr fun d hd=>hT d (by rw[ho];simp[Op.operands,hd])
 have hi':natI (evL T' i)=some m:=by rw[←hi];congr 1;exact evL_congr fun d hd=>hT d (by rw[ho];simp[Op.operands,hd])
 obtain⟨k1,⟨g,cp,k2,k3,_⟩,_⟩:=evL_ok ht hx';obtain⟨ki,hki⟩:=natI_ok ht hi';obtain⟨e1,e2⟩:=elemT_ok he;unfold Oper.wp;have:(execOp a.eval o).run P w= .ok (.value (.pointer (some ⟨g,0+m*s,none⟩))) w:=by
  simp[execOp,ho,k3,hki,Instr.indexAt,asIntOf,run_underlying e1,sizeT_run e2,hm,Addr.add_lit]
 rw[this];exact hn _ γ M w hr ⟨k1,g,k2,by rw[Nat.zero_add]⟩ (Stp.refl _ _ _ _)
theorem all2_d {ds:List D}{vs:List Value}(k:All2 (RdD M w) ds vs):All2 (RdA γ h M w) (ds.map .d) vs:=All2.map (All2.imp (fun _ _ q=>q) k)
theorem OT_ldt {o:Oper}{t e:TypeId}{x:Operand}{key off m j k s:Nat}{rows:List (List D)}{row:List D}{ag:Bool}{v:V}(ho:o.op= .load t x)(hx:evL T x=some (.a (.ptr key off)))(hh:h key=some (.tab e k rows))(h2:aggT P t=some ag)(h3:sizeT P t=some s)
  (hoff:off=m*k+j) (hrow:rows[m]? =some row) (hv:oneL ag (((row.drop j).take s).map .d) s=some v):OT P o T h v [] [key]:=by
 intro T' h' γ M w a next Q hT hk hr ht hn
 have hx':evL T' x=some (.a (.ptr key off)):=by rw[←hx];exact evL_congr fun d hd=>hT d (by rw[ho];simp[Op.operands,hd])
 obtain⟨_,g,k1,k2⟩:=evL_ok ht hx';obtain⟨g',vs,sp,k3,k4,k5,k6,_⟩:=hr.ent key _ ((hk key (by simp)).trans hh);rw[k1]at k3;injection k3 with k3;injection k3 with k3;injection k3 with k3;subst k3;obtain⟨pre,post,f1,f2,_⟩:=flat_row k5 hrow;have hrl:row.length=k:=k5 row (mG_ hrow);have hs:((row.drop j).take s).length=s:=by
  unfold oneL at hv;split at hv
  ·rename_i e;simpa using e
  ·cases hv
 have hcut:(rows.flatten.drop off).take s=(row.drop j).take s:=by
  rw[f1,hoff,List.drop_append,List.drop_eq_nil_of_le (by omega),f2,show m*k+j-m*k=j by omega,List.nil_append,List.drop_append];rcases eP_ s with h0|h0
  ·subst h0;simp
  ·have:j+s≤row.length:=by simp at hs;omega
   rw[List.take_append_of_le_length (by simp;omega)]
 have k7:=all2_d (γ:=γ) (h:=h') (All2.take s (All2.drop off k6));rw[hcut]at k7;obtain⟨k8,k9⟩:=oneL_ok hv k7;unfold Oper.wp;have:(execOp a.eval o).run P w= .ok (.value (if ag then .agg ((vs.drop off).take s).toArray else((vs.drop off).take s).headD undef)) w:=by
  have h4:(Instr.loadAt t (a.eval x)).run P w= .ok (if ag then .agg ((vs.drop off).take s).toArray else((vs.drop off).take s).headD undef) w:=by
   rw[k2];simp only[Instr.loadAt,Instr.sureAddr,Sem.run_bind,Sem.run_pure,Result.andThen_ok];refine loadVar_run h2 h3 (fun e=>by subst e;exact oneL_one hv) k8 fun j u hj=> ?_;rw[List.getElem?_take,List.getElem?_drop]at hj;split at hj
   ·have hjl:=(List.getElem?_eq_some_iff.1 hj).1;simp[World.cell?,k4,List.getElem?_append_left hjl,hj]
   ·cases hj
  simp[execOp,ho,h4]
 rw[this];exact hn _ γ M w hr k9 (Stp.refl _ _ _ _)
theorem set_tab (r:Rel γ h M w){key g:Nat}{t:TypeId}{k:Nat}{cs cs':List (List D)}{vs' sp:List Value}(hk:h key=some (.tab t k cs))(hl:cs'.length=cs.length)(hg:γ key= .pointer (some ⟨g,0,none⟩))
  (hw':w'.heap[g]? =some (.cells (vs'++sp).toArray t (0,0))) (ho:∀b,b≠g→w'.heap[b]? =w.heap[b]?) (h1:w'.os=w.os) (h2:w'.tape=w.tape) (h3:w'.output=w.output) (hs:w'.heap.size=w.heap.size)
  (hkk:∀row∈cs',row.length=k) (k4:All2 (RdD M w) cs'.flatten vs') (k1:∀v∈vs',v.oneCell'=true) (hp:∀(i:Nat) (x:Value),(vs'++sp).toArray[i]? =some x→∀z:Int,x≠ .int .u32 z):
  Rel γ (over [(key,.tab t k cs')] h) M w'∧Stp γ h M w γ (over [(key,.tab t k cs')] h) M w':=by
 have hM:∀i,M g i:=fun i=>r.own key g i (by unfold Owns;rw[hk];simp[hg,blk]);have hown:∀key' b i,Owns γ (over [(key,.tab t k cs')] h) key' b i↔Owns γ h key' b i:=by
  intro key' b i
  by_cases e:key'=key
  ·subst e;unfold Owns;rw[over_same,hk]
  ·exact owns_congr rfl (over_other e)
 have s:Stp γ h M w γ (over [(key,.tab t k cs')] h) M w':=by
  refine⟨h1,h2,h3,by omega,fun b i u q=> ?_,fun b hb hn=> ?_,fun b i q _=>q,fun key' b i q _=>⟨key',(hown _ _ _).1 q⟩,fun key' e he=> ?_⟩
  ·have hne:b≠g:=fun e=>q.1 (e▸hM i);exact⟨q.1,by rw[←q.2];exact World.cell?_of_block (a:=⟨b,i,none⟩) (ho b hne)⟩
  ·refine ho b fun e=>hn key 0 ?_;subst e;unfold Owns;rw[hk];simp[hg,blk]
  ·by_cases e1:key'=key
   ·subst e1;rw[hk]at he;injection he with he;subst he;exact⟨_,over_same,hl,.inl rfl⟩
   ·exact⟨e,by rw[over_other e1];exact he,Goes.refl _,.inl rfl⟩
 refine⟨⟨fun key' e he=> ?_,fun key' b i q=>r.own key' b i ((hown _ _ _).1 q),fun key1 key2 b l1 l2=> ?_,fun b i z hm=> ?_,fun b i hm=>by rw[hs];exact r.dom b i hm,r.glb.fx s.fx⟩,s⟩
 ·by_cases e1:key'=key
  ·subst e1;rw[over_same]at he;injection he with he;subst he;exact⟨g,vs',sp,hg,hw',hkk,All2.imp (fun _ _=>RdD.fx s.fx) k4,k1⟩
  ·rw[over_other e1]at he;refine EntR.stp s (r.ent key' e he) rfl fun hl b hb=>ho b fun e2=>e1 ?_;exact r.inj key' key b (by rw[he];exact hl) (by rw[hk];rfl) hb (by rw[hg,e2];rfl)
 ·have:∀k0,live (over [(key,.tab t k cs')] h k0)=true→live (h k0)=true:=by
   intro k0 hl
   by_cases e1:k0=key
   ·subst e1;rw[hk];rfl
   ·rwa [over_other e1]at hl
  exact r.inj key1 key2 b (this _ l1) (this _ l2)
 ·by_cases e1:b=g
  ·subst e1;intro h5;have:(vs'++sp).toArray[i]? =some (.int .u32 z):=by simpa [World.cell?,hw']using h5
   exact hp i _ this z rfl
  ·rw[World.cell?_of_block (w:=w) (a:=⟨b,i,none⟩) (ho b e1)];exact r.u32 b i z hm
theorem OT_stt {o:Oper}{t e:TypeId}{x y:Operand}{key off m j k s:Nat}{rows:List (List D)}{row ds:List D}{vy:V}{xs:List A}(ho:o.op= .store t x y)(hx:evL T x=some (.a (.ptr key off)))(hy:evL T y=some vy)(hh:h key=some (.tab e k rows))(h3:sizeT P t=some s)
  (hc:cellsV vy=some xs) (hd:toDs xs=some ds) (hl:xs.length=s) (hp:xs.all plainA=true) (hoff:off=m*k+j) (hrow:rows[m]? =some row) (hjs:j+s≤row.length):
  OT P o T h (vl undef) [(key,.tab e k (rows.set m (row.take j++ds++row.drop (j+s))))] [key]:=by
 intro T' h' γ M w a next Q hT hk hr ht hn
 have hx':evL T' x=some (.a (.ptr key off)):=by rw[←hx];exact evL_congr fun d hd=>hT d (by rw[ho];simp[Op.operands,hd])
 have hy':evL T' y=some vy:=by rw[←hy];exact evL_congr fun d hd=>hT d (by rw[ho];simp[Op.operands,hd])
 have hkey:=(hk key (by simp)).trans hh;obtain⟨_,g,k1,k2⟩:=evL_ok ht hx';obtain⟨us,q1,q2⟩:=cellsV_ok (evL_ok ht hy') hc;obtain⟨g',vs,sp,k3,k4,k5,k6,k66⟩:=hr.ent key _ hkey;rw[k1]at k3;injection k3 with k3;injection k3 with k3;injection k3 with k3;subst k3;obtain⟨pre,post,f1,f2,f3⟩:=flat_row k5 hrow;have hrl:row.length=k:=k5 row (mG_ hrow);have hul:us.length=s:=by rw[←hl];exact q2.len.symm
 have q3:=toDs_ok q2 hd;have hdl:ds.length=s:=by rw[q3.len,hul]
 have hvl:=k6.len;have hfl:rows.flatten.length=m*k+(k+post.length):=by rw[f1];simp[f2,hrl]
 have hone:∀v∈us,v.oneCell'=true:=by
  intro v hv;obtain⟨i,hi⟩:=List.mem_iff_getElem?.1 hv;have hlt:=(List.getElem?_eq_some_iff.1 hi).1;obtain⟨q,z1,z2⟩:=All2.get q2 (i:=i) (x:=xs[i]'(by omega)) (List.getElem?_eq_getElem _);rw[hi]at z1;injection z1 with z1;subst z1;exact plain_one z2 (List.all_eq_true.1 hp _ (List.getElem_mem _))
 have hrun:=run_storeCells_at P g off e us 0 (vs++sp).toArray w k4 (by simp;omega) hone;simp only[Nat.add_zero,List.toList_toArray,hul]at hrun;have hcat:(vs++sp).take off++us++(vs++sp).drop (off+s)=vs.take off++us++vs.drop (off+s)++sp:=by
  rw[List.take_append_of_le_length (by omega),List.drop_append_of_le_length (by omega)];simp
 rw[hcat]at hrun;have hcut:(rows.set m (row.take j++ds++row.drop (j+s))).flatten=rows.flatten.take off++ds++rows.flatten.drop (off+s):=by
  rw[f3,f1,hoff,←f2,take_mid (by omega),Nat.add_assoc,drop_mid (by omega)];simp
 have k8:All2 (RdD M w) (rows.set m (row.take j++ds++row.drop (j+s))).flatten (vs.take off++us++vs.drop (off+s)):=by
  rw[hcut];exact All2.app (All2.app (All2.take _ k6) q3) (All2.drop _ k6)
 have hpl:∀(i:Nat) (x:Value),(vs.take off++us++vs.drop (off+s)++sp).toArray[i]? =some x→∀z:Int,x≠ .int .u32 z:=by
  intro i x hi;have hi':(vs.take off++us++vs.drop (off+s)++sp)[i]? =some x:=by simpa using hi
  have hold:∀j',(vs++sp)[j']? =some x→∀z:Int,x≠ .int .u32 z:=fun j' hj z ez=>by
   refine hr.u32 g j' z (hr.own key g j' (by unfold Owns;rw[hkey];simp[k1,blk])) ?_;subst ez;simp only[World.cell?,k4];simpa using hj
  have holdm:x∈vs++sp→∀z:Int,x≠ .int .u32 z:=fun hm=>let ⟨j',hj⟩:=List.mem_iff_getElem?.1 hm;hold j' hj;rcases List.mem_append.1 (mG_ hi')with hm|hm;rcases List.mem_append.1 hm with hm|hm
  ·rcases List.mem_append.1 hm with hm|hm
   ·exact holdm (List.mem_append_left _ (List.mem_of_mem_take hm))
   ·obtain⟨j',hj⟩:=List.mem_iff_getElem?.1 hm;have hlt:=(List.getElem?_eq_some_iff.1 hj).1;obtain⟨q,z1,z2⟩:=All2.get q2 (i:=j') (x:=xs[j']'(by omega)) (List.getElem?_eq_getElem _);rw[hj]at z1;injection z1 with z1;subst z1;exact plainA_u32 z2 (List.all_eq_true.1 hp _ (List.getElem_mem _))
  ·exact holdm (List.mem_append_left _ (List.mem_of_mem_drop hm))
  ·exact holdm (List.mem_append_right _ hm)
 obtain⟨r1,r2⟩:=set_tab (w':=w.setRow g (vs.take off++us++vs.drop (off+s)++sp).toArray) hr hkey (by simp) k1 (setRow_heap w g _ _ e _ k4) (fun b hb=>setRow_other w g b _ hb) rfl rfl rfl (by simp) (fun r hr'=>by
  rcases List.mem_or_eq_of_mem_set hr' with h5|h5
  ·exact k5 r h5
  ·subst h5;simp[hdl];omega) k8 (fun v hv=>by
  rcases List.mem_append.1 hv with hm|hm
  ·rcases List.mem_append.1 hm with hm|hm
   ·exact k66 v (List.mem_of_mem_take hm)
   ·exact hone v hm
  ·exact k66 v (List.mem_of_mem_drop hm)) hpl
 unfold Oper.wp;have:(execOp a.eval o).run P w= .ok .skip (w.setRow g (vs.take off++us++vs.drop (off+s)++sp).toArray):=by
  simp[execOp,ho,Instr.storeAt,k2,Instr.sureAddr,storeVar,sizeT_run h3,q1,hul,hrun]
 rw[this];exact hn undef γ M _ r1 (.lit _) r2
theorem OT_mk {o:Oper}{t e:TypeId}{l c:Operand}{n nn k:Nat}{zs:List A}{ds:List D}(ho:o.op= .makeSlice t l c)(h1:natI (evL T l)=some nn)(h2:natI (evL T c)=some nn)(he:elemT P t=some (e,k))(hz:zeroT P zb e=some zs)(hd:toDs zs=some ds)
  (hok:appOk P e k=true) (hzp:zs.all plainA=true) (hn0:h n=none) (hb:nn≤68719476736):OT P o T h (.a (.tab n nn)) [(n,.tab e k (List.replicate nn ds))] [n]:=by
 intro T' h' γ M w a next Q hT hk hr ht hn
 have h1':natI (evL T' l)=some nn:=by rw[←h1];congr 1;exact evL_congr fun d hd=>hT d (by rw[ho];simp[Op.operands,hd])
 have h2':natI (evL T' c)=some nn:=by rw[←h2];congr 1;exact evL_congr fun d hd=>hT d (by rw[ho];simp[Op.operands,hd])
 obtain⟨kl,e1⟩:=natI_ok ht h1';obtain⟨kc,e2⟩:=natI_ok ht h2';obtain⟨u1,u2⟩:=elemT_ok he;obtain⟨i,z,i1,i2,hk0,i3,i4,i5,i6⟩:=appOk_ok hok;obtain⟨i',z',j1,j2,j3⟩:=zeroT_ok (γ:=γ) (h:=h') (M:=M) (w:=w) zb_ok hz;rw[i1]at j1;injection j1 with j1;subst j1;rw[i2]at j2;injection j2 with j2;subst j2;have hzl:z.cells.toList.length=k:=by simpa using i5
 have hdd:=toDs_ok j3 hd;have hdl:ds.length=k:=by rw[hdd.len,hzl]
 have hby:(i.bytes:Int)*(nn:Int)≤281474976710656:=by
  have:i.bytes*nn≤2048*68719476736:=Nat.mul_le_mul i4 hb;have:((i.bytes*nn:Nat):Int)≤281474976710656:=by omega
  rwa [Int.natCast_mul]at this
 have hrun:=run_make (P:=P) w t e i z u1 i1 i2 kl kc nn nn (by omega) (Int.le_refl _) hby (by omega);simp only[Int.toNat_natCast,i3]at hrun;have hcells:(madeCells z.cells (nn*k)).toList=(List.replicate nn z.cells.toList).flatten:=by
  apply List.ext_getElem?;intro j
  by_cases hj:j<nn*k
  ·rw[flat_get _ hzl nn j hj];have hlt:j % k<z.cells.size:=by rw[i5];exact Nat.mod_lt _ hk0
   simp[madeCells,hj,i5];rw[getElem!_pos z.cells (j % k) hlt,Array.getElem?_eq_getElem hlt]
  ·have h7:(List.replicate nn z.cells.toList).flatten.length=nn*k:=flat_len _ hzl nn;have h8:(madeCells z.cells (nn*k)).toList.length=nn*k:=by rw[Array.length_toList,size_madeCells]
   rw[List.getElem?_eq_none (by omega),List.getElem?_eq_none (by omega)]
 have harr:madeCells z.cells (nn*k)=((List.replicate nn z.cells.toList).flatten).toArray:=by rw[←hcells]
 have hall:∀nn:Nat,All2 (RdD M w) (List.replicate nn ds).flatten (List.replicate nn z.cells.toList).flatten:=by
  intro nn
  induction nn with
  |zero=>trivial
  |succ m ih=>rw[List.replicate_succ,List.replicate_succ,List.flatten_cons,List.flatten_cons];exact All2.app hdd ih
 have hbk:∀b,blk (.pointer (some ⟨w.heap.size,0,none⟩))=some b→b=w.heap.size:=by intro b hb;simp[blk]at hb;exact hb.symm
 have hfree:h' n=none:=(hk n (by simp)).trans hn0;have hn':∀e1,h' n=some e1→Goes e1 (.tab e k (List.replicate nn ds))∧Grown1 e1 (.tab e k (List.replicate nn ds)):=fun e1 he=>by rw[hfree]at he;cases he
 have s:=stp_new hr hn' (e:= .tab e k (List.replicate nn ds)) (v:= .pointer (some ⟨w.heap.size,0,none⟩)) (cs:=((List.replicate nn z.cells.toList).flatten).toArray) (t:=e) (w1:=w) rfl rfl rfl rfl (m:=0) hbk
 have r:=rel_new hr hn' rfl rfl rfl rfl (m:=0) (v:= .pointer (some ⟨w.heap.size,0,none⟩)) (cs:=((List.replicate nn z.cells.toList).flatten).toArray) (t:=e) (w1:=w) hbk ⟨_,(List.replicate nn z.cells.toList).flatten,[],upd_same,by rw[List.append_nil];exact heap_alloc_new w _,fun row hrow=>by rw[List.eq_of_mem_replicate hrow];exact hdl,All2.imp (fun _ _=>RdD.fx s.fx) (hall nn),fun v hv=>by
  obtain⟨l,hl,hx⟩:=List.mem_flatten.1 hv;rw[List.eq_of_mem_replicate hl]at hx;obtain⟨j,hj⟩:=List.mem_iff_getElem?.1 hx;have hlt:=(List.getElem?_eq_some_iff.1 hj).1;have hzz:=j3.len;obtain⟨q,z1,z2⟩:=All2.get j3 (i:=j) (x:=zs[j]'(by omega)) (List.getElem?_eq_getElem _);rw[hj]at z1;injection z1 with z1;subst z1;exact plain_one z2 (List.all_eq_true.1 hzp _ (List.getElem_mem _))⟩ (fun _ i _=>zL_ i) (fun j x _ hj=>by
  have hj':((List.replicate nn z.cells.toList).flatten)[j]? =some x:=by simpa using hj
  obtain⟨l,hl,hx⟩:=List.mem_flatten.1 (mG_ hj');rw[List.eq_of_mem_replicate hl]at hx;exact i6 x hx)
 unfold Oper.wp;have:(execOp a.eval o).run P w= .ok (.value (.slice (some ⟨w.heap.size,0,none⟩) nn nn)) (w.alloc (.cells ((List.replicate nn z.cells.toList).flatten).toArray e)):=by
  simp[execOp,ho,e1,e2,hrun,harr]
 rw[this];refine hn _ _ _ _ r ⟨by rw[over_same];rfl,⟨_,_,upd_same,rfl,lR_ _⟩,fun e1 k1 rows h5=> ?_⟩ s;rw[over_same]at h5;injection h5 with h5;injection h5 with _ _ h5;subst h5;simp
def eqFs (P:Program)(xs ys:List A):List Field→Option Bool
 |[]=>some true
 |f::fs=>match intT P f.type,aggT P f.type,xs[f.offset]?,ys[f.offset]? with
  |some _,some false,some (.d (.lit (.int k a))),some (.d (.lit (.int k' b)))=>if k=k'∧f.name≠ "_" ∧sizeT P f.type=some 1 then(match eqFs P xs ys fs with
   |some r=>some ((a==b)&&r)
   |none=>none)else none
  |_,_,_,_=>none
def eqOk (P:Program)(t:TypeId):Bool:= !P.stoodInHeld t&& !P.eqGuardType P.depth t
def structT (P:Program)(t:TypeId):Option (List Field):=
 match P.underlying t with
 |some (.struct fs)=>some fs.toList
 |_=>none
theorem cellA {xs:List A}{us:List Value}(k:All2 (RdA γ h M w) xs us){j:Nat}{v:Value}(hj:xs[j]? =some (.d (.lit v))):us[j]? =some v:=by
 obtain⟨y,h1,h2⟩:=All2.get k hj;rw[h1,show y=v from lit_inv h2]
theorem part_one {t:TypeId}{us:List Value}{j:Nat}{v:Value}(h1:aggT P t=some false)(h2:sizeT P t=some 1)(hj:us[j]? =some v):(part t us.toArray j).run P w= .ok v w:=by
 obtain⟨hj1,hj2⟩:=List.getElem?_eq_some_iff.1 hj;simp[part,aggT_run h1,hj1,hj2]
theorem eqFs_run {xs ys:List A}{us vs:List Value}(k:All2 (RdA γ h M w) xs us)(k':All2 (RdA γ h M w) ys vs){d:Nat}:∀{fs:List Field} {r:Bool},eqFs P xs ys fs=some r→(Op.eqFields (d+1) us.toArray vs.toArray fs).run P w= .ok r w
 |[],r,he=>by simp only[eqFs]at he;injection he with he;subst he;simp[Op.eqFields]
 |f::fs,r,he=>by
  simp only[eqFs]at he;split at he
  ·rename_i kk k1 x k2 y h1 h2 h3 h4;split at he
   ·rename_i hc;obtain⟨rfl,hn,hs⟩:=hc;split at he
    ·rename_i r' hr;injection he with he;subst he;have hu:P.underlying f.type=some (.int kk):=by unfold intT at h1;split at h1<;>simp_all
     have ih:=eqFs_run k k' (d:=d) hr;have e1:=run_equalIn_int (P:=P) w d f.type k1 kk x y hu;simp only[Op.eqFields,if_pos hn,Sem.run_bind,part_one h2 hs (cellA k h3),part_one h2 hs (cellA k' h4),Result.andThen_ok,e1]
     by_cases hxy:x=y
     ·subst hxy;simp[ih]
     ·simp[hxy]
    ·cases he
   ·cases he
  ·cases he
theorem OT_eq {o:Oper}{op:BinOp}{t u:TypeId}{x y:Operand}{xs ys:List A}{fs:List Field}{r:Bool}(ho:o.op= .binOp op t x y u)(hop:op= .eql∨op= .neq)(hx:evL T x=some (.agg xs))(hy:evL T y=some (.agg ys))(hf:structT P t=some fs)(hr:eqFs P xs ys fs=some r)(hok:eqOk P t=true):
  OT P o T h (vl (.bool (if op= .eql then r else !r))) [] []:=by
 intro T' h' γ M w a next Q hT hk hrl ht hn
 have hx':evL T' x=some (.agg xs):=by rw[←hx];exact evL_congr fun d hd=>hT d (by rw[ho];simp[Op.operands,hd])
 have hy':evL T' y=some (.agg ys):=by rw[←hy];exact evL_congr fun d hd=>hT d (by rw[ho];simp[Op.operands,hd])
 obtain⟨us,e1,k1⟩:=evL_ok ht hx';obtain⟨vs,e2,k2⟩:=evL_ok ht hy';unfold eqOk at hok;simp only[Bool.and_eq_true,Bool.not_eq_true']at hok;unfold structT at hf;split at hf
 ·rename_i fs' hu;injection hf with hf;subst hf;have hfo:P.fieldsOf t=fs':=by simp[Program.fieldsOf,hu]
  have q1:=run_equalIn_struct (P:=P) w 9999 t us.toArray vs.toArray (by rw[hfo];exact hu) hok.1;rw[hfo,eqFs_run k1 k2 (d:=9998) hr]at q1;unfold Oper.wp;have:(execOp a.eval o).run P w= .ok (.value (.bool (if op= .eql then r else !r))) w:=by
   have g1:=run_eqGuard_agg (P:=P) w op t x y us.toArray vs.toArray hok.2;rcases hop with rfl|rfl
   ·simp[execOp,ho,e1,e2,g1,run_eql_struct,q1]
   ·simp[execOp,ho,e1,e2,g1,run_neq_struct,q1]
  rw[this];exact hn _ γ M w hrl (.lit _) (Stp.refl _ _ _ _)
 ·cases hf
def slNe:V→Bool
 | .a (.d (.sl _ (_::_)))=>true
 | .a (.own _ _ (_::_))=>true
 |_=>false
theorem OT_nz {o:Oper}{op:BinOp}{t u:TypeId}{x y:Operand}{v:V}(ho:o.op= .binOp op t x y u)(hop:op= .eql∨op= .neq)(hx:evL T x=some v)(hv:slNe v=true)(hy:evL T y=some (vl (.slice none 0 0)))(he:(elemT P t).isSome=true):
  OT P o T h (vl (.bool (op== .neq))) [] []:=by
 intro T' h' γ M w a next Q hT hk hrl ht hn
 have hx':evL T' x=some v:=by rw[←hx];exact evL_congr fun d hd=>hT d (by rw[ho];simp[Op.operands,hd])
 have hy':evL T' y=some (vl (.slice none 0 0)):=by rw[←hy];exact evL_congr fun d hd=>hT d (by rw[ho];simp[Op.operands,hd])
 have k1:=evL_ok ht hx';have k2:=lit_inv (evL_ok ht hy');obtain⟨⟨e,s⟩,he⟩:=Option.isSome_iff_exists.1 he;have hu:=(elemT_ok he).1;have key:∃ad n c,a.eval x= .slice (some ad) n c:=by
  have:∀{k:Nat} {r:List D} {rs:List (List D)} {z:Value},RdD M w (.sl k (r::rs)) z→∃ad n c,z= .slice (some ad) n c:=by
   intro k r rs z hz
   cases hz with
   |sl k xs ad cap vs hc hl h0=>obtain⟨b,o,rfl,_⟩:=h0 (by simp);exact⟨_,_,_,rfl⟩
  unfold slNe at hv;split at hv
  ·exact this k1
  ·exact this k1.1
  ·cases hv
 obtain⟨ad,n,c,e1⟩:=key;have hq:=eq_nil_run (P:=P) (w:=w) (a:=some ad) (n:=n) (c:=c) hu;unfold Oper.wp;have:(execOp a.eval o).run P w= .ok (.value (.bool (op== .neq))) w:=by
  rcases hop with rfl|rfl
  ·simp[execOp,ho,e1,k2,eqGuard,binOp,hq]
  ·simp[execOp,ho,e1,k2,eqGuard,binOp,hq]
 rw[this];exact hn _ γ M w hrl (.lit _) (Stp.refl _ _ _ _)
theorem freeze (r:Rel γ h M w){key k nn:Nat}{e:TypeId}{rows:List (List D)}(hk:h key=some (.tab e k rows))(hl:nn≤1099511627776):
  ∃M',Rel γ (over [(key,.gone)] h) M' w∧Stp γ h M w γ (over [(key,.gone)] h) M' w∧∀v,RdV γ h M w (.a (.tab key nn)) v→RdD M' w (.sl k rows) v:=by
 obtain⟨g,vs,sp,k1,k2,k3,k4,k5⟩:=r.ent key _ hk;have hne:∀key' b i,Owns γ (over [(key,.gone)] h) key' b i→key'≠key:=by
  intro key' b i ho e1;subst e1;unfold Owns at ho;rw[over_same]at ho;exact ho
 have hown:∀key' b i,Owns γ (over [(key,.gone)] h) key' b i→Owns γ h key' b i:=fun key' b i ho=>(owns_congr rfl (over_other (hne _ _ _ ho))).1 ho;have hog:∀i,Owns γ h key g i:=fun i=>by unfold Owns;rw[hk];simp[k1,blk]
 have s:Stp γ h M w γ (over [(key,.gone)] h) (fun b i=>M b i∧b≠g) w:=
  ⟨rfl,rfl,rfl,lR_ _,fun b i v q=>⟨fun q2=>q.1 q2.1,q.2⟩,fun _ _ _=>rfl,fun b i q hn=>⟨q,fun e1=>hn key (e1▸hog i)⟩,fun key' b i ho _=>⟨key',hown _ _ _ ho⟩,fun key' e' he=>by
   by_cases e1:key'=key
   ·subst e1;exact⟨.gone,over_same,by cases e'<;>trivial,.inl rfl⟩
   ·exact⟨e',by rw[over_other e1];exact he,Goes.refl _,.inl rfl⟩⟩
 have hlv:∀key',live (over [(key,.gone)] h key')=true→key'≠key∧live (h key')=true:=by
  intro key' hl'
  by_cases e1:key'=key
  ·subst e1;rw[over_same]at hl';cases hl'
  ·exact⟨e1,by rwa [over_other e1]at hl'⟩
 refine⟨fun b i=>M b i∧b≠g,⟨fun key' e' he=> ?_,fun key' b i ho=>⟨r.own _ _ _ (hown _ _ _ ho),fun e1=> ?_⟩,fun key1 key2 b l1 l2=>r.inj _ _ b (hlv _ l1).2 (hlv _ l2).2,fun b i z q=>r.u32 b i z q.1,fun b i q=>r.dom b i q.1,r.glb.fx s.fx⟩,s,fun v hv=> ?_⟩
 ·by_cases e1:key'=key
  ·subst e1;rw[over_same]at he;injection he with he;subst he;trivial
  ·rw[over_other e1]at he;exact EntR.stp s (r.ent key' e' he) rfl fun _ _ _=>rfl
 ·subst e1;obtain⟨l1,l2⟩:=owns_live (hown _ _ _ ho);exact hne _ _ _ ho (r.inj key' key _ l1 (by rw[hk];rfl) l2 (by rw[k1];rfl))
 ·obtain⟨_,⟨g',cp,q1,q2,q22⟩,q3⟩:=hv;rw[k1]at q1;injection q1 with q1;injection q1 with q1;injection q1 with q1;subst q1;have hn:=q3 _ _ _ hk;subst hn q2;have hfl:∀{rows:List (List D)},(∀row∈rows,row.length=k)→rows.flatten.length=rows.length*k:=by
   intro rows
   induction rows with
   |nil=>intro _;simp
   |cons x xs ih=>intro hx;rw[List.flatten_cons,List.length_append,ih (fun r hr=>hx r (by simp[hr])),hx x (by simp),List.length_cons,Nat.add_mul];omega
  refine sl_of (cells:=vs) q22 hl (fun i row hi=>k3 row (mG_ hi)) (by rw[←k4.len,hfl k3]) k5 (fun _=>⟨g,0,rfl,fun q u hq=>⟨fun q2=>q2.2 rfl,by simp[World.cell?,k2,List.getElem?_append_left (List.getElem?_eq_some_iff.1 hq).1,hq]⟩⟩) fun i row j d hi hj=> ?_;obtain⟨pre,post,f1,f2,_⟩:=flat_row k3 hi;have hjl:=(List.getElem?_eq_some_iff.1 hj).1;have:rows.flatten[i*k+j]? =some d:=by
   rw[f1,←f2,List.getElem?_append_right (by omega),show pre.length+j-pre.length=j by omega,List.getElem?_append_left hjl];exact hj
  obtain⟨u,u1,u2⟩:=All2.get k4 this;exact⟨u,u1,RdD.fx s.fx u2⟩
theorem Wk.freeze {m:Nat}{s:St}(d key nn:Nat){k:Nat}{e:TypeId}{rows:List (List D)}(hT:look s.T d=some (.a (.tab key nn)))(hk:look s.H key=some (.tab e k rows))(hl:nn≤1099511627776):
  Wk m s ⟨(d,.a (.d (.sl k rows)))::s.T,(key,.gone)::s.H,s.n⟩:=by
 intro N γ0 h0 M0 w0 a w hm hd hS;obtain⟨γ,M,k1,k2,k3,k4,k5⟩:=hS;obtain⟨M',q1,q2,q3⟩:=Lf.freeze k1 hk hl;have e1:look ((key,Ent.gone)::s.H)=over [(key,.gone)] (look s.H):=look_app [(key,Ent.gone)] s.H;refine⟨γ,M',by rw[e1];exact q1,⟨k2.1.fx q2.fx,fun d' v' hv'=> ?_⟩,k3,k4,by rw[e1];exact k5.trans q2 hd⟩;simp only[look]at hv';split at hv'
 ·rename_i hdd;subst hdd;injection hv' with hv';subst hv';obtain⟨x,y1,y2⟩:=k2.2 _ _ hT;exact⟨x,y1,q3 x y2⟩
 ·obtain⟨x,y1,y2⟩:=k2.2 d' v' hv';exact⟨x,y1,by rw[e1];exact RdV.stp q2 y2⟩
end
open Go.Maps
def MX (P:Program)(k e:TypeId)(n:Nat)(D:DataW Unit)(o:Obj):Prop:=∃w:World,w.heap[0]? =some o∧w.ownsMap P k (plainElem P e) 0 n D
section
variable {γ γ':Gh} {h h':Hp} {M M':MS} {w w':World} {T T':Nat→Option V} {a:Act} {P:Program}
theorem MX.owns {k e:TypeId}{n b:Nat}{D:DataW Unit}{o:Obj}(hm:MX P k e n D o)(hb:w.heap[b]? =some o):w.ownsMap P k (plainElem P e) b n D:=by
 obtain⟨w0,h0,es,clock,h1,h2⟩:=hm;rw[h0]at h1;injection h1 with h1;subst h1;exact⟨es,clock,hb,h2⟩
theorem MX.of {k e:TypeId}{n b:Nat}{D:DataW Unit}{o:Obj}(hb:w.heap[b]? =some o)(hm:w.ownsMap P k (plainElem P e) b n D):MX P k e n D o∧∃es clock,o= .map es clock:=by
 obtain⟨es,clock,h1,h2⟩:=hm;rw[hb]at h1;injection h1 with h1;subst h1;exact⟨⟨{w with heap:= #[.map es clock]},rfl,es,clock,rfl,h2⟩,es,clock,rfl⟩
theorem OT_mkmap {o:Oper}{t k e:TypeId}{n:Nat}(ho:o.op= .makeMap t none)(hn0:h n=none):OT P o T h (.a (.mp n)) [(n,.mp (MX P k e 0 (.map [])))] [n]:=by
 intro T' h' γ M w a next Q hT hk hr ht hn
 have hfree:h' n=none:=(hk n (by simp)).trans hn0;have hold:∀b,b<w.heap.size→(w.alloc (.map #[] 0)).heap[b]? =w.heap[b]?:=fun b hb=>Below.heap_alloc _ _ _ hb;have hnew:(w.alloc (.map #[] 0)).heap[w.heap.size]? =some (.map #[] 0):=(MapKept.heap_alloc w _).1;obtain⟨S,hS⟩:∃S,S=over [(n,Ent.mp (MX P k e 0 (.map [])))] h':=⟨_,rfl⟩;have hSn:S n=some (.mp (MX P k e 0 (.map []))):=by rw[hS,over_same]
 have hSo:∀key,key≠n→S key=h' key:=fun key e1=>by rw[hS,over_other e1]
 have s:Stp γ h' M w (upd γ n (.map (some w.heap.size))) S (fun b i=>M b i∨b=w.heap.size) (w.alloc (.map #[] 0)):=by
  refine⟨rfl,rfl,rfl,by simp,fun b i u k=> ?_,fun b hb _=>hold b hb,fun b i k _=> .inl k,fun key b i ho hb=> ?_,fun key e' he=> ?_⟩
  ·have hlt:b<w.heap.size:=World.block_lt_of_cell? _ _ k.2;exact⟨fun k2=>k2.elim k.1 fun k3=>by omega,by rw[←k.2];exact World.cell?_of_block (a:=⟨b,i,none⟩) (hold b hlt)⟩
  ·by_cases e1:key=n
   ·subst e1;obtain⟨_,h5⟩:=owns_live ho;rw[upd_same]at h5;simp[blk]at h5;omega
   ·exact⟨key,(owns_congr (upd_other e1) (hSo _ e1)).1 ho⟩
  ·have e1:key≠n:=by intro e1;subst e1;rw[hfree]at he;cases he
   exact⟨e',by rw[hSo _ e1];exact he,Goes.refl _,.inl (upd_other e1)⟩
 have hM:=World.ownsMap_made (H:=Unit) w P k (plainElem P e);have r:Rel (upd γ n (.map (some w.heap.size))) S (fun b i=>M b i∨b=w.heap.size) (w.alloc (.map #[] 0)):=by
  refine⟨fun key e' h4=> ?_,fun key b i h4=> ?_,fun key key' b h4 h5 h6 h7=> ?_,fun b i z h4=> ?_,fun b i h4=> ?_,hr.glb.fx s.fx⟩
  ·by_cases e1:key=n
   ·subst e1;rw[hSn]at h4;injection h4 with h4;subst h4;exact⟨w.heap.size,_,upd_same,hnew,(MX.of hnew hM).1,_,_,rfl⟩
   ·rw[hSo _ e1]at h4;exact EntR.stp s (hr.ent key e' h4) (upd_other e1) fun hl b h5=>hold b (blk_lt hr h4 hl h5)
  ·by_cases e1:key=n
   ·subst e1;obtain⟨_,h5⟩:=owns_live h4;rw[upd_same]at h5;simp[blk]at h5;exact .inr h5.symm
   ·exact .inl (hr.own key b i ((owns_congr (upd_other e1) (hSo _ e1)).1 h4))
  ·have hlt:∀key,key≠n→live (S key)=true→blk (upd γ n (.map (some w.heap.size)) key)=some b→b<w.heap.size:=by
    intro key e1 l1 l2;rw[hSo _ e1]at l1;rw[upd_other e1]at l2
    cases h8:h' key with
    |none=>rw[h8]at l1;cases l1
    |some e3=>exact blk_lt hr h8 (by rw[←h8];exact l1) l2
   have hnn:∀key,key=n→blk (upd γ n (.map (some w.heap.size)) key)=some b→b=w.heap.size:=by
    intro key e1 l2;subst e1;rw[upd_same]at l2;simp[blk]at l2;exact l2.symm
   by_cases e1:key=n<;>by_cases e2:key'=n
   ·rw[e1,e2]
   ·have:=hlt _ e2 h5 h7;have:=hnn _ e1 h6;omega
   ·have:=hlt _ e1 h4 h6;have:=hnn _ e2 h7;omega
   ·rw[hSo _ e1]at h4;rw[hSo _ e2]at h5;rw[upd_other e1]at h6;rw[upd_other e2]at h7;exact hr.inj key key' b h4 h5 h6 h7
  ·rcases h4 with h4|rfl
   ·rw[World.cell?_of_block (w:=w) (a:=⟨b,i,none⟩) (hold b (hr.dom b i h4))];exact hr.u32 b i z h4
   ·intro h5;simp only[World.cell?]at h5;rw[hnew]at h5;cases h5
  ·rcases h4 with h4|rfl
   ·have:=hr.dom b i h4;simp;omega
   ·simp
 unfold Oper.wp;have:(execOp a.eval o).run P w= .ok (.value (.map (some w.heap.size))) (w.alloc (.map #[] 0)):=by
  simp[execOp,ho,run_makeMap]
 rw[this];subst hS;exact hn _ _ _ _ r ⟨by rw[over_same];rfl,_,upd_same,rfl⟩ s
structure LkOk (P:Program)(t:TypeId)(φ:Obj→Prop)(v:Value)(k e:TypeId)(n:Nat)(D:DataW Unit)(kl zl l:Lit):Prop where
 ht:P.underlying t=some (.map k e)
 hK:Keyed P k
 hφ:φ=MX P k e n D
 hk:keyOf P k v=some kl
 hz:(P.info? e).bind (·.zero)=some zl.value
 hzd:plainElem (H:=Unit) P e zl.value=some (.lit zl,[])
 hat:D.atKey kl (.lit zl)= .lit l
 hl:∀v ps,plainElem (H:=Unit) P e v=some (.lit l,ps)→v=l.value
structure MuOk (P:Program)(t:TypeId)(φ:Obj→Prop)(v x:Value)(k e:TypeId)(n:Nat)(D:DataW Unit)(kl l:Lit):Prop where
 ht:P.underlying t=some (.map k e)
 hK:Keyed P k
 hφ:φ=MX P k e n D
 hk:keyOf P k v=some kl
 hx:plainElem (H:=Unit) P e x=some (.lit l,[])
 hn:n<maxLen
theorem OT_look {o:Oper}{t k e:TypeId}{m x:Operand}{key n:Nat}{φ:Obj→Prop}{v:Value}{D:DataW Unit}{kl zl l:Lit}(ho:o.op= .lookup t m x false)(hm:evL T m=some (.a (.mp key)))(hx:evL T x=some (vl v))(hh:h key=some (.mp φ))(hok:LkOk P t φ v k e n D kl zl l):
  OT P o T h (vl l.value) [] [key]:=by
 intro T' h' γ M w a next Q hT hk hr ht hn
 have hm':evL T' m=some (.a (.mp key)):=by rw[←hm];exact evL_congr fun d hd=>hT d (by rw[ho];simp[Op.operands,hd])
 have hx':evL T' x=some (vl v):=by rw[←hx];exact evL_congr fun d hd=>hT d (by rw[ho];simp[Op.operands,hd])
 obtain⟨_,b,k1,k2⟩:=evL_ok ht hm';have k3:=lit_inv (evL_ok ht hx');obtain⟨b',ob,q1,q2,q3,q4⟩:=hr.ent key _ ((hk key (by simp)).trans hh);rw[k1]at q1;injection q1 with q1;injection q1 with q1;subst q1;rw[hok.hφ]at q3;have hz:(zeroValue e).run P w= .ok zl.value w:=by
  obtain⟨i,h1,h2⟩:=Option.bind_eq_some_iff.1 hok.hz;simp[zeroValue,typeInfo,h1,h2]
 obtain⟨r,ps,hrun,hv⟩:=(q3.owns q2).lookup hok.hK hok.ht hz hok.hzd hok.hk;rw[hok.hat]at hv;have:=hok.hl r ps hv;subst this;unfold Oper.wp;have:(execOp a.eval o).run P w= .ok (.value l.value) w:=by simp[execOp,ho,k2,k3,hrun]
 rw[this];exact hn _ γ M w hr (.lit _) (Stp.refl _ _ _ _)
theorem OT_mu {o:Oper}{t k e:TypeId}{m x y:Operand}{key n:Nat}{φ:Obj→Prop}{v u:Value}{D:DataW Unit}{kl l:Lit}(ho:o.op= .mapUpdate t m x y)(hm:evL T m=some (.a (.mp key)))(hx:evL T x=some (vl v))(hy:evL T y=some (vl u))(hh:h key=some (.mp φ))(hok:MuOk P t φ v u k e n D kl l):
  OT P o T h (vl undef) [(key,.mp (MX P k e (n+1) (D.put kl (.lit l))))] [key]:=by
 intro T' h' γ M w a next Q hT hk hr ht hn
 have hm':evL T' m=some (.a (.mp key)):=by rw[←hm];exact evL_congr fun d hd=>hT d (by rw[ho];simp[Op.operands,hd])
 have hx':evL T' x=some (vl v):=by rw[←hx];exact evL_congr fun d hd=>hT d (by rw[ho];simp[Op.operands,hd])
 have hy':evL T' y=some (vl u):=by rw[←hy];exact evL_congr fun d hd=>hT d (by rw[ho];simp[Op.operands,hd])
 obtain⟨_,b,k1,k2⟩:=evL_ok ht hm';have k3:=lit_inv (evL_ok ht hx');have k4:=lit_inv (evL_ok ht hy');have hkey:=(hk key (by simp)).trans hh;obtain⟨b',ob,q1,q2,q3,es,clock,rfl⟩:=hr.ent key _ hkey;rw[k1]at q1;injection q1 with q1;injection q1 with q1;subst q1;rw[hok.hφ]at q3;obtain⟨w',hrun,hown,hg⟩:=(q3.owns q2).update hok.hK hok.ht hok.hn hok.hk hok.hx;have hMb:∀i,M b i:=fun i=>hr.own key b i (by unfold Owns;rw[hkey];simp[k1,blk]);have hlt:b<w.heap.size:=(Array.getElem?_eq_some_iff.1 q2).1;obtain⟨ob',hb'⟩:∃ob',w'.heap[b]? =some ob':=by obtain⟨es,cl,h1,_⟩:=hown;exact⟨_,h1⟩
 obtain⟨p1,p2⟩:=MX.of hb' hown;obtain⟨S,hS⟩:∃S,S=over [(key,Ent.mp (MX P k e (n+1) (D.put kl (.lit l))))] h':=⟨_,rfl⟩;have hSn:S key=some (.mp (MX P k e (n+1) (D.put kl (.lit l)))):=by rw[hS,over_same]
 have hSo:∀key',key'≠key→S key'=h' key':=fun key' e1=>by rw[hS,over_other e1]
 have hot:∀b',b'<w.heap.size→b'≠b→w'.heap[b']? =w.heap[b']?:=fun b' hb hne=>hg.block b' hb (by simpa using hne);have hown':∀key' b' i,Owns γ S key' b' i↔Owns γ h' key' b' i:=by
  intro key' b' i
  by_cases e1:key'=key
  ·subst e1;unfold Owns;rw[hSn,hkey]
  ·exact owns_congr rfl (hSo _ e1)
 have s:Stp γ h' M w γ S M w':=by
  refine⟨hg.os,hg.tape,hg.output,hg.size,fun b' i u q=> ?_,fun b' hb hno=> ?_,fun b' i q _=>q,fun key' b' i q _=>⟨key',(hown' _ _ _).1 q⟩,fun key' e1 he=> ?_⟩
  ·have hne:b'≠b:=fun e=>q.1 (e▸hMb i);exact⟨q.1,by rw[←q.2];exact World.cell?_of_block (a:=⟨b',i,none⟩) (hot b' (World.block_lt_of_cell? _ _ q.2) hne)⟩
  ·refine hot b' hb fun e=>hno key 0 ?_;subst e;unfold Owns;rw[hkey];simp[k1,blk]
  ·by_cases e2:key'=key
   ·subst e2;rw[hkey]at he;injection he with he;subst he;exact⟨_,hSn,trivial,.inl rfl⟩
   ·exact⟨e1,by rw[hSo _ e2];exact he,Goes.refl _,.inl rfl⟩
 have hlv:∀k0,live (S k0)=true→live (h' k0)=true:=by
  intro k0 hl
  by_cases e1:k0=key
  ·subst e1;rw[hkey];rfl
  ·rwa [hSo _ e1]at hl
 have r:Rel γ S M w':=by
  refine⟨fun key' e1 he=> ?_,fun key' b' i q=>hr.own key' b' i ((hown' _ _ _).1 q),fun key1 key2 b' l1 l2=>hr.inj key1 key2 b' (hlv _ l1) (hlv _ l2),fun b' i z hmm=> ?_,fun b' i hmm=>Nat.lt_of_lt_of_le (hr.dom b' i hmm) hg.size,hr.glb.fx s.fx⟩
  ·by_cases e2:key'=key
   ·subst e2;rw[hSn]at he;injection he with he;subst he;exact⟨b,ob',k1,hb',p1,p2⟩
   ·rw[hSo _ e2]at he;refine EntR.stp s (hr.ent key' e1 he) rfl fun hl b' hb=>hot b' (blk_lt hr he hl hb) fun e3=>e2 ?_;exact hr.inj key' key b' (by rw[he];exact hl) (by rw[hkey];rfl) hb (by rw[k1,e3];rfl)
  ·by_cases e1:b'=b
   ·subst e1;obtain⟨es',cl',rfl⟩:=p2;simp[World.cell?,hb']
   ·rw[World.cell?_of_block (w:=w) (a:=⟨b',i,none⟩) (hot b' (hr.dom b' i hmm) e1)];exact hr.u32 b' i z hmm
 unfold Oper.wp;have:(execOp a.eval o).run P w= .ok .skip w':=by simp[execOp,ho,k2,k3,k4,hrun]
 rw[this];subst hS;exact hn undef γ M _ r (.lit _) s
end
def lendK (kk:List Nat):Ent→Option Ent
 | .box t cs=>if(cs.flatMap keysA).all (fun k=>kk.contains k)then some (.box t (cs.map (renA fun k=>kk.idxOf k)))else none
 |e=>some e
def lendKF (kk:List Nat)(h:Hp):Nat→List Nat→Option (List (Nat×Ent))
 |_,[]=>some []
 |i,k::ks=>match (h k).bind (lendK kk),lendKF kk h (i+1) ks with
  |some e,some r=>some ((i,e)::r)
  |_,_=>none
def renE (f:Nat→Nat):Ent→Ent
 | .box t cs=> .box t (cs.map (renA f))
 |e=>e
section
variable {γ γ':Gh} {h h':Hp} {M M':MS} {w w':World} {T T':Nat→Option V} {a:Act} {P:Program}
theorem lendKF_ok {kk:List Nat}{h:Hp}:∀{ks:List Nat} {i:Nat} {Hs:List (Nat×Ent)},lendKF kk h i ks=some Hs→
  (∀j,j<ks.length→∃e e',h (ks.getD j 0)=some e∧lendK kk e=some e'∧look Hs (i+j)=some e')∧∀j e,look Hs j=some e→i≤j∧j<i+ks.length
 |[],i,Hs,hl=>by simp[lendKF]at hl;subst hl;exact⟨fun j hj=>by simp at hj,fun j e he=>by cases he⟩
 |k::ks,i,Hs,hl=>by
  simp only[lendKF]at hl;split at hl
  ·rename_i e' r h1 h2;injection hl with hl;subst hl;obtain⟨e,he,hle⟩:=Option.bind_eq_some_iff.1 h1;obtain⟨q1,q2⟩:=lendKF_ok h2;refine⟨fun j hj=> ?_,fun j e2 he2=> ?_⟩
   ·cases j with
    |zero=>exact⟨e,e',by simpa using he,hle,by simp[look]⟩
    |succ j=>
     obtain⟨x,x',y1,y2,y3⟩:=q1 j (by simpa using hj);refine⟨x,x',by simpa using y1,y2,?_⟩;simp only[look];rw[if_neg (by omega),show i+(j+1)=i+1+j from by omega];exact y3
   ·simp only[look]at he2;split at he2
    ·simp;omega
    ·have:=q2 j e2 he2;simp;omega
  ·cases hl
theorem owns_lendK {ks:List Nat}{Hs:List (Nat×Ent)}(hl:lendKF ks h 0 ks=some Hs){i b c:Nat}:Owns (fun i=>γ (ks.getD i 0)) (look Hs) i b c→Owns γ h (ks.getD i 0) b c:=by
 intro ho;obtain⟨q1,q2⟩:=lendKF_ok hl;unfold Owns at ho
 cases he:look Hs i with
 |none=>rw[he]at ho;exact ho.elim
 |some e'=>
  have hi:=(q2 i e' he).2;obtain⟨e,e2,y1,y2,y3⟩:=q1 i (by omega);rw[Nat.zero_add,he]at y3;injection y3 with y3;subst y3;rw[he]at ho;unfold Owns;rw[y1]
  cases e<;>simp only[lendK]at y2
  ·injection y2 with y2;subst y2;exact ho.elim
  ·split at y2
   ·injection y2 with y2;subst y2;exact ho
   ·cases y2
  ·injection y2 with y2;subst y2;exact ho
  ·injection y2 with y2;subst y2;exact ho
  ·injection y2 with y2;subst y2;exact ho
theorem same_lendK {ks:List Nat}{Hs:List (Nat×Ent)}(hl:lendKF ks h 0 ks=some Hs){key:Nat}(hmem:key∈ks):SameKey (fun k=>ks.idxOf k) γ h (fun i=>γ (ks.getD i 0)) (look Hs) key:=by
 obtain⟨q1,q2⟩:=lendKF_ok hl;have hi:ks.idxOf key<ks.length:=List.idxOf_lt_length_of_mem hmem;have hg:ks.getD (ks.idxOf key) 0=key:=by rw[getD_lt hi];exact List.getElem_idxOf hi
 obtain⟨e,e',z1,z2,z3⟩:=q1 _ hi;rw[Nat.zero_add]at z3;rw[hg]at z1;refine⟨by simp only[hg],fun hp=> ?_,fun hp=> ?_,fun _=>by rw[z3];rfl,fun e0 k n he=> ?_,fun e0 k n he=> ?_⟩
 ·rw[z1]at hp;rw[z3]
  cases e<;>simp only[lendK]at z2
  ·injection z2 with z2;subst z2;rfl
  ·split at z2
   ·injection z2 with z2;subst z2;rfl
   ·cases z2
  ·cases hp
  ·injection z2 with z2;subst z2;rfl
  ·cases hp
 ·rw[z1]at hp;rw[z3]
  cases e<;>simp only[lendK]at z2
  ·injection z2 with z2;subst z2;rfl
  ·cases hp
  ·cases hp
  ·cases hp
  ·injection z2 with z2;subst z2;rfl
 ·rw[z3]at he;injection he with he;subst he;rw[z1]
  cases e<;>simp only[lendK]at z2
  ·injection z2 with z2;cases z2
  ·split at z2
   ·injection z2 with z2;cases z2
   ·cases z2
  ·injection z2 with z2;rw[z2]
  ·injection z2 with z2;cases z2
  ·injection z2 with z2;cases z2
 ·rw[z3]at he;injection he with he;subst he;rw[z1]
  cases e<;>simp only[lendK]at z2
  ·injection z2 with z2;cases z2
  ·split at z2
   ·injection z2 with z2;cases z2
   ·cases z2
  ·injection z2 with z2;cases z2
  ·injection z2 with z2;exact⟨_,by rw[z2],rfl⟩
  ·injection z2 with z2;cases z2
theorem rel_lendK (r:Rel γ h M w){ks:List Nat}{Hs:List (Nat×Ent)}(hn:ks.Nodup)(hl:lendKF ks h 0 ks=some Hs):Rel (fun i=>γ (ks.getD i 0)) (look Hs) M w:=by
 obtain⟨q1,q2⟩:=lendKF_ok hl;have hlive:∀i,live (look Hs i)=true→i<ks.length∧live (h (ks.getD i 0))=true:=by
  intro i hi
  cases he:look Hs i with
  |none=>rw[he]at hi;cases hi
  |some e'=>
   have hi':=(q2 i e' he).2;obtain⟨e,e2,y1,y2,y3⟩:=q1 i (by omega);rw[Nat.zero_add,he]at y3;injection y3 with y3;subst y3;rw[he]at hi;refine⟨by omega,?_⟩;rw[y1]
   cases e<;>simp only[lendK]at y2
   ·injection y2 with y2;subst y2;exact hi
   ·rfl
   ·rfl
   ·rfl
   ·rfl
 refine⟨fun i e' he=> ?_,fun i b c ho=>r.own _ b c (owns_lendK hl ho),fun i j b l1 l2 b1 b2=> ?_,r.u32,r.dom,r.glb⟩
 ·have hi:=(q2 i e' he).2;obtain⟨e,e2,y1,y2,y3⟩:=q1 i (by omega);rw[Nat.zero_add,he]at y3;injection y3 with y3;subst y3;have hr:=r.ent _ e y1
  cases e<;>simp only[lendK]at y2
  ·injection y2 with y2;subst y2;trivial
  ·rename_i t cs;split at y2
   ·rename_i hk;injection y2 with y2;subst y2;obtain⟨g,vs,k1,k2,k3⟩:=hr;refine⟨g,vs,k1,k2,?_⟩;have k5:All2 (RdA (fun i=>γ (ks.getD i 0)) (look Hs) M w) (cs.map (renA fun k=>ks.idxOf k)) vs:=by
     refine All2.renA k3 fun key hkk=> ?_;exact same_lendK hl (by simpa using List.all_eq_true.1 hk key hkk)
    exact k5
   ·cases y2
  ·injection y2 with y2;subst y2;exact hr
  ·injection y2 with y2;subst y2;exact hr
  ·injection y2 with y2;subst y2;exact hr
 ·obtain⟨i1,l1'⟩:=hlive i l1;obtain⟨j1,l2'⟩:=hlive j l2;have:=r.inj _ _ b l1' l2' b1 b2;rw[getD_lt i1,getD_lt j1]at this;exact nodup_inj hn i1 j1 this
theorem look_mapE {f:Nat→Nat}{g:Ent→Ent}(hf:∀i j,f i=f j→i=j):∀(H:List (Nat×Ent)) (i:Nat),look (H.map fun p=>(f p.1,g p.2)) (f i)=(look H i).map g
 |[],_=>rfl
 |(j,e)::r,i=>by
  simp only[List.map_cons,look]
  by_cases hj:j=i
  ·subst hj;simp
  ·rw[if_neg hj,if_neg fun h=>hj (hf _ _ h),look_mapE hf r i]
theorem live_renE {f:Nat→Nat}{e:Ent}:live (some (renE f e))=live (some e):=by cases e<;>rfl
theorem back_callK (r:Rel γ h M w){ks:List Nat}{base:Nat}{Hs H1:List (Nat×Ent)}(hn:ks.Nodup)(hb:∀k∈ks,k<base)(hl:lendKF ks h 0 ks=some Hs)(hfresh:∀p∈H1,ks.length≤p.1→h (back ks base p.1)=none)
  {γ1:Gh} {M1:MS} {w1:World} (r1:Rel γ1 (look H1) M1 w1) (s1:Stp (fun i=>γ (ks.getD i 0)) (look Hs) M w γ1 (look H1) M1 w1):
  ∃γ',Rel γ' (over (H1.map fun p=>(back ks base p.1,renE (back ks base) p.2)) h) M1 w1∧Stp γ h M w γ' (over (H1.map fun p=>(back ks base p.1,renE (back ks base) p.2)) h) M1 w1∧
   ∀v r,RdV γ1 (look H1) M1 w1 v r→RdV γ' (over (H1.map fun p=>(back ks base p.1,renE (back ks base) p.2)) h) M1 w1 (renV (back ks base) v) r:=by
 have hinj:=back_inj hn hb;obtain⟨q1,q2⟩:=lendKF_ok hl;obtain⟨S,hS⟩:∃S,S=over (H1.map fun p=>(back ks base p.1,renE (back ks base) p.2)) h:=⟨_,rfl⟩;have hSb:∀i e,look H1 i=some e→S (back ks base i)=some (renE (back ks base) e):=by
  intro i e he;rw[hS];unfold over;rw[look_mapE hinj,he];rfl
 have hSo:∀key,(∀i,(look H1 i).isSome=true→back ks base i≠key)→S key=h key:=by
  intro key hk;rw[hS];unfold over
  cases hq:look (H1.map fun p=>(back ks base p.1,renE (back ks base) p.2)) key with
  |none=>rfl
  |some e=>
   exfalso;obtain⟨p,hp,he⟩:=List.mem_map.1 (look_mem hq);injection he with he1 he2;rw[←he1,look_mapE hinj]at hq;refine hk p.1 ?_ he1
   cases hz:look H1 p.1 with
   |none=>rw[hz]at hq;cases hq
   |some e2=>rfl
 classical
 obtain⟨γ',hγ⟩:∃γ':Gh,(∀i,(look H1 i).isSome=true→γ' (back ks base i)=γ1 i)∧∀key,(∀i,(look H1 i).isSome=true→back ks base i≠key)→γ' key=γ key:=by
  refine⟨fun key=>if hq:∃i,(look H1 i).isSome=true∧back ks base i=key then γ1 hq.choose else γ key,fun i hi=> ?_,fun key hk=> ?_⟩
  ·have hq:∃j,(look H1 j).isSome=true∧back ks base j=back ks base i:=⟨i,hi,rfl⟩;simp only[dif_pos hq];rw[hinj _ _ hq.choose_spec.2]
  ·have hq:¬ ∃i,(look H1 i).isSome=true∧back ks base i=key:=fun⟨i,hi,he⟩=>hk i hi he;simp only[dif_neg hq]
 obtain⟨hγb,hγo⟩:=hγ;have hbk:∀i,i<ks.length→back ks base i=ks.getD i 0:=fun i hi=>if_pos hi
 -- a key of the caller's is the callee's,or is not
 have hcase:∀key,(∃i e,look H1 i=some e∧back ks base i=key)∨∀i,(look H1 i).isSome=true→back ks base i≠key:=by
  intro key
  by_cases hq:∃i,(look H1 i).isSome=true∧back ks base i=key
  ·obtain⟨i,hi,he⟩:=hq;obtain⟨e,hee⟩:=Option.isSome_iff_exists.1 hi;exact .inl ⟨i,e,hee,he⟩
  ·exact .inr fun i hi he=>hq ⟨i,hi,he⟩
 have hown1:∀i e b c,look H1 i=some e→(Owns γ' S (back ks base i) b c↔Owns γ1 (look H1) i b c):=by
  intro i e b c he;unfold Owns;rw[hSb i e he,he,hγb i (by rw[he];rfl)]
  cases e<;>rfl
 have hown2:∀key b c,(∀i,(look H1 i).isSome=true→back ks base i≠key)→(Owns γ' S key b c↔Owns γ h key b c):=fun key b c hk=>owns_congr (hγo key hk) (hSo key hk);have hold:∀i,i<ks.length→∃e,look H1 i=some e:=by
  intro i hi;obtain⟨e,e',y1,y2,y3⟩:=q1 i hi;rw[Nat.zero_add]at y3;obtain⟨e2,z1,_⟩:=s1.key i e' y3;exact⟨e2,z1⟩
 -- what a key that is not lent owns,no lent key owns
 have hother:∀key b,live (h key)=true→blk (γ key)=some b→(∀i,(look H1 i).isSome=true→back ks base i≠key)→∀i c,¬Owns (fun i=>γ (ks.getD i 0)) (look Hs) i b c:=by
  intro key b hlv hbb hk i c ho;have ho':=owns_lendK hl ho;obtain⟨l1,l2⟩:=owns_live ho';have e1:=r.inj _ _ b l1 hlv l2 hbb;have hi:i<ks.length:=by
   have:=(owns_live ho).1
   cases he:look Hs i with
   |none=>rw[he]at this;cases this
   |some e=>have:=(q2 i e he).2;omega
  obtain⟨e,he⟩:=hold i hi;exact hk i (by rw[he];rfl) (by rw[hbk i hi,e1])
 have hstp:Stp γ h M w γ' S M1 w1:=by
  refine⟨s1.os,s1.tape,s1.output,s1.size,s1.fx,fun b hb hno=>s1.other b hb fun i c ho=>hno _ c (owns_lendK hl ho),fun b c hm hno=>s1.keep b c hm fun i ho=>hno _ (owns_lendK hl ho),fun key b c ho hb=> ?_,fun key e he=> ?_⟩
  ·rcases hcase key with⟨i,e,he,rfl⟩|hk
   ·obtain⟨j,hj⟩:=s1.new i b c ((hown1 i e b c he).1 ho) hb;exact⟨_,owns_lendK hl hj⟩
   ·exact⟨key,(hown2 key b c hk).1 ho⟩
  ·rcases hcase key with⟨i,e1,he1,hbi⟩|hk
   ·by_cases hi:i<ks.length
    ·obtain⟨e0,e',y1,y2,y3⟩:=q1 i hi;rw[Nat.zero_add]at y3;have hkey:key=ks.getD i 0:=by rw[←hbi,hbk i hi]
     rw[hkey,y1]at he;injection he with he;subst he;obtain⟨e2,z1,z2,z3⟩:=s1.key i e' y3;rw[he1]at z1;injection z1 with z1;subst z1;refine⟨renE (back ks base) e1,by rw[←hbi];exact hSb i e1 he1,?_,?_⟩
     ·cases e0<;>simp only[lendK]at y2
      ·injection y2 with y2;subst y2;cases e1<;>exact z2
      ·split at y2
       ·injection y2 with y2;subst y2;cases e1<;>exact z2
       ·cases y2
      ·injection y2 with y2;subst y2;cases e1<;>exact z2
      ·injection y2 with y2;subst y2;cases e1<;>exact z2
      ·injection y2 with y2;subst y2;cases e1<;>exact z2
     ·rw[←hbi,hγb i (by rw[he1];rfl),hbk i hi];rcases z3 with z3|z3
      ·exact .inl z3
      ·right
       cases e0<;>simp only[lendK]at y2
       ·injection y2 with y2;subst y2;cases e1<;>exact z3
       ·split at y2
        ·injection y2 with y2;subst y2;cases e1<;>exact z3
        ·cases y2
       ·injection y2 with y2;subst y2;cases e1<;>exact z3
       ·injection y2 with y2;subst y2;cases e1<;>exact z3
       ·injection y2 with y2;subst y2;cases e1<;>exact z3
    ·have:=hfresh (i,e1) (look_mem he1) (by simpa using hi);simp only at this;rw[hbi,he]at this;cases this
   ·exact⟨e,by rw[hSo key hk];exact he,Goes.refl _,.inl (hγo key hk)⟩
 have hsame:∀i,(look H1 i).isSome=true→SameKey (back ks base) γ1 (look H1) γ' S i:=by
  intro i hi;obtain⟨e,he⟩:=Option.isSome_iff_exists.1 hi;refine⟨hγb i hi,fun hp=>by rw[hSb i e he];rw[he]at hp;cases e<;>exact hp,fun hp=>by rw[hSb i e he];rw[he]at hp;cases e<;>exact hp,fun _=>by rw[hSb i e he];rfl,fun e1 k n hq=>by rw[hSb i e he]at hq;rw[he];cases e<;>(first|exact hq|cases hq),fun e1 k n hq=>by rw[hSb i e he]at hq;refine⟨n,?_,rfl⟩;rw[he];cases e<;>(first|exact hq|cases hq)⟩
 rw[←hS];refine⟨γ',⟨fun key e he=> ?_,fun key b c ho=> ?_,fun key1 key2 b l1 l2 b1 b2=> ?_,r1.u32,r1.dom,r1.glb⟩,hstp,fun v x hv=>hv.ren fun key hk=>hsame key (RdV.there hv key hk)⟩
 ·rcases hcase key with⟨i,e1,he1,rfl⟩|hk
  ·rw[hSb i e1 he1]at he;injection he with he;subst he;have he2:=r1.ent i e1 he1
   cases e1 with
   |gone=>trivial
   |tab e k rows=>
    obtain⟨g,vs,sp,k1,k2⟩:=he2;exact⟨g,vs,sp,by rw[hγb i (by rw[he1];rfl),k1],k2⟩
   |mp φ=>
    obtain⟨g,o,k1,k2⟩:=he2;exact⟨g,o,by rw[hγb i (by rw[he1];rfl),k1],k2⟩
   |arr e k n=>
    obtain⟨xs,hx⟩:=he2;exact⟨xs,by rw[hγb i (by rw[he1];rfl)];exact hx⟩
   |box t cs=>
    obtain⟨g,vs,k1,k2,k3⟩:=he2;refine⟨g,vs,by rw[hγb i (by rw[he1];rfl),k1],k2,?_⟩;exact All2.renA k3 fun key hkk=>hsame key (there_list (R:=RdA γ1 (look H1) M1 w1) (ks:=keysA) (fun _ _=>RdA.there) k3 key hkk)
  ·rw[hSo key hk]at he;refine EntR.stp hstp (r.ent key e he) (hγo key hk) fun hlv b hbb=>s1.other b (blk_lt r he hlv hbb) fun i c=>hother key b (by rw[he];exact hlv) hbb hk i c
 ·rcases hcase key with⟨i,e1,he1,rfl⟩|hk
  ·exact r1.own i b c ((hown1 i e1 b c he1).1 ho)
  ·have ho':=(hown2 key b c hk).1 ho;obtain⟨l1,l2⟩:=owns_live ho';exact s1.keep b c (r.own key b c ho') fun i ho2=>hother key b l1 l2 hk i c ho2
 ·have hmix:∀i e key,look H1 i=some e→live (some e)=true→blk (γ1 i)=some b→(∀i,(look H1 i).isSome=true→back ks base i≠key)→live (h key)=true→blk (γ key)=some b→False:=by
   intro i e key he hle hbb hk hlk hbk2
   cases hh:h key with
   |none=>rw[hh]at hlk;cases hlk
   |some e0=>
    have hlt:=blk_lt r hh (by rw[←hh];exact hlk) hbk2;have ho:∃c,Owns γ1 (look H1) i b c:=by
     unfold Owns;rw[he]
     cases e with
     |gone=>cases hle
     |box=>exact⟨0,hbb⟩
     |tab=>exact⟨0,hbb⟩
     |mp=>exact⟨0,hbb⟩
     |arr e k n=>exact⟨n*k,hbb,lR_ _⟩
    obtain⟨c,ho⟩:=ho;obtain⟨j,hj⟩:=s1.new i b c ho hlt;exact hother key b hlk hbk2 hk j c hj
  rcases hcase key1 with⟨i,e1,he1,rfl⟩|hk1<;>rcases hcase key2 with⟨j,e2,he2,rfl⟩|hk2
  ·rw[hSb i e1 he1,live_renE]at l1;rw[hSb j e2 he2,live_renE]at l2;rw[hγb i (by rw[he1];rfl)]at b1;rw[hγb j (by rw[he2];rfl)]at b2;rw[r1.inj i j b (by rw[he1];exact l1) (by rw[he2];exact l2) b1 b2]
  ·rw[hSb i e1 he1,live_renE]at l1;rw[hγb i (by rw[he1];rfl)]at b1;rw[hSo key2 hk2]at l2;rw[hγo key2 hk2]at b2;exact(hmix i e1 key2 he1 l1 b1 hk2 l2 b2).elim
  ·rw[hSb j e2 he2,live_renE]at l2;rw[hγb j (by rw[he2];rfl)]at b2;rw[hSo key1 hk1]at l1;rw[hγo key1 hk1]at b1;exact(hmix j e2 key1 he2 l2 b2 hk1 l1 b1).elim
  ·rw[hSo key1 hk1]at l1;rw[hγo key1 hk1]at b1;rw[hSo key2 hk2]at l2;rw[hγo key2 hk2]at b2;exact r.inj key1 key2 b l1 l2 b1 b2
theorem lendKF_congr {kk:List Nat}{h h':Hp}:∀{ks:List Nat} {i:Nat},(∀k,k∈ks→h' k=h k)→lendKF kk h' i ks=lendKF kk h i ks
 |[],_,_=>rfl
 |k::ks,i,hc=>by simp only[lendKF];rw[hc k (by simp),lendKF_congr fun y hy=>hc y (by simp[hy])]
theorem OT_enterK {o:Oper}{F:FuncId}{vs gs:List V}{ks:List Nat}{base:Nat}{Hs H1:List (Nat×Ent)}{v1:V}(hen:Enters P o T F vs)(hw:All2 WkV vs gs)(hn:ks.Nodup)(hb:∀k∈ks,k<base)
  (hl:lendKF ks h 0 ks=some Hs) (hk:∀key∈gs.flatMap keysV,key∈ks) (hlc:LC P F (gs.map (renV fun k=>ks.idxOf k)) Hs v1 H1)
  (hfresh:∀p∈H1,ks.length≤p.1→h (back ks base p.1)=none):
  OT P o T h (renV (back ks base) v1) (H1.map fun p=>(back ks base p.1,renE (back ks base) p.2)) (ks++H1.map fun p=>back ks base p.1):=by
 intro T' h' γ M w a next Q hT hk' hr ht hnx
 have hl':lendKF ks h' 0 ks=some Hs:=(lendKF_congr fun k hk=>hk' k (by simp[hk])).trans hl;have hfresh':∀p∈H1,ks.length≤p.1→h' (back ks base p.1)=none:=fun p hp hpl=>(hk' _ (List.mem_append_right _ (List.mem_map.2 ⟨p,hp,rfl⟩))).trans (hfresh p hp hpl);obtain⟨rs,k3,hrun⟩:=hen T' h' γ M w a hT ht;have k4:All2 (RdV γ h' M w) gs rs:=wk_all hw k3
 have k5:All2 (RdV (fun i=>γ (ks.getD i 0)) (look Hs) M w) (gs.map (renV fun k=>ks.idxOf k)) rs:=
  All2.renV k4 fun key hkey=>same_lendK hl' (hk key hkey)
 have k6:=hlc _ M w _ (rel_lendK hr hn hl') k5;unfold Oper.wp;rw[hrun];refine cM k6 ?_;rintro e w' ⟨r,γ1,M1,rfl,r1,r2,r3⟩;obtain⟨γ',z1,z2,z3⟩:=back_callK hr hn hb hl' hfresh' r1 r3;exact hnx r γ' M1 w' z1 (z3 v1 r r2) z2
end
def plainD:D→Bool
 | .lit v=>plainV v
 |_=>true
section
variable {γ γ':Gh} {h h':Hp} {M M':MS} {w w':World} {T T':Nat→Option V} {a:Act} {P:Program}
theorem rows_flatten {k:Nat}{xs:List (List D)}(hk:∀(i:Nat) (row:List D),xs[i]? =some row→row.length=k):xs.flatten.length=xs.length*k∧∀(q:Nat) d,xs.flatten[q]? =some d→∃i j row,q=i*k+j∧xs[i]? =some row∧row[j]? =some d:=by
 induction xs with
 |nil=>simp
 |cons x xs ih=>
  obtain⟨h1,h2⟩:=ih fun i row hi=>hk (i+1) row (by simpa using hi);have hx:=hk 0 x rfl;refine⟨by simp[h1,hx,Nat.add_mul];omega,fun q d hq=> ?_⟩;rw[List.flatten_cons]at hq;rcases Nat.lt_or_ge q k with hlt|hge
  ·rw[List.getElem?_append_left (by omega)]at hq;exact⟨0,q,x,by omega,rfl,hq⟩
  ·rw[List.getElem?_append_right (by omega),hx]at hq;obtain⟨i,j,row,e1,e2,e3⟩:=h2 _ d hq;exact⟨i+1,j,row,by rw[Nat.add_mul];omega,by simpa using e2,e3⟩
theorem plainD_u32 {d:D}{v:Value}(hx:RdD M w d v)(hp:plainD d=true):∀z,v≠ .int .u32 z:=
 plainA_u32 (x:= .d d) (γ:=fun _=>undef) (h:=fun _=>none) hx (by cases d<;>first|exact hp|rfl)
theorem tab_moved (r:Rel γ h M w){key:Nat}{e:TypeId}{k n:Nat}(hkey:h key=none){xs:List (List D)}{cells sp:List Value}{cap:Nat}
  (hn:xs.length=n) (hc:n≤cap) (hk:∀(i:Nat) (row:List D),xs[i]? =some row→row.length=k) (hcl:cells.length=n*k) (h1:∀c∈cells,c.oneCell'=true)
  (hr:∀(i:Nat) (row:List D) (j:Nat) (d:D),xs[i]? =some row→row[j]? =some d→∃u,cells[i*k+j]? =some u∧RdD M w d u)
  (hu:∀x∈cells++sp,∀z:Int,x≠ .int .u32 z) {w1:World} (h0:w1.heap=w.heap) (h4:w1.os=w.os) (h2:w1.tape=w.tape) (h3:w1.output=w.output):
  ∃γ' M',Rel γ' (over [(key,.tab e k xs)] h) M' (w1.alloc (.cells (cells++sp).toArray e))∧RdV γ' (over [(key,.tab e k xs)] h) M' (w1.alloc (.cells (cells++sp).toArray e)) (.a (.tab key n)) (.slice (some ⟨w.heap.size,0,none⟩) n cap)∧
   Stp γ h M w γ' (over [(key,.tab e k xs)] h) M' (w1.alloc (.cells (cells++sp).toArray e)):=by
 have hn1:∀e1,h key=some e1→Goes e1 (.tab e k xs)∧Grown1 e1 (.tab e k xs):=fun e1 he=>by rw[hkey]at he;cases he
 have hb:∀b,blk (.pointer (some ⟨w.heap.size,0,none⟩))=some b→b=w.heap.size:=by intro b hb;simp[blk]at hb;exact hb.symm
 have s:=stp_new r hn1 (v:= .pointer (some ⟨w.heap.size,0,none⟩)) (cs:=(cells++sp).toArray) (t:=e) h0 h4 h2 h3 (m:=0) hb;obtain⟨f1,f2⟩:=rows_flatten hk;have hall:All2 (RdD M w) xs.flatten cells:=by
  refine All2.of_get (by rw[f1,hn,hcl]) fun q d u hd hq=> ?_;obtain⟨i,j,row,rfl,e2,e3⟩:=f2 q d hd;obtain⟨u',q1,q2⟩:=hr i row j d e2 e3;rw[hq]at q1;injection q1 with q1;rw[q1];exact q2
 have r2:=rel_new r hn1 h0 h4 h2 h3 (m:=0) (v:= .pointer (some ⟨w.heap.size,0,none⟩)) (cs:=(cells++sp).toArray) (t:=e) hb
  ⟨w.heap.size,cells,sp,upd_same,by rw[←h0];exact heap_alloc_new w1 _,fun row hrow=>let ⟨i,hi⟩:=List.mem_iff_getElem?.1 hrow;hk i row hi,All2.imp (fun _ _=>RdD.fx s.fx) hall,h1⟩ (fun _ i _=>zL_ i)
  (fun i x _ hi=>hu x (by have:(cells++sp)[i]? =some x:=by simpa using hi
                          exact mG_ this))
 exact⟨_,_,r2,⟨by rw[over_same];rfl,⟨w.heap.size,cap,upd_same,rfl,hc⟩,fun e1 k1 rows he=>by rw[over_same]at he;injection he with he;injection he with _ _ he;subst he;exact hn⟩,s⟩
theorem app_tab {t ty e:TypeId}{k:Nat}{key:Nat}{xs ys:List (List D)}{vx vy:Value}(r:Rel γ h M w)(hkey:h key=none)(ht:P.underlying t=some (.slice e))(hok:appOk P e k=true)
  (hx:RdD M w (.sl k xs) vx) (hf:∃ad,vx= .slice ad xs.length xs.length) (hy:RdD M w (.sl k ys) vy) (hm0:0<ys.length) (hb:xs.length+ys.length≤68719476736) (hpl:∀row∈xs++ys,∀d∈row,plainD d=true):
  ∃v' w' γ' M',(Builtin.append_ #[t,t] ty #[vx,vy]).run P w= .ok v' w'∧Rel γ' (over [(key,.tab e k (xs++ys))] h) M' w'∧RdV γ' (over [(key,.tab e k (xs++ys))] h) M' w' (.a (.tab key (xs++ys).length)) v'∧
   Stp γ h M w γ' (over [(key,.tab e k (xs++ys))] h) M' w':=by
 obtain⟨ad,rfl⟩:=hf;obtain⟨i,z,hi,hz,hk0,hs,hby,hzs,hzu⟩:=appOk_ok hok;subst hs;obtain⟨ay,my,cy',rfl⟩:∃a n c,vy= .slice a n c:=by
  rcases rdD_slice hy with⟨_,e⟩|h5
  ·cases e
  ·exact h5
 obtain⟨l1,l2,l3,hky,cy,hcy,h1y,hfy,hry⟩:=sl_cells hy hk0;subst l1;obtain⟨b,o,rfl,hfz⟩:=hfy (by omega);obtain⟨lx1,lx2,lx3,hkx,cx,hcx,h1x,hfx,hrx⟩:=sl_cells hx hk0;have hnews:∀j v,cy[j]? =some v→w.cell? ((⟨b,o,none⟩:Addr).add j)=some v:=fun j v hj=>by rw[Addr.add_lit];exact(hfz j v hj).2
 have hmax:xs.length+ys.length≤maxLen:=by simp[maxLen];omega
 have hkk:=rows_len hkx hky;have hrr:=rows_app hcx hkx hrx hry;have hcl:(cx++cy).length=(xs.length+ys.length)*i.size:=by simp[hcx,hcy,Nat.add_mul]
 have h1:∀c∈cx++cy,c.oneCell'=true:=fun c hc=>by
  rcases List.mem_append.1 hc with h5|h5
  ·exact h1x c h5
  ·exact h1y c h5
 have hcu:∀x∈cx++cy,∀z:Int,x≠ .int .u32 z:=by
  intro x hx;obtain⟨q,hq⟩:=List.mem_iff_getElem?.1 hx;obtain⟨f1,f2⟩:=rows_flatten hkk;have hlt:=(List.getElem?_eq_some_iff.1 hq).1;have hfl:q<(xs++ys).flatten.length:=by rw[f1,List.length_append];omega
  obtain⟨i',j,row,e1,e2,e3⟩:=f2 q _ (List.getElem?_eq_getElem hfl);obtain⟨u,q1,q2⟩:=hrr i' row j _ e2 e3;rw[←e1,hq]at q1;injection q1 with q1;subst q1;exact plainD_u32 q2 (hpl row (mG_ e2) _ (mG_ e3))
 have hzc:∀m,∀x∈(Builtin.zeroCells z.cells m).toList,∀q:Int,x≠ .int .u32 q:=fun m x hx=>by
  obtain⟨q,hq⟩:=List.mem_iff_getElem?.1 hx;exact zeroCells_u32 (by omega) hzu q x (by simpa using hq)
 cases ad with
 |none=>
  have h0:xs.length=0:=by
   rcases eP_ xs.length with h0|h0
   ·exact h0
   ·obtain⟨_,_,e,_⟩:=hfx h0;cases e
  have hxs:xs=[]:=List.eq_nil_of_length_eq_zero h0;subst hxs;have hcx0:cx=[]:=List.eq_nil_of_length_eq_zero (by simpa using hcx);subst hcx0;simp only[List.nil_append,List.length_nil,Nat.zero_add]at *
  have hr:=run_append_nil (P:=P) w t ty e i z ht hi hz ⟨b,o,none⟩ ys.length cy' cy hcy hnews (by omega) (by omega) (by
   have:=Nat.mul_le_mul (show ys.length≤68719476736 by omega) hby;omega)
  have hge:=grownCap_ge w ys.length 0 e;obtain⟨γ',M',q1,q2,q3⟩:=tab_moved (w1:=w.drew) r (key:=key) (e:=e) (k:=i.size) (n:=ys.length) (xs:=ys) (cells:=cy) (sp:=(Builtin.zeroCells z.cells (grownCap w ys.length 0 e-ys.length)).toList) (cap:=grownCap w ys.length 0 e) hkey rfl hge hkk hcl h1 hrr
   (fun x hx=>by
    rcases List.mem_append.1 hx with h5|h5
    ·exact hcu x h5
    ·exact hzc _ x h5) rfl rfl rfl rfl
  have harr:(cy++(Builtin.zeroCells z.cells (grownCap w ys.length 0 e-ys.length)).toList).toArray=cy.toArray++Builtin.zeroCells z.cells (grownCap w ys.length 0 e-ys.length):=by apply Array.ext';simp
  rw[harr]at q1 q2 q3;exact⟨_,_,γ',M',hr,q1,q2,q3⟩
 |some g=>
  have holds:∀j v,cx[j]? =some v→w.cell? (g.add j)=some v:=fun j v hj=>by
   have hlt:=(List.getElem?_eq_some_iff.1 hj).1;have hn0:0<xs.length:=by
    rcases eP_ xs.length with h0|h0
    ·rw[hcx,h0,Nat.zero_mul]at hlt;omega
    ·exact h0
   obtain⟨b2,o2,e2,hf2⟩:=hfx hn0;injection e2 with e2;subst e2;rw[Addr.add_lit];exact(hf2 j v hj).2
  have hr:=run_append_grow (P:=P) w t ty e i z ht hi hz g xs.length xs.length cx hcx holds ⟨b,o,none⟩ ys.length cy' cy hcy hnews (by omega) (by omega) (growslice_fits (by omega) (by
   have:=Nat.mul_le_mul hb hby;omega))
  have hge:=grownCap_ge w (xs.length+ys.length) xs.length e;have hlen:(xs++ys).length=xs.length+ys.length:=by simp
  obtain⟨γ',M',q1,q2,q3⟩:=tab_moved (w1:=w.drew) r (key:=key) (e:=e) (k:=i.size) (n:=xs.length+ys.length) (xs:=xs++ys) (cells:=cx++cy) (sp:=(Builtin.zeroCells z.cells (grownCap w (xs.length+ys.length) xs.length e-(xs.length+ys.length))).toList) (cap:=grownCap w (xs.length+ys.length) xs.length e) hkey hlen hge hkk hcl h1 hrr
   (fun x hx=>by
    rcases List.mem_append.1 hx with h5|h5
    ·exact hcu x h5
    ·exact hzc _ x h5) rfl rfl rfl rfl
  have harr:(cx++cy++(Builtin.zeroCells z.cells (grownCap w (xs.length+ys.length) xs.length e-(xs.length+ys.length))).toList).toArray=cx.toArray++cy.toArray++Builtin.zeroCells z.cells (grownCap w (xs.length+ys.length) xs.length e-(xs.length+ys.length)):=by apply Array.ext';simp
  rw[harr]at q1 q2 q3;rw[hlen];exact⟨_,_,γ',M',hr,q1,q2,q3⟩
theorem OT_apptab {o:Oper}{t t':TypeId}{s x:Operand}{vx:V}{k n:Nat}{xs ys:List (List D)}{e:TypeId}(ho:o.op= .call {callee:= .builtin .append,args:= #[s,x],argTypes:= #[t,t']})(ht':(elemT P t').isSome=true)
  (hs:evL T s=some (.a (.full k xs))) (hx:evL T x=some vx) (hy:yOf k vx=some ys) (he:elemT P t=some (e,k)) (hok:appOk P e k=true) (hn0:h n=none) (hm:0<ys.length) (hb:xs.length+ys.length≤68719476736) (hpl:∀row∈xs++ys,∀d∈row,plainD d=true):
  OT P o T h (.a (.tab n (xs++ys).length)) [(n,.tab e k (xs++ys))] [n]:=by
 intro T' h' γ M w a next Q hT hk hr ht hn
 have hs':evL T' s=some (.a (.full k xs)):=by
  rw[←hs];exact evL_congr fun d hd=>hT d (by rw[ho];simp[Op.operands,Call.operands,hd])
 have hx':evL T' x=some vx:=by
  rw[←hx];exact evL_congr fun d hd=>hT d (by rw[ho];simp[Op.operands,Call.operands,hd])
 have h1:RdA γ h' M w (.full k xs) (a.eval s):=evL_ok ht hs';have h2:=evL_ok ht hx';obtain⟨⟨e2,s2⟩,he2⟩:=Option.isSome_iff_exists.1 ht';obtain⟨r,w',γ',M',k1,k3,k4,k5⟩:=app_tab (ty:=o.type) hr ((hk n (by simp)).trans hn0) (elemT_ok he).1 hok h1.1 h1.2 (yOf_ok h2 hy) hm hb hpl;unfold Oper.wp;have:(execOp a.eval o).run P w= .ok (.value r) w':=by
  simp[execOp,ho,resolve,invoke,builtin,append_types w t t' e e2 o.type _ (elemT_ok he).1 (elemT_ok he2).1,k1]
 rw[this];exact hn r γ' M' w' k3 k4 k5
theorem OT_bs0 {o:Oper}{t e:TypeId}{k:Nat}{parts:Array (Nat×Operand)}(ho:o.op= .buildSlice t 0 parts)(hp:parts= #[])(he:elemT P t=some (e,k)):OT P o T h (.a (.full k [])) [] []:=by
 subst hp;intro T' h' γ M w a next Q hT hk hr ht hn
 obtain⟨e1,e2⟩:=elemT_ok he;have hsz:(sizeOf e).run P w= .ok k w:=sizeT_run e2;have hrun:(execOp a.eval o).run P w= .ok (.value (.slice (some ⟨w.heap.size,0,none⟩) 0 0)) (w.alloc (.cells #[] e)):=by
  simp[execOp,ho,Instr.buildSlice,run_underlying e1,hsz,newRow,Instr.fill]
  congr 2;apply Array.ext';simp[Array.toList_range]
 have s:Stp γ h' M w γ h' M (w.alloc (.cells #[] e)):=by
  have hold:∀b,b<w.heap.size→(w.alloc (.cells #[] e)).heap[b]? =w.heap[b]?:=fun b hb=>Below.heap_alloc _ _ _ hb;refine⟨rfl,rfl,rfl,by simp,fun b i u q=>⟨q.1,?_⟩,fun b hb _=>hold b hb,fun b i q _=>q,fun key b i q _=>⟨key,q⟩,fun key e' he=>⟨e',he,Goes.refl _,.inl rfl⟩⟩;rw[←q.2];exact World.cell?_of_block (a:=⟨b,i,none⟩) (hold b (World.block_lt_of_cell? _ _ q.2))
 have r:Rel γ h' M (w.alloc (.cells #[] e)):=by
  refine⟨fun key e' he=>EntR.stp s (hr.ent key e' he) rfl fun hl b hb=>Below.heap_alloc _ _ _ (blk_lt hr he hl hb),hr.own,hr.inj,fun b i z hm=> ?_,fun b i hm=> ?_,hr.glb.fx s.fx⟩
  ·rw[World.cell?_of_block (w:=w) (a:=⟨b,i,none⟩) (Below.heap_alloc _ _ _ (hr.dom b i hm))];exact hr.u32 b i z hm
  ·have:=hr.dom b i hm;simp;omega
 unfold Oper.wp;rw[hrun];exact hn _ γ M _ r ⟨.sl k [] _ _ (fun _ _=> .bool false) (zL_ _) (zL_ _) (fun h0=>absurd h0 (by simp)) (fun i row hi=>by simp at hi) (fun _ _=>rfl) (fun i row j d hi=>by simp at hi),_,rfl⟩ s
def litA:List A→Option (List Value)
 |[]=>some []
 | .d (.lit v)::r=>match litA r with
   |some vs=>some (v::vs)
   |none=>none
 |_=>none
def litV:V→Option Value
 | .a (.d (.lit v))=>some v
 | .agg cs=>match litA cs with
   |some vs=>some (.agg vs.toArray)
   |none=>none
 |_=>none
theorem litA_ok:∀{xs:List A} {vs us:List Value},litA xs=some vs→All2 (RdA γ h M w) xs us→us=vs
 |[],vs,[],hl,_=>by simp[litA]at hl;exact hl.symm
 |x::r,vs,u::us,hl,k=>by
  cases x with
  |d d=>
   cases d with
   |lit v=>
    simp only[litA]at hl;split at hl
    ·rename_i vs' h1;injection hl with hl;subst hl;rw[litA_ok h1 k.2,show u=v from lit_inv k.1]
    ·cases hl
   |_=>simp[litA]at hl
  |_=>simp[litA]at hl
 |[],_,_::_,_,k=>k.elim
 |_::_,_,[],_,k=>k.elim
theorem litV_ok {x:V}{v r:Value}(hl:litV x=some v)(k:RdV γ h M w x r):r=v:=by
 unfold litV at hl;split at hl
 ·injection hl with hl;subst hl;exact lit_inv k
 ·split at hl
  ·rename_i vs h1;injection hl with hl;subst hl;obtain⟨us,rfl,k2⟩:=k;rw[litA_ok h1 k2]
  ·cases hl
 ·cases hl
def notIf (P:Program)(t:TypeId):Bool:=
 match P.underlying t with
 |some (.interface _)=>false
 |some _=>true
 |none=>false
theorem OT_mif {o:Oper}{t:TypeId}{x:Operand}{vx:V}{v:Value}(ho:o.op= .makeInterface t x)(hx:evL T x=some vx)(hl:litV vx=some v)(ht:notIf P t=true):OT P o T h (vl (.iface t v)) [] []:=by
 intro T' h' γ M w a next Q hT hk hr htr hn
 have hx':evL T' x=some vx:=by rw[←hx];exact evL_congr fun d hd=>hT d (by rw[ho];simp[Op.operands,hd])
 have e:=litV_ok hl (evL_ok htr hx');have hrun:(execOp a.eval o).run P w= .ok (.value (.iface t v)) w:=by
  unfold notIf at ht;split at ht
  ·cases ht
  ·rename_i d hne hu;have hd:P.underlying t=some d:=hu;simp only[execOp,ho,e,Instr.makeInterface]
   cases d<;>first|(exact absurd rfl (hne _))|simp[run_underlying hd]
  ·cases ht
 unfold Oper.wp;rw[hrun];exact hn _ γ M w hr (.lit _) (Stp.refl _ _ _ _)
end
noncomputable def fNs (l:List Nat):Nat→(Nat→Prop)→Prop:=List.rec (motive:=fun _=>Nat→(Nat→Prop)→Prop) (fun n K=>K n) (fun m _ ih n K=> @Bool.rec (fun _=>Prop) (ih n K) (K m) (Nat.beq n m)) l
noncomputable def fN (n:Nat)(K:Nat→Prop):Prop:=fNs [0,1,2,3,4,5,6,7,8,9,10,11,12,13,14,15,16,17,18,19,20,21,22,23,24,25,26,27,28,29,30,31,32,33,34,35,36,37,38,39,40] n K
def fD (d:D)(K:D→Prop):Prop:=match d with
 | .lit (.int k z)=>K (.lit (.int k z))
 | .lit v=>K (.lit v)
 | .lm xs=>K (.lm xs)
 | .sl k xs=>K (.sl k xs)
noncomputable def fDs (l:List D):(List D→Prop)→Prop:=List.rec (motive:=fun _=>(List D→Prop)→Prop) (fun K=>K []) (fun x _ ih K=>fD x fun x=>ih fun r=>K (x::r)) l
theorem fDs_cons (x:D)(r:List D)(K:List D→Prop):fDs (x::r) K=fD x fun x=>fDs r fun r=>K (x::r):=rfl
noncomputable def fB (x:BA)(K:BA→Prop):Prop:=match x with
 | .d d=>fD d fun d=>K (.d d)
 | .ptr k o=>K (.ptr k o)
noncomputable def fBs (l:List BA):(List BA→Prop)→Prop:=List.rec (motive:=fun _=>(List BA→Prop)→Prop) (fun K=>K []) (fun x _ ih K=>fB x fun x=>ih fun r=>K (x::r)) l
theorem fBs_cons (x:BA)(r:List BA)(K:List BA→Prop):fBs (x::r) K=fB x fun x=>fBs r fun r=>K (x::r):=rfl
noncomputable def fA (x:A)(K:A→Prop):Prop:=match x with
 | .d d=>fD d fun d=>K (.d d)
 | .ptr k o=>K (.ptr k o)
 | .own k s xs=>K (.own k s xs)
 | .full k xs=>K (.full k xs)
 | .elt row o=>fN o fun o=>fDs row fun row=>K (.elt row o)
 | .fn f xs ys=>fBs xs fun xs=>fBs ys fun ys=>K (.fn f xs ys)
 | .tab k n=>K (.tab k n)
 | .mp k=>K (.mp k)
noncomputable def fAs (l:List A):(List A→Prop)→Prop:=List.rec (motive:=fun _=>(List A→Prop)→Prop) (fun K=>K []) (fun x _ ih K=>fA x fun x=>ih fun r=>K (x::r)) l
theorem fAs_cons (x:A)(r:List A)(K:List A→Prop):fAs (x::r) K=fA x fun x=>fAs r fun r=>K (x::r):=rfl
noncomputable def fW (x:W)(K:W→Prop):Prop:=match x with
 | .s x=>fA x fun x=>K (.s x)
 | .g xs=>fAs xs fun xs=>K (.g xs)
noncomputable def fWs (l:List W):(List W→Prop)→Prop:=List.rec (motive:=fun _=>(List W→Prop)→Prop) (fun K=>K []) (fun x _ ih K=>fW x fun x=>ih fun r=>K (x::r)) l
theorem fWs_cons (x:W)(r:List W)(K:List W→Prop):fWs (x::r) K=fW x fun x=>fWs r fun r=>K (x::r):=rfl
noncomputable def fV (x:V)(K:V→Prop):Prop:=match x with
 | .a x=>fA x fun x=>K (.a x)
 | .agg xs=>fAs xs fun xs=>K (.agg xs)
 | .tup xs=>fWs xs fun xs=>K (.tup xs)
noncomputable def fVs (l:List V):(List V→Prop)→Prop:=List.rec (motive:=fun _=>(List V→Prop)→Prop) (fun K=>K []) (fun x _ ih K=>fV x fun x=>ih fun r=>K (x::r)) l
theorem fVs_cons (x:V)(r:List V)(K:List V→Prop):fVs (x::r) K=fV x fun x=>fVs r fun r=>K (x::r):=rfl
noncomputable def fE (x:Ent)(K:Ent→Prop):Prop:=match x with
 | .gone=>K .gone
 | .box t cs=>fAs cs fun cs=>K (.box t cs)
 | .arr e k n=>K (.arr e k n)
 | .tab e k rows=>K (.tab e k rows)
 | .mp φ=>K (.mp φ)
noncomputable def fHs (l:List (Nat×Ent)):(List (Nat×Ent)→Prop)→Prop:=List.rec (motive:=fun _=>(List (Nat×Ent)→Prop)→Prop) (fun K=>K []) (fun p _ ih K=>fN p.1 fun k=>fE p.2 fun x=>ih fun r=>K ((k,x)::r)) l
theorem fHs_cons (p:Nat×Ent)(r:List (Nat×Ent))(K:List (Nat×Ent)→Prop):fHs (p::r) K=fN p.1 fun k=>fE p.2 fun x=>fHs r fun r=>K ((k,x)::r):=rfl
theorem fNs_eq (K:Nat→Prop)(n:Nat):∀l,fNs l n K=K n
 |[]=>rfl
 |m::ms=>by
  show @Bool.rec (fun _=>Prop) (fNs ms n K) (K m) (Nat.beq n m)=K n
  cases h:Nat.beq n m with
  |true=>rw[Nat.eq_of_beq_eq_true h]
  |false=>exact fNs_eq K n ms
theorem fN_eq (K:Nat→Prop)(n:Nat):fN n K=K n:=fNs_eq K n _
theorem fD_eq (K:D→Prop)(d:D):fD d K=K d:=by unfold fD;split<;>rfl
theorem fDs_eq:∀(l:List D) (K:List D→Prop),fDs l K=K l
 |[],_=>rfl
 |x::r,K=>by rw[fDs_cons,fD_eq,fDs_eq r]
theorem fB_eq (K:BA→Prop)(x:BA):fB x K=K x:=by cases x<;>simp only[fB,fD_eq,fN_eq]
theorem fBs_eq:∀(l:List BA) (K:List BA→Prop),fBs l K=K l
 |[],_=>rfl
 |x::r,K=>by rw[fBs_cons,fB_eq,fBs_eq r]
theorem fA_eq (K:A→Prop)(x:A):fA x K=K x:=by cases x<;>simp only[fA,fD_eq,fN_eq,fDs_eq,fBs_eq]
theorem fAs_eq:∀(l:List A) (K:List A→Prop),fAs l K=K l
 |[],_=>rfl
 |x::r,K=>by rw[fAs_cons,fA_eq,fAs_eq r]
theorem fW_eq (K:W→Prop)(x:W):fW x K=K x:=by cases x<;>simp only[fW,fA_eq,fAs_eq]
theorem fWs_eq:∀(l:List W) (K:List W→Prop),fWs l K=K l
 |[],_=>rfl
 |x::r,K=>by rw[fWs_cons,fW_eq,fWs_eq r]
theorem fV_eq (K:V→Prop)(x:V):fV x K=K x:=by cases x<;>simp only[fV,fA_eq,fAs_eq,fWs_eq]
theorem fVs_eq:∀(l:List V) (K:List V→Prop),fVs l K=K l
 |[],_=>rfl
 |x::r,K=>by rw[fVs_cons,fV_eq,fVs_eq r]
theorem fE_eq (K:Ent→Prop)(x:Ent):fE x K=K x:=by cases x<;>simp only[fE,fAs_eq]
theorem fHs_eq:∀(l:List (Nat×Ent)) (K:List (Nat×Ent)→Prop),fHs l K=K l
 |[],_=>rfl
 |(k,x)::r,K=>by rw[fHs_cons,fN_eq,fE_eq,fHs_eq r]
noncomputable def bK (b:Bool)(A B:Prop):Prop:= @Bool.rec (fun _=>Prop) B A b
theorem bs {b:Bool}{A B:Prop}(h:b=true→A)(k:b=false→B): @Bool.rec (fun _=>Prop) B A b:=by
 cases b
 ·exact k rfl
 ·exact h rfl
theorem bT {b:Bool}{A B:Prop}(e:b=true)(h:A): @Bool.rec (fun _=>Prop) B A b:=by subst e;exact h
theorem bF {b:Bool}{A B:Prop}(e:b=false)(h:B): @Bool.rec (fun _=>Prop) B A b:=by subst e;exact h
noncomputable def fXw (x:W)(K:W→Prop):Prop:=match x with
 | .s (.d (.lit (.bool b)))=>bK b (K (.s (.d (.lit (.bool true))))) (K (.s (.d (.lit (.bool false)))))
 |x=>fW x K
noncomputable def fXs (l:List W):(List W→Prop)→Prop:=List.rec (motive:=fun _=>(List W→Prop)→Prop) (fun K=>K []) (fun x _ ih K=>fXw x fun x=>ih fun r=>K (x::r)) l
theorem fXs_cons (x:W)(r:List W)(K:List W→Prop):fXs (x::r) K=fXw x fun x=>fXs r fun r=>K (x::r):=rfl
noncomputable def fX (v:V)(K:V→Prop):Prop:=match v with
 | .a (.d (.lit (.bool b)))=>bK b (K (.a (.d (.lit (.bool true))))) (K (.a (.d (.lit (.bool false)))))
 | .tup ws=>fXs ws fun ws=>K (.tup ws)
 |v=>fV v K
theorem bK_of {b:Bool}{K:Bool→Prop}:bK b (K true) (K false)=K b:=by cases b<;>rfl
theorem fXw_eq (x:W)(K:W→Prop):fXw x K=K x:=by
 unfold fXw;split
 ·rename_i b;exact bK_of (K:=fun b=>K (W.s (A.d (D.lit (Value.bool b)))))
 ·exact fW_eq K _
theorem fXs_eq:∀(l:List W) (K:List W→Prop),fXs l K=K l
 |[],_=>rfl
 |x::r,K=>by rw[fXs_cons,fXw_eq,fXs_eq r]
theorem fX_eq (v:V)(K:V→Prop):fX v K=K v:=by
 unfold fX;split
 ·rename_i b;exact bK_of (K:=fun b=>K (V.a (A.d (D.lit (Value.bool b)))))
 ·rw[fXs_eq]
 ·rw[fV_eq]
inductive Ix (z:Int) (xs:List (List D)) (K:List D→Prop):Prop
 |mk (m:Nat) (row:List D) (h1:z=(m:Int)) (h2:xs[m]? =some row) (h3:K row):Ix z xs K
inductive Sx (lo:Option Int) (hi:Option Int) (xs:List (List D)) (K:List (List D)→Prop):Prop
 |mk (l u:Nat) (ys:List (List D)) (h1:lo.getD 0=(l:Int)) (h2:hi.getD (xs.length:Int)=(u:Int)) (h3:l≤u) (h4:u≤xs.length) (h5:ys=(xs.take u).drop l) (h6:K ys):Sx lo hi xs K
inductive Apx (n:Nat) (xs ys:List (List D)) (K:List (List D)→Nat→Prop):Prop
 |mk (zs:List (List D)) (h1:n=xs.length) (h2:zs=xs++ys) (h3:zs.length≤68719476736) (h4:K zs zs.length):Apx n xs ys K
def LX (P:Program)(f:FuncId)(args:List V)(H:List (Nat×Ent))(R:V→List (Nat×Ent)→Prop):Prop:=∃v H',R v H'∧LC P f args H v H'
inductive Cn (P:Program) (F:FuncId) (vs:List V) (H:List (Nat×Ent)) (n:Nat) (K:V→List (Nat×Ent)→List Nat→Nat→Prop):Prop
 |pure (gs:List V) (R:V→List (Nat×Ent)→Prop) (he:entT P F=true) (hc:LX P F gs [] R) (hw:All2 WkV vs gs) (hg:(gs.flatMap keysV).isEmpty=true)
   (hk:∀v H',R v H'→H'=[]∧keysV v=[]∧fX v fun v=>K v [] [] n):Cn P F vs H n K
 |lend (ks:List Nat) (gs:List V) (Hs:List (Nat×Ent)) (R:V→List (Nat×Ent)→Prop) (he:entT P F=true) (hc:LX P F (gs.map (renV fun k=>ks.idxOf k)) Hs R) (hw:All2 WkV vs gs) (hn:ks.Nodup) (hb:∀k∈ks,k<n)
   (hl:lendFrom (look H) 0 ks=some Hs) (hg:∀key∈gs.flatMap keysV,key∈ks)
   (hk:∀v H1,R v H1→H1.all (fun p=>noKeys p.2)=true∧(∀p∈H1,ks.length≤p.1→look H (back ks n p.1)=none)∧
    fX (renV (back ks n) v) fun v=>fHs (H1.map fun p=>(back ks n p.1,p.2)) fun sets=>K v sets (ks++H1.map fun p=>back ks n p.1) (n+H1.length)):Cn P F vs H n K
 |lendK (ks:List Nat) (gs:List V) (Hs:List (Nat×Ent)) (R:V→List (Nat×Ent)→Prop) (he:entT P F=true) (hc:LX P F (gs.map (renV fun k=>ks.idxOf k)) Hs R) (hw:All2 WkV vs gs) (hn:ks.Nodup) (hb:∀k∈ks,k<n)
   (hl:lendKF ks (look H) 0 ks=some Hs) (hg:∀key∈gs.flatMap keysV,key∈ks)
   (hk:∀v H1,R v H1→(∀p∈H1,ks.length≤p.1→look H (back ks n p.1)=none)∧
    fX (renV (back ks n) v) fun v=>fHs (H1.map fun p=>(back ks n p.1,renE (back ks n) p.2)) fun sets=>K v sets (ks++H1.map fun p=>back ks n p.1) (n+H1.length)):Cn P F vs H n K
inductive Bsx (X Y:Prop):Prop
 |own (h:X):Bsx X Y
 |full (h:Y):Bsx X Y
inductive Aqx (n:Nat) (xs ys:List (List D)) (K K2:List (List D)→Nat→Prop):Prop
 |mk (zs:List (List D)) (h1:n=xs.length) (h2:zs=xs++ys) (h3:zs.length≤68719476736) (h4:K zs zs.length):Aqx n xs ys K K2
 |tab (zs:List (List D)) (h2:zs=xs++ys) (h3:zs.length≤68719476736) (h1:∀row∈zs,∀d∈row,plainD d=true) (h4:K2 zs zs.length):Aqx n xs ys K K2
inductive Inx (P:Program) (t:TypeId) (v:Value) (name:String) (K:FuncId→Value→Prop):Prop
 |mk (F:FuncId) (r:Value) (h:Meth P t v name F r) (k:K F r):Inx P t v name K
inductive Itx (z:Int) (nn:Nat) (K:Nat→Prop):Prop
 |mk (m:Nat) (h1:z=(m:Int)) (h2:m<nn) (h3:K m):Itx z nn K
inductive Ltx (off k s:Nat) (rows:List (List D)) (K:List A→Prop):Prop
 |mk (m j:Nat) (row:List D) (h1:off=m*k+j) (h2:rows[m]? =some row) (h3:K (((row.drop j).take s).map .d)):Ltx off k s rows K
inductive Stx (off k s:Nat) (rows:List (List D)) (ds:List D) (K:List (List D)→Prop):Prop
 |mk (m j:Nat) (row:List D) (rows':List (List D)) (h1:off=m*k+j) (h2:rows[m]? =some row) (h3:j+s≤row.length) (h4:rows'=rows.set m (row.take j++ds++row.drop (j+s))) (h5:K rows'):Stx off k s rows ds K
inductive Mkx (z z':Int) (K:Nat→Prop):Prop
 |mk (nn:Nat) (h1:z=(nn:Int)) (h2:z'=(nn:Int)) (h3:nn≤68719476736) (h4:K nn):Mkx z z' K
inductive Eqx (c:Bool) (A:Prop):Prop
 |mk (h:c=true) (k:A):Eqx c A
inductive Mnx (K:(Obj→Prop)→Prop) (P:Program):Prop
 |mk (k e:TypeId) (h:K (MX P k e 0 (.map []))):Mnx K P
inductive Lkx (P:Program) (t:TypeId) (φ:Obj→Prop) (v:Value) (K:Lit→Prop):Prop
 |mk (k e:TypeId) (n:Nat) (D:DataW Unit) (kl zl l:Lit) (h:LkOk P t φ v k e n D kl zl l) (hk:K l):Lkx P t φ v K
inductive Mux (P:Program) (t:TypeId) (φ:Obj→Prop) (v u:Value) (K:(Obj→Prop)→Prop):Prop
 |mk (k e:TypeId) (n:Nat) (D:DataW Unit) (kl l:Lit) (h:MuOk P t φ v u k e n D kl l) (hk:K (MX P k e (n+1) (D.put kl (.lit l)))):Mux P t φ v u K
def negE:BinOp→Option Bool
 | .eql=>some false
 | .neq=>some true
 |_=>none
def intV (v:Option V):Option Int:=match v with
 |some (.a (.d (.lit (.int _ z))))=>some z
 |_=>none
def intO (ev:Operand→Option V):Option Operand→Option (Option Int)
 |none=>some none
 |some x=>(intV (ev x)).map some
inductive Sfx (z z':Int) (n:Nat) (K:Prop):Prop
 |mk (h1:z=(n:Int)) (h2:z'=(n:Int)) (h3:K):Sfx z z' n K
theorem intV_eval {P:Program}{γ:Gh}{h:Hp}{M:MS}{w:World}{T:Nat→Option V}{a:Act}(ht:TR γ h M w T a){x:Operand}{z:Int}(hx:intV (evL T x)=some z):∃k,a.eval x= .int k z:=by
 unfold intV at hx;split at hx
 ·rename_i k z' e;injection hx with hx;subst hx;exact⟨k,lit_inv (evL_ok ht e)⟩
 ·cases hx
theorem OT_full {P:Program}{o:Oper}{T:Nat→Option V}{h:Hp}{t:TypeId}{x hi mx:Operand}{k:Nat}{xs:List (List D)}{e:TypeId}(ho:o.op= .slice t x none (some hi) (some mx))(hx:(evL T x).bind slOf=some (k,xs))(h1:intV (evL T hi)=some (xs.length:Int))(h2:intV (evL T mx)=some (xs.length:Int))(he:elemT P t=some (e,k)):
  OT P o T h (.a (.full k xs)) [] []:=by
 intro T' h' γ M w a next Q hT hk hr ht hn
 have c1:evL T' x=evL T x:=evL_congr fun d hd=>hT d (by rw[ho];simp[Op.operands,hd]);have c2:evL T' hi=evL T hi:=evL_congr fun d hd=>hT d (by rw[ho];simp[Op.operands,hd]);have c3:evL T' mx=evL T mx:=evL_congr fun d hd=>hT d (by rw[ho];simp[Op.operands,hd]);rw[←c1]at hx;rw[←c2]at h1;rw[←c3]at h2;obtain⟨vx,hvx,h3⟩:=Option.bind_eq_some_iff.1 hx;obtain⟨e1,e2⟩:=elemT_ok he;have hrd:=slOf_ok (evL_ok ht hvx) h3;obtain⟨k1,q1⟩:=intV_eval (P:=P) ht h1;obtain⟨k2,q2⟩:=intV_eval (P:=P) ht h2;have hsl:∃ad n cap,a.eval x= .slice ad n cap∧xs.length=n∧n≤cap:=by
  generalize a.eval x=r0 at hrd
  cases hrd with
  |sl k xs ad cap vs hc=>exact⟨_,_,_,rfl,rfl,hc⟩
 obtain⟨ad,n,cap,hax,hn',hcap⟩:=hsl;rw[hax]at hrd;subst hn';have hb:(Instr.sliceBounds true xs.length cap (Option.map a.eval none) ((some hi).map a.eval) ((some mx).map a.eval)).run P w= .ok (0,xs.length,xs.length) w:=by
  simp only[Option.map_none,Option.map_some,q1,q2];simp[Instr.sliceBounds];rw[sliceBound_run (by omega)];simp;rw[sliceBound_run (by omega)];simp
 have hrun:(execOp a.eval o).run P w= .ok (.value (.slice (if xs.length=0 then ad else ad.map (·.add (0*k))) (xs.length-0) (xs.length-0))) w:=by
  simp only[Option.map_none,Option.map_some]at hb;simp[execOp,ho,hax,Instr.sliceAt,run_underlying e1,Instr.slice,hb,sizeT_run e2]
 unfold Oper.wp;rw[hrun];have hp:=sl_part (l:=0) (u:=xs.length) (m:=xs.length) hrd (zL_ _) (lR_ _) (lR_ _) hcap;rw[List.take_length,List.drop_zero]at hp;exact hn _ γ M w hr ⟨hp,_,rfl⟩ (Stp.refl _ _ _ _)
theorem app_full {P:Program}{γ:Gh}{h:Hp}{M:MS}{w:World}{t ty e:TypeId}{k:Nat}{key:Nat}{xs ys:List (List D)}{vx vy:Value}(r:Rel γ h M w)(hkey:h key=none)(ht:P.underlying t=some (.slice e))(hok:appOk P e k=true)
  (hx:RdD M w (.sl k xs) vx) (hf:∃ad,vx= .slice ad xs.length xs.length) (hy:RdD M w (.sl k ys) vy) (hm0:0<ys.length) (hb:xs.length+ys.length≤68719476736):
  ∃v' w' γ' M',(Builtin.append_ #[t,t] ty #[vx,vy]).run P w= .ok v' w'∧Rel γ' (over [(key,.arr e k (xs.length+ys.length))] h) M' w'∧RdV γ' (over [(key,.arr e k (xs.length+ys.length))] h) M' w' (.a (.own key k (xs++ys))) v'∧
   Stp γ h M w γ' (over [(key,.arr e k (xs.length+ys.length))] h) M' w':=by
 obtain⟨ad,rfl⟩:=hf;obtain⟨i,z,hi,hz,hk0,hs,hby,hzs,hzu⟩:=appOk_ok hok;subst hs;obtain⟨ay,my,cy',rfl⟩:∃a n c,vy= .slice a n c:=by
  rcases rdD_slice hy with⟨_,e⟩|h5
  ·cases e
  ·exact h5
 obtain⟨l1,l2,l3,hky,cy,hcy,h1y,hfy,hry⟩:=sl_cells hy hk0;subst l1;obtain⟨b,o,rfl,hfz⟩:=hfy (by omega);obtain⟨lx1,lx2,lx3,hkx,cx,hcx,h1x,hfx,hrx⟩:=sl_cells hx hk0;have hnews:∀j v,cy[j]? =some v→w.cell? ((⟨b,o,none⟩:Addr).add j)=some v:=fun j v hj=>by rw[Addr.add_lit];exact(hfz j v hj).2
 have hmax:xs.length+ys.length≤maxLen:=by simp[maxLen];omega
 cases ad with
 |none=>
  have h0:xs.length=0:=by
   rcases eP_ xs.length with h0|h0
   ·exact h0
   ·obtain⟨_,_,e,_⟩:=hfx h0;cases e
  have hxs:xs=[]:=List.eq_nil_of_length_eq_zero h0;subst hxs;exact app_run r hkey ht hok (.inr ⟨rfl,rfl,rfl⟩) hx rfl hy rfl hb
 |some g=>
  have holds:∀j v,cx[j]? =some v→w.cell? (g.add j)=some v:=fun j v hj=>by
   have hlt:=(List.getElem?_eq_some_iff.1 hj).1;have hn0:0<xs.length:=by
    rcases eP_ xs.length with h0|h0
    ·rw[hcx,h0,Nat.zero_mul]at hlt;omega
    ·exact h0
   obtain⟨b2,o2,e2,hf2⟩:=hfx hn0;injection e2 with e2;subst e2;rw[Addr.add_lit];exact(hf2 j v hj).2
  have hr:=run_append_grow (P:=P) w t ty e i z ht hi hz g xs.length xs.length cx hcx holds ⟨b,o,none⟩ ys.length cy' cy hcy hnews (by omega) (by omega) (growslice_fits (by omega) (by
   have:=Nat.mul_le_mul hb hby;omega))
  have hge:=grownCap_ge w (xs.length+ys.length) xs.length e;obtain⟨γ',M',q1,q2,q3⟩:=own_moved (w1:=w.drew) r (key:=key) (e:=e) (k:=i.size) (n:=xs.length+ys.length) (xs:=xs++ys) (cells:=cx++cy) (cap:=grownCap w (xs.length+ys.length) xs.length e) (cs:=cx.toArray++cy.toArray++Builtin.zeroCells z.cells (grownCap w (xs.length+ys.length) xs.length e-(xs.length+ys.length))) hkey
   (.inl rfl) hk0 (by simp) hge (grownCap_le_maxLen w (xs.length+ys.length) xs.length e hmax) (by omega) (rows_len hkx hky) (by simp[hcx,hcy,Nat.add_mul]) (fun c hc=>by
    rcases List.mem_append.1 hc with h5|h5
    ·exact h1x c h5
    ·exact h1y c h5) (rows_app hcx hkx hrx hry)
   (by simp[size_zeroCells,hcx,hcy,hzs,←Nat.add_mul];congr 1;omega) (by
    have h5:(xs.length+ys.length)*i.size=(cx++cy).length:=by simp[hcx,hcy,Nat.add_mul]
    rw[h5];simp only[Array.toList_append,List.toList_toArray];exact List.take_left) (fun j x hj hx=>by
    rw[Array.getElem?_append_right (by simp[hcx,hcy];rw[Nat.add_mul]at hj;omega)]at hx;exact zeroCells_u32 (by omega) hzu _ x hx) rfl rfl rfl rfl
  exact⟨_,_,γ',M',hr,q1,q2,q3⟩
theorem OT_appfull {P:Program}{o:Oper}{T:Nat→Option V}{h:Hp}{t t':TypeId}{s x:Operand}{vx:V}{k n:Nat}{xs ys:List (List D)}{e:TypeId}(ho:o.op= .call {callee:= .builtin .append,args:= #[s,x],argTypes:= #[t,t']})(ht':(elemT P t').isSome=true)
  (hs:evL T s=some (.a (.full k xs))) (hx:evL T x=some vx) (hy:yOf k vx=some ys) (he:elemT P t=some (e,k)) (hok:appOk P e k=true) (hn0:h n=none) (hm:0<ys.length) (hb:xs.length+ys.length≤68719476736):
  OT P o T h (.a (.own n k (xs++ys))) [(n,.arr e k (xs.length+ys.length))] [n]:=by
 intro T' h' γ M w a next Q hT hk hr ht hn
 have hs':evL T' s=some (.a (.full k xs)):=by
  rw[←hs];exact evL_congr fun d hd=>hT d (by rw[ho];simp[Op.operands,Call.operands,hd])
 have hx':evL T' x=some vx:=by
  rw[←hx];exact evL_congr fun d hd=>hT d (by rw[ho];simp[Op.operands,Call.operands,hd])
 have h1:RdA γ h' M w (.full k xs) (a.eval s):=evL_ok ht hs';have h2:=evL_ok ht hx';obtain⟨⟨e2,s2⟩,he2⟩:=Option.isSome_iff_exists.1 ht';obtain⟨r,w',γ',M',k1,k3,k4,k5⟩:=app_full (ty:=o.type) hr ((hk n (by simp)).trans hn0) (elemT_ok he).1 hok h1.1 h1.2 (yOf_ok h2 hy) hm hb;unfold Oper.wp;have:(execOp a.eval o).run P w= .ok (.value r) w':=by
  simp[execOp,ho,resolve,invoke,builtin,append_types w t t' e e2 o.type _ (elemT_ok he).1 (elemT_ok he2).1,k1]
 rw[this];exact hn r γ' M' w' k3 k4 k5
noncomputable def opG (P:Program)(o:Oper)(T:List (Nat×V))(H:List (Nat×Ent))(n:Nat)(K:V→List (Nat×Ent)→List Nat→Nat→Prop):Prop:=
 match opL P o T H n with
 |some (v,sets,rk,n')=>fX v fun v=>fHs sets fun sets=>fN n' fun n'=>K v sets rk n'
 |none=>False
noncomputable def opB (P:Program)(o:Oper)(T:List (Nat×V))(H:List (Nat×Ent))(n:Nat)(K:V→List (Nat×Ent)→List Nat→Nat→Prop):Prop:=
 match pureL P (evL (look T)) o with
 |some v=>fX v fun v=>K v [] [] n
 |none=>False
theorem opB_ok {P:Program}{o:Oper}{T:List (Nat×V)}{H:List (Nat×Ent)}{n:Nat}{K:V→List (Nat×Ent)→List Nat→Nat→Prop}(h:opB P o T H n K):∃v sets rk n',OT P o (look T) (look H) v sets rk∧K v sets rk n':=by
 unfold opB at h;split at h
 ·rename_i v e;rw[fX_eq]at h;exact⟨v,[],[],n,OT_pure e,h⟩
 ·exact h.elim
def tabOf (T:Nat→Option V):List (Nat×Operand)→Option (Nat×Nat×Nat)
 |[]=>none
 |(_,.tmp d)::r=>match T d with
  |some (.a (.tab key nn))=>some (d,key,nn)
  |_=>tabOf T r
 |_::r=>tabOf T r
theorem tabOf_ok {T:Nat→Option V}:∀{ps:List (Nat×Operand)} {d key nn:Nat},tabOf T ps=some (d,key,nn)→T d=some (.a (.tab key nn))∧∃i,(i,Operand.tmp d)∈ps
 |(i,.tmp d')::r,d,key,nn,h=>by
  unfold tabOf at h;split at h
  ·rename_i k n hT;injection h with h;injection h with h1 h2;injection h2 with h2 h3;subst h1 h2 h3;exact⟨hT,i,List.mem_cons_self ..⟩
  ·obtain⟨q1,j,q2⟩:=tabOf_ok h;exact⟨q1,j,List.mem_cons_of_mem _ q2⟩
 |(i,.const _)::r,d,key,nn,h=>by
  obtain⟨q1,j,q2⟩:=tabOf_ok (ps:=r) h;exact⟨q1,j,List.mem_cons_of_mem _ q2⟩
 |(i,.func _)::r,d,key,nn,h=>by
  obtain⟨q1,j,q2⟩:=tabOf_ok (ps:=r) h;exact⟨q1,j,List.mem_cons_of_mem _ q2⟩
 |(i,.global _)::r,d,key,nn,h=>by
  obtain⟨q1,j,q2⟩:=tabOf_ok (ps:=r) h;exact⟨q1,j,List.mem_cons_of_mem _ q2⟩
inductive Fzx (nn:Nat) (K:Prop):Prop
 |mk (h:nn≤1099511627776) (k:K):Fzx nn K
theorem OT_buildFz {P:Program}{o:Oper}{T:List (Nat×V)}{h:Hp}{t e:TypeId}{parts:Array (Nat×Operand)}{d key nn k:Nat}{rows:List (List D)}{v:V}(ho:o.op= .build t parts)(hx:tabOf (look T) parts.toList=some (d,key,nn))(hh:h key=some (.tab e k rows))(hl:nn≤1099511627776)
  (hp:pureL P (evL (look ((d,.a (.d (.sl k rows)))::T))) o=some v):OT P o (look T) h v [(key,.gone)] [key]:=by
 intro T' h' γ M w a next Q hT hk hr ht hn
 obtain⟨x1,i,x2⟩:=tabOf_ok hx;have hTd:T' d=some (.a (.tab key nn)):=by
  rw[←x1];refine hT d ?_;rw[ho];simp only[Op.operands]
  first
   |exact List.mem_map.2 ⟨(i,.tmp d),x2,rfl⟩
   |simp;exact⟨i,by simpa using x2⟩
 have hh':=(hk key (by simp)).trans hh;obtain⟨M',q1,q2,q3⟩:=Lf.freeze hr hh' hl;have ht2:TR γ (over [(key,.gone)] h') M' w (fun d'=>if d=d' then some (.a (.d (.sl k rows)))else T' d') a:=by
  refine⟨ht.1.fx q2.fx,fun d' v' hv'=> ?_⟩;simp only at hv';split at hv'
  ·rename_i hdd;subst hdd;injection hv' with hv';subst hv';obtain⟨x,y1,y2⟩:=ht.2 _ _ hTd;exact⟨x,y1,q3 x y2⟩
  ·obtain⟨x,y1,y2⟩:=ht.2 d' v' hv';exact⟨x,y1,RdV.stp q2 y2⟩
 have hp':pureL P (evL (fun d'=>if d=d' then some (.a (.d (.sl k rows)))else T' d')) o=some v:=by
  rw[←hp];refine pureL_congr fun x hx=>evL_congr fun d' hd=> ?_;simp only[look];split
  ·rfl
  ·exact hT d' (hd▸hx)
 obtain⟨r,h1,h2⟩:=pureL_ok ht2 hp';unfold Oper.wp;rw[h1];exact hn r γ M' w q1 h2 q2
inductive Mmx (x:Int) (K:Int→Prop):Prop
 |mk (z:Int) (h:z=x) (k:K z):Mmx x K
theorem OT_mm {P:Program}{o:Oper}{T:Nat→Option V}{h:Hp}{x y:Operand}{ts:Array TypeId}{k k':IntKind}{a b:Int}(bt:Bool)(ho:o.op= .call {callee:= .builtin (bif bt then .max else .min),args:= #[x,y],argTypes:=ts})(hx:evL T x=some (vl (.int k a)))(hy:evL T y=some (vl (.int k' b))):
  OT P o T h (vl (.int k (bif bt then(if b>a then b else a)else(if b<a then b else a)))) [] []:=by
 intro T' h' γ M w act next Q hT hk hr ht hn
 have hx':evL T' x=some (vl (.int k a)):=by
  rw[←hx];exact evL_congr fun d hd=>hT d (by rw[ho];simp[Op.operands,Call.operands,hd])
 have hy':evL T' y=some (vl (.int k' b)):=by
  rw[←hy];exact evL_congr fun d hd=>hT d (by rw[ho];simp[Op.operands,Call.operands,hd])
 have h1:=lit_inv (evL_ok ht hx');have h2:=lit_inv (evL_ok ht hy');unfold Oper.wp
 cases bt
 ·have:(execOp act.eval o).run P w= .ok (.value (.int k (if b<a then b else a))) w:=by
   simp[execOp,ho,resolve,invoke,builtin,Builtin.min_,Builtin.min2,h1,h2]
  rw[this];exact hn _ γ M w hr (.lit _) (Stp.refl _ _ _ _)
 ·have:(execOp act.eval o).run P w= .ok (.value (.int k (if b>a then b else a))) w:=by
   simp[execOp,ho,resolve,invoke,builtin,Builtin.max_,Builtin.max2,h1,h2]
  rw[this];exact hn _ γ M w hr (.lit _) (Stp.refl _ _ _ _)
inductive Dvx (c:Prop) (x:Int) (K:Int→Prop):Prop
 |mk (z:Int) (h:c) (e:x=z) (k:K z):Dvx c x K
def isTmp:Operand→Bool
 | .tmp _=>true
 |_=>false
def fld0 (P:Program)(t:TypeId)(f:Nat):Bool:=
 match P.underlying t with
 |some (.struct fs)=>match fs[f]? with
  |some d=>Nat.beq d.offset 0&&Nat.beq d.byteOffset 0&&(match sizeT P d.type with|some 0=>true|_=>false)
  |none=>false
 |_=>false
theorem OT_fld0 {P:Program}{o:Oper}{T:Nat→Option V}{h:Hp}{t e:TypeId}{x:Operand}{f key:Nat}{cs:List A}(ho:o.op= .fieldAddr t x f)(hx:evL T x=some (.a (.ptr key 0)))(hh:h key=some (.box e cs))(he:Nat.beq (P.cellsOf e) 0=true)(hf:fld0 P t f=true):
  OT P o T h (.a (.ptr key 0)) [] [key]:=by
 intro T' h' γ M w a next Q hT hk hr ht hn
 have hx':evL T' x=some (.a (.ptr key 0)):=by
  rw[←hx];exact evL_congr fun d hd=>hT d (by rw[ho];simp[Op.operands,hd])
 have hv:=evL_ok ht hx';obtain⟨k0,g,k1,k2⟩:=hv;have hh':=(hk key (by simp)).trans hh;obtain⟨g',vs,k3,k4,k5⟩:=hr.ent key _ hh';rw[k1]at k3;injection k3 with k3;injection k3 with k3;injection k3 with k3;subst k3;have he':P.cellsOf e=0:=Nat.eq_of_beq_eq_true he;have hs:(Instr.fieldAt t (a.eval x) f).run P w= .ok (.pointer (some ⟨g,0,none⟩)) w:=by
  unfold fld0 at hf;split at hf
  ·rename_i fs h1;split at hf
   ·rename_i d h2;simp only[Bool.and_eq_true]at hf;obtain⟨⟨f1,f2⟩,f3⟩:=hf;have f1:=Nat.eq_of_beq_eq_true f1;have f2:=Nat.eq_of_beq_eq_true f2;split at f3
    ·rename_i h3;have hsh:w.shape? g=some (e,vs.length):=by simp[World.shape?,k4]
     rw[k2];simp[Instr.fieldAt,run_underlying h1,h2,Instr.sureAddr,fieldPlace,sizeT_run h3,partAt,byteOf,noView,viewAt,hsh,he',f1,f2]
    ·cases f3
   ·cases hf
  ·cases hf
 unfold Oper.wp;have:(execOp a.eval o).run P w= .ok (.value (.pointer (some ⟨g,0,none⟩))) w:=by simp[execOp,ho,hs]
 rw[this];exact hn _ γ M w hr ⟨k0,g,k1,rfl⟩ (Stp.refl _ _ _ _)
noncomputable def opR (P:Program)(o:Oper)(T:List (Nat×V))(H:List (Nat×Ent))(n:Nat)(K:V→List (Nat×Ent)→List Nat→Nat→Prop):Prop:=
 match o.op with
 | .build t ps=>(match tabOf (look T) ps.toList with
   |some (d,key,nn)=>(match look H key with
    |some (.tab e k rows)=>(match pureL P (evL (look ((d,.a (.d (.sl k rows)))::T))) o with
     |some v=>Fzx nn (fV v fun v=>K v [(key,.gone)] [key] n)
     |none=>False)
    |_=>opG P o T H n K)
   |none=>opG P o T H n K)
 | .fieldAddr t x f=>(match evL (look T) x with
   |some (.a (.ptr key 0))=>(match look H key with
    |some (.box e cs)=>if Nat.beq (P.cellsOf e) 0=true∧fld0 P t f=true then K (.a (.ptr key 0)) [] [key] n else opG P o T H n K
    |_=>opG P o T H n K)
   |_=>opG P o T H n K)
 | .indexAddr t x i=>match (evL (look T) x).bind slOf with
   |some (k,xs)=>match intV (evL (look T) i),elemT P t with
    |some z,some (_,s)=>if k=s then Ix z xs fun row=>fDs row fun row=>K (.a (.elt row 0)) [] [] n else False
    |_,_=>False
   |none=>(match evL (look T) x with
    |some (.a (.tab key nn))=>(match intV (evL (look T) i),elemT P t with
     |some z,some (_,s)=>Itx z nn fun m=>K (.a (.ptr key (m*s))) [] [] n
     |_,_=>False)
    |_=>opG P o T H n K)
 | .load t x=>(match evL (look T) x with
   |some (.a (.ptr key off))=>(match look H key with
    |some (.tab e k rows)=>(match aggT P t,sizeT P t with
     |some ag,some s=>Ltx off k s rows fun ys=>(match oneL ag ys s with
      |some v=>fX v fun v=>K v [] [key] n
      |none=>False)
     |_,_=>False)
    |_=>opG P o T H n K)
   |_=>opG P o T H n K)
 | .store t x y=>(match evL (look T) x with
   |some (.a (.ptr key off))=>(match look H key with
    |some (.tab e k rows)=>(match sizeT P t,(evL (look T) y).bind cellsV with
     |some s,some xs=>(match toDs xs with
      |some ds=>if xs.length=s∧xs.all plainA=true then Stx off k s rows ds fun rows'=>K (vl undef) [(key,.tab e k rows')] [key] n else False
      |none=>False)
     |_,_=>False)
    |_=>opG P o T H n K)
   |_=>opG P o T H n K)
 | .makeSlice t l c=>(match intV (evL (look T) l),intV (evL (look T) c),elemT P t,(look H n).isNone with
   |some z,some z',some (e,k),true=>(match zeroT P zb e with
    |some zs=>(match toDs zs with
     |some ds=>if appOk P e k=true∧zs.all plainA=true then Mkx z z' fun nn=>K (.a (.tab n nn)) [(n,.tab e k (List.replicate nn ds))] [n] (n+1)else False
     |none=>False)
    |none=>False)
   |_,_,_,_=>False)
 | .buildSlice t 0 ⟨[]⟩=>(match elemT P t with
   |some (e,k)=>Bsx (opG P o T H n K) (K (.a (.full k [])) [] [] n)
   |none=>False)
 | .makeInterface t x=>(match (evL (look T) x).bind litV,notIf P t with
   |some v,true=>K (vl (.iface t v)) [] [] n
   |_,_=>False)
 | .makeMap t none=>(match (look H n).isNone with
   |true=>Mnx (fun φ=>K (.a (.mp n)) [(n,.mp φ)] [n] (n+1)) P
   |false=>False)
 | .lookup t m x false=>(match evL (look T) m,evL (look T) x with
   |some (.a (.mp key)),some (.a (.d (.lit v)))=>(match look H key with
    |some (.mp φ)=>Lkx P t φ v fun l=>fX (vl l.value) fun v=>K v [] [key] n
    |_=>False)
   |_,_=>False)
 | .mapUpdate t m x y=>(match evL (look T) m,evL (look T) x,evL (look T) y with
   |some (.a (.mp key)),some (.a (.d (.lit v))),some (.a (.d (.lit u)))=>(match look H key with
    |some (.mp φ)=>Mux P t φ v u fun φ=>K (vl undef) [(key,.mp φ)] [key] n
    |_=>False)
   |_,_,_=>False)
 | .slice t x lo hi none=>match (evL (look T) x).bind slOf with
   |some (k,xs)=>match intO (evL (look T)) lo,intO (evL (look T)) hi,elemT P t with
    |some l,some u,some (_,s)=>if k=s then Sx l u xs fun ys=>K (.a (.d (.sl k ys))) [] [] n else False
    |_,_,_=>False
   |none=>False
 | .slice t x none (some hi) (some mx)=>match (evL (look T) x).bind slOf with
   |some (k,xs)=>match intV (evL (look T) hi),intV (evL (look T) mx),elemT P t with
    |some z,some z',some (_,s)=>if k=s then Sfx z z' xs.length (K (.a (.full k xs)) [] [] n)else False
    |_,_,_=>False
   |none=>False
 | .pick c a b=>match evL (look T) c with
   |some (.a (.d (.lit (.bool q))))=>bK q (match evL (look T) a with
     |some v=>K v [] [] n
     |none=>False) (match evL (look T) b with
     |some v=>K v [] [] n
     |none=>False)
   |_=>False
 | .binOp op t x y u=>(match evL (look T) x,evL (look T) y with
   |some (.a (.d (.lit (.int k a)))),some (.a (.d (.lit (.int k' b))))=>(match isTmp y,op with
    |true,.quo=>Dvx (b≠0∧k=k') (k.wrap (a.tdiv b)) fun z=>K (vl (.int k z)) [] [] n
    |true,.rem=>Dvx (b≠0∧k=k') (a.tmod b) fun z=>K (vl (.int k z)) [] [] n
    |true,.shl=>Dvx (0≤b) (k.wrap (a*2^(min b.toNat k.bits))) fun z=>K (vl (.int k z)) [] [] n
    |_,_=>opB P o T H n K)
   |some (.agg xs),some (.agg ys)=>(match structT P t,negE op with
    |some fs,some ng=>(match eqFs P xs ys fs with
     |some r=>Eqx (eqOk P t) (fX (vl (.bool (match ng with
      |true=> !r
      |false=>r))) fun v=>K v [] [] n)
     |none=>False)
    |_,_=>False)
   |some (.a (.d (.sl k xs))),some (.a (.d (.lit (.slice none 0 0))))=>(match negE op,xs,(elemT P t).isSome with
    |some ng,_::_,true=>K (vl (.bool ng)) [] [] n
    |_,_,_=>False)
   |some (.a (.own key k xs)),some (.a (.d (.lit (.slice none 0 0))))=>(match negE op,xs,(elemT P t).isSome with
    |some ng,_::_,true=>K (vl (.bool ng)) [] [] n
    |_,_,_=>False)
   |_,_=>opB P o T H n K)
 | .unOp op t x=>opB P o T H n K
 | .call {callee:= .builtin .min,args:=⟨[x,y]⟩,argTypes:=ts}=>(match evL (look T) x,evL (look T) y with
   |some (.a (.d (.lit (.int k a)))),some (.a (.d (.lit (.int _ b))))=>Mmx (if b<a then b else a) fun z=>K (vl (.int k z)) [] [] n
   |_,_=>False)
 | .call {callee:= .builtin .max,args:=⟨[x,y]⟩,argTypes:=ts}=>(match evL (look T) x,evL (look T) y with
   |some (.a (.d (.lit (.int k a)))),some (.a (.d (.lit (.int _ b))))=>Mmx (if b>a then b else a) fun z=>K (vl (.int k z)) [] [] n
   |_,_=>False)
 | .call {callee:= .builtin .append,args:=⟨[s,x]⟩,argTypes:=⟨[t,t']⟩}=>match (elemT P t').isSome,evL (look T) s,evL (look T) x with
   |true,some (.a (.own key k xs)),some vx=>(match elemT P t,look H key,yOf k vx with
    |some (e,k'),some (.arr e' k'' n0),some ys=>if k'=k∧k''=k∧e'=e∧appOk P e k=true then Apx n0 xs ys fun zs m=>K (.a (.own key k zs)) [(key,.arr e k m)] [key] (n+1)else False
    |_,_,_=>False)
   |true,some (.a (.d (.lit (.slice none 0 0)))),some vx=>(match elemT P t,(look H n).isNone with
    |some (e,k),true=>(match yOf k vx with
     |some ys=>if appOk P e k=true then Apx 0 [] ys fun zs m=>K (.a (.own n k zs)) [(n,.arr e k m)] [n] (n+1)else False
     |none=>False)
    |_,_=>False)
   |true,some (.a (.full k xs)),some vx=>(match elemT P t,(look H n).isNone,yOf k vx with
    |some (e,k'),true,some (y::ys)=>if k'=k∧appOk P e k=true then Aqx xs.length xs (y::ys) (fun zs m=>K (.a (.own n k zs)) [(n,.arr e k m)] [n] (n+1)) (fun zs m=>K (.a (.tab n m)) [(n,.tab e k zs)] [n] (n+1))else False
    |_,_,_=>False)
   |_,_,_=>False
 |_=>opG P o T H n K
theorem opG_ok {P:Program}{o:Oper}{T:List (Nat×V)}{H:List (Nat×Ent)}{n:Nat}{K:V→List (Nat×Ent)→List Nat→Nat→Prop}(h:opG P o T H n K):∃v sets rk n',OT P o (look T) (look H) v sets rk∧K v sets rk n':=by
 unfold opG at h;split at h
 ·rename_i v sets rk n' e;rw[fX_eq,fHs_eq,fN_eq]at h;exact⟨v,sets,rk,n',opL_ok e,h⟩
 ·exact h.elim
theorem intV_some {v:Option V}{z:Int}(h:intV v=some z):∃k,v=some (.a (.d (.lit (.int k z)))):=by
 unfold intV at h;split at h
 ·injection h with h;subst h;exact⟨_,rfl⟩
 ·cases h
theorem natO_of {ev:Operand→Option V}{x:Option Operand}{y:Option Int}{d u:Nat}(h:intO ev x=some y)(hd:y.getD (d:Int)=(u:Int)):natO ev d x=some u:=by
 cases x with
 |none=>injection h with h;subst h;simp only[Option.getD_none]at hd;exact congrArg some (by omega)
 |some x=>
  obtain⟨z,h1,h2⟩:=Option.map_eq_some_iff.1 h;subst h2;obtain⟨k,e⟩:=intV_some h1;simp only[Option.getD_some]at hd;subst hd;simp[natO,natI,e]
theorem opR_ok {P:Program}{o:Oper}{T:List (Nat×V)}{H:List (Nat×Ent)}{n:Nat}{K:V→List (Nat×Ent)→List Nat→Nat→Prop}(h:opR P o T H n K):∃v sets rk n',OT P o (look T) (look H) v sets rk∧K v sets rk n':=by
 unfold opR at h;split at h
 ·rename_i t ps e;split at h
  ·rename_i d key nn hx;split at h
   ·rename_i te k rows hh;split at h
    ·rename_i v hp;obtain⟨hl,h⟩:=h;rw[fV_eq]at h;exact⟨_,_,_,_,OT_buildFz e hx hh hl hp,h⟩
    ·exact h.elim
   ·exact opG_ok h
  ·exact opG_ok h
 ·rename_i t x f e;split at h
  ·rename_i key hx;split at h
   ·rename_i te cs hh;split at h
    ·rename_i hc;exact⟨_,_,_,_,OT_fld0 e hx hh hc.1 hc.2,h⟩
    ·exact opG_ok h
   ·exact opG_ok h
  ·exact opG_ok h
 ·rename_i t x i e;split at h
  ·rename_i k xs hx;split at h
   ·rename_i z e' s hz ht;split at h
    ·rename_i hk;obtain⟨m,row,h1,h2,h3⟩:=h;rw[fDs_eq]at h3;obtain⟨vx,q1,q2⟩:=Option.bind_eq_some_iff.1 hx;obtain⟨ik,hz⟩:=intV_some hz;refine⟨_,_,_,_,OT_pure ?_,h3⟩;unfold pureL;rw[e];have hv:(∃q,vx= .a (.d (.sl k xs))∧q=0)∨∃key,vx= .a (.own key k xs):=by
      unfold slOf at q2;split at q2
      ·injection q2 with q2;injection q2 with a b;subst a b;exact .inl ⟨0,rfl,rfl⟩
      ·injection q2 with q2;injection q2 with a b;subst a b;exact .inr ⟨_,rfl⟩
      ·cases q2
     subst h1 hk;rcases hv with⟨_,rfl,_⟩|⟨key,rfl⟩<;>simp[q1,hz,natI,slOf,ht,h2]
    ·exact h.elim
   ·exact h.elim
  ·split at h
   ·rename_i key nn hx;split at h
    ·rename_i z e' s hz ht;obtain⟨m,h1,h2,h3⟩:=h;obtain⟨ik,hz⟩:=intV_some hz;subst h1;exact⟨_,_,_,_,OT_ixt e hx (by simp[hz,natI]) ht h2,h3⟩
    ·exact h.elim
   ·exact opG_ok h
 ·rename_i t x e;split at h
  ·rename_i key off hx;split at h
   ·rename_i te k rows hh;split at h
    ·rename_i ag s h1 h2;obtain⟨m,j,row,a1,a2,a3⟩:=h;split at a3
     ·rename_i v hv;rw[fX_eq]at a3;exact⟨_,_,_,_,OT_ldt e hx hh h1 h2 a1 a2 hv,a3⟩
     ·exact a3.elim
    ·exact h.elim
   ·exact opG_ok h
  ·exact opG_ok h
 ·rename_i t x y e;split at h
  ·rename_i key off hx;split at h
   ·rename_i te k rows hh;split at h
    ·rename_i s xs h1 h2;obtain⟨vy,b1,b2⟩:=Option.bind_eq_some_iff.1 h2;split at h
     ·rename_i ds h3;split at h
      ·rename_i hc;obtain⟨m,j,row,rows',a1,a2,a3,a4,a5⟩:=h;subst a4;exact⟨_,_,_,_,OT_stt e hx b1 hh h1 b2 h3 hc.1 hc.2 a1 a2 a3,a5⟩
      ·exact h.elim
     ·exact h.elim
    ·exact h.elim
   ·exact opG_ok h
  ·exact opG_ok h
 ·rename_i t l c e;split at h
  ·rename_i z z' e' k h1 h2 h3 h4;split at h
   ·rename_i zs h5;split at h
    ·rename_i ds h6;split at h
     ·rename_i hc;obtain⟨nn,a1,a2,a3,a4⟩:=h;obtain⟨k1,e1⟩:=intV_some h1;obtain⟨k2,e2⟩:=intV_some h2;subst a1 a2;exact⟨_,_,_,_,OT_mk e (by simp[e1,natI]) (by simp[e2,natI]) h3 h5 h6 hc.1 hc.2 (by simpa using h4) a3,a4⟩
     ·exact h.elim
    ·exact h.elim
   ·exact h.elim
  ·exact h.elim
 ·rename_i t e;split at h
  ·rename_i e' k h1;rcases h with h|h
   ·exact opG_ok h
   ·exact⟨_,_,_,_,OT_bs0 e rfl h1,h⟩
  ·exact h.elim
 ·rename_i t x e;split at h
  ·rename_i v h1 h2;obtain⟨vx,q1,q2⟩:=Option.bind_eq_some_iff.1 h1;exact⟨_,_,_,_,OT_mif e q1 q2 h2,h⟩
  ·exact h.elim
 ·rename_i t e;split at h
  ·rename_i hn;obtain⟨k,e',h1⟩:=h;exact⟨_,_,_,_,OT_mkmap e (by simpa using hn),h1⟩
  ·exact h.elim
 ·rename_i t m x e;split at h
  ·rename_i key v hm hx;split at h
   ·rename_i φ hh;obtain⟨k,e',nn,D,kl,zl,l,hok,h1⟩:=h;rw[fX_eq]at h1;exact⟨_,_,_,n,OT_look e hm hx hh hok,h1⟩
   ·exact h.elim
  ·exact h.elim
 ·rename_i t m x y e;split at h
  ·rename_i key v u hm hx hy;split at h
   ·rename_i φ hh;obtain⟨k,e',nn,D,kl,l,hok,h1⟩:=h;exact⟨_,_,_,n,OT_mu e hm hx hy hh hok,h1⟩
   ·exact h.elim
  ·exact h.elim
 ·rename_i t x lo hi e;split at h
  ·rename_i k xs hx;split at h
   ·rename_i l u e' s hl hu ht;split at h
    ·rename_i hk;obtain⟨l',u',ys,h1,h2,h3,h4,h5,h6⟩:=h;refine⟨_,_,_,_,OT_pure ?_,h6⟩;unfold pureL;rw[e];simp only[hx,ht,natO_of hl (d:=0) (by simpa using h1),natO_of hu h2,show natO (evL (look T)) xs.length none=some xs.length from rfl];rw[if_pos ⟨hk,h3,h4,lR_ _,by simp⟩,h5]
    ·exact h.elim
   ·exact h.elim
  ·exact h.elim
 ·rename_i t x hi mx e;split at h
  ·rename_i k xs hx;split at h
   ·rename_i z z' e' s hz hz' ht;split at h
    ·rename_i hk;obtain⟨h1,h2,h3⟩:=h;subst h1 h2 hk;exact⟨_,_,_,_,OT_full e hx hz hz' ht,h3⟩
    ·exact h.elim
   ·exact h.elim
  ·exact h.elim
 ·rename_i c a b e;split at h
  ·rename_i q hq
   cases q with
   |true=>
    simp only[bK]at h;split at h
    ·rename_i v hv;refine⟨_,_,_,_,OT_pure ?_,h⟩;unfold pureL;rw[e];simp[hq,hv]
    ·exact h.elim
   |false=>
    simp only[bK]at h;split at h
    ·rename_i v hv;refine⟨_,_,_,_,OT_pure ?_,h⟩;unfold pureL;rw[e];simp[hq,hv]
    ·exact h.elim
  ·exact h.elim
 ·rename_i op t x y u e;split at h
  ·rename_i k a k' b h1 h2;split at h
   ·obtain⟨z,⟨g1,rfl⟩,rfl,a4⟩:=h;exact⟨_,_,_,_,OT_pure (by unfold pureL;rw[e];simp[h1,h2,binL,g1]),a4⟩
   ·obtain⟨z,⟨g1,rfl⟩,rfl,a4⟩:=h;exact⟨_,_,_,_,OT_pure (by unfold pureL;rw[e];simp[h1,h2,binL,g1]),a4⟩
   ·obtain⟨z,g1,rfl,a4⟩:=h;exact⟨_,_,_,_,OT_pure (by unfold pureL;rw[e];simp[h1,h2,binL,Int.not_lt.2 g1]),a4⟩
   ·exact opB_ok h
  ·rename_i xs ys h1 h2;split at h
   ·rename_i fs ng h3 h4;split at h
    ·rename_i r h5;obtain⟨a1,a2⟩:=h;rw[fX_eq]at a2;have hop:op= .eql∨op= .neq:=by unfold negE at h4;split at h4<;>simp_all
     refine⟨_,_,_,n,OT_eq e hop h1 h2 h3 h5 a1,?_⟩;rcases hop with rfl|rfl<;>(simp only[negE]at h4;injection h4 with h4;subst h4;exact a2)
    ·exact h.elim
   ·exact h.elim
  ·rename_i k xs h1 h2;split at h
   ·rename_i ng r rs h3 h4;have hop:op= .eql∨op= .neq:=by unfold negE at h3;split at h3<;>simp_all
    refine⟨_,_,_,n,OT_nz e hop h1 rfl h2 h4,?_⟩;rcases hop with rfl|rfl<;>(simp only[negE]at h3;injection h3 with h3;subst h3;exact h)
   ·exact h.elim
  ·rename_i key k xs h1 h2;split at h
   ·rename_i ng r rs h3 h4;have hop:op= .eql∨op= .neq:=by unfold negE at h3;split at h3<;>simp_all
    refine⟨_,_,_,n,OT_nz e hop h1 rfl h2 h4,?_⟩;rcases hop with rfl|rfl<;>(simp only[negE]at h3;injection h3 with h3;subst h3;exact h)
   ·exact h.elim
  ·exact opB_ok h
 ·exact opB_ok h
 ·rename_i x y ts e;split at h
  ·rename_i k a k' b h1 h2;obtain⟨z,rfl,a4⟩:=h;exact⟨_,_,_,_,OT_mm false e h1 h2,a4⟩
  ·exact h.elim
 ·rename_i x y ts e;split at h
  ·rename_i k a k' b h1 h2;obtain⟨z,rfl,a4⟩:=h;exact⟨_,_,_,_,OT_mm true e h1 h2,a4⟩
  ·exact h.elim
 ·rename_i s x t t' e;split at h
  ·rename_i key k xs vx h1 h2 h3;split at h
   ·rename_i e1 k' e' k'' n0 ys g1 g2 g3;split at h
    ·rename_i hc;obtain⟨zs,a1,a2,a3,a4⟩:=h;subst a2;refine⟨_,_,_,_,OT_append e h1 h2 h3 (n:=n) ?_,a4⟩;simp only[appL,g1,g2,g3];rw[if_pos ⟨hc.1,hc.2.1,hc.2.2.1,a1,hc.2.2.2,by simpa using a3⟩];simp
    ·exact h.elim
   ·exact h.elim
  ·rename_i vx h1 h2 h3;split at h
   ·rename_i e1 k g1 g2;split at h
    ·rename_i ys g3;split at h
     ·rename_i hc;obtain⟨zs,a1,a2,a3,a4⟩:=h;simp only[List.nil_append]at a2;subst a2;refine⟨_,_,_,_,OT_append e h1 h2 h3 (n:=n) ?_,a4⟩;simp only[appL,g1,g2,g3];rw[if_pos ⟨hc,a3⟩]
     ·exact h.elim
    ·exact h.elim
   ·exact h.elim
  ·rename_i k xs vx h1 h2 h3;split at h
   ·rename_i e1 k' y ys g1 g2 g3;split at h
    ·rename_i hc;obtain⟨hc1,hc2⟩:=hc;subst hc1;rcases h with⟨zs,a1,a2,a3,a4⟩|⟨zs,a2,a3,a1,a4⟩
     ·subst a2;rw[List.length_append]at a4;exact⟨_,_,_,_,OT_appfull (n:=n) e h1 h2 h3 g3 g1 hc2 (by simpa using g2) (by simp) (by rw[List.length_append]at a3;exact a3),a4⟩
     ·subst a2;exact⟨_,_,_,_,OT_apptab (n:=n) e h1 h2 h3 g3 g1 hc2 (by simpa using g2) (by simp) (by rw[List.length_append]at a3;exact a3) a1,a4⟩
    ·exact h.elim
   ·exact h.elim
  ·exact h.elim
 ·exact opG_ok h
def dstB (N:Nat):Option Nat→Bool
 |some d=>Nat.blt d N
 |none=>true
def ftOf (draw:Bool)(ops:Array Oper)(o:Oper)(sets:List (Nat×Ent))(rk:List Nat)(rs:List Ft):List Ft:=
 match draw with
 |true=>rs++[⟨o.dst,sets.map (·.1),rk,slotsOf ops o⟩]
 |false=>rs
def putT (dst:Option Nat)(v:V)(T:List (Nat×V))(K:List (Nat×V)→Prop):Prop:=match dst with
 |some d=>K ((d,v)::T)
 |none=>K T
def putH (sets:List (Nat×Ent))(H:List (Nat×Ent))(K:List (Nat×Ent)→Prop):Prop:=match sets with
 |[]=>K H
 |[p]=>K (p::H)
 |p::q::r=>K (p::q::(r++H))
noncomputable def gK (ops:Array Oper)(o:Oper)(T:List (Nat×V))(A B:Prop):Prop:=match o.guard with
 |none=>A
 |some _=>(match gslot ops o with
  |some (d,want)=>(match look T d with
   |some (.a (.d (.lit (.bool b))))=>(match want with
    |true=>bK b A B
    |false=>bK b B A)
   |some (.a (.d (.lit (.tuple _))))=>B
   |_=>False)
  |none=>False)
theorem gK_ok {ops:Array Oper}{o:Oper}{T:List (Nat×V)}{A B:Prop}(h:gK ops o T A B):(gW ops o (look T)=some true∧A)∨(gW ops o (look T)=some false∧B):=by
 unfold gK at h;unfold gW;split at h
 ·rename_i e
  try rw[e]
  exact .inl ⟨by first|rfl|trivial,h⟩
 ·rename_i e
  try rw[e]
  split at h
  ·rename_i d want e2
   try simp only[e2]
   split at h
   ·rename_i b e3
    try simp only[e3]
    cases want<;>cases b<;>first|exact .inl ⟨by first|rfl|trivial,h⟩|exact .inr ⟨by first|rfl|trivial,h⟩
   ·rename_i e3
    try simp only[e3]
    exact .inr ⟨by first|rfl|trivial,h⟩
   ·exact h.elim
  ·exact h.elim
inductive Nc (ops:Array Oper) (rs:List Ft) (A:Prop):Prop
 |mk (h:(noConf rs (masks ops.toList [])&&edgesOk ops)=true) (k:A):Nc ops rs A
def chE (draw:Bool)(ops:Array Oper)(rs:List Ft)(A:Prop):Prop:=match draw with
 |true=>Nc ops rs A
 |false=>A
def chD (N:Nat)(d:Option Nat)(A:Prop):Prop:=match dstB N d with
 |true=>A
 |false=>False
def invOf (o:Oper):Option (Operand×String×List Operand):=
 match o.op with
 | .call c=>match c.callee with
   | .invoke x m=>some (x,m,c.args.toList)
   |_=>none
 |_=>none
noncomputable def opC (P:Program)(o:Oper)(T:List (Nat×V))(H:List (Nat×Ent))(n:Nat)(K:V→List (Nat×Ent)→List Nat→Nat→Prop):Prop:=match callOf o with
 |some (f,xs)=>(match evL (look T) f with
  |some (.a (.fn (.func F) first caps))=>(match evs (evL (look T)) xs with
   |some vs=>fVs (first.map bv++(vs++caps.map bv)) fun vs=>Cn P F vs H n K
   |none=>False)
  |_=>False)
 |none=>(match invOf o with
  |some (x,m,xs)=>(match evL (look T) x with
   |some (.a (.d (.lit (.iface t v))))=>(match evs (evL (look T)) xs with
    |some vs=>Inx P t v m fun F r=>fVs (cst r::vs) fun vs=>Cn P F vs H n K
    |none=>False)
   |_=>False)
  |none=>opR P o T H n K)
noncomputable def chR (P:Program)(N:Nat)(draw:Bool)(ops:Array Oper)(l:List Oper):List (Nat×V)→List (Nat×Ent)→Nat→List Ft→(List (Nat×V)→List (Nat×Ent)→Nat→Prop)→Prop:=
 List.rec (motive:=fun _=>List (Nat×V)→List (Nat×Ent)→Nat→List Ft→(List (Nat×V)→List (Nat×Ent)→Nat→Prop)→Prop)
  (fun T H n rs K=>chE draw ops rs (K T H n))
  (fun o _ ih T H n rs K=>chD N o.dst (gK ops o T
   (opC P o T H n fun v sets rk n'=>fN n' fun n'=>putT o.dst v T fun T'=>putH sets H fun H'=>ih T' H' n' (ftOf draw ops o sets rk rs) K)
   (putT o.dst (vl undef) T fun T'=>ih T' H n (ftOf draw ops o [] [] rs) K))) l
theorem chR_nil {P:Program}{N:Nat}{draw:Bool}{ops:Array Oper}{T:List (Nat×V)}{H:List (Nat×Ent)}{n:Nat}{rs:List Ft}{K:List (Nat×V)→List (Nat×Ent)→Nat→Prop}:chR P N draw ops [] T H n rs K=chE draw ops rs (K T H n):=rfl
theorem chR_cons {P:Program}{N:Nat}{draw:Bool}{ops:Array Oper}{o:Oper}{r:List Oper}{T:List (Nat×V)}{H:List (Nat×Ent)}{n:Nat}{rs:List Ft}{K:List (Nat×V)→List (Nat×Ent)→Nat→Prop}:
  chR P N draw ops (o::r) T H n rs K=chD N o.dst (gK ops o T
   (opC P o T H n fun v sets rk n'=>fN n' fun n'=>putT o.dst v T fun T'=>putH sets H fun H'=>chR P N draw ops r T' H' n' (ftOf draw ops o sets rk rs) K)
   (putT o.dst (vl undef) T fun T'=>chR P N draw ops r T' H n (ftOf draw ops o [] [] rs) K)):=rfl
theorem putT_eq {dst:Option Nat}{v:V}{T:List (Nat×V)}{K:List (Nat×V)→Prop}:putT dst v T K=K (wrT dst v++T):=by cases dst<;>rfl
theorem putH_eq {sets H:List (Nat×Ent)}{K:List (Nat×Ent)→Prop}:putH sets H K=K (sets++H):=by
 cases sets with
 |nil=>rfl
 |cons p r=>cases r<;>rfl
theorem dstB_ok {N:Nat}{d:Option Nat}(h:dstB N d=true):∀x,d=some x→x<N:=by
 intro x e;subst e;simpa [dstB,Nat.blt_eq]using h
theorem cn_ok {P:Program}{T:List (Nat×V)}{H:List (Nat×Ent)}{n:Nat}{F:FuncId}{vs:List V}{o:Oper}{K:V→List (Nat×Ent)→List Nat→Nat→Prop}
  (hen:Enters P o (look T) F vs) (h:Cn P F vs H n K):∃v sets rk n',OT P o (look T) (look H) v sets rk∧K v sets rk n':=by
 cases h with
 |pure gs R he hl hw hg hk=>
  obtain⟨v,H',hR,hl⟩:=hl;obtain⟨rfl,k2,k3⟩:=hk v H' hR;rw[fX_eq]at k3;have hkeys:gs.flatMap keysV=[]:=List.isEmpty_iff.1 hg;have hid:gs.map (renV fun k=>([]:List Nat).idxOf k)=gs:=by
   have:∀l:List V,l.flatMap keysV=[]→l.map (renV fun k=>([]:List Nat).idxOf k)=l:=by
    intro l hl;have hB:∀x:BA,keysB x=[]→renB (fun k=>([]:List Nat).idxOf k) x=x:=fun x hx=>by cases x<;>first|rfl|simp[keysB]at hx
    have hBs:∀l:List BA,l.flatMap keysB=[]→l.map (renB fun k=>([]:List Nat).idxOf k)=l:=fun l hl=>by
     rw[List.flatMap_eq_nil_iff]at hl;exact(List.map_congr_left fun x hx=>hB x (hl x hx)).trans (List.map_id _)
    have hA:∀x:A,keysA x=[]→renA (fun k=>([]:List Nat).idxOf k) x=x:=fun x hx=>by
     cases x<;>first|rfl|(simp[keysA]at hx;done)|skip
     simp only[keysA,List.append_eq_nil_iff]at hx;simp only[renA,hBs _ hx.1,hBs _ hx.2]
    have hAs:∀l:List A,l.flatMap keysA=[]→l.map (renA fun k=>([]:List Nat).idxOf k)=l:=fun l hl=>by
     rw[List.flatMap_eq_nil_iff]at hl;exact(List.map_congr_left fun x hx=>hA x (hl x hx)).trans (List.map_id _)
    have hW:∀x:W,keysW x=[]→renW (fun k=>([]:List Nat).idxOf k) x=x:=fun x hx=>by
     cases x with
     |s x=>simp only[renW,hA x hx]
     |g xs=>simp only[renW,hAs xs hx]
    have hV:∀x:V,keysV x=[]→renV (fun k=>([]:List Nat).idxOf k) x=x:=fun x hx=>by
     cases x with
     |a x=>simp only[renV,hA x hx]
     |agg xs=>simp only[renV,hAs xs hx]
     |tup xs=>
      simp only[renV];simp only[keysV,List.flatMap_eq_nil_iff]at hx;rw[(List.map_congr_left fun x hx'=>hW x (hx x hx')).trans (List.map_id _)]
    rw[List.flatMap_eq_nil_iff]at hl;exact(List.map_congr_left fun x hx=>hV x (hl x hx)).trans (List.map_id _)
   exact this gs hkeys
  have hrv:renV (back [] n) v=v:=by
   have hB:∀x:BA,keysB x=[]→renB (back [] n) x=x:=fun x hx=>by cases x<;>first|rfl|simp[keysB]at hx
   have hBs:∀l:List BA,l.flatMap keysB=[]→l.map (renB (back [] n))=l:=fun l hl=>by
    rw[List.flatMap_eq_nil_iff]at hl;exact(List.map_congr_left fun x hx=>hB x (hl x hx)).trans (List.map_id _)
   have hA:∀x:A,keysA x=[]→renA (back [] n) x=x:=fun x hx=>by
    cases x<;>first|rfl|(simp[keysA]at hx;done)|skip
    simp only[keysA,List.append_eq_nil_iff]at hx;simp only[renA,hBs _ hx.1,hBs _ hx.2]
   have hAs:∀l:List A,l.flatMap keysA=[]→l.map (renA (back [] n))=l:=fun l hl=>by
    rw[List.flatMap_eq_nil_iff]at hl;exact(List.map_congr_left fun x hx=>hA x (hl x hx)).trans (List.map_id _)
   have hW:∀x:W,keysW x=[]→renW (back [] n) x=x:=fun x hx=>by
    cases x with
    |s x=>simp only[renW,hA x hx]
    |g xs=>simp only[renW,hAs xs hx]
   cases v with
   |a x=>simp only[renV,hA x k2]
   |agg xs=>simp only[renV,hAs xs k2]
   |tup xs=>
    simp only[renV];simp only[keysV,List.flatMap_eq_nil_iff]at k2;rw[(List.map_congr_left fun x hx'=>hW x (k2 x hx')).trans (List.map_id _)]
  have:=OT_enter (h:=look H) (base:=n) (ks:=[]) (Hs:=[]) (H1:=[]) hen hw List.nodup_nil (fun k hk=>by simp at hk) rfl (by rw[hkeys];simp) (by rw[hid];exact hl) rfl (fun p hp=>by simp at hp);rw[hrv]at this;exact⟨v,[],[],n,by simpa using this,k3⟩
 |lend ks gs Hs R he hl hw hn hb hle hg hk=>
  obtain⟨v,H1,hR,hl⟩:=hl;obtain⟨k1,k2,k3⟩:=hk v H1 hR;rw[fX_eq,fHs_eq]at k3;exact⟨_,_,_,_,OT_enter hen hw hn hb hle hg hl k1 k2,k3⟩
 |lendK ks gs Hs R he hl hw hn hb hle hg hk=>
  obtain⟨v,H1,hR,hl⟩:=hl;obtain⟨k2,k3⟩:=hk v H1 hR;rw[fX_eq,fHs_eq]at k3;exact⟨_,_,_,_,OT_enterK hen hw hn hb hle hg hl k2,k3⟩
theorem cn_ent {P:Program}{F:FuncId}{vs:List V}{H:List (Nat×Ent)}{n:Nat}{K:V→List (Nat×Ent)→List Nat→Nat→Prop}(h:Cn P F vs H n K):entT P F=true:=by cases h<;>assumption
theorem chR_facts {P:Program}{N:Nat}{draw:Bool}{ops:Array Oper}{K:List (Nat×V)→List (Nat×Ent)→Nat→Prop}:∀(l:List Oper) (T:List (Nat×V)) (H:List (Nat×Ent)) (n:Nat) (rs:List Ft),chR P N draw ops l T H n rs K→
  ∃recs T' H' n',Facts P N ops recs T H T' H'∧recs.map (·.o)=l∧(draw=true→noConf (rs++recs.map (·.ft ops)) (masks ops.toList [])=true∧edgesOk ops=true)∧K T' H' n'
 |[],T,H,n,rs,hc=>by
  rw[chR_nil]at hc;unfold chE at hc
  cases draw with
  |true=>
   obtain⟨e,hc⟩:=hc;rw[Bool.and_eq_true]at e;exact⟨[],T,H,n,.nil T H,rfl,fun _=>by simpa using e,hc⟩
  |false=>exact⟨[],T,H,n,.nil T H,rfl,(fun h=>absurd h (by simp)),hc⟩
 |o::r,T,H,n,rs,hc=>by
  rw[chR_cons]at hc;unfold chD at hc;split at hc
  ·rename_i hd;have hdst:=dstB_ok hd
   have go:∀v sets rk n',(gW ops o (look T)=some true∧OT P o (look T) (look H) v sets rk)∨(gW ops o (look T)=some false∧v=vl undef∧sets=[])→
     chR P N draw ops r (wrT o.dst v++T) (sets++H) n' (ftOf draw ops o sets rk rs) K→
     ∃recs T' H' n',Facts P N ops recs T H T' H'∧recs.map (·.o)=o::r∧(draw=true→noConf (rs++recs.map (·.ft ops)) (masks ops.toList [])=true∧edgesOk ops=true)∧K T' H' n':=by
    intro v sets rk n' hf hk;obtain⟨recs,T',H',n2,f1,f2,f3,f4⟩:=chR_facts r _ _ _ _ hk;refine⟨⟨o,v,sets,rk⟩::recs,T',H',n2,.cons _ _ _ _ _ _ ⟨hdst,hf⟩ f1,by simp[f2],fun hdr=> ?_,f4⟩;subst hdr;simpa [ftOf,Rec.ft]using f3 rfl
   rcases gK_ok hc with⟨hb,hc⟩|⟨hb,hc⟩
   ·unfold opC at hc;split at hc
    ·rename_i f xs hcall;split at hc
     ·rename_i F first caps hf
      split at hc
      ·rename_i vs hvs;rw[fVs_eq,←List.append_assoc]at hc;have hen:Enters P o (look T) F (first.map bv++vs++caps.map bv):=by
        unfold callOf at hcall;split at hcall
        ·rename_i c e;split at hcall
         ·rename_i f' e2;injection hcall with hcall;injection hcall with c1 c2;subst c1 c2;exact enters_call e e2 hf hvs (cn_ent hc)
         ·cases hcall
        ·cases hcall
       obtain⟨v,sets,rk,n',k1,k2⟩:=cn_ok hen hc;rw[fN_eq,putT_eq,putH_eq]at k2;exact go v sets rk n' (.inl ⟨hb,k1⟩) k2
      ·exact hc.elim
     ·exact hc.elim
    split at hc
    ·rename_i x m xs hcall;split at hc
     ·rename_i t v hx;split at hc
      ·rename_i vs hvs;obtain⟨F,r,hm,hc⟩:=hc;rw[fVs_eq]at hc;have hen:Enters P o (look T) F (cst r::vs):=by
        unfold invOf at hcall;split at hcall
        ·rename_i c e;split at hcall
         ·rename_i x' m' e2;injection hcall with hcall;injection hcall with c1 c2;injection c2 with c2 c3;subst c1 c2 c3;exact enters_inv e e2 hx hvs hm (cn_ent hc)
         ·cases hcall
        ·cases hcall
       obtain⟨v,sets,rk,n',k1,k2⟩:=cn_ok hen hc;rw[fN_eq,putT_eq,putH_eq]at k2;exact go v sets rk n' (.inl ⟨hb,k1⟩) k2
      ·exact hc.elim
     ·exact hc.elim
    ·obtain⟨v,sets,rk,n',k1,k2⟩:=opR_ok hc;rw[fN_eq,putT_eq,putH_eq]at k2;exact go v sets rk n' (.inl ⟨hb,k1⟩) k2
   ·simp only[putT_eq]at hc;exact go _ [] [] n (.inr ⟨hb,rfl,rfl⟩) (by simpa using hc)
  ·exact hc.elim
def qSeq (K:St→Prop)(Q:Exit→St→Prop)(e:Exit)(s:St):Prop:=match e with
 | .normal=>K s
 |e=>Q e s
inductive Ln (body:(Exit→St→Prop)→St→Prop) (m:Nat) (Q:Exit→St→Prop) (s:St):Prop
 |mk (β:Type) (inv:β→St) (ok:β→Prop) (μ:β→Nat) (b0:β) (h0:Wk m s (inv b0)) (h1:ok b0) (step:∀b,ok b→body (qSeq (fun s'=>∃b',Wk m s' (inv b')∧ok b'∧μ b'<μ b) Q) (inv b)):Ln body m Q s
 |mkw (β:Type) (inv:β→St) (ok:β→Prop) (μ:β→Nat) (b0:β) (h0:Wk m s (inv b0)) (h1:ok b0) (step:∀b,ok b→body (qSeq (fun s'=>∃b',Wk m s' (inv b')∧ok b'∧μ b'<μ b) fun e s'=>∃s2,Wk m s' s2∧Q e s2) (inv b)):Ln body m Q s
noncomputable def rnR (P:Program)(N:Nat)(ops:Array Oper)(draw:Bool)(Q:Exit→St→Prop)(s:St):Prop:=match s with
 |⟨T,H,n⟩=>chR P N draw ops ops.toList T H n [] fun T H n=>Q .normal ⟨T,H,n⟩
noncomputable def rnC (c:Operand)(s:St)(A B:Prop):Prop:=match s with
 |⟨T,_,_⟩=>(match evL (look T) c with
  |some (.a (.d (.lit (.bool b))))=>bK b A B
  |_=>False)
def qBlock (id:Nat)(Q:Exit→St→Prop)(e:Exit)(s:St):Prop:=match e with
 | .exit id'=>(match Nat.beq id' id with
   |true=>Q .normal s
   |false=>Q (.exit id') s)
 |e=>Q e s
def qScope (Q:Exit→St→Prop)(e:Exit)(s:St):Prop:=match e with
 | .goto _=>False
 |e=>Q e s
noncomputable def rn (P:Program)(N m:Nat)(c:Code):(Exit→St→Prop)→St→Prop:=
 Code.rec (motive:=fun _=>(Exit→St→Prop)→St→Prop)
  (fun Q s=>Q .normal s)
  (fun _ ops draw Q s=>rnR P N ops draw Q s)
  (fun _ _ x y Q s=>x (qSeq (fun s'=>y Q s') Q) s)
  (fun c _ _ x y Q s=>rnC c s (x Q s) (y Q s))
  (fun id _ x Q s=>x (qBlock id Q) s)
  (fun _ x Q s=>Ln x m Q s)
  (fun _ _ _ _ _ _ _ _=>False)
  (fun id Q s=>Q (.exit id) s)
  (fun _ x Q s=>x (qScope Q) s)
  (fun _ Q s=>Q .normal s)
  (fun _ _ _=>False)
  (fun Q s=>Q .ret s)
  (fun _ _ _=>False) c
def Ev (P:Program)(N m:Nat)(c:Code)(s:St)(e:Exit)(s':St):Prop:=
 ∀(γ0:Gh) (h0:Hp) (M0:MS) (w0:World) (a:Act) (w:World) (Q:Exit→Act→World→Prop),(∀key,(h0 key).isSome=true→key<m)→(∀b i,M0 b i→b<w0.heap.size)→
  SR N γ0 h0 M0 w0 (look s.T) (look s.H) a w→(∀a' w',SR N γ0 h0 M0 w0 (look s'.T) (look s'.H) a' w'→Q e a' w')→c.wp P Q a w
def Det (P:Program)(N m:Nat)(c:Code)(s:St)(Φ:Exit→St→Prop):Prop:=∃e s',Φ e s'∧Ev P N m c s e s'
section
variable {P:Program} {N m:Nat}
theorem Ev.seqN {x y:Code}{s s1 s2:St}{e:Exit}(h:Ev P N m x s .normal s1)(k:Ev P N m y s1 e s2):Ev P N m (.seq x y) s e s2:=
 fun γ0 h0 M0 w0 a w Q hm hd hS hQ=>wp_seq (h γ0 h0 M0 w0 a w _ hm hd hS fun a' w' hS'=>k γ0 h0 M0 w0 a' w' Q hm hd hS' hQ)
theorem Ev.seqX {x y:Code}{s s1:St}{e:Exit}(he:e≠ .normal)(h:Ev P N m x s e s1):Ev P N m (.seq x y) s e s1:=
 fun γ0 h0 M0 w0 a w Q hm hd hS hQ=>wp_seq (h γ0 h0 M0 w0 a w _ hm hd hS fun a' w' hS'=>by cases e<;>first|exact absurd rfl he|exact hQ a' w' hS')
theorem Ev.out {c:Code}{s s1 s2:St}{e:Exit}(h:Ev P N m c s e s1)(k:Wk m s1 s2):Ev P N m c s e s2:=
 fun γ0 h0 M0 w0 a w Q hm hd hS hQ=>h γ0 h0 M0 w0 a w Q hm hd hS fun a' w' hS'=>hQ a' w' (k N γ0 h0 M0 w0 a' w' hm hd hS')
def EvL (P:Program)(N m:Nat)(c:Code)(s:St)(e:Exit)(s':St):Prop:=
 ∀(γ0:Gh) (h0:Hp) (M0:MS) (w0:World) (a:Act) (w:World) (Q:Exit→Act→World→Prop),(∀key,(h0 key).isSome=true→key<m)→(∀b i,M0 b i→b<w0.heap.size)→
  SR N γ0 h0 M0 w0 (look s.T) (look s.H) a w→(∀a' w',SR N γ0 h0 M0 w0 (look s'.T) (look s'.H) a' w'→Q e a' w')→
  ∀(bb:Frame) (k:List Item) (cs:List Frame),∃e a' w',Q e a' w'∧Arrives P (lone (bb.at a (.code c:: .inLoop c::k)) cs w) bb k cs e a' w'
theorem EvL.more {c:Code}{s s1 s2:St}{e:Exit}(h:Ev P N m c s .normal s1)(k:EvL P N m c s1 e s2):EvL P N m c s e s2:=by
 intro γ0 h0 M0 w0 a w Q hm hd hS hQ bb k' cs;obtain⟨e1,a1,w1,hq,harr⟩:=h γ0 h0 M0 w0 a w (Exit.then (fun a' w'=>SR N γ0 h0 M0 w0 (look s1.T) (look s1.H) a' w') (fun _ _ _=>False)) hm hd hS (fun a' w' hS'=>hS') bb (.inLoop c::k') cs
 cases e1 with
 |normal=>
  obtain⟨e2,a2,w2,hq2,harr2⟩:=k γ0 h0 M0 w0 a1 w1 Q hm hd hq hQ bb k' cs;exact⟨e2,a2,w2,hq2,.of_steps (Steps.trans harr (.one step_inLoop)) harr2⟩
 |_=>exact hq.elim
theorem EvL.last {c:Code}{s s1:St}{e:Exit}(he:e≠ .normal)(h:Ev P N m c s e s1):EvL P N m c s e s1:=by
 intro γ0 h0 M0 w0 a w Q hm hd hS hQ bb k' cs;obtain⟨e1,a1,w1,⟨hq,rfl⟩,harr⟩:=h γ0 h0 M0 w0 a w (fun e' a' w'=>SR N γ0 h0 M0 w0 (look s1.T) (look s1.H) a' w'∧e'=e) hm hd hS (fun a' w' hS'=>⟨hS',rfl⟩) bb (.inLoop c::k') cs;exact⟨e1,a1,w1,hQ _ _ hq,.pass (x:= .inLoop c) rfl (fun _ _=> .inl he) harr⟩
theorem EvL.wk {c:Code}{s s0 s1:St}{e:Exit}(h:EvL P N m c s e s1)(k:Wk m s0 s):EvL P N m c s0 e s1:=
 fun γ0 h0 M0 w0 a w Q hm hd hS hQ=>h γ0 h0 M0 w0 a w Q hm hd (k _ _ _ _ _ _ _ hm hd hS) hQ
theorem EvL.loop {c:Code}{s s1:St}{e:Exit}(h:EvL P N m c s e s1):Ev P N m (.loop c) s e s1:=by
 intro γ0 h0 M0 w0 a w Q hm hd hS hQ bb k' cs;obtain⟨e1,a1,w1,hq,harr⟩:=h γ0 h0 M0 w0 a w Q hm hd hS hQ bb k' cs;exact⟨e1,a1,w1,hq,.of_steps (.one step_loop) harr⟩
theorem Det.mono {c:Code}{s:St}{Φ Ψ:Exit→St→Prop}(h:Det P N m c s Φ)(k:∀e s',Φ e s'→Ψ e s'):Det P N m c s Ψ:=let ⟨e,s',h1,h2⟩:=h;⟨e,s',k _ _ h1,h2⟩
theorem region_ev (hmx:P.follows .mixedOrders=true){id:Nat}{ops:Array Oper}{draw:Bool}{recs:List Rec}{s:St}{T':List (Nat×V)}{H':List (Nat×Ent)}{n':Nat}(f1:Facts P N ops recs s.T s.H T' H')(f2:recs.map (·.o)=ops.toList)
  (f3:draw=true→noConf (recs.map (·.ft ops)) (masks ops.toList [])=true∧edgesOk ops=true):Ev P N m (.region id ops draw) s .normal ⟨T',H',n'⟩:=by
 intro γ0 h0 M0 w0 a w Q hm hd hS hQ;have hlen:recs.length=ops.size:=by rw[←List.length_map (f:=(·.o)),f2];simp
 have hget:∀(j:Nat) (r:Rec),recs[j]? =some r→ops[j]? =some r.o:=by
  intro j r hr;have h1:ops.toList[j]? =some r.o:=by rw[←f2,List.getElem?_map,hr];rfl
  simpa using h1
 cases draw with
 |false=>
  refine wp_region ?_;have:=facts_plain (ops:=ops) hd f1 (Q:=Q) 0 a w (fun j r hj=>by rw[Nat.zero_add];exact hget j r hj) hS fun a' w' hS'=>hQ _ _ hS';simpa [hlen]using this
 |true=>
  obtain⟨f5,f6⟩:=f3 rfl;refine wp_region_any hmx ?_;refine facts_any hd f1 f2 f5 f6 (fun a' w' hS'=>hQ _ _ hS') ops.size _ a _ (by simp) (by simp[unl,List.countP_replicate]) (fun i o hi=> ?_) ?_
  ·exfalso;rw[Array.getD_eq_getD_getElem?]at hi
   by_cases hlt:i<ops.size
   ·simp[hlt]at hi
   ·simp[hlt]at hi
  ·have hnone:∀{β:Type} (zs:List (List (Nat×β))) (i:Nat) (S:Nat→Bool) (T:List (Nat×β)),(∀j,S j=false)→sel zs i S T=T:=by
    intro β zs
    induction zs with
    |nil=>intros;rfl
    |cons z zs ih=>intro i S T hs;simp only[sel];rw[hs i];exact ih _ _ _ hs
   have hfalse:∀j,(Array.replicate ops.size false).getD j false=false:=by
    intro j;rw[Array.getD_eq_getD_getElem?];by_cases hlt:j<ops.size<;>simp[hlt]
   rw[hnone _ _ _ _ hfalse,hnone _ _ _ _ hfalse];exact hS.drew hd
theorem rn_det (hmx:P.follows .mixedOrders=true):∀(c:Code) (Φ:Exit→St→Prop) (s:St),rn P N m c Φ s→Det P N m c s Φ:=by
 intro c
 induction c with
 |skip=>intro Φ s h;exact⟨.normal,s,h,fun γ0 h0 M0 w0 a w Q hm hd hS hQ=>wp_skip (hQ _ _ hS)⟩
 |label l=>intro Φ s h;exact⟨.normal,s,h,fun γ0 h0 M0 w0 a w Q hm hd hS hQ=>wp_label (hQ _ _ hS)⟩
 |region id ops draw=>
  intro Φ s h;obtain⟨recs,T',H',n',f1,f2,f3,f4⟩:=chR_facts _ _ _ _ _ (show chR P N draw ops ops.toList s.T s.H s.n [] fun T H n=>Φ .normal ⟨T,H,n⟩from h);exact⟨.normal,_,f4,region_ev hmx f1 f2 (by simpa using f3)⟩
 |seq x y ihx ihy=>
  intro Φ s h;obtain⟨e,s1,h1,h2⟩:=ihx _ s (show rn P N m x (qSeq (fun s'=>rn P N m y Φ s') Φ) s from h)
  cases e with
  |normal=>obtain⟨e',s2,h3,h4⟩:=ihy _ s1 h1;exact⟨e',s2,h3,h2.seqN h4⟩
  |_=>exact⟨_,s1,h1,Ev.seqX (by simp) h2⟩
 |cond c x y ihx ihy=>
  intro Φ s h;have h:rnC c s (rn P N m x Φ s) (rn P N m y Φ s):=h;unfold rnC at h;obtain⟨T,H,n⟩:=s;simp only at h;split at h
  ·rename_i b he
   have hc:∀{γ0:Gh} {h0:Hp} {M0:MS} {w0:World} {a:Act} {w:World},SR N γ0 h0 M0 w0 (look T) (look H) a w→a.eval c= .bool b:=fun hS=>by
    obtain⟨γ,M,_,ht,_⟩:=hS;exact lit_inv (evL_ok ht he)
   cases b with
   |true=>
    obtain⟨e,s1,h1,h2⟩:=ihx _ _ h;exact⟨e,s1,h1,fun γ0 h0 M0 w0 a w Q hm hd hS hQ=>wp_cond_true (hc hS) (h2 γ0 h0 M0 w0 a w Q hm hd hS hQ)⟩
   |false=>
    obtain⟨e,s1,h1,h2⟩:=ihy _ _ h;exact⟨e,s1,h1,fun γ0 h0 M0 w0 a w Q hm hd hS hQ=>wp_cond_false (hc hS) (h2 γ0 h0 M0 w0 a w Q hm hd hS hQ)⟩
  ·exact h.elim
 |block id c ih=>
  intro Φ s h;obtain⟨e,s1,h1,h2⟩:=ih _ s (show rn P N m c (qBlock id Φ) s from h)
  cases e with
  |exit id'=>
   simp only[qBlock]at h1;split at h1
   ·rename_i hid;have hid:=Nat.eq_of_beq_eq_true hid;exact⟨.normal,s1,h1,fun γ0 h0 M0 w0 a w Q hm hd hS hQ=>wp_block (h2 γ0 h0 M0 w0 a w _ hm hd hS fun a' w' hS'=>by simp only[Exit.inBlock];rw[if_pos hid];exact hQ _ _ hS')⟩
   ·rename_i hid;have hid:=Nat.ne_of_beq_eq_false hid;exact⟨.exit id',s1,h1,fun γ0 h0 M0 w0 a w Q hm hd hS hQ=>wp_block (h2 γ0 h0 M0 w0 a w _ hm hd hS fun a' w' hS'=>by simp only[Exit.inBlock];rw[if_neg hid];exact hQ _ _ hS')⟩
  |_=>exact⟨_,s1,h1,fun γ0 h0 M0 w0 a w Q hm hd hS hQ=>wp_block (h2 γ0 h0 M0 w0 a w _ hm hd hS fun a' w' hS'=>hQ _ _ hS')⟩
 |loop c ih=>
  intro Φ s h;have h:Ln (rn P N m c) m Φ s:=h;obtain⟨β,inv,ok,μ,b0,hw0,hok0,hstep⟩:∃(β:Type) (inv:β→St) (ok:β→Prop) (μ:β→Nat) (b0:β),Wk m s (inv b0)∧ok b0∧∀b,ok b→Det P N m c (inv b) (qSeq (fun s'=>∃b',Wk m s' (inv b')∧ok b'∧μ b'<μ b) fun e s'=>∃s2,Wk m s' s2∧Φ e s2):=by
   rcases h with⟨β,inv,ok,μ,b0,hw0,hok0,hstep⟩|⟨β,inv,ok,μ,b0,hw0,hok0,hstep⟩
   ·refine⟨β,inv,ok,μ,b0,hw0,hok0,fun b hb=>(ih _ _ (hstep b hb)).mono fun e s' h=> ?_⟩
    cases e<;>first|exact h|exact⟨s',Wk.refl m s',h⟩
   ·exact⟨β,inv,ok,μ,b0,hw0,hok0,fun b hb=>ih _ _ (hstep b hb)⟩
  have key:∀n b,μ b=n→ok b→∃e s',Φ e s'∧EvL P N m c (inv b) e s':=by
   intro n
   induction n using Nat.strongRecOn with
   |_ n ihn=>
    intro b hb hok;obtain⟨e,s1,h1,h2⟩:=hstep b hok
    cases e with
    |normal=>
     obtain⟨b',k1,k2,k3⟩:=h1;obtain⟨e',s2,h3,h4⟩:=ihn (μ b') (by omega) b' rfl k2;exact⟨e',s2,h3,EvL.more h2 (EvL.wk h4 k1)⟩
    |_=>obtain⟨s2,k1,k2⟩:=h1;exact⟨_,s2,k2,EvL.last (by simp) (h2.out k1)⟩
  obtain⟨e,s',h1,h2⟩:=key _ b0 rfl hok0;exact⟨e,s',h1,EvL.loop (EvL.wk h2 hw0)⟩
 |exit id=>intro Φ s h;exact⟨.exit id,s,h,fun γ0 h0 M0 w0 a w Q hm hd hS hQ=>wp_exit (hQ _ _ hS)⟩
 |ret=>intro Φ s h;exact⟨.ret,s,h,fun γ0 h0 M0 w0 a w Q hm hd hS hQ=>wp_ret (hQ _ _ hS)⟩
 |scope c ih=>
  intro Φ s h;obtain⟨e,s1,h1,h2⟩:=ih _ s (show rn P N m c (qScope Φ) s from h)
  cases e with
  |goto l=>exact h1.elim
  |_=>exact⟨_,s1,h1,fun γ0 h0 M0 w0 a w Q hm hd hS hQ=>wp_scope_straight (h2 γ0 h0 M0 w0 a w _ hm hd hS fun a' w' hS'=>hQ _ _ hS')⟩
 |rangeFunc=>intro Φ s h;exact h.elim
 |goto=>intro Φ s h;exact h.elim
 |refuse=>intro Φ s h;exact h.elim
def wOf:V→Option W
 | .a x=>some (.s x)
 | .agg xs=>some (.g xs)
 |_=>none
def vOf:List W→V
 |[.s x]=> .a x
 |[.g xs]=> .agg xs
 |ws=> .tup ws
def resL (P:Program)(T:List (Nat×V))(H:List (Nat×Ent)):List ResultVar→Option (List W)
 |[]=>some []
 | .tmp t::r=>match (look T t).bind wOf,resL P T H r with
   |some x,some xs=>some (x::xs)
   |_,_=>none
 | .cell a t::r=>match ((look T a).bind (loadL P t (look H))).bind (wOf ·.1),resL P T H r with
   |some x,some xs=>some (x::xs)
   |_,_=>none
inductive Rt (m:Nat) (H:List (Nat×Ent)) (v:V) (R:V→List (Nat×Ent)→Prop):Prop
 |mk (v':V) (H':List (Nat×Ent)) (hR:R v' H') (hw:WkV v v') (hi:inH H' (keysV v')=true) (hs:subH H H' H') (hm:subM m H H'=true):Rt m H v R
noncomputable def retQ (P:Program)(m:Nat)(fn:Func)(R:V→List (Nat×Ent)→Prop)(e:Exit)(s:St):Prop:=
 match (match e with
  | .ret=>true
  | .normal=>true
  |_=>false)with
 |true=>(match resL P s.T s.H fn.results.toList with
  |some ws=>fV (vOf ws) fun v=>Rt m s.H v R
  |none=>False)
 |false=>False
def argT:Nat→List V→List (Nat×V)
 |_,[]=>[]
 |i,v::vs=>(i,v)::argT (i+1) vs
noncomputable def argK (i:Nat)(l:List V):(List (Nat×V)→Prop)→Prop:=
 List.rec (motive:=fun _=>Nat→(List (Nat×V)→Prop)→Prop) (fun _ K=>K []) (fun v _ ih i K=>fN i fun i=>fV v fun v=>ih (i+1) fun T=>K ((i,v)::T)) l i
theorem argK_cons (i:Nat)(v:V)(vs:List V)(K:List (Nat×V)→Prop):argK i (v::vs) K=fN i fun i=>fV v fun v=>argK (i+1) vs fun T=>K ((i,v)::T):=rfl
theorem argK_eq:∀(vs:List V) (i:Nat) (K:List (Nat×V)→Prop),argK i vs K=K (argT i vs)
 |[],i,K=>rfl
 |v::vs,i,K=>by rw[argK_cons,fN_eq,fV_eq,argK_eq vs];rfl
theorem argT_look:∀(vs:List V) (i d:Nat),look (argT i vs) d=if i≤d then vs[d-i]? else none
 |[],i,d=>by simp[argT,look]
 |v::vs,i,d=>by
  simp only[argT,look];rw[argT_look vs (i+1) d]
  by_cases h:i=d
  ·subst h;simp
  ·rw[if_neg h]
   by_cases h2:i+1≤d
   ·rw[if_pos h2,if_pos (by omega),show d-i=(d-(i+1))+1 from by omega,List.getElem?_cons_succ]
   ·rw[if_neg h2,if_neg (by omega)]
theorem wOf_ok {γ:Gh}{h:Hp}{M:MS}{w:World}{v:V}{x:W}{r:Value}(hv:RdV γ h M w v r)(hx:wOf v=some x):RdW γ h M w x r:=by
 cases v<;>simp[wOf]at hx<;>subst hx<;>exact hv
theorem load_run {γ:Gh}{h:Hp}{M:MS}{w:World}{t:TypeId}{vx v:V}{rk:List Nat}{x:Value}(hr:Rel γ h M w)(hx:RdV γ h M w vx x)(hl:loadL P t h vx=some (v,rk)):
  ∃ad r,x= .pointer (some ad)∧(loadVar t ad).run P w= .ok r w∧RdV γ h M w v r:=by
 unfold loadL at hl;split at hl
 ·rename_i key off;split at hl
  ·rename_i tb cs ag s h1 h2 h3;obtain⟨v',h4,h5⟩:=Option.map_eq_some_iff.1 hl;injection h5 with h5 h6;subst h5 h6;obtain⟨_,g,k1,k2⟩:=hx;obtain⟨g',vs,k3,k4,k5⟩:=hr.ent key _ h1;rw[k1]at k3;injection k3 with k3;injection k3 with k3;injection k3 with k3;subst k3;have k6:=All2.take s (All2.drop off k5);obtain⟨k7,k8⟩:=oneL_ok h4 k6;refine⟨_,_,k2,loadVar_run h2 h3 (fun e=>by subst e;exact oneL_one h4) k7 fun j u hj=> ?_,k8⟩;rw[List.getElem?_take,List.getElem?_drop]at hj;split at hj
   ·simp[World.cell?,k4,hj]
   ·cases hj
  ·cases hl
 ·rename_i row off;split at hl
  ·rename_i ag s h2 h3;obtain⟨v',h4,h5⟩:=Option.map_eq_some_iff.1 hl;injection h5 with h5 h6;subst h5 h6;obtain⟨b,oo,f,k1,k2⟩:=hx;obtain⟨vs,k3,k4⟩:=elt_vs (γ:=γ) (h:=h) k2 off s;obtain⟨k7,k8⟩:=oneL_ok h4 k3;exact⟨_,_,k1,loadVar_run h2 h3 (fun e=>by subst e;exact oneL_one h4) k7 k4,k8⟩
  ·cases hl
 ·cases hl
theorem res_ok {γ:Gh}{M:MS}{w:World}{a:Act}{T:List (Nat×V)}{H:List (Nat×Ent)}(hr:Rel γ (look H) M w)(ht:TR γ (look H) M w (look T) a):∀(l:List ResultVar) (ws:List W),resL P T H l=some ws→
  ∃rs:List Value,rs.length=l.length∧All2 (RdW γ (look H) M w) ws rs∧∀(i:Nat) x r,l[i]? =some x→rs[i]? =some r→match x with
   | .tmp t=>a.tmps.getD t undef=r
   | .cell p t=>∃ad,a.tmps.getD p undef= .pointer (some ad)∧(loadVar t ad).run P w= .ok r w
 |[],ws,h=>by injection h with h;subst h;exact⟨[],rfl,trivial,fun i x r hx=>by simp at hx⟩
 | .tmp t::l,ws,h=>by
   simp only[resL]at h;split at h
   ·rename_i x xs h1 h2;injection h with h;subst h;obtain⟨v,h3,h4⟩:=Option.bind_eq_some_iff.1 h1;obtain⟨r,h5,h6⟩:=ht.2 t v h3;obtain⟨rs,k1,k2,k3⟩:=res_ok hr ht l xs h2;refine⟨r::rs,by simp[k1],⟨wOf_ok h6 h4,k2⟩,fun i x r' hx hr'=> ?_⟩
    cases i with
    |zero=>simp at hx hr';subst hx hr';simp only[Array.getD_eq_getD_getElem?,h5,Option.getD_some]
    |succ i=>exact k3 i x r' (by simpa using hx) (by simpa using hr')
   ·cases h
 | .cell p t::l,ws,h=>by
   simp only[resL]at h;split at h
   ·rename_i x xs h1 h2;injection h with h;subst h;obtain⟨⟨v,rk⟩,h3,h4⟩:=Option.bind_eq_some_iff.1 h1;obtain⟨vx,h3,h5⟩:=Option.bind_eq_some_iff.1 h3;obtain⟨r0,h6,h7⟩:=ht.2 p vx h3;obtain⟨ad,r,h8,h9,h10⟩:=load_run hr h7 h5;obtain⟨rs,k1,k2,k3⟩:=res_ok hr ht l xs h2;refine⟨r::rs,by simp[k1],⟨wOf_ok h10 h4,k2⟩,fun i x r' hx hr'=> ?_⟩
    cases i with
    |zero=>simp at hx hr';subst hx hr';exact⟨ad,by simp only[Array.getD_eq_getD_getElem?,h6,Option.getD_some,h8],h9⟩
    |succ i=>exact k3 i x r' (by simpa using hx) (by simpa using hr')
   ·cases h
theorem results_run {fn:Func}{a:Act}{w:World}:∀(l:List ResultVar) (rs:List Value),fn.results=⟨l⟩→rs.length=l.length→l.length≤4→(∀(i:Nat) x r,l[i]? =some x→rs[i]? =some r→match x with
   | .tmp t=>a.tmps.getD t undef=r
   | .cell p t=>∃ad,a.tmps.getD p undef= .pointer (some ad)∧(loadVar t ad).run P w= .ok r w)→
  (results fn a.tmps).run P w= .ok (match rs with
   |[r]=>r
   |rs=> .tuple rs.toArray) w
 |[],[],he,_,_,hk=>by simp[results,he]
 |[x],[r],he,_,_,hk=>by
  have h0:=hk 0 _ _ rfl rfl;clear hk
  cases x<;>simp only at h0
  all_goals try obtain⟨ad0,h0,k0⟩:=h0
  all_goals simp only[Array.getD_eq_getD_getElem?]at *
  all_goals simp[results,he,asAddr, *]
 |[x,y],[r,s],he,_,_,hk=>by
  have h0:=hk 0 _ _ rfl rfl;have h1:=hk 1 _ _ rfl rfl;clear hk
  cases x<;>cases y<;>simp only at h0 h1
  all_goals try obtain⟨ad0,h0,k0⟩:=h0
  all_goals try obtain⟨ad1,h1,k1⟩:=h1
  all_goals simp only[Array.getD_eq_getD_getElem?]at *
  all_goals simp[results,he,asAddr, *]
 |[x,y,z],[r,s,u],he,_,_,hk=>by
  have h0:=hk 0 _ _ rfl rfl;have h1:=hk 1 _ _ rfl rfl;have h2:=hk 2 _ _ rfl rfl;clear hk
  cases x<;>cases y<;>cases z<;>simp only at h0 h1 h2
  all_goals try obtain⟨ad0,h0,k0⟩:=h0
  all_goals try obtain⟨ad1,h1,k1⟩:=h1
  all_goals try obtain⟨ad2,h2,k2⟩:=h2
  all_goals simp only[Array.getD_eq_getD_getElem?]at *
  all_goals simp[results,he,asAddr, *]
 |[x,y,z,t],[r,s,u,v],he,_,_,hk=>by
  have h0:=hk 0 _ _ rfl rfl;have h1:=hk 1 _ _ rfl rfl;have h2:=hk 2 _ _ rfl rfl;have h3:=hk 3 _ _ rfl rfl;clear hk
  cases x<;>cases y<;>cases z<;>cases t<;>simp only at h0 h1 h2 h3
  all_goals try obtain⟨ad0,h0,k0⟩:=h0
  all_goals try obtain⟨ad1,h1,k1⟩:=h1
  all_goals try obtain⟨ad2,h2,k2⟩:=h2
  all_goals try obtain⟨ad3,h3,k3⟩:=h3
  all_goals simp only[Array.getD_eq_getD_getElem?]at *
  all_goals simp[results,he,asAddr, *]
theorem vOf_ok {γ:Gh}{h:Hp}{M:MS}{w:World}:∀{ws:List W} {rs:List Value},All2 (RdW γ h M w) ws rs→RdV γ h M w (vOf ws) (match rs with
   |[r]=>r
   |rs=> .tuple rs.toArray)
 |[],[],_=>⟨[],rfl,trivial⟩
 |[.s x],[r],k=>k.1
 |[.g xs],[r],k=>k.1
 |x::y::ws,r::s::rs,k=>by
  simp only[vOf];exact⟨r::s::rs,rfl,k⟩
 |[],_::_,k=>k.elim
 |[_],[],k=>k.elim
 |[_],_::_::_,k=>k.2.elim
 |_::_::_,[],k=>k.elim
 |_::_::_,[_],k=>k.2.elim
theorem LX_run (hmx:P.follows .mixedOrders=true){F:FuncId}{fn:Func}{c:Code}{args:List V}{H:List (Nat×Ent)}{n0:Nat}{R:V→List (Nat×Ent)→Prop}(hf:P.funcs[F]? =some fn)(hb:fn.body=some c)
  (hl:Nat.ble args.length fn.ntmps=true) (hrs:Nat.ble fn.results.toList.length 4=true) (hm:H.all (fun p=>Nat.blt p.1 m)=true) (h:argK 0 args fun T=>rn P fn.ntmps m c (retQ P m fn R) ⟨T,H,n0⟩):LX P F args H R:=by
 rw[argK_eq]at h;have hmm:∀key,(look H key).isSome=true→key<m:=by
  intro key hk;obtain⟨e,he⟩:=Option.isSome_iff_exists.1 hk;have:=List.all_eq_true.1 hm _ (look_mem he);simpa [Nat.blt_eq]using this
 obtain⟨e,s',hΦ,hev⟩:=rn_det hmx c _ _ h;unfold retQ at hΦ;split at hΦ
 ·rename_i hexit;split at hΦ
  ·rename_i ws hws;rw[fV_eq]at hΦ;obtain⟨v',H',hR,hw,hi,hs,hm'⟩:=hΦ;refine⟨v',H',hR,fun γ M w rs hrel hargs=> ?_⟩;have hlen:rs.length=args.length:=hargs.len.symm;have hble:args.length≤fn.ntmps:=Nat.le_of_ble_eq_true hl;refine calls_of_wp hf hb (hev γ (look H) M w _ w _ hmm hrel.dom ⟨γ,M,hrel,⟨hrel.glb,fun d v hd=> ?_⟩,?_,rfl,Stp.refl _ _ _ _⟩ fun a' w' hS'=> ?_)
   ·rw[argT_look]at hd;simp only[zL_,if_true,Nat.sub_zero]at hd;obtain⟨r,h1,h2⟩:=hargs.get hd;refine⟨r,?_,h2⟩;have hlt:=(List.getElem?_eq_some_iff.1 h1).1;simp only;rw[Array.getElem?_append_left (by simpa using hlt)];simpa using h1
   ·simp;omega
   ·obtain⟨γ',M',k1,k2,k3,k4,k5⟩:=hS';obtain⟨rs',r1,r2,r3⟩:=res_ok k1 k2 _ _ hws;have hrun:=results_run _ rs' (show fn.results=⟨fn.results.toList⟩ by simp) r1 (Nat.le_of_ble_eq_true hrs) r3;obtain⟨q1,q2,q3⟩:=rel_sub k1 (H':=H') fun d e' he=>subH_at hs he
    have hb:a'.defers=[]∧∃v,(results fn a'.tmps).run P w'= .ok v w'∧∃r γ'' M'',Ending.returned v= .returned r∧Rel γ'' (look H') M'' w'∧RdV γ'' (look H') M'' w' v' r∧Stp γ (look H) M w γ'' (look H') M'' w':=
     ⟨k4,_,hrun,_,γ',M',rfl,q1,q2 _ _ (hw _ _ _ _ _ (vOf_ok r2)) hi,q3 (fun key h0 h1=>by
      have:=List.all_eq_true.1 hm' key (List.mem_range.2 (hmm key h0));simpa [h1]using this) k5⟩
    cases e<;>first|exact hb|cases hexit
  ·exact hΦ.elim
 ·exact hΦ.elim
end
def LV (P:Program)(f:FuncId)(args:List V)(v:V):Prop:=LX P f args [] fun v' H=>v'=v∧H=[]
section
variable {γ γ':Gh} {h h':Hp} {M M':MS} {w w':World} {P:Program} {N m:Nat}
def stripW:W→W
 | .s x=> .s (stripA x)
 | .g xs=> .g (xs.map stripA)
def stripV:V→V
 | .a x=> .a (stripA x)
 | .agg xs=> .agg (xs.map stripA)
 | .tup ws=> .tup (ws.map stripW)
theorem stripV_ok (v:V):WkV v (stripV v):=by
 cases v with
 |a x=>exact fun _ _ _ _ _ k=>RdA.strip k
 |agg xs=>exact fun _ _ _ _ _ ⟨vs,h1,h2⟩=>⟨vs,h1,All2.map (All2.imp (fun _ _ k=>RdA.strip k) h2)⟩
 |tup ws=>
  refine fun γ h M w r k=> ?_;obtain⟨vs,h1,h2⟩:=k;refine⟨vs,h1,All2.map (All2.imp (fun x v k=> ?_) h2)⟩
  cases x with
  |s x=>exact RdA.strip k
  |g xs=>obtain⟨us,h3,h4⟩:=k;exact⟨us,h3,All2.map (All2.imp (fun _ _ k=>RdA.strip k) h4)⟩
theorem strips_ok:∀vs:List V,All2 WkV vs (vs.map stripV)
 |[]=>trivial
 |v::vs=>⟨stripV_ok v,strips_ok vs⟩
theorem wks_refl:∀vs:List V,All2 WkV vs vs
 |[]=>trivial
 |v::vs=>⟨vR_ v,wks_refl vs⟩
theorem Cn.val {F:FuncId}{vs:List V}{H:List (Nat×Ent)}{n:Nat}{K:V→List (Nat×Ent)→List Nat→Nat→Prop}{v:V}(hc:LV P F (vs.map stripV) v)(he:entT P F=true)(hg:((vs.map stripV).flatMap keysV).isEmpty=true)(hv:(keysV v).isEmpty=true)
  (hk:fX v fun v=>K v [] [] n):Cn P F vs H n K:=
 .pure _ _ he hc (strips_ok vs) hg fun v' H' hR=>⟨hR.2,by rw[hR.1];exact List.isEmpty_iff.1 hv,by rw[hR.1];exact hk⟩
theorem Cn.as {F:FuncId}{vs gs:List V}{H:List (Nat×Ent)}{n:Nat}{K:V→List (Nat×Ent)→List Nat→Nat→Prop}{v:V}(hc:LV P F gs v)(he:entT P F=true)(hw:All2 WkV vs gs)(hg:(gs.flatMap keysV).isEmpty=true)(hv:(keysV v).isEmpty=true)
  (hk:fX v fun v=>K v [] [] n):Cn P F vs H n K:=
 .pure _ _ he hc hw hg fun v' H' hR=>⟨hR.2,by rw[hR.1];exact List.isEmpty_iff.1 hv,by rw[hR.1];exact hk⟩
theorem LV.wk {F:FuncId}{args gs:List V}{v:V}(h:LV P F gs v)(hw:All2 WkV args gs):LV P F args v:=by
 obtain⟨v',H',⟨rfl,rfl⟩,hc⟩:=h;exact⟨_,_,⟨rfl,rfl⟩,fun γ M w rs hr ha=>hc γ M w rs hr (wk_all hw ha)⟩
theorem WkV.int {k:IntKind}{x y:Int}(h:x=y):WkV (vl (.int k x)) (vl (.int k y)):=by subst h;exact vR_ _
theorem wka_refl:∀xs:List A,All2 WkA xs xs
 |[]=>trivial
 |x::xs=>⟨aR_ x,wka_refl xs⟩
theorem wkd_refl:∀xs:List D,All2 WkD xs xs
 |[]=>trivial
 |x::xs=>⟨WkD.refl x,wkd_refl xs⟩
theorem wkds_refl:∀xs:List (List D),All2 (All2 WkD) xs xs
 |[]=>trivial
 |x::xs=>⟨wkd_refl x,wkds_refl xs⟩
theorem wke_refl (e:Ent):WkE e e:=by
 cases e with
 |gone=>trivial
 |box t cs=>exact⟨cs,rfl,wka_refl cs⟩
 |arr t k n=>rfl
 |tab t k rows=>exact⟨rows,rfl,wkds_refl rows⟩
 |mp φ=>exact⟨φ,rfl,fun _ h=>h⟩
theorem wr64 {x:Int}(h1: -9223372036854775808≤x)(h2:x<9223372036854775808):IntKind.i64.wrap x=x:=Go.IntWalk.i64_in x ⟨h1,by omega⟩
def OD (w:World):D→Value→Prop
 | .lit v,r=>r=v
 | .lm xs,r=>Sl w r xs
 | .sl _ _,_=>False
def OA (w:World):A→Value→Prop
 | .d d,r=>OD w d r
 |_,_=>False
def OW (w:World):W→Value→Prop
 | .s x,r=>OA w x r
 | .g xs,r=>∃vs:List Value,r= .agg vs.toArray∧All2 (OA w) xs vs
def OV (w:World):V→Value→Prop
 | .a x,r=>OA w x r
 | .agg xs,r=>∃vs:List Value,r= .agg vs.toArray∧All2 (OA w) xs vs
 | .tup ws,r=>∃vs:List Value,r= .tuple vs.toArray∧All2 (OW w) ws vs
theorem sl_rd (hu:∀b i n,M b i→w.cell? ⟨b,i,none⟩≠some (.int .u32 n)){xs:List Nat}{r:Value}(h:Sl w r xs):RdD M w (.lm xs) r:=by
 refine .lm xs r h fun b o l c hv i hi hm=> ?_;obtain⟨ad,n,cap,rfl,h1,h2,h3,h4,h5⟩:=h;injection hv with e1 e2 e3;subst e2 e3;obtain⟨b',off,e,hb,hc⟩:=h5 (by omega);rw[e]at e1;injection e1 with e1;injection e1 with e4 e5;subst e4 e5;exact hu _ _ _ hm (hc i hi)
theorem OD.rd (hu:∀b i n,M b i→w.cell? ⟨b,i,none⟩≠some (.int .u32 n)){d:D}{r:Value}(k:OD w d r):RdD M w d r:=by
 cases d with
 |lit v=>rw[show r=v from k];exact .lit v
 |lm xs=>exact sl_rd hu k
 |sl _ _=>exact k.elim
theorem OA.rd (hu:∀b i n,M b i→w.cell? ⟨b,i,none⟩≠some (.int .u32 n)){x:A}{r:Value}(k:OA w x r):RdA γ h M w x r:=by
 cases x<;>first|exact OD.rd hu k|exact k.elim
theorem OV.rd (hu:∀b i n,M b i→w.cell? ⟨b,i,none⟩≠some (.int .u32 n)){x:V}{r:Value}(k:OV w x r):RdV γ h M w x r:=by
 cases x with
 |a x=>exact OA.rd hu k
 |agg xs=>obtain⟨vs,h1,h2⟩:=k;exact⟨vs,h1,All2.imp (fun _ _=>OA.rd hu) h2⟩
 |tup ws=>
  obtain⟨vs,h1,h2⟩:=k;refine⟨vs,h1,All2.imp (fun x r k=> ?_) h2⟩
  cases x with
  |s x=>exact OA.rd hu k
  |g xs=>obtain⟨vs,h1,h2⟩:=k;exact⟨vs,h1,All2.imp (fun _ _=>OA.rd hu) h2⟩
theorem rd_sl {xs:List Nat}{r:Value}(h:RdD M w (.lm xs) r):Sl w r xs:=by cases h;assumption
theorem rel_below {H:Hp}(r:Rel γ H M w)(hb:Below w.heap.size w w')(he:∀k,H k=none):Rel γ H M w'∧Stp γ H M w γ H M w':=by
 have hc:∀b i,b<w.heap.size→w'.cell? ⟨b,i,none⟩=w.cell? ⟨b,i,none⟩:=fun b i hlt=>by simp only[World.cell?];rw[hb.block b hlt]
 refine⟨⟨fun key e hk=>absurd hk (by rw[he];simp),r.own,r.inj,fun b i n hm=>by rw[hc b i (r.dom b i hm)];exact r.u32 b i n hm,fun b i hm=>Nat.lt_of_lt_of_le (r.dom b i hm) hb.size,r.glb.fx fun b i v hf=>⟨hf.1,by rw[hc b i (World.block_lt_of_cell? _ _ hf.2)];exact hf.2⟩⟩,
  hb.os,hb.tape,hb.output,hb.size,fun b i v hf=>⟨hf.1,by rw[hc b i (World.block_lt_of_cell? _ _ hf.2)];exact hf.2⟩,fun b hlt _=>hb.block b hlt,fun b i hm _=>hm,fun key b i ho _=>⟨key,ho⟩,fun key e hk=>absurd hk (by rw[he];simp)⟩
theorem lv_of {F:FuncId}{args:List V}{v:V}(hc:∀(γ:Gh) (M:MS) (w:World) (rs:List Value),All2 (RdV γ (look []) M w) args rs→Calls P F rs.toArray w (Ret w fun w' r=>OV w' v r)):LV P F args v:=by
 refine⟨_,_,⟨rfl,rfl⟩,fun γ M w rs hr ha=>cM (hc γ M w rs ha) ?_⟩;rintro e w' ⟨r,rfl,h1,h2⟩;obtain⟨k1,k2⟩:=rel_below hr h2 fun k=>rfl;exact⟨r,γ,M,rfl,k1,OV.rd k1.u32 h1,k2⟩
end
end Go.Proofs.YtcnebhohjghngaaGreatDoor.Lf
namespace Go.Proofs.YtcnebhohjghngaaGreatDoor
open Go.RowKit Nt
theorem Tryz.infoU32:(Tryz.prog.info? 147).map (fun i=>(i.zero,i.size,i.bytes))=some (some (.int .u32 0),1,4):=by kernel_rfl
def Trimmed (n:Nat)(w:World)(e:Ending)(w':World):Prop:=∃v',e= .returned v'∧Sl w v' (limbs n)∧w=w'
theorem trim_fin {w:World}{b off n cap k:Nat}{xs:List Nat}(hx:lims xs)(hn:xs.length=n)(hk:k≤n)(hk0:0<k)(hnc:n≤cap)(hm:n≤1099511627776)
  (hb:b<w.heap.size) (hc:∀i,i<n→w.cell? ⟨b,off+i,none⟩=some (.int .u32 ((xs.getD i 0:Nat):Int)))
  (hv:val (xs.take k)=val xs) (hne:xs.getD (k-1) 0≠0):Sl w (.slice (some ⟨b,off,none⟩) k cap) (limbs (val xs)):=by
 rw[←hv,limbs_val (lims_take hx k) (Or.inr (by simpa [List.getD,List.getElem?_take,show min k xs.length-1=k-1 by omega,show k-1<k by omega]using hne))]
 exact⟨_,k,cap,rfl,by simp;omega,by omega,by omega,lims_take hx k,fun _=>⟨b,off,rfl,hb,fun i hi=>by
  rw[hc i (by omega)];simp[List.getD,hi]⟩⟩
theorem trim_any (v:Value)(xs:List Nat)(w:World)(h:Sl w v xs):Calls Tryz.prog 127 #[v] w (Trimmed (val xs) w):=by
 obtain⟨ad,n,cap,rfl,hn,hnc,hm,hx,hs⟩:=h;have Hn:=lH hn;clear hn;have Hx:=lH hx;clear hx
 go_enter Tryz.func127,Tryz.ntmps127
 go_wp2
 go_loop [3] (fun t=>∃k:Nat,k≤n∧t= .int .i64 k∧Hid (val (xs.take k)=val xs)) (fun t=>(intOf t).toNat)
 case atStart=>exact⟨n,lR_ _,rfl,lH (val_take_ge (by rw[Hn.out];exact lR_ _))⟩
 case round=>
  obtain⟨k,hk,rfl,Hv⟩:=hrel
  by_cases hk0:0<k
  ·obtain⟨b,off,rfl,hbw,hc⟩:=hs (by omega);have hck:=hc (k-1) (by omega);have Hc:=lH hc;clear hc hs;go_wp2
   ·go_round
    case rel=>
     refine⟨k-1,by omega,by go_num,?_⟩;have h0:xs.getD (k-1) 0=0:=by have:=(by assumption:((((xs[k-1]?.getD 0:Nat):Int)==0)=true));simpa [List.getD]using this
     have:=val_take_step xs (k-1);rw[show k-1+1=k by omega,h0,Hv.out]at this;exact lH (by omega)
    case measure=>simp[intOf];omega
   ·go_ret
    have h0:xs.getD (k-1) 0≠0:=by have:=(by assumption:((((xs[k-1]?.getD 0:Nat):Int)==0)=false));simpa [List.getD]using this
    exact⟨_,rfl,trim_fin Hx.out Hn.out hk hk0 hnc hm hbw Hc.out Hv.out h0,rfl⟩
  ·obtain rfl:k=0:=by omega
   have hv0:val xs=0:=by rw[←Hv.out];rfl
   have HV:=lH hv0;clear hv0;go_wp2
   go_ret
   exact⟨_,rfl,by rw[HV.out,limbs_zero];exact Sl.nil w,rfl⟩
def Copied (xs:List Nat)(w:World)(v:Value):Prop:=Sl w v xs
theorem clone_any (v:Value)(xs:List Nat)(w:World)(h:Sl w v xs):Calls Tryz.prog 160 #[v] w (Ret w (Copied xs)):=by
 have H:=lH h;obtain⟨ad,n,cap,rfl,hn,-⟩:=h;have Hn:=lH hn;clear hn
 cases ad with
 |none=>
  have h0:n=0∧xs=[]:=by
   obtain⟨ad',n',cap',hv,hl,_,_,_,hs⟩:=H.out;injection hv with e1 e2 e3;have:n=0:=by
    rcases eP_ n with h|h
    ·exact h
    ·obtain⟨b,off,he,_⟩:=hs (by omega);rw[←e1]at he;cases he
   exact⟨this,List.eq_nil_of_length_eq_zero (by rw[Hn.out];exact this)⟩
  obtain⟨rfl,rfl⟩:=h0;have heq:=fun(w:World) a l c=>Lib.run_eql_slice_nil (P:=Tryz.prog) w 32 147 a l c 0 0 Tryz.underlying32
  go_enter Tryz.func160,Tryz.ntmps160
  go_wp2
  go_ret
  exact⟨_,rfl,Sl.nil w,bR_ _ _⟩
 |some a=>
  have heq:=fun(w:World) a l c=>Lib.run_eql_slice_nil (P:=Tryz.prog) w 32 147 a l c 0 0 Tryz.underlying32
  go_enter Tryz.func160,Tryz.ntmps160
  go_wp2_with (at_builtin;refine wpList_copy_u32 _ rfl _ _ _ _ rfl 147 Tryz.underlying32 Tryz.underlying32 Tryz.infoU32 _ rfl _ xs rfl (H.out.below ((bR_ _ _).alloc (lR_ _) _)) ?_;intro v1 w1 h1 hb1)
  go_wp2
  go_ret
  exact⟨_,rfl,h1,((bR_ _ _).alloc (lR_ _) _).trans (hb1.mono (by simp))⟩
theorem make_any (v:Value)(xs:List Nat)(w:World)(h:Sl w v xs):Calls Tryz.prog 144 #[v] w (Ret w (Num (val xs))):=by
 go_enter Tryz.func144,Tryz.ntmps144
 go_wp2_with fail
 refine(trim_any _ xs _ h).mono ?_;rintro e w' ⟨v1,rfl,h1,rfl⟩
 go_wp2_with fail
 refine(clone_any _ _ _ h1).mono ?_;rintro e w' ⟨v2,rfl,h2,hb2⟩;go_wp2
 go_ret
 exact⟨_,rfl,h2,hb2⟩
def canon (xs:List Nat):Bool:=xs.length==0||xs.getD (xs.length-1) 0 !=0
theorem canon_pos {xs:List Nat}(h:0<xs.length):canon xs=(xs.getD (xs.length-1) 0 !=0):=by
 have:(xs.length==0)=false:=by simp;intro h0;rw[h0]at h;exact absurd h (by decide)
 simp[canon,this]
theorem canon_limbs (n:Nat):canon (limbs n)=true:=by
 rcases eP_ n with h|h
 ·subst h;rw[limbs_zero];rfl
 ·rw[canon_pos (sz_pos h)];simpa [bne_iff_ne]using limbs_last h
theorem val_two (x:Nat)(h:x<18446744073709551616):val [((x:Int) % 4294967296).toNat,((x:Int)/4294967296).toNat]=x:=by
 simp only[val];omega
theorem of_any (x:Nat)(w:World)(h:x<18446744073709551616):Calls Tryz.prog 120 #[.int .u64 (x:Int)] w (Ret w (Num x)):=by
 go_enter Tryz.func120,Tryz.ntmps120
 go_wp2_with fail
 refine(trim_any _ _ _ (sl_two w _ _ _ (by omega) (by omega))).mono ?_;rintro e w' ⟨v1,rfl,h1,rfl⟩;rw[val_two x h]at h1;go_wp2
 go_ret
 exact⟨_,rfl,h1,(bR_ _ _).alloc (lR_ _) _⟩
theorem valid_any (v:Value)(xs:List Nat)(w:World)(h:Sl w v xs):Calls Tryz.prog 96 #[v] w (Ret w (Val (.bool (canon xs)))):=by
 obtain⟨ad,n,cap,rfl,hn,hnc,hm,-,hs⟩:=h;rcases eP_ n with h0|h0
 ·obtain rfl:xs=[]:=List.eq_nil_of_length_eq_zero (by omega);subst h0
  go_enter Tryz.func96,Tryz.ntmps96
  go_wp2
  go_ret
  exact⟨_,rfl,rfl,bR_ _ _⟩
 ·obtain⟨b,off,rfl,hb,hc⟩:=hs h0;have hck:=hc (n-1) (by omega);have hfin:=canon_pos (xs:=xs) (by omega);rw[hn]at hfin;have Hfin:=lH hfin;have hne:((n:Int)==0)=false:=by simp;omega
  clear hc hs hn hfin
  go_enter Tryz.func96,Tryz.ntmps96
  go_wp2
  go_ret
  refine⟨_,rfl,?_,bR_ _ _⟩;show Value.bool _=Value.bool _;rw[Hfin.out];refine congrArg Value.bool ?_;rw[Bool.eq_iff_iff];simp[List.getD]
theorem limb_any (v:Value)(xs:List Nat)(i:Nat)(w:World)(h:Sl w v xs)(hi:i≤1099511627780):
  Calls Tryz.prog 109 #[v,.int .i64 (i:Int)] w fun e w'=>e= .returned (.int .u32 ((xs.getD i 0:Nat):Int))∧w=w':=by
 obtain⟨ad,n,cap,rfl,hn,hnc,hm,-,hs⟩:=h
 by_cases h0:i<n
 ·obtain⟨b,off,rfl,hb,hc⟩:=hs (by omega);have hck:=hc i h0;clear hc hs hn
  go_enter Tryz.func109,Tryz.ntmps109
  go_wp2
  go_ret
  exact⟨rfl,rfl⟩
 ·have hz:xs.getD i 0=0:=by simp[List.getD,show xs.length≤i by omega]
  rw[hz];clear hz hn hs
  go_enter Tryz.func109,Tryz.ntmps109
  go_wp2
  go_ret
  exact⟨rfl,rfl⟩
theorem list_ext_getD {xs ys:List Nat}(hl:xs.length=ys.length)(h:∀i,i<xs.length→xs.getD i 0=ys.getD i 0):xs=ys:=by
 apply List.ext_getElem hl;intro i h1 h2;have:=h i h1;simpa [List.getD,h1,h2]using this
def same (xs ys:List Nat):Bool:=decide (xs=ys)
theorem same_no_len {xs ys:List Nat}(h:xs.length≠ys.length):same xs ys=false:=by
 simp[same];rintro rfl;exact h rfl
theorem same_no {xs ys:List Nat}{i:Nat}(h:xs.getD i 0≠ys.getD i 0):same xs ys=false:=by
 simp[same];rintro rfl;exact h rfl
theorem same_yes {xs ys:List Nat}(hl:xs.length=ys.length)(h:∀i,i<xs.length→xs.getD i 0=ys.getD i 0):same xs ys=true:=by
 simp[same];exact list_ext_getD hl h
theorem same_any (v v':Value)(xs ys:List Nat)(w:World)(h:Sl w v xs)(h':Sl w v' ys):Calls Tryz.prog 42 #[v,v'] w (Ret w (Val (.bool (same xs ys)))):=by
 obtain⟨ad,n,cap,rfl,hn,hnc,hm,-,hs⟩:=h;obtain⟨ad',n',cap',rfl,hn',hnc',hm',-,hs'⟩:=h'
 by_cases hlen:n=n'
 ·subst hlen;have Hn:=lH hn;clear hn;have Hn':=lH hn';clear hn'
  go_enter Tryz.func42,Tryz.ntmps42
  go_wp2
  go_loopw [5] (fun i wr=>∃k:Nat,k≤n∧i= .int .i64 k∧Hid (∀j,j<k→xs.getD j 0=ys.getD j 0)∧Below w.heap.size w wr) (fun i _=>n-(intOf i).toNat)
  case atStart=>exact⟨0,zL_ _,rfl,lH (fun j hj=>absurd hj (by omega)),bR_ _ _⟩
  case round=>
   obtain⟨k,hk,rfl,Hs,hb⟩:=hrel
   by_cases hkn:k<n
   ·obtain⟨b,off,rfl,hbw,hc⟩:=hs (by omega);obtain⟨b',off',rfl,hbw',hc'⟩:=hs' (by omega);have c1:=(hb.cell (p:=⟨b,off+k,none⟩) hbw).trans (hc k hkn);have c2:=(hb.cell (p:=⟨b',off'+k,none⟩) hbw').trans (hc' k hkn);clear hc hc' hs hs';go_wp2
    go_quiet (fail)
    go_wp2
    ·go_ret
     have hne:xs.getD k 0≠ys.getD k 0:=by
      have:=(by assumption:((((xs[k]?.getD 0:Nat):Int) !=((ys[k]?.getD 0:Nat):Int))=true));simp[List.getD]at this ⊢;omega
     refine⟨_,rfl,?_,below_drewN hb _⟩;show Value.bool _=Value.bool _;rw[same_no hne]
    ·go_roundw
     case rel=>
      have he:xs.getD k 0=ys.getD k 0:=by
       have:=(by assumption:((((xs[k]?.getD 0:Nat):Int) !=((ys[k]?.getD 0:Nat):Int))=false));simp[List.getD]at this ⊢;omega
      refine⟨k+1,by omega,by go_num,lH (fun j hj=> ?_),below_drewN hb _⟩;rcases Nat.lt_succ_iff_lt_or_eq.1 hj with h|h
      ·exact Hs.out j h
      ·rw[h];exact he
     case measure=>simp[intOf];omega
   ·have HF:=lH (same_yes (xs:=xs) (ys:=ys) (by rw[Hn.out,Hn'.out]) (fun i hi=>Hs.out i (by rw[Hn.out]at hi;omega)));clear hs hs';go_wp2
    go_ret
    refine⟨_,rfl,?_,hb⟩;show Value.bool _=Value.bool _;rw[HF.out]
 ·have HF:=lH (same_no_len (xs:=xs) (ys:=ys) (by omega));have hne:((n:Int) !=n')=true:=by rw[bne_iff_ne];omega
  clear hs hs' hn hn'
  go_enter Tryz.func42,Tryz.ntmps42
  go_wp2
  go_ret
  refine⟨_,rfl,?_,bR_ _ _⟩;show Value.bool _=Value.bool _;rw[HF.out]
def NumF (B n:Nat)(w:World)(v:Value):Prop:=Sl w v (limbs n)∧FreshS B v
theorem rmake_anyF (v:Value)(xs:List Nat)(w:World)(h:Sl w v xs):Calls Tryz.prog 110 #[v] w (Ret w (NumF w.heap.size (val xs))):=by
 obtain⟨ad,n,cap,rfl,hn,hnc,hm,hx,hs⟩:=h;have Hn:=lH hn;clear hn;have Hx:=lH hx;clear hx
 go_enter Tryz.func110,Tryz.ntmps110
 go_wp2
 go_loop [3] (fun t=>∃k:Nat,k≤n∧t= .int .i64 k∧Hid (val (xs.take k)=val xs)) (fun t=>(intOf t).toNat)
 case atStart=>exact⟨n,lR_ _,rfl,lH (val_take_ge (by rw[Hn.out];exact lR_ _))⟩
 case round=>
  obtain⟨k,hk,rfl,Hv⟩:=hrel
  by_cases hk0:0<k
  ·obtain⟨b,off,rfl,hbw,hc⟩:=hs (by omega);have hck:=hc (k-1) (by omega);have Hc:=lH hc;clear hc hs
   by_cases h0:xs.getD (k-1) 0=0
   ·have hz:((((xs[k-1]?.getD 0:Nat):Int)==0)=true):=by simpa [List.getD]using h0
    have H0:=lH h0;clear h0;go_wp2
    go_round
    case rel=>
     refine⟨k-1,by omega,by go_num,?_⟩;have:=val_take_step xs (k-1);rw[show k-1+1=k by omega,H0.out,Hv.out]at this;exact lH (by omega)
    case measure=>simp[intOf];omega
   ·have hz:((((xs[k-1]?.getD 0:Nat):Int)==0)=false):=by simpa [List.getD]using h0
    have F:=trim_fin (cap:=cap) Hx.out Hn.out hk hk0 hnc hm hbw Hc.out Hv.out h0;clear h0
    go_wp2_with (at_builtin;refine wpList_copy_u32F _ rfl _ _ _ _ rfl 147 Tryz.underlying32 Tryz.underlying31 Tryz.infoU32 _ rfl _ _ rfl (F.below ((bR_ _ _).alloc (lR_ _) _)) ?_;intro v1 w1 h1 hf1 hb1)
    go_wp2
    go_ret
    exact⟨_,rfl,⟨h1,hf1.mono (by simp)⟩,((bR_ _ _).alloc (lR_ _) _).trans (hb1.mono (by simp))⟩
  ·obtain rfl:k=0:=by omega
   have hv0:val xs=0:=by rw[←Hv.out];rfl
   have HV:=lH hv0;clear hv0;have hnil:∀c,Sl (w.alloc (.cells #[] 147)) (.slice (if cap=0 then ad else ad) 0 c) []:=fun c=>⟨_,0,c,rfl,rfl,zL_ _,by decide,lims_nil,fun h=>absurd h (by decide)⟩
   go_wp2_with (at_builtin;refine wpList_copy_u32F _ rfl _ _ _ _ rfl 147 Tryz.underlying32 Tryz.underlying31 Tryz.infoU32 _ rfl _ [] rfl ⟨_,0,_,rfl,rfl,zL_ _,by decide,lims_nil,fun h=>absurd h (by decide)⟩ ?_;intro v1 w1 h1 hf1 hb1)
   go_wp2
   go_ret
   exact⟨_,rfl,⟨by rw[HV.out,limbs_zero];exact h1,hf1.mono (by simp)⟩,((bR_ _ _).alloc (lR_ _) _).trans (hb1.mono (by simp))⟩
theorem rmake_any (v:Value)(xs:List Nat)(w:World)(h:Sl w v xs):Calls Tryz.prog 110 #[v] w (Ret w (Num (val xs))):=
 (rmake_anyF v xs w h).mono fun _ _ ⟨v',h1,h2,h3⟩=>⟨v',h1,h2.1,h3⟩
theorem rof_any (x:Nat)(w:World)(h:x<18446744073709551616):Calls Tryz.prog 75 #[.int .u64 (x:Int)] w (Ret w (Num x)):=by
 go_enter Tryz.func75,Tryz.ntmps75
 go_wp2_with fail
 refine(rmake_any _ _ _ (sl_two w _ _ _ (by omega) (by omega))).mono ?_;rintro e w' ⟨v1,rfl,h1,hb1⟩;rw[val_two x h]at h1;go_wp2
 go_ret
 exact⟨_,rfl,h1,((bR_ _ _).alloc (lR_ _) _).trans (hb1.mono (by simp))⟩
theorem cmp_any (v v':Value)(xs ys:List Nat)(w:World)(h:Sl w v xs)(h':Sl w v' ys):
  Calls Tryz.prog 97 #[v,v'] w (Ret w (Val (.int .i64 (cmpN (val xs) (val ys))))):=by
 go_enter Tryz.func97,Tryz.ntmps97
 go_wp2_with fail
 refine(trim_any _ xs _ h).mono ?_;rintro e w' ⟨v1,rfl,h1,rfl⟩
 go_wp2_with fail
 refine(trim_any _ ys _ h').mono ?_;rintro e w' ⟨v2,rfl,h2,rfl⟩;clear h h';generalize val xs=a at *
 generalize val ys=b at *
 have hla:=lims_limbs a;have hlb:=lims_limbs b;have hva:=val_limbs a;have hvb:=val_limbs b;have hlen:(limbs a).length<(limbs b).length→a<b:=limbs_len_lt;have hlen':(limbs b).length<(limbs a).length→b<a:=limbs_len_lt;obtain⟨ls,ha⟩:∃ls,ls=limbs a:=⟨_,rfl⟩;obtain⟨ms,hb⟩:∃ms,ms=limbs b:=⟨_,rfl⟩;rw[←ha]at h1 hla hva hlen hlen';rw[←hb]at h2 hlb hvb hlen hlen';clear ha hb;obtain⟨ad,n,cap,rfl,hn,hnc,hm,-,hs⟩:=h1;obtain⟨ad',n',cap',rfl,hn',hnc',hm',-,hs'⟩:=h2;rcases Nat.lt_trichotomy n n' with hlt|heq|hlt
 ·have HF:=lH (cmpN_lt (hlen (by omega)));have hne:((n:Int) !=n')=true:=by rw[bne_iff_ne];omega
  clear hs hs' hlen hlen' hva hvb hla hlb hn hn';go_wp2
  go_ret
  refine⟨_,rfl,?_,bR_ _ _⟩;show Value.int _ _=Value.int _ _;rw[HF.out]
 ·have hne:((n:Int) !=n')=false:=by rw[bne_eq_false_iff_eq];omega
  subst heq;have Hn:=lH hn;clear hn;have Hn':=lH hn';clear hn';have Ha:=lH hla;clear hla;have Hb:=lH hlb;clear hlb;have Hva:=lH hva;clear hva;have Hvb:=lH hvb;clear hvb hlen hlen';go_wp2
  go_loopw [5] (fun i wr=>∃k:Nat,k≤n∧i= .int .i64 ((k:Int)-1)∧Hid (agree ls ms k)∧Below w.heap.size w wr) (fun i _=>(intOf i+1).toNat)
  case atStart=>exact⟨n,lR_ _,rfl,lH (agree_top (by rw[Hn.out];exact lR_ _) (by rw[Hn'.out];exact lR_ _)),bR_ _ _⟩
  case round=>
   obtain⟨k,hk,rfl,Hs,hbl⟩:=hrel;rcases eP_ k with hk0|hk0
   ·subst hk0;have HF:Hid (cmpN a b=0):=lH (cmpN_eq (by rw[←Hva.out,←Hvb.out];exact agree_zero Hs.out));clear hs hs';go_wp2
    go_ret
    refine⟨_,rfl,?_,hbl⟩;show Value.int _ _=Value.int _ _;rw[HF.out]
   ·obtain⟨j,rfl⟩:∃j,k=j+1:=⟨k-1,by omega⟩;rw[show((j+1:Nat):Int)-1=(j:Int)from by omega];obtain⟨b1,off,rfl,hbw,hc⟩:=hs (by omega);obtain⟨b1',off',rfl,hbw',hc'⟩:=hs' (by omega);have c1:=(hbl.cell (p:=⟨b1,off+j,none⟩) hbw).trans (hc j hk);have c2:=(hbl.cell (p:=⟨b1',off'+j,none⟩) hbw').trans (hc' j hk);clear hc hc' hs hs';rcases Nat.lt_trichotomy (ls.getD j 0) (ms.getD j 0)with hx|hx|hx
    ·have HF:Hid (cmpN a b= -1):=lH (cmpN_lt (by rw[←Hva.out,←Hvb.out];exact agree_lt Hs.out Ha.out hx));have t1:((((ls[j]?.getD 0:Nat):Int) !=((ms[j]?.getD 0:Nat):Int))=true):=by rw[bne_iff_ne];simp[List.getD]at hx;omega
     have t2:(ls[j]?.getD 0<ms[j]?.getD 0):=by simpa [List.getD]using hx
     clear hx;go_wp2
     go_quiet (fail)
     go_wp2
     go_quiet (fail)
     go_wp2
     go_ret
     refine⟨_,rfl,?_,below_drewN (below_drewN hbl _) _⟩;show Value.int _ _=Value.int _ _;rw[HF.out]
    ·have t1:((((ls[j]?.getD 0:Nat):Int) !=((ms[j]?.getD 0:Nat):Int))=false):=by rw[bne_eq_false_iff_eq];simp[List.getD]at hx;omega
     have Hx:=lH hx;clear hx;go_wp2
     go_quiet (fail)
     go_wp2
     go_roundw
     case rel=>exact⟨j,by omega,by go_num,lH (agree_step Hs.out Hx.out),below_drewN hbl _⟩
     case measure=>simp[intOf]<;>omega
    ·have HF:Hid (cmpN a b=1):=lH (cmpN_gt (by rw[←Hva.out,←Hvb.out];exact agree_gt Hs.out Hb.out hx));have t1:((((ls[j]?.getD 0:Nat):Int) !=((ms[j]?.getD 0:Nat):Int))=true):=by rw[bne_iff_ne];simp[List.getD]at hx;omega
     have t2:¬(ls[j]?.getD 0<ms[j]?.getD 0):=by simp[List.getD]at hx;omega
     clear hx;go_wp2
     go_quiet (fail)
     go_wp2
     go_quiet (fail)
     go_wp2
     go_ret
     refine⟨_,rfl,?_,below_drewN (below_drewN hbl _) _⟩;show Value.int _ _=Value.int _ _;rw[HF.out]
 ·have HF:=lH (cmpN_gt (hlen' (by omega)));have hne:((n:Int) !=n')=true:=by rw[bne_iff_ne];omega
  clear hs hs' hlen hlen' hva hvb hla hlb hn hn';go_wp2
  go_ret
  refine⟨_,rfl,?_,bR_ _ _⟩;show Value.int _ _=Value.int _ _;rw[HF.out]
def addInv (n k c:Nat)(os xs ys:List Nat):Prop:=
 os.length=n+1∧lims os∧c≤1∧val (os.take k)+4294967296^k*c=val (xs.take k)+val (ys.take k)
theorem addInv_zero (n:Nat)(xs ys:List Nat):addInv n 0 0 (List.replicate (n+1) 0) xs ys:=
 ⟨by simp,lims_replicate _,by decide,by simp[val]⟩
theorem addInv_step {n k c x y:Nat}{os xs ys:List Nat}(h:addInv n k c os xs ys)(hk:k<n)(hx:x=xs.getD k 0)(hy:y=ys.getD k 0)(hlx:lims xs)(hly:lims ys)(z:Int)
  (hz:z=(c:Int)+x+y):addInv n (k+1) (z/4294967296).toNat (os.set k (z % 4294967296).toNat) xs ys:=by
 obtain⟨h1,h2,h3,h4⟩:=h;have b1:=lims_getD hlx k;have b2:=lims_getD hly k;refine⟨by simpa using h1,lims_set h2 _ _ (by omega),by omega,?_⟩;rw[val_set_take (by omega),val_take_step xs,val_take_step ys,Nat.pow_succ];have:=add_step (o:=val (os.take k)) (x:=val (xs.take k)+val (ys.take k)) (y:=xs.getD k 0+ys.getD k 0) (p:=4294967296^k) (c:=c) (d:=(z % 4294967296).toNat) (o':=(z/4294967296).toNat) h4 (by omega);rw[this,Nat.mul_add];omega
theorem addInv_end {n c:Nat}{os xs ys:List Nat}(h:addInv n n c os xs ys)(hn:xs.length≤n)(hm:ys.length≤n):lims (os.set n c)∧(os.set n c).length=n+1∧val (os.set n c)=val xs+val ys:=by
 obtain⟨h1,h2,h3,h4⟩:=h;refine⟨lims_set h2 _ _ (by omega),by simpa using h1,?_⟩;have e:=val_set_take (xs:=os) (k:=n) (x:=c) (by omega);rw[List.take_of_length_le (by simp;omega)]at e;rw[e,h4,val_take_ge hn,val_take_ge hm]
theorem add_any (v v':Value)(xs ys:List Nat)(w:World)(h:Sl w v xs)(h':Sl w v' ys)(hx:xs.length≤4294967296)(hy:ys.length≤4294967296):
  Calls Tryz.prog 151 #[v,v'] w (Ret w (Num (val xs+val ys))):=by
 have hla:=sz_val h.lims;have hlb:=sz_val h'.lims
 go_enter Tryz.func151,Tryz.ntmps151
 go_wp2_with fail
 refine(trim_any _ xs _ h).mono ?_;rintro e w' ⟨v1,rfl,h1,rfl⟩
 go_wp2_with fail
 refine(trim_any _ ys _ h').mono ?_;rintro e w' ⟨v2,rfl,h2,rfl⟩;clear h h';unfold sz at hla hlb;have Hva:=lH (val_limbs (val xs));have Hvb:=lH (val_limbs (val ys));generalize val xs=a at *
 generalize val ys=b at *
 generalize limbs a=ls at *
 generalize limbs b=ms at *
 obtain⟨ad,n,cap,rfl,hn,hnc,hm,ha,hs⟩:=h1;obtain⟨ad',n',cap',rfl,hn',hnc',hm',hb,hs'⟩:=h2;have hn4:n≤4294967296:=by omega
 have hn4':n'≤4294967296:=by omega
 clear hla hlb;have Hn:=lH hn;clear hn;have Hn':=lH hn';clear hn';have Ha:=lH ha;clear ha;have Hb:=lH hb;clear hb
 by_cases hsw:n<n'
 ·go_wp2_with (at_make;refine wpList_make_u32 _ rfl _ _ _ rfl 147 Tryz.underlying32 Tryz.infoU32 _ (n'+1) rfl rfl (by omega) (by omega) ?_;intro w0 hA0 hb0 _)
  go_wp2
  go_loopw [6,26] (fun cy i wr=>∃k c os,k≤n'∧i= .int .i64 ((k:Nat):Int)∧cy= .int .u64 ((c:Nat):Int)∧Arr wr w.heap.size os∧Hid (addInv n' k c os ms ls)∧Below w.heap.size w wr) (fun _ i _=>n'-(intOf i).toNat)
  case atStart=>exact⟨0,0,_,zL_ _,rfl,rfl,hA0,lH (addInv_zero _ _ _),hb0⟩
  case round=>
   obtain⟨k,c,os,hk,rfl,rfl,hA,Hs,hbl⟩:=hrel;have⟨hol,_,hc1,_⟩:=Hs.out
   by_cases hkn:k<n'
   ·obtain⟨b1,off,rfl,hbw,hc⟩:=hs' (by omega);have c1:=(hbl.cell (p:=⟨b1,off+k,none⟩) hbw).trans (hc k hkn);have bx:=lims_getD Hb.out k;have by':=lims_getD Ha.out k;have c3:=hA.cell k (by omega);have c4:=hA.frozen k;have ex:ms.getD k 0=ms[k]?.getD 0:=rfl;have ey:ls.getD k 0=ls[k]?.getD 0:=rfl;rw[ex]at bx c1;rw[ey]at by';have Ex:=lH ex;clear ex;have Ey:=lH ey;clear ey;have Ol:=lH hol;clear hol
    by_cases hkm:k<n
    ·obtain⟨b2,off2,rfl,hbw2,hc2⟩:=hs (by omega);have c2:=(hbl.cell (p:=⟨b2,off2+k,none⟩) hbw2).trans (hc2 k hkm);rw[Ey.out]at c2;clear hc hc2 hs' hs;go_wp2
     go_roundw
     case rel=>
      exact⟨k+1,_,_,by omega,by go_num,congrArg (Value.int .u64) (Int.toNat_of_nonneg (by omega)).symm,hA.setI k _ (by omega),lH (addInv_step Hs.out hkn Ex.out.symm Ey.out.symm Hb.out Ha.out _ (by omega)),hbl.setCell (lR_ _) _⟩
     case measure=>simp[intOf]<;>omega
    ·have hz:ls.getD k 0=0:=by simp[List.getD,show ls.length≤k by have:=Hn.out;omega]
     have Hz:=lH hz;clear hz hc hs' hs;go_wp2
     go_roundw
     case rel=>
      exact⟨k+1,_,_,by omega,by go_num,congrArg (Value.int .u64) (Int.toNat_of_nonneg (by omega)).symm,hA.setI k _ (by omega),lH (addInv_step (y:=0) Hs.out hkn Ex.out.symm Hz.out.symm Hb.out Ha.out _ (by omega)),hbl.setCell (lR_ _) _⟩
     case measure=>simp[intOf]<;>omega
   ·obtain rfl:k=n':=by omega
    have c3:=hA.cell k (by omega);have c4:=hA.frozen k;have HE:=lH (addInv_end Hs.out (by have:=Hn'.out;omega) (by have:=Hn.out;omega));have Ol:=lH hol;clear hol hs hs'
    go_wp2_with fail
    refine(trim_any _ _ _ ((hA.setI k (c:Int) (by omega)).sl (n:=k+1) (by simpa using HE.out.1) (by simpa using HE.out.2.1) (lR_ _) (by omega))).mono ?_;rintro e w' ⟨v1,rfl,h1,rfl⟩;rw[Int.toNat_natCast,HE.out.2.2,Hvb.out,Hva.out,Nat.add_comm]at h1;go_wp2
    go_ret
    exact⟨_,rfl,h1,hbl.setCell (lR_ _) _⟩
 ·go_wp2_with (at_make;refine wpList_make_u32 _ rfl _ _ _ rfl 147 Tryz.underlying32 Tryz.infoU32 _ (n+1) rfl rfl (by omega) (by omega) ?_;intro w0 hA0 hb0 _)
  go_wp2
  go_loopw [6,26] (fun cy i wr=>∃k c os,k≤n∧i= .int .i64 ((k:Nat):Int)∧cy= .int .u64 ((c:Nat):Int)∧Arr wr w.heap.size os∧Hid (addInv n k c os ls ms)∧Below w.heap.size w wr) (fun _ i _=>n-(intOf i).toNat)
  case atStart=>exact⟨0,0,_,zL_ _,rfl,rfl,hA0,lH (addInv_zero _ _ _),hb0⟩
  case round=>
   obtain⟨k,c,os,hk,rfl,rfl,hA,Hs,hbl⟩:=hrel;have⟨hol,_,hc1,_⟩:=Hs.out
   by_cases hkn:k<n
   ·obtain⟨b1,off,rfl,hbw,hc⟩:=hs (by omega);have c1:=(hbl.cell (p:=⟨b1,off+k,none⟩) hbw).trans (hc k hkn);have bx:=lims_getD Ha.out k;have by':=lims_getD Hb.out k;have c3:=hA.cell k (by omega);have c4:=hA.frozen k;have ex:ls.getD k 0=ls[k]?.getD 0:=rfl;have ey:ms.getD k 0=ms[k]?.getD 0:=rfl;rw[ex]at bx c1;rw[ey]at by';have Ex:=lH ex;clear ex;have Ey:=lH ey;clear ey;have Ol:=lH hol;clear hol
    by_cases hkm:k<n'
    ·obtain⟨b2,off2,rfl,hbw2,hc2⟩:=hs' (by omega);have c2:=(hbl.cell (p:=⟨b2,off2+k,none⟩) hbw2).trans (hc2 k hkm);rw[Ey.out]at c2;clear hc hc2 hs hs';go_wp2
     go_roundw
     case rel=>
      exact⟨k+1,_,_,by omega,by go_num,congrArg (Value.int .u64) (Int.toNat_of_nonneg (by omega)).symm,hA.setI k _ (by omega),lH (addInv_step Hs.out hkn Ex.out.symm Ey.out.symm Ha.out Hb.out _ (by omega)),hbl.setCell (lR_ _) _⟩
     case measure=>simp[intOf]<;>omega
    ·have hz:ms.getD k 0=0:=by simp[List.getD,show ms.length≤k by have:=Hn'.out;omega]
     have Hz:=lH hz;clear hz hc hs hs';go_wp2
     go_roundw
     case rel=>
      exact⟨k+1,_,_,by omega,by go_num,congrArg (Value.int .u64) (Int.toNat_of_nonneg (by omega)).symm,hA.setI k _ (by omega),lH (addInv_step (y:=0) Hs.out hkn Ex.out.symm Hz.out.symm Ha.out Hb.out _ (by omega)),hbl.setCell (lR_ _) _⟩
     case measure=>simp[intOf]<;>omega
   ·obtain rfl:k=n:=by omega
    have c3:=hA.cell k (by omega);have c4:=hA.frozen k;have HE:=lH (addInv_end Hs.out (by have:=Hn.out;omega) (by have:=Hn'.out;omega));have Ol:=lH hol;clear hol hs hs'
    go_wp2_with fail
    refine(trim_any _ _ _ ((hA.setI k (c:Int) (by omega)).sl (n:=k+1) (by simpa using HE.out.1) (by simpa using HE.out.2.1) (lR_ _) (by omega))).mono ?_;rintro e w' ⟨v1,rfl,h1,rfl⟩;rw[Int.toNat_natCast,HE.out.2.2,Hva.out,Hvb.out]at h1;go_wp2
    go_ret
    exact⟨_,rfl,h1,hbl.setCell (lR_ _) _⟩
def subInv (n k c:Nat)(os xs ys:List Nat):Prop:=
 os.length=n∧lims os∧c≤1∧val (os.take k)+val (ys.take k)=val (xs.take k)+4294967296^k*c
theorem subInv_zero (n:Nat)(xs ys:List Nat):subInv n 0 0 (List.replicate n 0) xs ys:=
 ⟨by simp,lims_replicate _,by decide,by simp[val]⟩
theorem subInv_step {n k c x y:Nat}{os xs ys:List Nat}(h:subInv n k c os xs ys)(hk:k<n)(hx:x=xs.getD k 0)(hy:y=ys.getD k 0)(hlx:lims xs)(hly:lims ys)(d o:Int)
  (hd:d+y+c=x+4294967296*o) (hd0:0≤d) (hd1:d<4294967296) (ho:0≤o):subInv n (k+1) o.toNat (os.set k d.toNat) xs ys:=by
 obtain⟨h1,h2,h3,h4⟩:=h;have b1:=lims_getD hlx k;have b2:=lims_getD hly k;refine⟨by simpa using h1,lims_set h2 _ _ (by omega),by omega,?_⟩;rw[val_set_take (by omega),val_take_step xs,val_take_step ys,Nat.pow_succ,←hx,←hy];have e:4294967296^k*(d.toNat+y+c)=4294967296^k*(x+4294967296*o.toNat):=by congr 1;omega
 rw[Nat.mul_add,Nat.mul_add,Nat.mul_add,←Nat.mul_assoc]at e;omega
theorem subInv_end {n c:Nat}{os xs ys:List Nat}(h:subInv n n c os xs ys)(hn:xs.length≤n)(hm:ys.length≤n)(hle:val ys≤val xs):lims os∧os.length=n∧val os=val xs-val ys:=by
 obtain⟨h1,h2,h3,h4⟩:=h;refine⟨h2,h1,?_⟩;rw[val_take_ge hn,val_take_ge hm,val_take_ge (xs:=os) (by omega)]at h4;have:=val_lt h2;rw[h1]at this;have hc:c=0:=by
  rcases eP_ c with h|h
  ·exact h
  ·have:c=1:=by omega
   subst this;omega
 subst hc;omega
def subErr (a b:Nat):Int:=if a<b then 2 else 0
theorem subErr_lt {a b:Nat}(h:a<b):subErr a b=2:=by simp[subErr,h]
theorem subErr_le {a b:Nat}(h:b≤a):subErr a b=0:=by simp[subErr,show ¬a<b by omega]
theorem sub_no (v v':Value)(xs ys:List Nat)(w:World)(h:Sl w v xs)(h':Sl w v' ys)(hlt:val xs<val ys):
  Calls Tryz.prog 159 #[v,v'] w (Ret w (NumE 0 2)):=by
 go_enter Tryz.func159,Tryz.ntmps159
 go_wp2_with fail
 refine(trim_any _ xs _ h).mono ?_;rintro e w' ⟨v1,rfl,h1,rfl⟩
 go_wp2_with fail
 refine(trim_any _ ys _ h').mono ?_;rintro e w' ⟨v2,rfl,h2,rfl⟩;clear h h'
 go_wp2_with fail
 refine(cmp_any _ _ _ _ _ h1 h2).mono ?_;rintro e wc ⟨v3,rfl,h3,hbc⟩;unfold Val at h3;subst h3;have h1:=h1.below hbc;have h2:=h2.below hbc;rw[val_limbs,val_limbs];rw[cmpN_lt hlt];clear hlt;go_wp2
 go_ret2
 exact⟨_,rfl,⟨_,rfl,by rw[limbs_zero];exact Sl.nil _⟩,hbc⟩
theorem wrap_u64 (z:Int):IntKind.u64.wrap z=z % 18446744073709551616:=rfl
theorem sub_yes (v v':Value)(xs ys:List Nat)(w:World)(h:Sl w v xs)(h':Sl w v' ys)(hx:xs.length≤4294967296)(hle:val ys≤val xs):
  Calls Tryz.prog 159 #[v,v'] w (Ret w (NumE (val xs-val ys) 0)):=by
 have hla:=sz_val h.lims
 go_enter Tryz.func159,Tryz.ntmps159
 go_wp2_with fail
 refine(trim_any _ xs _ h).mono ?_;rintro e w' ⟨v1,rfl,h1,rfl⟩
 go_wp2_with fail
 refine(trim_any _ ys _ h').mono ?_;rintro e w' ⟨v2,rfl,h2,rfl⟩;clear h h'
 go_wp2_with fail
 refine(cmp_any _ _ _ _ _ h1 h2).mono ?_;rintro e wc ⟨v3,rfl,h3,hbc⟩;unfold Val at h3;subst h3;have h1:=h1.below hbc;have h2:=h2.below hbc;rw[val_limbs,val_limbs];have hlen:=sz_mono hle;unfold sz at hla hlen
 have hc0:0≤cmpN (val xs) (val ys):=by rcases Nat.lt_or_ge (val ys) (val xs)with h|h;·rw[cmpN_gt h];decide
                                       ·rw[cmpN_eq (by omega)];decide
 have Hva:=lH (val_limbs (val xs));have Hvb:=lH (val_limbs (val ys));generalize val xs=a at *
 generalize val ys=b at *
 have hcd:decide (cmpN a b<0)=false:=by simp;exact hc0
 generalize cmpN a b=cm at *
 have Hle:=lH hle;generalize limbs a=ls at *
 generalize limbs b=ms at *
 obtain⟨ad,n,cap,rfl,hn,hnc,hm,ha,hs⟩:=h1;obtain⟨ad',n',cap',rfl,hn',hnc',hm',hb,hs'⟩:=h2;have hn4:n≤4294967296:=by omega
 have Hlen:Hid (ms.length≤n):=lH (by omega);clear hla hlen hle;have Hn:=lH hn;clear hn;have Hn':=lH hn';clear hn';have Ha:=lH ha;clear ha;have Hb:=lH hb;clear hb
 go_wp2_with (at_make;refine wpList_make_u32 _ rfl _ _ _ rfl 147 Tryz.underlying32 Tryz.infoU32 _ n rfl rfl (by omega) (by omega) ?_;intro w0 hA0 hb0 _)
 go_wp2
 go_loopw [7,24] (fun cy i wr=>∃k c os,k≤n∧i= .int .i64 ((k:Nat):Int)∧cy= .int .u64 ((c:Nat):Int)∧Arr wr wc.heap.size os∧Hid (subInv n k c os ls ms)∧Below wc.heap.size wc wr) (fun _ i _=>n-(intOf i).toNat)
 case atStart=>exact⟨0,0,_,zL_ _,rfl,rfl,hA0,lH (subInv_zero _ _ _),hb0⟩
 case round=>
  obtain⟨k,c,os,hk,rfl,rfl,hA,Hs,hbl⟩:=hrel;have⟨hol,_,hc1,_⟩:=Hs.out
  by_cases hkn:k<n
  ·obtain⟨b1,off,rfl,hbw,hc⟩:=hs (by omega);have c1:=(hbl.cell (p:=⟨b1,off+k,none⟩) hbw).trans (hc k hkn);have bx:=lims_getD Ha.out k;have by':=lims_getD Hb.out k;have c3:=hA.cell k (by omega);have c4:=hA.frozen k;have ex:ls.getD k 0=ls[k]?.getD 0:=rfl;have ey:ms.getD k 0=ms[k]?.getD 0:=rfl;rw[ex]at bx c1;rw[ey]at by';have Ex:=lH ex;clear ex;have Ey:=lH ey;clear ey;have Ol:=lH hol;clear hol
   by_cases hkm:k<n'
   ·obtain⟨b2,off2,rfl,hbw2,hc2⟩:=hs' (by omega);have c2:=(hbl.cell (p:=⟨b2,off2+k,none⟩) hbw2).trans (hc2 k hkm);rw[Ey.out]at c2;clear hc hc2 hs hs';go_wp2
    go_roundw
    case rel=>
     exact⟨k+1,_,_,by omega,by go_num,congrArg (Value.int .u64) (Int.toNat_of_nonneg (by simp only[wrap_u64];omega)).symm,hA.setI k _ (by omega),lH (subInv_step Hs.out hkn Ex.out.symm Ey.out.symm Ha.out Hb.out _ _ (by simp only[wrap_u64];omega) (by omega) (by omega) (by simp only[wrap_u64];omega)),hbl.setCell (lR_ _) _⟩
    case measure=>simp[intOf]<;>omega
   ·have hz:ms.getD k 0=0:=by simp[List.getD,show ms.length≤k by have:=Hn'.out;omega]
    have Hz:=lH hz;clear hz hc hs hs';go_wp2
    go_roundw
    case rel=>
     exact⟨k+1,_,_,by omega,by go_num,congrArg (Value.int .u64) (Int.toNat_of_nonneg (by simp only[wrap_u64];omega)).symm,hA.setI k _ (by omega),lH (subInv_step (y:=0) Hs.out hkn Ex.out.symm Hz.out.symm Ha.out Hb.out _ _ (by simp only[wrap_u64];omega) (by omega) (by omega) (by simp only[wrap_u64];omega)),hbl.setCell (lR_ _) _⟩
    case measure=>simp[intOf]<;>omega
  ·obtain rfl:k=n:=by omega
   have HE:=lH (subInv_end Hs.out (by have:=Hn.out;omega) Hlen.out (by rw[Hva.out,Hvb.out];exact Hle.out));have Ol:=lH hol;clear hol hs hs'
   go_wp2_with fail
   refine(trim_any _ _ _ (hA.sl (n:=k) HE.out.1 HE.out.2.1 (lR_ _) (by omega))).mono ?_;rintro e w' ⟨v1,rfl,h1,rfl⟩;rw[HE.out.2.2,Hva.out,Hvb.out]at h1;go_wp2
   go_ret2
   exact⟨_,rfl,⟨_,rfl,h1⟩,hbc.trans (hbl.mono hbc.size)⟩
theorem sub_any (v v':Value)(xs ys:List Nat)(w:World)(h:Sl w v xs)(h':Sl w v' ys)(hx:xs.length≤4294967296):
  Calls Tryz.prog 159 #[v,v'] w (Ret w (NumE (val xs-val ys) (subErr (val xs) (val ys)))):=by
 rcases Nat.lt_or_ge (val xs) (val ys)with hlt|hle
 ·rw[subErr_lt hlt,show val xs-val ys=0 by omega];exact sub_no v v' xs ys w h h' hlt
 ·rw[subErr_le hle];exact sub_yes v v' xs ys w h h' hx hle
theorem mul_bound {x y:Nat}(hx:x<4294967296)(hy:y<4294967296):(x:Int)*(y:Int)≤18446744065119617025∧0≤(x:Int)*(y:Int):=by
 have h:x*y≤4294967295*4294967295:=Nat.mul_le_mul (by omega) (by omega);have h2:((x*y:Nat):Int)=(x:Int)*(y:Int):=Int.natCast_mul x y;omega
theorem mul_bound' {x y:Nat}(hx:x≤4294967296)(hy:y<4294967296):(x:Int)*(y:Int)≤18446744069414584320∧0≤(x:Int)*(y:Int):=by
 have h:x*y≤4294967296*4294967295:=Nat.mul_le_mul hx (by omega);have h2:((x*y:Nat):Int)=(x:Int)*(y:Int):=Int.natCast_mul x y;omega
theorem mulIn_stepI {n m i k c x y o:Nat}{os xs ys:List Nat}(h:mulIn n m i k c os xs ys)(hk:k<m)(hi:i<n)(hx:x=xs.getD i 0)(hy:y=ys.getD k 0)(ho:o=os.getD (i+k) 0)
  (hlx:lims xs) (hly:lims ys) (z:Int) (hz:z=(c:Int)+((x:Int)*(y:Int)+(o:Int))):mulIn n m i (k+1) (z/4294967296).toNat (os.set (i+k) (z % 4294967296).toNat) xs ys:=by
 have e:z=((c+(x*y+o):Nat):Int):=by rw[hz];simp
 have e1:(z/4294967296).toNat=(c+(x*y+o))/4294967296:=by omega
 have e2:(z % 4294967296).toNat=(c+(x*y+o)) % 4294967296:=by omega
 rw[e1,e2];exact mulIn_step h hk hi hx hy ho hlx hly _ rfl
theorem mul_zero_any (v v':Value)(xs ys:List Nat)(w:World)(h:Sl w v xs)(h':Sl w v' ys)(h0:val xs=0∨val ys=0):
  Calls Tryz.prog 143 #[v,v'] w (Ret w (Num 0)):=by
 go_enter Tryz.func143,Tryz.ntmps143
 go_wp2_with fail
 refine(trim_any _ xs _ h).mono ?_;rintro e w' ⟨v1,rfl,h1,rfl⟩
 go_wp2_with fail
 refine(trim_any _ ys _ h').mono ?_;rintro e w' ⟨v2,rfl,h2,rfl⟩;clear h h';obtain⟨ad,n,cap,rfl,hn,hnc,hm,ha,hs⟩:=h1;obtain⟨ad',n',cap',rfl,hn',hnc',hm',hb,hs'⟩:=h2
 by_cases hx:n=0
 ·subst hx;clear hn hn' hs hs' h0;go_wp2
  go_ret
  exact⟨_,rfl,by unfold Num;rw[limbs_zero];exact Sl.nil _,bR_ _ _⟩
 ·have hne:((n:Int)==0)=false:=by simp;exact hx
  have hy:n'=0:=by
   rcases h0 with h0|h0
   ·rw[h0,limbs_zero]at hn;simp at hn;omega
   ·rw[h0,limbs_zero]at hn';simp at hn';omega
  subst hy;clear hn hn' hs hs' h0 hx;go_wp2
  go_ret
  exact⟨_,rfl,by unfold Num;rw[limbs_zero];exact Sl.nil _,bR_ _ _⟩
theorem mul_pos_any (v v':Value)(xs ys:List Nat)(w:World)(h:Sl w v xs)(h':Sl w v' ys)(hx:xs.length≤4294967296)(hy:ys.length≤4294967296)(hx0:0<val xs)(hy0:0<val ys):
  Calls Tryz.prog 143 #[v,v'] w (Ret w (Num (val xs*val ys))):=by
 have hla:=sz_val h.lims;have hlb:=sz_val h'.lims;have hpa:=sz_pos hx0;have hpb:=sz_pos hy0;clear hx0 hy0
 go_enter Tryz.func143,Tryz.ntmps143
 go_wp2_with fail
 refine(trim_any _ xs _ h).mono ?_;rintro e w' ⟨v1,rfl,h1,rfl⟩
 go_wp2_with fail
 refine(trim_any _ ys _ h').mono ?_;rintro e w' ⟨v2,rfl,h2,rfl⟩;clear h h';unfold sz at hla hlb hpa hpb;have Hva:=lH (val_limbs (val xs));have Hvb:=lH (val_limbs (val ys));generalize val xs=a at *
 generalize val ys=b at *
 generalize limbs a=ls at *
 generalize limbs b=ms at *
 obtain⟨ad,n,cap,rfl,hn,hnc,hm,ha,hs⟩:=h1;obtain⟨ad',n',cap',rfl,hn',hnc',hm',hb,hs'⟩:=h2;have hn4:n≤4294967296:=by omega
 have hn4':n'≤4294967296:=by omega
 have hp:0<n:=by omega
 have hp':0<n':=by omega
 have hne:((n:Int)==0)=false:=by simp;omega
 have hne':((n':Int)==0)=false:=by simp;omega
 clear hla hlb hpa hpb;have Hn:=lH hn;clear hn;have Hn':=lH hn';clear hn';have Ha:=lH ha;clear ha;have Hb:=lH hb;clear hb;obtain⟨b1,off,rfl,hbw,hc⟩:=hs hp;obtain⟨b2,off2,rfl,hbw2,hc2⟩:=hs' hp';have Hc:=lH hc;clear hc hs;have Hc2:=lH hc2;clear hc2 hs'
 go_wp2_with (at_make;refine wpList_make_u32 _ rfl _ _ _ rfl 147 Tryz.underlying32 Tryz.infoU32 _ (n+n') rfl rfl (by omega) (by omega) ?_;intro w0 hA0 hb0 _)
 go_wp2
 go_loopw [31] (fun i wr=>∃k os,k≤n∧i= .int .i64 ((k:Nat):Int)∧Arr wr w.heap.size os∧Hid (mulOut n n' k os ls ms)∧Below w.heap.size w wr) (fun i _=>n-(intOf i).toNat)
 case atStart=>exact⟨0,_,zL_ _,rfl,hA0,lH (mulOut_zero _ _ _ _),hb0⟩
 case round=>
  obtain⟨i,os,hi,rfl,hA,Hs,hbl⟩:=hrel
  by_cases hin:i<n
  ·have c1:=(hbl.cell (p:=⟨b1,off+i,none⟩) hbw).trans (Hc.out i hin);have bx:=lims_getD Ha.out i;have ex:ls.getD i 0=ls[i]?.getD 0:=rfl;rw[ex]at bx c1;have Ex:=lH ex;clear ex;obtain⟨wo,rfl⟩:∃wo:World,wo=wr:=⟨_,rfl⟩;go_wp2
   go_loopw [8,38] (fun cy j wr=>∃k c os,k≤n'∧j= .int .i64 ((k:Nat):Int)∧cy= .int .u64 ((c:Nat):Int)∧Arr wr w.heap.size os∧Hid (mulIn n n' i k c os ls ms)∧Below w.heap.size w wr) (fun _ j _=>n'-(intOf j).toNat)
   case atStart=>exact⟨0,0,os,zL_ _,rfl,rfl,hA,lH (mulIn_zero Hs.out),hbl⟩
   case round=>
    clear hA Hs hbl c1;obtain⟨k,c,os,hk,rfl,rfl,hA,Hs,hbl⟩:=hrel;have⟨hol,hos,_,hcb,_⟩:=Hs.out;have Ol:=lH hol;clear hol
    by_cases hkn:k<n'
    ·have c2:=(hbl.cell (p:=⟨b2,off2+k,none⟩) hbw2).trans (Hc2.out k hkn);have by':=lims_getD Hb.out k;have ey:ms.getD k 0=ms[k]?.getD 0:=rfl;rw[ey]at by' c2;have Ey:=lH ey;clear ey;have c3:=hA.cell (i+k) (by rw[Ol.out];omega);have c4:=hA.frozen (i+k);have bo:=lims_getD hos (i+k);have eo:os.getD (i+k) 0=os[i+k]?.getD 0:=rfl;rw[eo]at bo c3;have Eo:=lH eo;clear eo;have hxy:=mul_bound bx by';clear hos;go_wp2
     go_roundw
     case rel=>
      exact⟨k+1,_,_,by omega,by go_num,congrArg (Value.int .u64) (Int.toNat_of_nonneg (by omega)).symm,hA.setI (i+k) _ (by omega),lH (mulIn_stepI Hs.out hkn hin Ex.out.symm Ey.out.symm Eo.out.symm Ha.out Hb.out _ rfl),hbl.setCell (lR_ _) _⟩
     case measure=>simp[intOf]<;>omega
    ·obtain rfl:k=n':=by omega
     have c3:=hA.cell (i+k) (by rw[Ol.out];omega);have c4:=hA.frozen (i+k);have HM:=lH (mulOut_step Hs.out hin (by have:=Hn'.out;omega));clear hos;go_wp2
     go_roundw
     case rel=>exact⟨i+1,_,by omega,by go_num,hA.setI (i+k) (c:Int) (by omega),by rw[Int.toNat_natCast];exact HM,hbl.setCell (lR_ _) _⟩
     case measure=>simp[intOf]<;>omega
  ·obtain rfl:i=n:=by omega
   have HE:=lH (mulOut_end Hs.out (by have:=Hn.out;omega))
   go_wp2_with fail
   refine(trim_any _ _ _ (hA.sl (n:=i+n') HE.out.1 HE.out.2.1 (lR_ _) (by omega))).mono ?_;rintro e w' ⟨v1,rfl,h1,rfl⟩;rw[HE.out.2.2,Hva.out,Hvb.out]at h1;go_wp2
   go_ret
   exact⟨_,rfl,h1,hbl⟩
theorem mul_any (v v':Value)(xs ys:List Nat)(w:World)(h:Sl w v xs)(h':Sl w v' ys)(hx:xs.length≤4294967296)(hy:ys.length≤4294967296):
  Calls Tryz.prog 143 #[v,v'] w (Ret w (Num (val xs*val ys))):=by
 rcases eP_ (val xs)with h0|h0
 ·have:=mul_zero_any v v' xs ys w h h' (Or.inl h0)
  rwa [h0,Nat.zero_mul]
 ·rcases eP_ (val ys)with h1|h1
  ·have:=mul_zero_any v v' xs ys w h h' (Or.inr h1)
   rwa [h1,Nat.mul_zero]
  ·exact mul_pos_any v v' xs ys w h h' hx hy h0 h1
theorem or_low {o m s:Nat}(ho:o<2^s):o ||| (m*2^s)=o+m*2^s:=by
 have:=Nat.two_pow_add_eq_or_of_lt ho m;rw[Nat.or_comm,Nat.mul_comm m,←this,Nat.add_comm]
theorem pow_split {s k:Nat}(h:s≤k):2^k=2^s*2^(k-s):=by rw[←Nat.pow_add];congr 1;omega
theorem mod_shift {x s:Nat}(hs:s≤32):(x*2^s) % 4294967296=(x % 2^(32-s))*2^s:=by
 have e:4294967296=2^(32-s)*2^s:=by rw[Nat.mul_comm,←pow_split hs]
 rw[e,Nat.mul_mod_mul_right]
theorem shl_bound {x s:Nat}(hx:x<4294967296)(hs:s≤32):x*2^s<18446744073709551616:=by
 have h1:2^s≤2^32:=Nat.pow_le_pow_right (by decide) hs;have h2:x*2^s≤4294967295*2^32:=Nat.mul_le_mul (by omega) h1;have e:2^32=4294967296:=by decide
 rw[e]at h2;omega
theorem wrap_shl {x s:Nat}(hx:x<4294967296)(hs:s≤32):IntKind.u64.wrap ((x:Int)*2^s)=((x*2^s:Nat):Int):=by
 have h:=shl_bound hx hs;have e:((x*2^s:Nat):Int)=(x:Int)*2^s:=by simp
 rw[wrap_u64,←e];omega
theorem left_or {o x s:Nat}(ho:o<2^s)(hx:x<4294967296)(hs:s≤31):
  bits .or .u32 (o:Int) (IntKind.u64.wrap ((x:Int)*2^s) % 4294967296)=((o+(x*2^s) % 4294967296:Nat):Int):=by
 rw[wrap_shl hx (by omega)];have e:((x*2^s:Nat):Int) % 4294967296=(((x*2^s) % 4294967296:Nat):Int):=by omega
 have h1:2^s≤2^31:=Nat.pow_le_pow_right (by decide) hs;have e1:2^31=2147483648:=by decide
 rw[e,u32_or_nat _ _ (by omega) (Nat.mod_lt _ (by decide)),mod_shift (by omega),or_low ho]
def leftInv (n i s:Nat)(os xs:List Nat):Prop:=
 os.length=n+1∧lims os∧os.getD i 0<2^s∧val (os.take (i+1))=2^s*val (xs.take i)
theorem leftInv_zero (n s:Nat)(xs:List Nat):leftInv n 0 s (List.replicate (n+1) 0) xs:=
 ⟨by simp,lims_replicate _,by rw[getD_replicate];exact Nat.pow_pos (by decide),by simp[val]⟩
theorem leftInv_step {n i s x:Nat}{os xs:List Nat}(h:leftInv n i s os xs)(hi:i<n)(hs:s≤31)(hx:x=xs.getD i 0)(hlx:lims xs):
  leftInv n (i+1) s ((os.set i (os.getD i 0+(x*2^s) % 4294967296)).set (i+1) ((x*2^s)/4294967296)) xs:=by
 obtain⟨h1,h2,h3,h4⟩:=h;have bx:=lims_getD hlx i;rw[←hx]at bx;have hp:0<2^s:=Nat.pow_pos (by decide);have hlo:os.getD i 0+(x*2^s) % 4294967296<4294967296:=by
  rw[mod_shift (by omega)];have hm:x % 2^(32-s)<2^(32-s):=Nat.mod_lt _ (Nat.pow_pos (by decide));have h5:(x % 2^(32-s)+1)*2^s≤2^(32-s)*2^s:=Nat.mul_le_mul_right _ hm;rw[Nat.mul_comm (2^(32-s)),←pow_split (show s≤32 by omega),Nat.add_mul]at h5;have e1:2^32=4294967296:=by decide
  omega
 have hhi:(x*2^s)/4294967296<2^s:=by
  apply Nat.div_lt_of_lt_mul;exact Nat.mul_lt_mul_of_pos_right bx hp
 have h31:2^s≤2^31:=Nat.pow_le_pow_right (by decide) hs;have e31:2^31=2147483648:=by decide
 refine⟨by simpa using h1,lims_set (lims_set h2 _ _ hlo) _ _ (by omega),?_,?_⟩
 ·rw[getD_set_eq (by simp;omega)];exact hhi
 ·rw[val_set_take (by simp;omega),val_set_take (by omega),val_take_step xs,←hx];rw[val_take_step os]at h4;have e2:2^s*(4294967296^i*x)=4294967296^i*(x*2^s):=by grind
  have e3:4294967296^i*(x*2^s)=4294967296^i*((x*2^s) % 4294967296)+4294967296^(i+1)*((x*2^s)/4294967296):=by
   rw[Nat.pow_succ,Nat.mul_assoc,←Nat.mul_add];congr 1;omega
  rw[Nat.mul_add (2^s),e2,e3,Nat.mul_add];omega
theorem leftInv_end {n s:Nat}{os xs:List Nat}(h:leftInv n n s os xs)(hn:xs.length≤n):lims os∧os.length=n+1∧val os=2^s*val xs:=by
 obtain⟨h1,h2,h3,h4⟩:=h;rw[val_take_ge hn,val_take_ge (by omega)]at h4;exact⟨h2,h1,h4⟩
def Lefted (w:World)(xs:List Nat)(s:Nat)(w':World)(v:Value):Prop:=
 ∃b os,v= .slice (some ⟨b,0,none⟩) (xs.length+1) (xs.length+1)∧w.heap.size≤b∧Arr w' b os∧lims os∧os.length=xs.length+1∧val os=2^s*val xs
theorem left_any (v:Value)(xs:List Nat)(s:Nat)(w:World)(h:Sl w v xs)(hx:xs.length≤8589934592)(hs31:s≤31):
  Calls Tryz.prog 164 #[v,.int .i64 (s:Int)] w (Ret w (Lefted w xs s)):=by
 obtain⟨ad,n,cap,rfl,hn,hnc,hm,ha,hs⟩:=h;have hn4:n≤8589934592:=by omega
 have Hn:=lH hn;clear hn hx;have Ha:=lH ha;clear ha
 go_enter Tryz.func164,Tryz.ntmps164
 go_wp2_with (at_make;refine wpList_make_u32 _ rfl _ _ _ rfl 147 Tryz.underlying32 Tryz.infoU32 _ (n+1) rfl rfl (by omega) (by omega) ?_;intro w0 hA0 hb0 _)
 go_wp2
 go_loopw [15] (fun i wr=>∃k os,k≤n∧i= .int .i64 ((k:Nat):Int)∧Arr wr w.heap.size os∧Hid (leftInv n k s os xs)∧Below w.heap.size w wr) (fun i _=>n-(intOf i).toNat)
 case atStart=>exact⟨0,_,zL_ _,rfl,hA0,lH (leftInv_zero _ _ _),hb0⟩
 case round=>
  obtain⟨i,os,hi,rfl,hA,Hs,hbl⟩:=hrel
  by_cases hin:i<n
  ·obtain⟨b1,off,rfl,hbw,hc⟩:=hs (by omega);have c1:=(hbl.cell (p:=⟨b1,off+i,none⟩) hbw).trans (hc i hin);have⟨hol,hos,hob,_⟩:=Hs.out;have bx:=lims_getD Ha.out i;have HO:Hid (bits .or .u32 ((os[i]?.getD 0:Nat):Int) (IntKind.u64.wrap (((xs[i]?.getD 0:Nat):Int)*2^s) % 4294967296)=((os.getD i 0+(xs.getD i 0*2^s) % 4294967296:Nat):Int)):=lH (left_or hob bx hs31)
   have HW:Hid (IntKind.u64.wrap (((xs[i]?.getD 0:Nat):Int)*2^s)/4294967296 % 4294967296=(((xs.getD i 0*2^s)/4294967296:Nat):Int)):=lH (by
    have e1:=wrap_shl bx (show s≤32 by omega);have e2:=shl_bound bx (show s≤32 by omega);have e3:IntKind.u64.wrap (((xs[i]?.getD 0:Nat):Int)*2^s)=((xs.getD i 0*2^s:Nat):Int):=e1;rw[e3];omega)
   have ex:xs.getD i 0=xs[i]?.getD 0:=rfl;rw[ex]at bx c1;have Ex:=lH ex;clear ex;have c3:=hA.cell i (by omega);have c4:=hA.frozen i;have c5:=hA.cell (i+1) (by omega);have c6:=hA.frozen (i+1);have Ol:=lH hol;clear hol hos hob hc hs;go_wp2
   go_roundw
   case rel=>
    refine⟨i+1,_,by omega,by go_num,?_,lH (leftInv_step Hs.out hin hs31 rfl Ha.out),(hbl.setCell (lR_ _) _).setCell (lR_ _) _⟩;rw[HO.out,HW.out];exact(hA.set i _).set (i+1) _
   case measure=>simp[intOf]<;>omega
  ·obtain rfl:i=n:=by omega
   have HE:=lH (leftInv_end Hs.out (by have:=Hn.out;omega));go_wp2
   go_ret
   refine⟨_,rfl,⟨w.heap.size,os,?_,lR_ _,hA,HE.out.1,?_,HE.out.2.2⟩,hbl⟩
   ·rw[Hn.out];rfl
   ·rw[Hn.out];exact HE.out.2.1
end Go.Proofs.YtcnebhohjghngaaGreatDoor
