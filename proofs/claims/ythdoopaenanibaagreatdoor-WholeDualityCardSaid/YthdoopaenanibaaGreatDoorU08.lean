/- Texts LtE LtF LtG LyM LyN LyO LzJ LzK LzM LzN LmJ LmK LzO LmP LmQ LmR LzP LzQ LzR of this proof, in this order. -/
import Derived.Test.YthdoopaenanibaaGreatDoorU07
import Derived.Deep.RegionHeld3
import Derived.Test.YthdoopaenanibaaGreatDoorU06
import Derived.Maps.Views
import Derived.StringKeys
import Derived.Test.YthdoopaenanibaaGreatDoorU05
import Derived.Test.YthdoopaenanibaaGreatDoorRows
import Derived.Lib.LaidTab
import Derived.OpenShut
import Derived.ShutString
import Derived.ChangeOld
import Derived.ProofKit
import Derived.WalkKit
import Derived.LaidMore
set_option linter.unusedVariables false
set_option linter.unusedSimpArgs false
set_option maxRecDepth 100000
set_option maxHeartbeats 4000000
namespace Go.Proofs.YthdoopaenanibaaGreatDoor.Lf
open Go.RowKit Go.Shelf Nt
open Go.Lib (decDigits IsBuilder BuilderAt byteCells strCells byteCells_append byteCells_length)
abbrev Bld (b:Nat)(l:List UInt8)(w:World):Prop:=IsBuilder 215 5 b b (Go.Lib.byteCells l) w
theorem Bld.below {b:Nat}{l:List UInt8}{w w':World}(h:Bld b l w)(hb:RowKit.Below w.heap.size w w'):Bld b l w':=by
 have key:∀p,BuilderAt 215 5 b b p (Go.Lib.byteCells l) w→BuilderAt 215 5 b b p (Go.Lib.byteCells l) w':=fun p h=>by
  obtain⟨h1,v,h2,h3,h4⟩:=h;exact⟨h1,v,(hb.block b (lt_of_block h2)).trans h2,row_below h3 hb,h4⟩
 exact h.elim (fun h=> .inl (key _ h)) fun h=> .inr (key _ h)
theorem Bld.lt {b:Nat}{l:List UInt8}{w:World}(h:Bld b l w):b<w.heap.size:=h.elim (·.lt) (·.lt)
theorem Bld.new (w:World):Bld w.heap.size [] (w.alloc (.cells #[.pointer none,.slice none 0 0] 215)):=
 .inl ⟨lR_ _,_,heap_alloc_new w _,World.ownsRow_nil _ _ _ _,by simp[Value.ownBlock]⟩
theorem sh_len {b:Nat}{l:List UInt8}{w:World}(h:Bld b l w):Calls Tryz.prog 158 #[.pointer (some ⟨b,0,none⟩)] w fun e w'=>e= .returned (.int .i64 (l.length:Nat))∧w'=w:=by
 have:=Any.Builder_Len L170 b b (Go.Lib.byteCells l) w h;rw[Go.Lib.byteCells_length]at this;exact this
theorem sh_write {b:Nat}{l t:List UInt8}{w:World}(h:Bld b l w)(hl:l.length+t.length≤140737488355328):Calls Tryz.prog 159 #[.pointer (some ⟨b,0,none⟩),strV t] w fun e w'=>(∃r,e= .returned r)∧Bld b (l++t) w'∧RowKit.Below b w w':=by
 have:=Any.Builder_WriteString L166 LEx b b (Go.Lib.byteCells l) ⟨t.toArray⟩ w h (by rw[Go.Lib.byteCells_length,str_size];exact hl) (Nat.le_of_lt h.lt);refine this.mono ?_;rintro e w' ⟨rfl,h1,h2⟩;exact⟨⟨_,rfl⟩,.inr (by rw[Go.Lib.byteCells_append];exact h1),h2⟩
theorem sh_string {b:Nat}{l:List UInt8}{w:World}(h:Bld b l w):Calls Tryz.prog 162 #[.pointer (some ⟨b,0,none⟩)] w fun e w'=>e= .returned (strV l)∧RowKit.Below b w w':=
 Any.Builder_String_any L169 LEx b b l w h (Nat.le_of_lt h.lt)
theorem tx_part {b:Nat}{l t:List UInt8}{neg:Bool}{w:World}(h:Bld b l w)(hl:l.length+3+t.length≤140737488355328):
  Calls Tryz.prog 157 #[.bool neg,strV t,.pointer (some ⟨b,0,none⟩)] w fun e w'=>(∃r,e= .returned r)∧Bld b (l++(sgT (decide (l=[])) neg++t)) w'∧RowKit.Below b w w':=by
 have hlt:=h.lt
 by_cases h0:l=[]
 ·subst h0
  cases neg with
  |true=>
   go_enter Tryz.func157,Tryz.ntmps157
   go_wp2_with (first
    |(go_at_call 158;refine(sh_len h).mono ?_;rintro e w' ⟨rfl,rfl⟩)
    |(go_at_call 159;refine(sh_write (t:=t) h1 (by first|(simp;done)|(simp;omega)|omega)).mono ?_;rintro e w2 ⟨⟨r2,rfl⟩,h2,hb2⟩)
    |(go_at_call 159;refine(sh_write (t:=[45]) h (by first|(simp;done)|(simp;omega)|omega)).mono ?_;rintro e w1 ⟨⟨r1,rfl⟩,h1,hb1⟩))
   go_end0
   exact⟨⟨_,rfl⟩,h2,hb1.trans hb2⟩
  |false=>
   go_enter Tryz.func157,Tryz.ntmps157
   go_wp2_with (first
    |(go_at_call 158;refine(sh_len h).mono ?_;rintro e w' ⟨rfl,rfl⟩)
    |(go_at_call 159;refine(sh_write (t:=t) h (by omega)).mono ?_;rintro e w2 ⟨⟨r2,rfl⟩,h2,hb2⟩))
   go_end0
   exact⟨⟨_,rfl⟩,h2,hb2⟩
 ·have hp:0<l.length:=List.length_pos_iff.2 h0;have hz:(((l.length:Nat):Int)==0)=false:=by simp;omega
  cases neg with
  |true=>
   go_enter Tryz.func157,Tryz.ntmps157
   go_wp2_with (first
    |(go_at_call 158;refine(sh_len h).mono ?_;rintro e w' ⟨rfl,rfl⟩)
    |(go_at_call 159;refine(sh_write (t:=t) h1 (by first|(simp;done)|(simp;omega)|omega)).mono ?_;rintro e w2 ⟨⟨r2,rfl⟩,h2,hb2⟩)
    |(go_at_call 159;refine(sh_write (t:=[32,45,32]) h (by first|(simp;done)|(simp;omega)|omega)).mono ?_;rintro e w1 ⟨⟨r1,rfl⟩,h1,hb1⟩))
   go_end0
   exact⟨⟨_,rfl⟩,by rw[decide_eq_false h0,←List.append_assoc];exact h2,hb1.trans hb2⟩
  |false=>
   go_enter Tryz.func157,Tryz.ntmps157
   go_wp2_with (first
    |(go_at_call 158;refine(sh_len h).mono ?_;rintro e w' ⟨rfl,rfl⟩)
    |(go_at_call 159;refine(sh_write (t:=t) h1 (by first|(simp;done)|(simp;omega)|omega)).mono ?_;rintro e w2 ⟨⟨r2,rfl⟩,h2,hb2⟩)
    |(go_at_call 159;refine(sh_write (t:=[32,43,32]) h (by first|(simp;done)|(simp;omega)|omega)).mono ?_;rintro e w1 ⟨⟨r1,rfl⟩,h1,hb1⟩))
   go_end0
   exact⟨⟨_,rfl⟩,by rw[decide_eq_false h0,←List.append_assoc];exact h2,hb1.trans hb2⟩
open Go.Lib (decDigits IsBuilder BuilderAt byteCells strCells byteCells_append byteCells_length)
abbrev M0:MS:=fun _ _=>False
def γ0:Gh:=fun _=>undef
theorem rel0 {M:MS}{w:World}(h:Glb M w):Rel γ0 (look []) M0 w:=
 ⟨fun key e he=>absurd he (by simp[look]),fun key b i ho=>by simp[Owns,look]at ho,fun k1 k2 b l1=>by simp[look,live]at l1,fun b i n h=>h.elim,fun b i h=>h.elim,h.fx fun b i v k=>⟨fun h=>h,k.2⟩⟩
theorem toM0 {M:MS}{w:World}{d:D}{v:Value}(h:RdD M w d v):RdD M0 w d v:=h.fx fun b i v k=>⟨fun h=>h,k.2⟩
theorem lv_lit {P:Program}{F:FuncId}{args:List V}{u:Value}(h:LV P F args (vl u)){M:MS}{w:World}{rs:List Value}(hG:Glb M w)(ha:All2 (RdV γ0 (look []) M0 w) args rs):
  Calls P F rs.toArray w fun e w'=>e= .returned u∧RowKit.Below w.heap.size w w':=by
 obtain⟨v',H',⟨rfl,rfl⟩,hc⟩:=h;refine cM (hc γ0 M0 w rs (rel0 hG) ha) ?_;rintro e w' ⟨r,γ',M',h1,h2,h3,h4⟩;exact⟨by rw[h1,show r=u from lit_inv h3],h4.os,h4.tape,h4.output,h4.size,fun k hk=>h4.other k hk fun key i ho=>by simp[Owns,look]at ho⟩
theorem tlT_snoc (l:List (Bool×List UInt8))(p:Bool×List UInt8):tlT (l++[p])=tlT l++(sgT false p.1++p.2):=by simp[tlT]
theorem rdT_snoc {l:List (Bool×List UInt8)}(h:∀p∈l,PtOkT p)(p:Bool×List UInt8):rdT (l++[p])=rdT l++(sgT (decide (rdT l=[])) p.1++p.2):=by
 cases l with
 |nil=>simp[rdT,tlT]
 |cons q l=>
  have hne:rdT (q::l)≠[]:=by
   obtain⟨d,r,e,_⟩:=(h q List.mem_cons_self).hd;simp[rdT,e]
  rw[decide_eq_false hne,List.cons_append,rdT,rdT,tlT_snoc];simp[List.append_assoc]
abbrev prT (t:Tm):Bool×List UInt8:=(decide (t.q<0),tmT t)
def acT (f:Af)(i:Nat):List UInt8:=rdT ((f.ts.take i).map prT)
theorem prT_ok {t:Tm}:PtOkT (prT t):=⟨tmT_ch.1,tmT_ch.2⟩
theorem acT_succ {f:Af}{i:Nat}{t:Tm}(h:f.ts[i]? =some t):acT f (i+1)=acT f i++(sgT (decide (acT f i=[])) (decide (t.q<0))++tmT t):=by
 unfold acT;rw[take_snoc h,List.map_append,List.map_cons,List.map_nil,rdT_snoc];intro p hp;obtain⟨t,_,rfl⟩:=List.mem_map.1 hp;exact prT_ok
theorem txt_end (f:Af):txt f=if f.c≠0∨f.ts=[]then acT f f.ts.length++(sgT (decide (acT f f.ts.length=[])) (decide (f.c<0))++szT f.c)else acT f f.ts.length:=by
 unfold txt ptT acT;rw[List.take_length];split
 ·rw[rdT_snoc];intro p hp;obtain⟨t,_,rfl⟩:=List.mem_map.1 hp;exact prT_ok
 ·rw[List.append_nil]
theorem acT_nil {f:Af}:acT f f.ts.length=[]↔f.ts=[]:=by
 unfold acT;rw[List.take_length]
 cases hts:f.ts with
 |nil=>simp[rdT]
 |cons t ts=>
  obtain⟨d,r,e,_⟩:=(prT_ok (t:=t)).hd;simp only[List.map_cons,rdT];constructor
  ·intro h;have:=congrArg List.length h;rw[show tmT t=d::r from e]at this;simp at this
  ·intro h;cases h
theorem szT_len {q:Rat}(h:Sz q):(szT q).length≤4000000000:=by
 obtain⟨k1,k2⟩:=sz_q h (by decide);clear h;have l1:=dcS_len k1;have l2:=dcS_len k2;unfold szT;rw[List.length_append];split
 ·simp;omega
 ·rename_i hd;unfold dn at l2;rw[if_neg hd]at l2;rw[List.length_cons];omega
theorem dd_100 {v:Nat}(h:v<100):(decDigits v).length≤2:=dd_len (k:=1) (by omega)
theorem tmT_len {t:Tm}(h:Sz t.q)(hv:t.v<100):(tmT t).length≤4000000010:=by
 have h1:=szT_len h;have h2:=dd_100 (v:=t.v.toNat) (by omega);unfold tmT;rw[List.length_append,List.length_cons];split
 ·simp;omega
 ·rw[List.length_append];simp;omega
theorem sg_len (b c:Bool):(sgT b c).length≤3:=by cases b<;>cases c<;>decide
theorem acT_len {f:Af}(h:∀t∈f.ts,Sz t.q∧t.v<100):∀i,i≤f.ts.length→(acT f i).length≤i*4000000013
 |0,_=>by simp[acT,rdT]
 |i+1,hi=>by
  obtain⟨t,ht⟩:=at_some (l:=f.ts) (i:=i) (by omega);obtain⟨h1,h2⟩:=h t (mG_ ht);have h3:=acT_len h i (by omega);have h4:=tmT_len h1 h2;have h5:=sg_len (decide (acT f i=[])) (decide (t.q<0));rw[acT_succ ht,List.length_append,List.length_append];clear h1;omega
open Go.Lib (decDigits IsBuilder BuilderAt byteCells strCells byteCells_append byteCells_length)
theorem sh_itoa {v:Nat}(h:v<100)(w:World):Calls Tryz.prog 160 #[.int .i64 (v:Nat)] w fun e w'=>e= .returned (strV (decDigits v))∧w'=w:=Any.strconv_Itoa_small L171 v h w
theorem sh_size {q:Rat}(h:Sz q){M:MS}{w:World}(hG:Glb M w){ng nm dv:Value}(k0:RdD M w (.lit (.bool (decide (q<0)))) ng)(k1:RdD M w (.nat q.num.natAbs) nm)(k2:RdD M w (.nat (dn q)) dv):
  Calls Tryz.prog 161 #[.agg #[ng,nm,dv]] w fun e w'=>e= .returned (strV (szT q))∧RowKit.Below w.heap.size w w':=
 lv_lit (rs:=[.agg #[ng,nm,dv]]) (lx_size h) hG ⟨⟨[ng,nm,dv],rfl,toM0 k0,toM0 k1,toM0 k2,trivial⟩,trivial⟩
theorem tx_text {f:Af}{M:MS}{w:World}(hG:Glb M w)(hn:f.ts.length≤1000)(ht:∀t∈f.ts,Sz t.q∧0≤t.v∧t.v<100)(hc:Sz f.c)
  {ts ng nm dv:Value} (k0:RdD M w (.sl 4 (f.ts.map Tm.D)) ts) (k1:RdD M w (.lit (.bool (decide (f.c<0)))) ng) (k2:RdD M w (.nat f.c.num.natAbs) nm) (k3:RdD M w (.nat (dn f.c)) dv):
  Calls Tryz.prog 126 #[.agg #[ts,ng,nm,dv]] w fun e w'=>e= .returned (strV (txt f))∧RowKit.Below w.heap.size w w':=by
 obtain⟨ad,cap,vs,rfl,hcap,hl,hadr,hone,hrd⟩:∃(ad:Option Addr) (cap:Nat) (vs:Nat→Nat→Value),ts= .slice ad f.ts.length cap∧f.ts.length≤cap∧f.ts.length≤1099511627776∧
   (0<f.ts.length→∃b o,ad=some ⟨b,o,none⟩∧∀(i:Nat) (row:List D) (j:Nat) (d:D),(f.ts.map Tm.D)[i]? =some row→row[j]? =some d→Fx M w b (o+i*4+j) (vs i j))∧
   (∀i j,(vs i j).oneCell'=true)∧∀(i:Nat) (row:List D) (j:Nat) (d:D),(f.ts.map Tm.D)[i]? =some row→row[j]? =some d→RdD M w d (vs i j):=by
  cases k0 with
  |sl _ _ ad cap vs hc hl h0 hk h1 hr=>
   rw[List.length_map]at hc hl h0;exact⟨ad,cap,vs,by rw[List.length_map],hc,hl,h0,h1,hr⟩
 obtain rfl:=lit_inv k1;obtain⟨an,ln,cn,rfl,hln,_⟩:=rd_sl k2;obtain⟨add,ld,cd,rfl,hld,_⟩:=rd_sl k3
 have hlen:∀i,i≤f.ts.length→(acT f i).length≤1000*4000000013:=fun i hi=>
  tL_ (acT_len (fun t h=>⟨(ht t h).1,(ht t h).2.2⟩) i hi) (Nat.mul_le_mul_right _ (by omega))
 obtain⟨W1,hW1⟩:∃W1,w.alloc (.cells #[.slice ad f.ts.length cap,.bool (decide (f.c<0)),.slice an ln cn,.slice add ld cd] 32)=W1:=⟨_,rfl⟩;obtain⟨W2,hW2⟩:∃W2,W1.alloc (.cells #[.pointer none,.slice none 0 0] 215)=W2:=⟨_,rfl⟩;have hs1:W1.heap.size=w.heap.size+1:=by rw[←hW1];simp
 have hb1:RowKit.Below w.heap.size w W1:=by rw[←hW1];exact(RowKit.Below.refl _ _).alloc (lR_ _) _
 have hb2:RowKit.Below W1.heap.size W1 W2:=by rw[←hW2];exact(RowKit.Below.refl _ _).alloc (lR_ _) _
 have hbx:W1.heap[w.heap.size]? =some (.cells #[.slice ad f.ts.length cap,.bool (decide (f.c<0)),.slice an ln cn,.slice add ld cd] 32 (0,0)):=by rw[←hW1];exact heap_alloc_new w _
 have hB2:Bld (w.heap.size+1) [] W2:=by rw[←hs1,←hW2];exact Bld.new W1
 have cf:∀{W':World},W'.heap[w.heap.size]? =W1.heap[w.heap.size]?→W'.cell? ⟨w.heap.size,0,none⟩=some (.slice ad f.ts.length cap)∧W'.cell? ⟨w.heap.size,1,none⟩=some (.bool (decide (f.c<0)))∧W'.cell? ⟨w.heap.size,2,none⟩=some (.slice an ln cn)∧W'.cell? ⟨w.heap.size,3,none⟩=some (.slice add ld cd):=fun h=>by
  have:=h.trans hbx;simp only[World.cell?,this];exact⟨rfl,rfl,rfl,rfl⟩
 obtain⟨d0,d1,d2,d3⟩:=cf (W':=W2) (hb2.block _ (by omega))
 go_enter Tryz.func126,Tryz.ntmps126
 go_wp2_with (first|rw[hW1]|rw[hW2]|fail)
 go_loopw [13] (fun iv wr=>∃i:Nat,i≤f.ts.length∧iv= .int .i64 i∧Bld (w.heap.size+1) (acT f i) wr∧RowKit.Below (w.heap.size+1) W2 wr) (fun iv _=>f.ts.length-(intOf iv).toNat)
 case atStart=>exact⟨0,zL_ _,rfl,hB2,RowKit.Below.refl _ _⟩
 case round=>
  obtain⟨i,hi,rfl,hB,hbr⟩:=hrel;clear d0 d1 d2 d3;obtain⟨d0,d1,d2,d3⟩:=cf (W':=wr) ((hbr.block _ (by omega)).trans (hb2.block _ (by omega)))
  by_cases hlt:i<f.ts.length
  ·obtain⟨t,hti⟩:=at_some hlt;obtain⟨hq,hv0,hv1⟩:=ht t (mG_ hti);obtain⟨tb,o,rfl,hfx⟩:=hadr (by omega);obtain⟨v,hv⟩:∃v:Nat,t.v=v:=⟨t.v.toNat,by omega⟩;have hrow:(f.ts.map Tm.D)[i]? =some t.D:=at_map hti;have hBw:RowKit.Below w.heap.size w wr:=hb1.trans ((hb2.trans (hs1▸hbr)).mono hb1.size);have hGr:Glb M wr:=hG.fx (fx_belowB hBw)
   have cl:∀(j:Nat) d,t.D[j]? =some d→wr.cell? ⟨tb,o+i*4+j,none⟩=some (vs i j)∧RdD M wr d (vs i j):=fun j d hj=>
    ⟨(fx_belowB hBw _ _ _ (hfx i _ j d hrow hj)).2,RdD.fx (fx_belowB hBw) (hrd i _ j d hrow hj)⟩
   obtain⟨e0,r0⟩:=cl 0 _ rfl;obtain⟨e1,r1⟩:=cl 1 _ rfl;obtain⟨e2,r2⟩:=cl 2 _ rfl;obtain⟨e3,r3⟩:=cl 3 _ rfl;have q0:=lit_inv r0;have q1:=lit_inv r1;obtain⟨a2,l2,c2,q2,_⟩:=rd_sl r2;obtain⟨a3,l3,c3,q3,_⟩:=rd_sl r3;rw[q2]at r2;rw[q3]at r3;rw[q0,hv,Nat.add_zero]at e0;rw[q1]at e1;rw[q2]at e2;rw[q3]at e3;clear cl r0 r1 q0 q1 q2 q3 hfx;obtain⟨W3,hW3⟩:∃W3,wr.alloc (.cells #[.int .i64 (v:Nat),.bool (decide (t.q<0)),.slice a2 l2 c2,.slice a3 l3 c3] 79)=W3:=⟨_,rfl⟩;have hb3:RowKit.Below wr.heap.size wr W3:=by rw[←hW3];exact(RowKit.Below.refl _ _).alloc (lR_ _) _
   have hbx3:W3.heap[wr.heap.size]? =some (.cells #[.int .i64 (v:Nat),.bool (decide (t.q<0)),.slice a2 l2 c2,.slice a3 l3 c3] 79 (0,0)):=by rw[←hW3];exact heap_alloc_new wr _
   have hs3:W3.heap.size=wr.heap.size+1:=by rw[←hW3];simp
   have cg:∀{W':World},RowKit.Below W3.heap.size W3 W'→W'.cell? ⟨wr.heap.size,0,none⟩=some (.int .i64 (v:Nat))∧W'.cell? ⟨wr.heap.size,1,none⟩=some (.bool (decide (t.q<0)))∧W'.cell? ⟨wr.heap.size,2,none⟩=some (.slice a2 l2 c2)∧W'.cell? ⟨wr.heap.size,3,none⟩=some (.slice a3 l3 c3):=fun h=>by
    have:=(h.block _ (by omega)).trans hbx3;simp only[World.cell?,this];exact⟨rfl,rfl,rfl,rfl⟩
   obtain⟨m0,m1,m2,m3⟩:=cg (RowKit.Below.refl _ _);have hv1':v<100:=by omega
   have hsz:=sh_size hq (hGr.fx (fx_belowB hb3)) (.lit _) (RdD.fx (fx_belowB hb3) r2) (RdD.fx (fx_belowB hb3) r3);have hB3:=hB.below hb3;have hal:=hlen i hi;have htl:=tmT_len hq (show t.v<100 by omega);have hdl:=dd_100 hv1';have hno1:¬9223372036854775807<1+(decDigits v).length:=by omega
   have hsl:=szT_len hq
   have fin:∀{W5:World},Bld (w.heap.size+1) (acT f i++(sgT (decide (acT f i=[])) (decide (t.q<0))++tmT t)) W5→RowKit.Below (w.heap.size+1) wr W5→(∃i_1:Nat,i_1≤f.ts.length∧Value.int IntKind.i64 ((i:Int)+1)=Value.int IntKind.i64 (i_1:Int)∧Bld (w.heap.size+1) (acT f i_1) W5∧RowKit.Below (w.heap.size+1) W2 W5)∧
     f.ts.length-(intOf (Value.int IntKind.i64 ((i:Int)+1))).toNat<f.ts.length-(intOf (Value.int IntKind.i64 (i:Int))).toNat:=fun h1 h2=>
    ⟨⟨i+1,hlt,by rw[Int.natCast_add];rfl,by rw[acT_succ hti];exact h1,hbr.trans h2⟩,by simp only[intOf];omega⟩
   by_cases h1:szT t.q=[49]
   ·have eT:((⟨#[120]⟩:ByteArray)++⟨(decDigits v).toArray⟩)=⟨(tmT t).toArray⟩:=by
     rw[tmT,if_pos h1,hv,Int.toNat_natCast];exact str_app [120] _
    go_wp2_with (first
     |rw[hW3]
     |(go_at_call 160;refine(sh_itoa hv1' _).mono ?_;rintro e w' ⟨rfl,rfl⟩)
     |(go_at_call 161;refine hsz.mono ?_;rintro e W4 ⟨rfl,hb4⟩;have hB4:=hB3.below hb4;obtain⟨n0,n1,n2,n3⟩:=cg hb4)
     |(go_at_call 157;refine(tx_part (t:=tmT t) hB4 (by clear hq hc hsz;omega)).mono ?_;rintro e W5 ⟨⟨r5,rfl⟩,hB5,hb5⟩))
    exact fin hB5 ((hb3.trans (hb4.mono hb3.size)).mono (Nat.le_of_lt hB.lt) |>.trans hb5)
   ·have eT:((⟨(szT t.q).toArray⟩:ByteArray)++⟨#[42]⟩++(⟨#[120]⟩++⟨(decDigits v).toArray⟩))=⟨(tmT t).toArray⟩:=by
     rw[tmT,if_neg h1,hv,Int.toNat_natCast,str_app (szT t.q) [42],str_app [120] (decDigits v),str_app];rfl
    have hb:(!szT t.q==[49])=true:=by simp[h1]
    have hno2:¬9223372036854775807<(szT t.q).length+1:=by omega
    have hno3:¬9223372036854775807<(szT t.q).length+1+(1+(decDigits v).length):=by omega
    go_wp2_with (first
     |rw[hW3]
     |(go_at_call 160;refine(sh_itoa hv1' _).mono ?_;rintro e w' ⟨rfl,rfl⟩)
     |(go_at_call 161;refine hsz.mono ?_;rintro e W4 ⟨rfl,hb4⟩;have hB4:=hB3.below hb4;obtain⟨n0,n1,n2,n3⟩:=cg hb4)
     |(go_at_call 157;refine(tx_part (t:=tmT t) hB4 (by clear hq hc hsz;omega)).mono ?_;rintro e W5 ⟨⟨r5,rfl⟩,hB5,hb5⟩))
    exact fin hB5 ((hb3.trans (hb4.mono hb3.size)).mono (Nat.le_of_lt hB.lt) |>.trans hb5)
  ·obtain rfl:i=f.ts.length:=by omega
   have hBw:RowKit.Below w.heap.size w wr:=hb1.trans ((hb2.trans (hs1▸hbr)).mono hb1.size);have hGr:Glb M wr:=hG.fx (fx_belowB hBw);have hend:=txt_end f;have hac:=acT_nil (f:=f);have hal:=hlen f.ts.length (lR_ _);have hsl:=szT_len hc;have hlz:0<ln↔f.c≠0:=by
    rw[←hln];constructor
    ·intro h h0;rw[h0]at h;rw[show(0:Rat).num.natAbs=0 from rfl,limbs_zero]at h;simp at h
    ·intro h;refine sz_pos (Nat.pos_of_ne_zero fun h0=>h ?_);have:=Rat.num_eq_zero (q:=f.c);exact this.1 (Int.natAbs_eq_zero.1 h0)
   have hwb:w.heap.size<wr.heap.size:=Nat.lt_of_succ_lt hB.lt;have hbd:RowKit.Below wr.heap.size wr wr.drew:=(RowKit.Below.refl _ _).drew;have hBd:=hB.below hbd;have hBwd:RowKit.Below w.heap.size w wr.drew:=hBw.trans (hbd.mono hBw.size);have hszd:=sh_size hc (hG.fx (fx_belowB hBwd)) (.lit _) (RdD.fx (fx_belowB hBwd) k2) (RdD.fx (fx_belowB hBwd) k3);have hk:wr.heap[w.heap.size]? =W1.heap[w.heap.size]?:=(hbr.block _ (by omega)).trans (hb2.block _ (by omega));have hk4:∀{W4:World},RowKit.Below wr.drew.heap.size wr.drew W4→W4.heap[w.heap.size]? =W1.heap[w.heap.size]?:=fun h=>(h.block _ hwb).trans hk;have hk5:∀{W4 W5:World},W4.heap[w.heap.size]? =W1.heap[w.heap.size]?→RowKit.Below (w.heap.size+1) W4 W5→W5.heap[w.heap.size]? =W1.heap[w.heap.size]?:=fun h h'=>(h'.block _ (by omega)).trans h
   have bel:∀{W4 W5 W6:World},RowKit.Below wr.drew.heap.size wr.drew W4→RowKit.Below (w.heap.size+1) W4 W5→RowKit.Below (w.heap.size+1) W5 W6→RowKit.Below w.heap.size w W6:=fun h4 h5 h6=>
    hBwd.trans ((h4.mono (Nat.le_of_lt hwb)).trans ((h5.trans h6).mono (by omega)))
   by_cases hcond:f.c≠0∨f.ts=[]
   ·rw[if_pos hcond]at hend;have Hend:=lH hend
    by_cases hlp:0<ln
    ·clear hcond hend hlz hac
     go_wp2_with fail
     go_region_held3 (fun w'=>w'.cell? ⟨w.heap.size,0,none⟩=some (.slice ad f.ts.length cap)∧w'.cell? ⟨w.heap.size,1,none⟩=some (.bool (decide (f.c<0)))∧w'.cell? ⟨w.heap.size,2,none⟩=some (.slice an ln cn)∧w'.cell? ⟨w.heap.size,3,none⟩=some (.slice add ld cd))
      (first|exact cf (hk5 (hk4 hb4) hb5)|exact cf (hk4 hb4)|go_keep)
      (first
      |(go_at_call 161;refine hszd.mono ?_;rintro e W4 ⟨rfl,hb4⟩;have hB4:=hBd.below hb4;obtain⟨n0,n1,n2,n3⟩:=cf (hk4 hb4))
      |(go_at_call 157;refine(tx_part (t:=szT f.c) hB4 (by clear hc hszd;omega)).mono ?_;rintro e W5 ⟨⟨r5,rfl⟩,hB5,hb5⟩;obtain⟨p0,p1,p2,p3⟩:=cf (hk5 (hk4 hb4) hb5)))
     go_wp2_with (go_at_call 162;refine(sh_string hB5).mono ?_;rintro e W6 ⟨rfl,hb6⟩)
     go_ret
     exact⟨by rw[Hend.out];rfl,bel hb4 hb5 hb6⟩
    ·have hz:(acT f f.ts.length).length=0:=by
      rcases hcond with h|h
      ·exact absurd (hlz.2 h) hlp
      ·rw[hac.2 h];rfl
     obtain rfl:ln=0:=Nat.eq_zero_of_not_pos hlp;have Hz:=lH hz;clear hcond hend hlz hac hlp hz
     go_wp2_with (go_at_call 158;refine(sh_len hB).mono ?_;rintro e w' ⟨rfl,rfl⟩;rw[Hz.out])
     go_region_held3 (fun w'=>w'.cell? ⟨w.heap.size,0,none⟩=some (.slice ad f.ts.length cap)∧w'.cell? ⟨w.heap.size,1,none⟩=some (.bool (decide (f.c<0)))∧w'.cell? ⟨w.heap.size,2,none⟩=some (.slice an 0 cn)∧w'.cell? ⟨w.heap.size,3,none⟩=some (.slice add ld cd))
      (first|exact cf (hk5 (hk4 hb4) hb5)|exact cf (hk4 hb4)|go_keep)
      (first
      |(go_at_call 161;refine hszd.mono ?_;rintro e W4 ⟨rfl,hb4⟩;have hB4:=hBd.below hb4;obtain⟨n0,n1,n2,n3⟩:=cf (hk4 hb4))
      |(go_at_call 157;refine(tx_part (t:=szT f.c) hB4 (by clear hc hszd;omega)).mono ?_;rintro e W5 ⟨⟨r5,rfl⟩,hB5,hb5⟩;obtain⟨p0,p1,p2,p3⟩:=cf (hk5 (hk4 hb4) hb5)))
     go_wp2_with (go_at_call 162;refine(sh_string hB5).mono ?_;rintro e W6 ⟨rfl,hb6⟩)
     go_ret
     exact⟨by rw[Hend.out];rfl,bel hb4 hb5 hb6⟩
   ·rw[if_neg hcond]at hend;have hl0:ln=0:=Nat.eq_zero_of_not_pos fun h=>hcond (.inl (hlz.1 h));have hz:(((acT f f.ts.length).length:Int)==0)=false:=by
     have:acT f f.ts.length≠[]:=fun h=>hcond (.inr (hac.1 h));have:=List.length_pos_iff.2 this;simp;omega
    have Hend:=lH hend;subst hl0;clear hcond hend hlz hac
    go_wp2_with (first
     |(go_at_call 158;refine(sh_len hB).mono ?_;rintro e w' ⟨rfl,rfl⟩)
     |(go_at_call 162;refine(sh_string hB).mono ?_;rintro e W6 ⟨rfl,hb6⟩))
    go_ret
    exact⟨by rw[Hend.out];rfl,hBw.trans (hb6.mono (tL_ hb1.size (by omega)))⟩
def abQ (q:Rat):Rat:=mkRat q.num.natAbs q.den
theorem abQ_eq (q:Rat):abQ q=if q<0 then -q else q:=by
 unfold abQ;have h0:q<0↔q.num<0:=by rw[←Rat.not_le,←Rat.num_nonneg];omega
 split
 ·rename_i h;have h:=h0.1 h;rw[show((q.num.natAbs:Nat):Int)= -q.num by omega,←Rat.neg_mkRat,Rat.mkRat_self]
 ·rename_i h;have h:¬q.num<0:=fun k=>h (h0.2 k);rw[show((q.num.natAbs:Nat):Int)=q.num by omega,Rat.mkRat_self]
theorem abQ_pos {q:Rat}(h:q≠0):0<abQ q:=by rw[abQ_eq];split<;>grind
def nrmS (f:Af):Af:=match f.ts with
 |[]=>⟨[],((f.c.num.sign:Int):Rat)⟩
 |t::_=>scaleS f (((1:Int):Rat)/abQ t.q)
def SatR (rows:List Af)(ξ:Int→Rat):Prop:=∀f∈rows,0≤ph 1 ξ f
theorem sign_nn (q:Rat):(0:Rat)≤((q.num.sign:Int):Rat)↔0≤q:=by
 rw[←Rat.num_nonneg,←Rat.num_nonneg,Rat.num_intCast];exact Int.sign_nonneg_iff
theorem inv_pos' {q:Rat}(h:0<q):0<((1:Int):Rat)/q:=by
 rw[Rat.div_def,show((1:Int):Rat)=1 from rfl,Rat.one_mul];exact Rat.inv_pos.2 h
theorem nrm_sat {n:Int}{f:Af}(h:TsOk n 0 f.ts){ξ:Int→Rat}:0≤ph 1 ξ (nrmS f)↔0≤ph 1 ξ f:=by
 unfold nrmS;split
 ·rename_i e;unfold ph;rw[e];show(0:Rat)≤0+1*_↔(0:Rat)≤0+1*_;rw[Rat.zero_add,Rat.zero_add,Rat.one_mul,Rat.one_mul];exact sign_nn _
 ·rename_i t ts e;rw[e]at h;have hp:=inv_pos' (abQ_pos h.2.2.1);rw[ph_scale];constructor
  ·intro h1;refine Rat.not_lt.1 fun h2=> ?_;have:=Rat.mul_pos (show 0< -ph 1 ξ f by grind) hp;grind
  ·exact fun h1=>Rat.mul_nonneg h1 (Rat.le_of_lt hp)
open Classical in
noncomputable def adS (l:List Af)(f:Af):List Af:=if((nrmS f).ts=[]∧0≤(nrmS f).c)∨nrmS f∈l then l else l++[nrmS f]
theorem ad_sat {n:Int}{l:List Af}{f:Af}(h:TsOk n 0 f.ts){ξ:Int→Rat}:SatR (adS l f) ξ↔SatR l ξ∧0≤ph 1 ξ f:=by
 unfold adS;split
 ·rename_i hc;refine⟨fun hl=>⟨hl,?_⟩,fun hl=>hl.1⟩;rw[←nrm_sat h];rcases hc with⟨h1,h2⟩|h1
  ·unfold ph;rw[h1];show(0:Rat)≤0+1*_;grind
  ·exact hl _ h1
 ·rw[←nrm_sat h];refine⟨fun hl=>⟨fun g hg=>hl g (by simp[hg]),hl _ (by simp)⟩,fun hl g hg=> ?_⟩;rcases List.mem_append.1 hg with hg|hg
  ·exact hl.1 g hg
  ·rw[List.mem_singleton]at hg;subst hg;exact hl.2
theorem fold_sat {n:Int}{ξ:Int→Rat}:∀{rs l:List Af},(∀f∈rs,TsOk n 0 f.ts)→(SatR (rs.foldl adS l) ξ↔SatR l ξ∧SatR rs ξ)
 |[],l,_=>⟨fun h=>⟨h,(fun f hf=>by cases hf)⟩,fun h=>h.1⟩
 |r::rs,l,h=>by
  rw[List.foldl_cons,fold_sat fun f hf=>h f (by simp[hf]),ad_sat (h r (by simp))];refine⟨fun⟨⟨h1,h2⟩,h3⟩=>⟨h1,fun f hf=> ?_⟩,fun⟨h1,h2⟩=>⟨⟨h1,h2 r (by simp)⟩,fun f hf=>h2 f (by simp[hf])⟩⟩;rcases List.mem_cons.1 hf with e|e
  ·rw[e];exact h2
  ·exact h3 f e
theorem fold_mem {g:Af}:∀{rs l:List Af},g∈rs.foldl adS l→g∈l∨∃f∈rs,g=nrmS f∧¬(g.ts=[]∧0≤g.c)
 |[],l,h=> .inl h
 |r::rs,l,h=>by
  rw[List.foldl_cons]at h;rcases fold_mem h with h|⟨f,h1,h2⟩
  ·unfold adS at h;split at h
   ·exact .inl h
   ·rename_i hc;rcases List.mem_append.1 h with h|h
    ·exact .inl h
    ·rw[List.mem_singleton]at h;exact .inr ⟨r,by simp,h,by rw[h];exact fun k=>hc (.inl k)⟩
  ·exact .inr ⟨f,by simp[h1],h2⟩
def cmbS (v:Int)(f g:Af):Af:=addS (scaleS f (-cof g.ts v)) (scaleS g (cof f.ts v))
theorem TsOk.cmb {n:Int}{v:Int}{f g:Af}(hf:TsOk n 0 f.ts)(hg:TsOk n 0 g.ts):TsOk n 0 (cmbS v f g).ts:=
 ok_fold (fun t ht=>let h:=(ok_scale (cof f.ts v) hg).cof_mem t ht;⟨h.2.1,h.2.2.1⟩) (ok_scale _ hf)
def upR (v:Int)(rows:List Af):List Af:=rows.filter fun f=>decide (0<cof f.ts v)
def dnR (v:Int)(rows:List Af):List Af:=rows.filter fun f=>decide (cof f.ts v<0)
def zrR (v:Int)(rows:List Af):List Af:=rows.filter fun f=>decide (cof f.ts v=0)
noncomputable def elS (v:Int)(rows:List Af):List Af:=(zrR v rows++(upR v rows).flatMap fun f=>(dnR v rows).map (cmbS v f)).foldl adS []
def upI (ξ:Int→Rat)(v:Int)(t:Rat):Int→Rat:=fun w=>if w=v then t else ξ w
theorem ph_up {ξ:Int→Rat}{v:Int}{t:Rat}{f:Af}:ph 1 (upI ξ v t) f=ph 1 ξ f+cof f.ts v*(t-ξ v):=by
 have key:∀ts:List Tm,lsum (upI ξ v t) ts=lsum ξ ts+cof ts v*(t-ξ v):=by
  intro ts
  induction ts with
  |nil=>simp only[lsum,cof];grind
  |cons s ts ih=>
   simp only[lsum,cof,ih,upI];split
   ·rename_i e;rw[e];grind
   ·grind
 unfold ph;rw[key];grind
theorem between:∀(L U:List Rat),(∀x∈L,∀y∈U,x≤y)→∃t,(∀x∈L,x≤t)∧∀y∈U,t≤y
 |[],[],_=>⟨0,(fun x h=>by cases h),(fun y h=>by cases h)⟩
 |[],y::U,_=>by
  obtain⟨t,_,h2⟩:=between [] U fun x h=>(by cases h)
  by_cases h3:t≤y
  ·refine⟨t,(fun x h=>by cases h),fun z hz=> ?_⟩;rcases List.mem_cons.1 hz with e|e
   ·rw[e];exact h3
   ·exact h2 z e
  ·refine⟨y,(fun x h=>by cases h),fun z hz=> ?_⟩;rcases List.mem_cons.1 hz with e|e
   ·rw[e];exact Rat.le_refl
   ·have:=h2 z e;grind
 |x::L,U,h=>by
  obtain⟨t,h1,h2⟩:=between L U fun x hx y hy=>h x (by simp[hx]) y hy
  by_cases h3:x≤t
  ·refine⟨t,fun z hz=> ?_,h2⟩;rcases List.mem_cons.1 hz with e|e
   ·rw[e];exact h3
   ·exact h1 z e
  ·refine⟨x,fun z hz=> ?_,fun y hy=>h x (by simp) y hy⟩;rcases List.mem_cons.1 hz with e|e
   ·rw[e];exact Rat.le_refl
   ·have:=h1 z e;grind
theorem cmb_ph {v:Int}{f g:Af}{ξ:Int→Rat}:ph 1 ξ (cmbS v f g)=ph 1 ξ f* -cof g.ts v+ph 1 ξ g*cof f.ts v:=by
 unfold cmbS;rw[ph_add,ph_scale,ph_scale]
theorem mul_nn {a b c d:Rat}(hb:0<b)(h:a*b=c*d)(hc:0≤c)(hd:0≤d):0≤a:=by
 refine Rat.not_lt.1 fun h1=> ?_;have h2:=Rat.mul_pos (show 0< -a by grind) hb;have h3:=Rat.mul_nonneg hc hd;grind
theorem el_lo {p c i x t:Rat}(hi:c*i=1)(hc:0<c)(h:x-p*i≤t):0≤p+c*(t-x):=by
 have h3:=Rat.mul_nonneg (Rat.le_of_lt hc) (show 0≤t-(x-p*i) by grind);have e:c*(t-(x-p*i))=p+c*(t-x):=by grind
 rwa [e]at h3
theorem el_up {p c i x t:Rat}(hi:c*i=1)(hc:c<0)(h:t≤x-p*i):0≤p+c*(t-x):=by
 have h3:=Rat.mul_nonneg (show 0≤ -c by grind) (show 0≤x-p*i-t by grind);have e: -c*(x-p*i-t)=p+c*(t-x):=by grind
 rwa [e]at h3
theorem el_key {p q a b i j x:Rat}(ha:a*i=1)(hb:b*j=1)(h1:0<a)(h2:b<0)(h:0≤p* -b+q*a):x-p*i≤x-q*j:=by
 have:0≤p*i-q*j:=mul_nn (b:=a* -b) (c:=p* -b+q*a) (d:=1) (Rat.mul_pos h1 (by grind)) (by grind) h (by decide);grind
theorem el_cmb {p q a b t x:Rat}(h1:0<a)(h2:b<0)(hp:0≤p+a*(t-x))(hq:0≤q+b*(t-x)):0≤p* -b+q*a:=by
 have q1:=Rat.mul_nonneg hp (show 0≤ -b by grind);have q2:=Rat.mul_nonneg hq (Rat.le_of_lt h1);grind
theorem el_sat {n:Nat}{rows:List Af}{v:Int}(h:∀f∈rows,TsOk n 0 f.ts){ξ:Int→Rat}:SatR (elS v rows) ξ↔∃t,SatR rows (upI ξ v t):=by
 have hmem:∀f∈zrR v rows++(upR v rows).flatMap fun f=>(dnR v rows).map (cmbS v f),TsOk n 0 f.ts:=by
  intro f hf;rcases List.mem_append.1 hf with h1|h1
  ·exact h f (List.mem_filter.1 h1).1
  ·obtain⟨a,ha,h2⟩:=List.mem_flatMap.1 h1;obtain⟨b,hb,rfl⟩:=List.mem_map.1 h2;exact TsOk.cmb (h a (List.mem_filter.1 ha).1) (h b (List.mem_filter.1 hb).1)
 unfold elS;rw[fold_sat hmem];constructor
 ·rintro⟨_,hs⟩
  obtain⟨t,t1,t2⟩:=between ((upR v rows).map fun f=>ξ v-ph 1 ξ f/cof f.ts v) ((dnR v rows).map fun g=>ξ v-ph 1 ξ g/cof g.ts v) fun x hx y hy=>by
   obtain⟨f,hf,rfl⟩:=List.mem_map.1 hx;obtain⟨g,hg,rfl⟩:=List.mem_map.1 hy;have h1:=hs (cmbS v f g) (List.mem_append_right _ (List.mem_flatMap.2 ⟨f,hf,List.mem_map.2 ⟨g,hg,rfl⟩⟩));rw[cmb_ph]at h1;have a1:=of_decide_eq_true (List.mem_filter.1 hf).2;have b1:=of_decide_eq_true (List.mem_filter.1 hg).2;rw[Rat.div_def,Rat.div_def];exact el_key (Rat.mul_inv_cancel _ (Rat.ne_of_gt a1)) (Rat.mul_inv_cancel _ (Rat.ne_of_lt b1)) a1 b1 h1
  refine⟨t,fun f hf=> ?_⟩;rw[ph_up];have tri:cof f.ts v<0∨cof f.ts v=0∨0<cof f.ts v:=by grind
  rcases tri with h1|h1|h1
  ·have h2:=t2 _ (List.mem_map.2 ⟨f,List.mem_filter.2 ⟨hf,decide_eq_true h1⟩,rfl⟩);rw[Rat.div_def]at h2;exact el_up (Rat.mul_inv_cancel _ (Rat.ne_of_lt h1)) h1 h2
  ·have h2:=hs f (List.mem_append_left _ (List.mem_filter.2 ⟨hf,decide_eq_true h1⟩));rw[h1,Rat.zero_mul,Rat.add_zero];exact h2
  ·have h2:=t1 _ (List.mem_map.2 ⟨f,List.mem_filter.2 ⟨hf,decide_eq_true h1⟩,rfl⟩);rw[Rat.div_def]at h2;exact el_lo (Rat.mul_inv_cancel _ (Rat.ne_of_gt h1)) h1 h2
 ·rintro⟨t,ht⟩;refine⟨(fun f hf=>by cases hf),fun f hf=> ?_⟩;rcases List.mem_append.1 hf with h1|h1
  ·have h2:=ht f (List.mem_filter.1 h1).1;rw[ph_up,of_decide_eq_true (List.mem_filter.1 h1).2,Rat.zero_mul,Rat.add_zero]at h2;exact h2
  ·obtain⟨a,ha,h2⟩:=List.mem_flatMap.1 h1;obtain⟨b,hb,rfl⟩:=List.mem_map.1 h2;rw[cmb_ph];have p1:=ht a (List.mem_filter.1 ha).1;have p2:=ht b (List.mem_filter.1 hb).1;rw[ph_up]at p1 p2;have a1:=of_decide_eq_true (List.mem_filter.1 ha).2;have b1:=of_decide_eq_true (List.mem_filter.1 hb).2;exact el_cmb a1 b1 p1 p2
theorem nrm_cof {f:Af}{w:Int}(h:cof f.ts w=0):cof (nrmS f).ts w=0:=by
 unfold nrmS;split
 ·rfl
 ·unfold scaleS;rw[cof_scale,h,Rat.zero_mul]
theorem bt_sign (k:Nat)(q:Rat):Bt k ((q.num.sign:Int):Rat):=by
 have:q.num.sign.natAbs≤1:=by
  rcases Int.lt_trichotomy q.num 0 with h|h|h
  ·rw[Int.sign_eq_neg_one_of_neg h];decide
  ·rw[h];decide
  ·rw[Int.sign_eq_one_of_pos h];decide
 exact(Bt.int (k:=0) (by simpa using this)).mono (zL_ _)
theorem Bt.abQ {k:Nat}{q:Rat}(h:Bt k q):Bt k (Lf.abQ q):=by
 rw[abQ_eq];split
 ·exact h.neg
 ·exact h
theorem nrm_fb {k:Nat}{n:Int}{f:Af}(h:FB k n f):FB (2*k) n (nrmS f):=by
 unfold nrmS;split
 ·exact FB.num (bt_sign _ _)
 ·rename_i t ts e;obtain⟨_,_,h3,h4⟩:=h.tm t (by rw[e];simp);have h5:Bt k (((1:Int):Rat)/Lf.abQ t.q):=by
   have:=(Bt.int (k:=0) (z:=1) (by decide)).div h4.abQ (fun e0=>by have:=abQ_pos h3;grind)
   rwa [Nat.zero_add]at this
  exact(h.scale h5).up (by omega) (Int.le_refl _)
theorem cmb_cof {v w:Int}{f g:Af}:cof (cmbS v f g).ts w=cof f.ts w* -cof g.ts v+cof g.ts w*cof f.ts v:=by
 unfold cmbS addS;rw[cof_fold];unfold scaleS;rw[cof_scale,cof_scale]
theorem cmb_fb {k:Nat}{v n:Int}{f g:Af}(hf:FB k n f)(hg:FB k n g):FB (4*k+1) n (cmbS v f g):=by
 have h1:=(hf.scale (hg.co v).neg).add (hg.scale (hf.co v));exact h1.up (by omega) (Int.le_refl _)
theorem el_src {v:Int}{rows:List Af}{g:Af}(h:g∈elS v rows):∃f,g=nrmS f∧¬(g.ts=[]∧0≤g.c)∧((f∈rows∧cof f.ts v=0)∨∃a b,a∈rows∧b∈rows∧f=cmbS v a b):=by
 rcases fold_mem h with h|⟨f,h1,h2,h3⟩
 ·cases h
 ·refine⟨f,h2,h3,?_⟩;rcases List.mem_append.1 h1 with h1|h1
  ·exact .inl ⟨(List.mem_filter.1 h1).1,of_decide_eq_true (List.mem_filter.1 h1).2⟩
  ·obtain⟨a,ha,h2⟩:=List.mem_flatMap.1 h1;obtain⟨b,hb,rfl⟩:=List.mem_map.1 h2;exact .inr ⟨a,b,(List.mem_filter.1 ha).1,(List.mem_filter.1 hb).1,rfl⟩
theorem el_fb {k:Nat}{n v:Int}{rows:List Af}(h:∀f∈rows,FB k n f):∀g∈elS v rows,FB (8*k+3) n g:=by
 intro g hg;obtain⟨f,rfl,_,h1⟩:=el_src hg;rcases h1 with⟨h1,_⟩|⟨a,b,h1,h2,rfl⟩
 ·exact(nrm_fb (h f h1)).up (by omega) (Int.le_refl _)
 ·exact(nrm_fb (cmb_fb (h a h1) (h b h2))).up (by omega) (Int.le_refl _)
theorem el_v {v:Int}{rows:List Af}:∀g∈elS v rows,cof g.ts v=0:=by
 intro g hg;obtain⟨f,rfl,_,h1⟩:=el_src hg;refine nrm_cof ?_;rcases h1 with⟨_,h1⟩|⟨a,b,h1,h2,rfl⟩
 ·exact h1
 ·rw[cmb_cof];grind
theorem el_w {v w:Int}{rows:List Af}(h:∀f∈rows,cof f.ts w=0):∀g∈elS v rows,cof g.ts w=0:=by
 intro g hg;obtain⟨f,rfl,_,h1⟩:=el_src hg;refine nrm_cof ?_;rcases h1 with⟨h1,_⟩|⟨a,b,h1,h2,rfl⟩
 ·exact h f h1
 ·rw[cmb_cof,h a h1,h b h2];grind
noncomputable def prS (rows:List Af):Nat→List Af
 |0=>rows
 |v+1=>elS (v:Nat) (prS rows v)
def kB (b:Nat):Nat→Nat
 |0=>b
 |v+1=>8*kB b v+3
theorem pr_ok {b:Nat}{n:Int}{rows:List Af}(h:∀f∈rows,FB b n f):∀k,∀f∈prS rows k,FB (kB b k) n f∧∀w:Nat,w<k→cof f.ts (w:Nat)=0
 |0,f,hf=>⟨h f hf,fun w hw=>by omega⟩
 |k+1,f,hf=>by
  have ih:=pr_ok h k;refine⟨el_fb (fun f hf=>(ih f hf).1) f hf,fun w hw=> ?_⟩;rcases Nat.lt_or_ge w k with h1|h1
  ·exact el_w (fun f hf=>(ih f hf).2 w h1) f hf
  ·rw[show w=k by omega];exact el_v f hf
theorem pr_sat {b n:Nat}{rows:List Af}(h:∀f∈rows,FB b n f):∀(k:Nat) {ξ:Int→Rat},SatR (prS rows k) ξ↔∃ζ:Int→Rat,(∀w:Int,(w<0∨(k:Int)≤w)→ζ w=ξ w)∧SatR rows ζ
 |0,ξ=>⟨fun hs=>⟨ξ,fun _ _=>rfl,hs⟩,fun⟨ζ,h1,h2⟩=>by
   have:ζ=ξ:=funext fun w=>h1 w (by omega);rw[←this];exact h2⟩
 |k+1,ξ=>by
  rw[prS,el_sat (n:=n) fun f hf=>((pr_ok h k f hf).1).ts];constructor
  ·rintro⟨t,ht⟩;obtain⟨ζ,h1,h2⟩:=(pr_sat h k).1 ht;exact⟨ζ,fun w hw=>by rw[h1 w (by omega),upI,if_neg (by omega)],h2⟩
  ·rintro⟨ζ,h1,h2⟩;refine⟨ζ k,(pr_sat h k).2 ⟨ζ,fun w hw=> ?_,h2⟩⟩;unfold upI;split
   ·rename_i e;rw[e]
   ·exact h1 w (by omega)
noncomputable def rsS (rows:List Af)(n:Nat):List Af:=(prS rows n).foldl adS []
theorem rs_sat {b n N:Nat}{rows:List Af}(h:∀f∈rows,FB b N f){ξ:Int→Rat}:SatR (rsS rows n) ξ↔SatR (prS rows n) ξ:=by
 unfold rsS;rw[fold_sat (n:=N) fun f hf=>((pr_ok h n f hf).1).ts];exact⟨fun k=>k.2,fun k=>⟨(fun f hf=>by cases hf),k⟩⟩
theorem norm1 {q:Rat}(h:q≠0):q*(((1:Int):Rat)/abQ q)=1∨q*(((1:Int):Rat)/abQ q)= -1:=by
 have h1:abQ q*(abQ q)⁻¹=1:=Rat.mul_inv_cancel _ (Rat.ne_of_gt (abQ_pos h));rw[Rat.div_def,show((1:Int):Rat)=1 from rfl,Rat.one_mul];generalize (abQ q)⁻¹=i at h1;rw[abQ_eq]at h1;split at h1
 ·right;grind
 ·left;exact h1
theorem rs_shape {b n:Nat}{rows:List Af}(h:∀f∈rows,FB b (n+1:Nat) f):∀f∈rsS rows n,FB (2*kB b n) (n+1:Nat) f∧((f.ts=[]∧f.c<0)∨∃q,f.ts=[⟨(n:Nat),q⟩]∧(q=1∨q= -1)):=by
 intro f hf;rcases fold_mem hf with hf|⟨g,h1,rfl,h3⟩
 ·cases hf
 obtain⟨k1,k2⟩:=pr_ok h n g h1;have fb:=nrm_fb k1;refine⟨fb,?_⟩;have hz:∀w:Nat,w<n→cof (nrmS g).ts (w:Nat)=0:=fun w hw=>nrm_cof (k2 w hw)
 have hv:∀t∈(nrmS g).ts,t.v=(n:Nat):=fun t ht=>by
  obtain⟨c1,c2,c3,c4⟩:=fb.ts.cof_mem t ht;refine Int.le_antisymm (by omega) (Int.not_lt.1 fun h5=>c4 ?_);rw[←c1,show t.v=((t.v.toNat:Nat):Int) by omega];exact hz _ (by omega)
 have hts:=fb.ts
 cases e:(nrmS g).ts with
 |nil=>exact .inl ⟨rfl,Rat.not_le.1 fun h5=>h3 ⟨e,h5⟩⟩
 |cons t ts=>
  right
  rw[e]at hts hv;have e2:ts=[]:=by
   cases ts with
   |nil=>rfl
   |cons u us=>
    have h5:=hv t (by simp);have h6:=hv u (by simp);have h7:=hts.2.2.2.1;omega
  have h5:=hv t (by simp);subst e2;refine⟨t.q,by rw[←h5],?_⟩
  cases eg:g.ts with
  |nil=>unfold nrmS at e;rw[eg]at e;cases e
  |cons s ss=>
   have hs:s.q≠0:=(k1.tm s (by rw[eg];simp)).2.2.1;have h8:=norm1 hs;unfold nrmS at e;rw[eg]at e;simp only[scaleS,eg,List.flatMap_cons]at e;have h9:nz1 ⟨s.v,s.q*(((1:Int):Rat)/abQ s.q)⟩=[⟨s.v,s.q*(((1:Int):Rat)/abQ s.q)⟩]:=by
    unfold nz1;rw[if_neg];intro h0;simp only at h0;rw[h0]at h8;rcases h8 with h8|h8<;>exact absurd h8 (by decide)
   rw[h9]at e;injection e with e _;rw[←e];exact h8
def mnF (n:Nat):List Af→Option Rat→Option Rat→Option (Option Rat×Option Rat)
 |[],lo,hi=>some (lo,hi)
 |r::rs,lo,hi=>
  if cof r.ts (n:Nat)=0 then none
  else if 0<cof r.ts (n:Nat)then mnF n rs (if ∀x,lo=some x→x< -r.c then some (-r.c)else lo) hi
  else mnF n rs lo (if ∀y,hi=some y→r.c<y then some r.c else hi)
def Bn (lo hi:Option Rat)(t:Rat):Prop:=(∀x,lo=some x→x≤t)∧∀y,hi=some y→t≤y
theorem mn_ok {n:Nat}:∀{rs:List Af} {lo hi:Option Rat},(∀f∈rs,(f.ts=[]∧f.c<0)∨∃q,f.ts=[⟨(n:Nat),q⟩]∧(q=1∨q= -1))→∀t:Rat,
  (SatR rs (fun _=>t)∧Bn lo hi t)↔∃b,mnF n rs lo hi=some b∧Bn b.1 b.2 t
 |[],lo,hi,_,t=>⟨fun h=>⟨_,rfl,h.2⟩,fun⟨b,h1,h2⟩=>by injection h1 with h1;subst h1;exact⟨(fun f hf=>by cases hf),h2⟩⟩
 |r::rs,lo,hi,h,t=>by
  have hr:=h r (by simp);have ht:∀f∈rs,_:=fun f hf=>h f (by simp[hf]);have hs:SatR (r::rs) (fun _=>t)↔0≤ph 1 (fun _=>t) r∧SatR rs (fun _=>t):=by
   refine⟨fun k=>⟨k r (by simp),fun f hf=>k f (by simp[hf])⟩,fun⟨k1,k2⟩ f hf=> ?_⟩;rcases List.mem_cons.1 hf with e|e
   ·rw[e];exact k1
   ·exact k2 f e
  rw[hs,mnF];rcases hr with⟨e,hc⟩|⟨q,e,hq⟩
  ·rw[if_pos (by rw[e];rfl)];refine⟨fun k=> ?_,fun⟨b,k,_⟩=>by cases k⟩;exfalso;have:=k.1.1;unfold ph at this;rw[e]at this;have h2:(0:Rat)≤0+1*r.c:=this;grind
  ·have ec:cof r.ts (n:Nat)=q:=by rw[e];simp only[cof,if_true];grind
   have ep:ph 1 (fun _=>t) r=q*t+r.c:=by unfold ph;rw[e];simp only[lsum];grind
   rw[ec,ep];rcases hq with rfl|rfl
   ·rw[if_neg (by decide),if_pos (by decide),←mn_ok ht t];constructor
    ·rintro⟨⟨h1,h2⟩,h3,h4⟩;refine⟨h2,fun x hx=> ?_,h4⟩;split at hx
     ·injection hx with hx;subst hx;grind
     ·exact h3 x hx
    ·rintro⟨h2,h3,h4⟩;split at h3
     ·rename_i hc;have h5:=h3 _ rfl;refine⟨⟨by grind,h2⟩,fun x hx=> ?_,h4⟩;have:=hc x hx;grind
     ·rename_i hc;refine⟨⟨?_,h2⟩,h3,h4⟩
      cases lo with
      |none=>exact absurd (fun x hx=>by cases hx) hc
      |some x=>
       have h5:=h3 x rfl;have h6:¬x< -r.c:=fun k=>hc fun y hy=>by injection hy with hy;subst hy;exact k
       grind
   ·rw[if_neg (by decide),if_neg (by decide),←mn_ok ht t];constructor
    ·rintro⟨⟨h1,h2⟩,h3,h4⟩;refine⟨h2,h3,fun x hx=> ?_⟩;split at hx
     ·injection hx with hx;subst hx;grind
     ·exact h4 x hx
    ·rintro⟨h2,h3,h4⟩;split at h4
     ·rename_i hc;have h5:=h4 _ rfl;refine⟨⟨by grind,h2⟩,h3,fun x hx=> ?_⟩;have:=hc x hx;grind
     ·rename_i hc;refine⟨⟨?_,h2⟩,h3,h4⟩
      cases hi with
      |none=>exact absurd (fun x hx=>by cases hx) hc
      |some x=>
       have h5:=h4 x rfl;have h6:¬r.c<x:=fun k=>hc fun y hy=>by injection hy with hy;subst hy;exact k
       grind
def abS (p:Pg):Af:=subS (varS (p.n:Nat)) p.obj
def fmR (p:Pg):List Af:=abS p::scaleS (abS p) ((-1:Int):Rat)::p.rows
theorem ab_fb {p:Pg}{k:Nat}(ok:p.Ok k):FB (k+1) (p.n+1:Nat) (abS p):=by
 have h1:FB 0 (p.n+1:Nat) (varS (p.n:Nat)):=FB.var (by omega) (by omega);have h2:FB k (p.n+1:Nat) p.obj:=ok.obj.up (lR_ _) (by omega);exact(h1.sub h2).up (by omega) (Int.le_refl _)
theorem fmR_fb {p:Pg}{k:Nat}(ok:p.Ok k):∀f∈fmR p,FB (k+1) (p.n+1:Nat) f:=by
 intro f hf;rcases List.mem_cons.1 hf with e|hf
 ·rw[e];exact ab_fb ok
 ·rcases List.mem_cons.1 hf with e|hf
  ·rw[e];exact((ab_fb ok).scale (l:=0) (Bt.int (by decide))).up (by omega) (Int.le_refl _)
  ·exact(ok.rows f hf).up (by omega) (by omega)
theorem lsum_pt {ξ ζ:Int→Rat}:∀{ts:List Tm},(∀t∈ts,ξ t.v=ζ t.v)→lsum ξ ts=lsum ζ ts
 |[],_=>rfl
 |t::ts,h=>by simp only[lsum];rw[h t (by simp),lsum_pt fun s hs=>h s (by simp[hs])]
theorem ph_pt {ξ ζ:Int→Rat}{n:Int}{k:Nat}{f:Af}(hf:FB k n f)(h:∀v,0≤v→v<n→ξ v=ζ v):ph 1 ξ f=ph 1 ζ f:=by
 unfold ph;rw[lsum_pt fun t ht=>let k:=hf.tm t ht;h t.v k.1 k.2.1]
def VlT (p:Pg)(t:Rat):Prop:=∃u:Nat→Rat,(∀i,i<p.rows.length→0≤ph 1 (vz u) (p.row i))∧ph 1 (vz u) p.obj=t
theorem fm_T {p:Pg}{k:Nat}(ok:p.Ok k){t:Rat}:SatR (rsS (fmR p) p.n) (fun _=>t)↔VlT p t:=by
 rw[rs_sat (fmR_fb ok),pr_sat (fmR_fb ok)];have hab:∀ζ:Int→Rat,ph 1 ζ (abS p)=ζ (p.n:Nat)-ph 1 ζ p.obj:=fun ζ=>by unfold abS;rw[ph_sub,ph_var]
 have hrow:∀i,i<p.rows.length→p.row i∈p.rows:=fun i hi=>by rw[Pg.row,List.getD_eq_getElem?_getD,List.getElem?_eq_getElem hi];exact List.getElem_mem _
 constructor
 ·rintro⟨ζ,h1,h2⟩;have e1:=h2 (abS p) (by simp[fmR]);have e2:=h2 (scaleS (abS p) ((-1:Int):Rat)) (by simp[fmR]);rw[ph_scale]at e2;rw[hab]at e1 e2;have e3:ζ (p.n:Nat)=t:=h1 _ (.inr (Int.le_refl _))
  have hu:∀{f:Af},FB k p.n f→ph 1 (vz fun x=>ζ (x:Nat)) f=ph 1 ζ f:=fun hf=>ph_pt hf fun v h0 _=>by
   show ζ ((v.toNat:Nat):Int)=ζ v;rw[Int.toNat_of_nonneg h0]
  refine⟨fun x=>ζ (x:Nat),fun i hi=> ?_,?_⟩
  ·rw[hu (row_ok ok hi)];exact h2 _ (by simp only[fmR];exact List.mem_cons_of_mem _ (List.mem_cons_of_mem _ (hrow i hi)))
  ·rw[hu ok.obj,←e3];have:((-1:Int):Rat)= -1:=rfl;rw[this]at e2;grind
 ·rintro⟨u,h1,h2⟩
  let ζ:Int→Rat:=fun w=>if 0≤w∧w<(p.n:Int)then u w.toNat else t
  have hu:∀{f:Af},FB k p.n f→ph 1 ζ f=ph 1 (vz u) f:=fun hf=>ph_pt hf fun v h0 h1=>by
   show(if 0≤v∧v<(p.n:Int)then u v.toNat else t)=u v.toNat;rw[if_pos ⟨h0,h1⟩]
  have hn:ζ (p.n:Nat)=t:=if_neg (by omega);refine⟨ζ,fun w hw=>if_neg (by omega),fun f hf=> ?_⟩;rcases List.mem_cons.1 hf with e|hf
  ·rw[e,hab,hn,hu ok.obj,h2];grind
  ·rcases List.mem_cons.1 hf with e|hf
   ·rw[e,ph_scale,hab,hn,hu ok.obj,h2];grind
   ·obtain⟨i,hi,rfl⟩:=List.mem_iff_getElem.1 hf;have:p.row i=p.rows[i]:=by rw[Pg.row,List.getD_eq_getElem?_getD,List.getElem?_eq_getElem hi];rfl
    rw[←this,hu (row_ok ok hi)];exact h1 i hi
def mnO:Option (Option Rat×Option Rat)→Int×Rat
 |none=>(2,0)
 |some (none,_)=>(3,0)
 |some (some x,none)=>(1,x)
 |some (some x,some y)=>if y<x then(2,0)else(1,x)
theorem fm_val {p:Pg}{k:Nat}(ok:p.Ok k)(t:Rat):VlT p t↔∃b,mnF p.n (rsS (fmR p) p.n) none none=some b∧Bn b.1 b.2 t:=by
 rw[←fm_T ok,←mn_ok (fun f hf=>(rs_shape (fmR_fb ok) f hf).2) t];exact⟨fun h=>⟨h,(fun x hx=>by cases hx),(fun x hx=>by cases hx)⟩,fun h=>h.1⟩
theorem fm_same {p:Pg}{k:Nat}{st:Int}{val:Rat}{pt du ray:List Rat}(ok:p.Ok k)(h:SolOk p st val pt du ray):
  (mnO (mnF p.n (rsS (fmR p) p.n) none none)).1=st∧(st=1→(mnO (mnF p.n (rsS (fmR p) p.n) none none)).2=val):=by
 have hv:=fm_val ok;generalize mnF p.n (rsS (fmR p) p.n) none none=o at hv;rcases h.kind with rfl|rfl|rfl
 ·obtain⟨_,q1,q2,_,_,q3,q4⟩:=h.opt rfl;have t1:VlT p val:=⟨_,q1,q2⟩
  have t2:∀t,VlT p t→val≤t:=fun t ⟨u,u1,u2⟩=>by
   have:=q4 u;have:=smR_nonneg (f:=fun i=>gq du i*ph 1 (vz u) (p.row i)) (n:=p.rows.length) fun i hi=>Rat.mul_nonneg (q3 i hi) (u1 i hi);grind
  obtain⟨b,e,k1,k2⟩:=(hv val).1 t1;subst e;obtain⟨lo,hi⟩:=b
  cases lo with
  |none=>
   exfalso;have:=t2 (val-1) ((hv _).2 ⟨_,rfl,(fun x hx=>by cases hx),fun y hy=>by have:=k2 y hy;grind⟩);grind
  |some x=>
   have h1:=k1 x rfl;have h2:val≤x:=t2 x ((hv _).2 ⟨_,rfl,(fun z hz=>by injection hz with hz;subst hz;exact Rat.le_refl),fun y hy=>by have:=k2 y hy;grind⟩);have hx:x=val:=by grind
   cases hi with
   |none=>exact⟨rfl,fun _=>hx⟩
   |some y=>
    have:=k2 y rfl;simp only[mnO];rw[if_neg (by grind)];exact⟨rfl,fun _=>hx⟩
 ·obtain⟨_,_,_,_,q1,c,q2,q3⟩:=h.inf rfl
  have t0:∀t,¬VlT p t:=fun t ⟨u,u1,u2⟩=>by
   have:=q3 u;have:=smR_nonneg (f:=fun i=>gq du i*ph 1 (vz u) (p.row i)) (n:=p.rows.length) fun i hi=>Rat.mul_nonneg (q1 i hi) (u1 i hi);grind
  refine⟨?_,fun e=>by cases e⟩
  match o,hv with
  |none,_=>rfl
  |some (none,hi),hv=>
   exfalso
   cases hi with
   |none=>exact t0 0 ((hv 0).2 ⟨_,rfl,(fun x hx=>by cases hx),(fun x hx=>by cases hx)⟩)
   |some y=>exact t0 y ((hv y).2 ⟨_,rfl,(fun x hx=>by cases hx),(fun x hx=>by injection hx with hx;subst hx;exact Rat.le_refl)⟩)
  |some (some x,none),hv=>exact absurd ((hv x).2 ⟨_,rfl,(fun z hz=>by injection hz with hz;subst hz;exact Rat.le_refl),(fun x hx=>by cases hx)⟩) (t0 x)
  |some (some x,some y),hv=>
   simp only[mnO]
   by_cases hc:y<x
   ·rw[if_pos hc]
   ·exact absurd ((hv x).2 ⟨_,rfl,(fun z hz=>by injection hz with hz;subst hz;exact Rat.le_refl),(fun z hz=>by injection hz with hz;subst hz;exact Rat.not_lt.1 hc)⟩) (t0 x)
 ·obtain⟨_,_,_,q1,_,q2,q3⟩:=h.unb rfl
  -- along the ray
  have hray:∀(s:Rat) (f:Af),ph 1 (vz fun x=>gq pt x+s*gq ray x) f=ph 1 (vz (gq pt)) f+s*lsum (vz (gq ray)) f.ts:=by
   intro s f;have:∀ts:List Tm,lsum (vz fun x=>gq pt x+s*gq ray x) ts=lsum (vz (gq pt)) ts+s*lsum (vz (gq ray)) ts:=by
    intro ts
    induction ts with
    |nil=>simp only[lsum];grind
    |cons t ts ih=>simp only[lsum];rw[ih];grind
   unfold ph;rw[this];grind
  have t1:∀s:Rat,0≤s→VlT p (ph 1 (vz (gq pt)) p.obj+s*lsum (vz (gq ray)) p.obj.ts):=fun s hs=>⟨_,fun i hi=>by
   rw[hray];have h1:=q1 i hi;have h2:=Rat.mul_nonneg hs (q2 i hi);grind,hray s p.obj⟩
  refine⟨?_,fun e=>by cases e⟩;obtain⟨b,e,k1,k2⟩:=(hv _).1 (t1 0 Rat.le_refl);subst e;obtain⟨lo,hi⟩:=b
  cases lo with
  |none=>rfl
  |some x=>
   exfalso;generalize ph 1 (vz (gq pt)) p.obj=a at t1 k1 k2;generalize lsum (vz (gq ray)) p.obj.ts=d at t1 k1 q3;have h1:=k1 x rfl;have hi:=Rat.mul_inv_cancel (-d) (by grind);have hp:=Rat.inv_pos.2 (show 0< -d by grind);generalize (-d)⁻¹=i at hi hp;obtain⟨b,e,k3,k4⟩:=(hv _).1 (t1 ((a-x+1)*i) (Rat.mul_nonneg (by grind) (Rat.le_of_lt hp)));injection e with e;subst e;have h2:=k3 x rfl;have h3:(a-x+1)*i*d= -(a-x+1):=by grind
   rw[h3]at h2;grind
open Go.Maps
theorem lx_text {f:Af}(hn:f.ts.length≤1000)(ht:∀t∈f.ts,Sz t.q∧0≤t.v∧t.v<100)(hc:Sz f.c):LV Tryz.prog 126 [.agg f.A] (vl (strV (txt f))):=lv_ofG fun γ M w rs hG ha=>by
 obtain⟨r,rfl,vs,rfl,hr⟩:=all2_1 ha
 match vs,hr with
 |[a,b,c,d],hr=>
  refine(tx_text hG hn ht hc hr.1 hr.2.1 hr.2.2.1 hr.2.2.2.1).mono ?_;rintro e w' ⟨rfl,hb⟩;exact⟨_,rfl,rfl,hb⟩
theorem txt_len {f:Af}(hn:f.ts.length≤1000)(ht:∀t∈f.ts,Sz t.q∧0≤t.v∧t.v<100)(hc:Sz f.c):(txt f).length≤1000000000000000:=by
 have h1:=acT_len (fun t h=>⟨(ht t h).1,(ht t h).2.2⟩) f.ts.length (lR_ _);have h2:=Nat.mul_le_mul_right 4000000013 hn;have h3:=szT_len hc;have h4:=sg_len (decide (acT f f.ts.length=[])) (decide (f.c<0));rw[txt_end];clear hc ht;split
 ·rw[List.length_append,List.length_append];omega
 ·omega
theorem FB.tx {k:Nat}{n:Int}{f:Af}(h:FB k n f)(hk:k≤3000000000)(h0:0≤n)(hn:n≤100):f.ts.length≤1000∧(∀t∈f.ts,Sz t.q∧0≤t.v∧t.v<100)∧Sz f.c:=
 ⟨by have:=h.ts.len h0;omega,fun t ht=>by obtain⟨c1,c2,c3,c4⟩:=h.tm t ht;exact⟨c4.mono hk,c1,by omega⟩,h.c.mono hk⟩
theorem u_msb:Tryz.prog.underlying 134=some (.map 9 4):=by kernel_rfl
theorem u_strb:Tryz.prog.underlying 9=some .string:=by kernel_rfl
theorem u_boolb:Tryz.prog.underlying 4=some .bool:=by kernel_rfl
theorem z_boolb:(Tryz.prog.info? 4).bind (·.zero)=some (Lit.bool false).value:=by kernel_rfl
abbrev mxB (n:Nat)(D:DataW Unit):MPred:=MXp Tryz.prog 9 4 n D
theorem key_str {l:List UInt8}(h:l.length≤1000000000000000):keyOf Tryz.prog 9 (strV l)=some (.string l):=by
 have:=Go.WideMaps.keyOf_string_mk (P:=Tryz.prog) (k:=9) u_strb (s:=⟨l.toArray⟩) (by rw[str_size];unfold maxLen;omega);simpa using this
def MpB (D:DataW Unit)(l:List (List UInt8)):Prop:=IsMap D∧∀s zd,(s∈l→D.atKey (.string s) zd= .lit (.bool true))∧(s∉l→D.atKey (.string s) zd=zd)
theorem MpB.put {D:DataW Unit}{l:List (List UInt8)}{s:List UInt8}(h:MpB D l):MpB (D.put (.string s) (.lit (.bool true))) (l++[s]):=by
 refine⟨h.1.put _ _,fun s' zd=> ?_⟩
 by_cases e:s=s'
 ·subst e;exact⟨fun _=>atKey_put_same h.1 (show WideAt.IsKeyLit (.string s)from trivial) _ _,fun hn=>absurd (by simp) hn⟩
 ·rw[atKey_put_other (by intro e2;injection e2 with e2;exact e e2.symm)];refine⟨fun hm=>(h.2 s' zd).1 ?_,fun hm=>(h.2 s' zd).2 fun h2=>hm (by simp[h2])⟩;rcases List.mem_append.1 hm with h1|h1
  ·exact h1
  ·exact absurd (List.mem_singleton.1 h1).symm e
theorem lk_b {n:Nat}{D:DataW Unit}{l:List (List UInt8)}{s:List UInt8}(h:MpB D l)(hs:s.length≤1000000000000000){b:Bool}(hb:b=true↔s∈l):
  LkOk Tryz.prog 134 (mxB n D) (strV s) 9 4 n D (.string s) (.bool false) (.bool b):=by
 refine⟨u_msb,string_keyed u_strb,rfl,key_str hs,z_boolb,plainElem_bool u_boolb false,?_,fun v ps h=>plain_bool_inv h⟩
 cases b with
 |true=>exact(h.2 s _).1 (hb.1 rfl)
 |false=>exact(h.2 s _).2 fun hm=>Bool.noConfusion (hb.2 hm)
theorem mu_b {n:Nat}{D:DataW Unit}{s:List UInt8}(hs:s.length≤1000000000000000)(hn:n≤100000000):
  MuOk Tryz.prog 134 (mxB n D) (strV s) (.bool true) 9 4 n D (.string s) (.bool true):=
 ⟨u_msb,string_keyed u_strb,rfl,key_str hs,plainElem_bool u_boolb true,by unfold maxLen;omega⟩
theorem abs_rq {q:Rat}(h:Sz q):RQ (rawV false (limbs q.num.natAbs) (limbs (dn q))) (abQ q):=
 ⟨false,_,_,vR_ _,by rw[val_limbs,val_limbs,rv,un_dn];rfl,h.sm.1,h.sm.2⟩
theorem ly_normal {f:Af}{k n:Nat}(h:FB k n f)(hk:k≤1000000)(hn:n≤100):LV Tryz.prog 125 [.agg f.A] (.agg (nrmS f).A):=by
 obtain⟨ts,c⟩:=f
 cases ts with
 |nil=>
  have hs:=h.c.sz (k:=k) (by omega);have hr: -9223372036854775808≤c.num.sign∧c.num.sign<9223372036854775808:=by have:=Int.sign_trichotomy c.num;omega
  refine LX_run (m:=0) (n0:=0) mix Tryz.func125 rfl rfl rfl rfl ?_;conv=>whnf
  refine .c (lx_rsign (.c hs)) ?_;conv=>whnf
  refine .c (lx_rof (z:=c.num.sign) hr.1 hr.2) ?_;conv=>whnf
  exact .mk (.agg (nrmS ⟨[],c⟩).A) [] ⟨rfl,rfl⟩ (WkV.agg ⟨WkA.nil,aR_ _,aR_ _,aR_ _,trivial⟩) rfl trivial rfl
 |cons t ts=>
  obtain⟨t1,t2,t3,t4⟩:=h.tm t (by simp);have h0:abQ t.q≠0:=fun e=>by have:=abQ_pos t3;rw[e]at this;exact absurd this (by decide)
  have hd:Bt k (((1:Int):Rat)/abQ t.q):=(((Bt.int (k:=0) (z:=1) (by decide)).div t4.abQ h0)).mono (by omega);refine LX_run (m:=0) (n0:=0) mix Tryz.func125 rfl rfl rfl rfl ?_;conv=>whnf
  refine .mk (0) (Tm.D t) (rfl) (rfl) ?_;conv=>whnf
  refine .c (lx_rof (z:=1) (by decide) (by decide)) ?_;conv=>whnf
  refine .c (lx_rdiv h0 (.c ((bt1 0).sz (by omega))) (abs_rq (t4.sz (by omega)))) ?_;conv=>whnf
  refine .mk (by kernel_rfl) ?_;conv=>whnf
  refine .c (pl_scale h hd (by omega) (by omega) (by omega)) ?_;conv=>whnf
  exact .q ⟨rfl,rfl⟩
abbrev lsH (l:List Af)(D:DataW Unit):List (Nat×Ent):=[(0,.box 136 [.own 2 4 (l.map Af.D),.mp 1]),(1,.mp (mxB l.length D)),(2,.arr 32 4 l.length)]
theorem ly_add {l:List Af}{D:DataW Unit}{f:Af}{k n:Nat}(h:FB k n f)(hk:k≤1000000)(hn:n≤100)(hl:l.length≤100000000)(hv:∀g∈l,∀t∈g.ts,0≤t.v)(hD:MpB D (l.map txt)):
  LX Tryz.prog 80 [.a (.ptr 0 0),.agg f.A] (lsH l D) fun v H=>v= .tup []∧∃D',MpB D' ((adS l f).map txt)∧H=lsH (adS l f) D':=by
 have hN:=nrm_fb h;obtain⟨x1,x2,x3⟩:=hN.tx (by omega) (by omega) (by omega);have tl:=txt_len x1 x2 x3;have hlm:(List.map Af.D l).length=l.length:=List.length_map _;have hin:txt (nrmS f)∈l.map txt↔nrmS f∈l:=by
  refine⟨fun hm=> ?_,fun hm=>List.mem_map.2 ⟨_,hm,rfl⟩⟩;obtain⟨g,hg,e⟩:=List.mem_map.1 hm;have:=txt_inj (hv g hg) (fun t ht=>(x2 t ht).2.1) e;rw[←this];exact hg
 refine LX_run (m:=3) (n0:=3) mix Tryz.func80 rfl rfl rfl rfl ?_;conv=>whnf
 refine .c (ly_normal h hk hn) ?_;conv=>whnf
 refine .c (lx_text x1 x2 x3) ?_;conv=>whnf
 by_cases hc0:(nrmS f).ts=[]∧0≤(nrmS f).c
 ·have ea:adS l f=l:=if_pos (.inl hc0);rw[ea];refine bT ((by rw[hc0.1];rfl)) ?_;conv=>whnf
  refine bF (decide_eq_false (Rat.not_lt.2 hc0.2)) ?_;conv=>whnf
  exact .mk _ (lsH l D) ⟨rfl,D,hD,rfl⟩ (vR_ _) rfl ⟨⟨_,rfl,wke_refl _,rfl⟩,⟨_,rfl,wke_refl _,rfl⟩,⟨_,rfl,wke_refl _,rfl⟩,trivial⟩ rfl
 ·by_cases e:(nrmS f).ts=[]
  case' pos=>
   refine bT ((by rw[e];rfl)) ?_;conv=>whnf
   refine bT (decide_eq_true (Rat.not_le.1 fun h=>hc0 ⟨e,h⟩)) ?_;conv=>whnf
  case' neg=>
   refine bF ((by cases h:(nrmS f).ts with|nil=>exact absurd h e|cons x xs=>rfl)) ?_;conv=>whnf
  all_goals
   by_cases hm:nrmS f∈l
   ·have ea:adS l f=l:=if_pos (.inr hm);rw[ea];refine .mk _ _ _ _ _ _ _ (lk_b (b:=true) hD tl ⟨fun _=>hin.2 hm,fun _=>rfl⟩) ?_;conv=>whnf
    exact .mk _ (lsH l D) ⟨rfl,D,hD,rfl⟩ (vR_ _) rfl ⟨⟨_,rfl,wke_refl _,rfl⟩,⟨_,rfl,wke_refl _,rfl⟩,⟨_,rfl,wke_refl _,rfl⟩,trivial⟩ rfl
   ·have ea:adS l f=l++[nrmS f]:=if_neg fun k=>k.elim hc0 hm;rw[ea];refine .mk _ _ _ _ _ _ _ (lk_b (b:=false) hD tl ⟨fun q=>Bool.noConfusion q,fun q=>absurd (hin.1 q) hm⟩) ?_;conv=>whnf
    refine .mk _ _ _ _ _ _ (mu_b tl hl) ?_;conv=>whnf
    refine .mk ((l++[nrmS f]).map Af.D) hlm.symm (by rw[List.map_append];rfl) (by simp;omega) ?_;conv=>whnf
    refine .mk (by kernel_rfl) ?_;conv=>whnf
    exact .mk _ (lsH (l++[nrmS f]) (D.put (.string (txt (nrmS f))) (.lit (.bool true)))) ⟨rfl,_,by rw[List.map_append];exact hD.put,rfl⟩ (vR_ _) rfl
     ⟨⟨_,rfl,wke_refl _,rfl⟩,⟨_,rfl,by rw[List.length_append];exact wke_refl _,rfl⟩,⟨_,rfl,by rw[List.length_map];exact wke_refl _,rfl⟩,trivial⟩ rfl
theorem AfOk.upN {f:Af}{n m:Int}(h:AfOk f n)(hm:n≤m):AfOk f m:=⟨fun i t ht=>by obtain⟨a,b,c⟩:=h.lo i t ht;exact⟨a,by omega,c⟩,h.up,h.c,h.len⟩
theorem ly_fcan {fs:List Af}{n:Int}(hl:fs.length≤100000)(hf:∀f∈fs,AfOk f n):LV Tryz.prog 34 [.a (.d (afsD fs)),vl (.int .i64 n)] (vl (.bool true)):=by
 refine LX_run (m:=0) (n0:=0) mix Tryz.func34 rfl rfl rfl rfl ?_;conv=>whnf
 refine .mk Nat (fun i=>⟨[(9,vl (.int .i64 (i:Nat))),(8,vl (.int .i64 ((fs.map Af.D).length:Nat))),(7,.a (.d (afsD fs))),(1,vl (.int .i64 n))],[],0⟩) (fun i=>i≤fs.length) (fun i=>fs.length-i) 0
  Wk.go (zL_ _) fun i hi=> ?_
 conv=>whnf
 refine bs (fun h1=> ?_) (fun h1=> ?_)
 ·conv=>whnf
  have h1':i<fs.length:=by have:=of_decide_eq_true h1;rw[List.length_map]at this;omega
  obtain⟨f,hf'⟩:=at_some h1';refine .mk (i) (Af.D f) (rfl) (at_map hf') ?_;conv=>whnf
  refine .c (lx_lvalid (hf f (mG_ hf'))) ?_;conv=>whnf
  exact⟨i+1,Wk.go,h1',by omega⟩
 ·conv=>whnf
  exact .q ⟨rfl,rfl⟩
theorem ad_len (l:List Af)(f:Af):(adS l f).length≤l.length+1:=by
 unfold adS;split
 ·omega
 ·simp
theorem fold_len:∀(rs l:List Af),(rs.foldl adS l).length≤l.length+rs.length
 |[],l=>by simp
 |r::rs,l=>by rw[List.foldl_cons,List.length_cons];have:=fold_len rs (adS l r);have:=ad_len l r;omega
def NnV (l:List Af):Prop:=∀g∈l,∀t∈g.ts,0≤t.v
theorem ad_nn {l:List Af}{f:Af}{k n:Nat}(h:FB k n f)(hl:NnV l):NnV (adS l f):=by
 unfold adS;split
 ·exact hl
 ·intro g hg t ht;rcases List.mem_append.1 hg with h1|h1
  ·exact hl g h1 t ht
  ·rw[List.mem_singleton.1 h1]at ht;exact((nrm_fb h).tm t ht).1
theorem fold_nn {k n:Nat}:∀{rs l:List Af},(∀f∈rs,FB k n f)→NnV l→NnV (rs.foldl adS l)
 |[],_,_,h=>h
 |r::rs,l,hf,h=>fold_nn (rs:=rs) (fun f hm=>hf f (by simp[hm])) (ad_nn (hf r (by simp)) h)
theorem sg_one {q:Rat}:(q.num.sign==1)=decide (0<q):=by
 rw[←sg_gt];have:=Int.sign_trichotomy q.num
 by_cases h:q.num.sign=1
 ·rw[h];rfl
 ·rw[decide_eq_false (by omega)];simp[h]
theorem filter_snoc {α:Type}{p:α→Bool}{l:List α}{i:Nat}{x:α}(h:l[i]? =some x):(l.take (i+1)).filter p=(l.take i).filter p++(if p x then [x]else []):=by
 rw[take_snoc h,List.filter_append]
 cases hp:p x<;>simp[hp]
noncomputable abbrev zrL (v:Int) (rows:List Af) (i:Nat):List Af:=(zrR v (rows.take i)).foldl adS []
abbrev elA (ft:List Af)(v:Int)(f:Af)(b:Nat):List Af:=(ft.take b).map (cmbS v f)
noncomputable abbrev upL (v:Int) (rows:List Af) (a:Nat):List Af:=(((upR v rows).take a).flatMap fun f=>(dnR v rows).map (cmbS v f)).foldl adS (zrL v rows rows.length)
noncomputable abbrev inL (v:Int) (rows:List Af) (a:Nat) (f:Af) (b:Nat):List Af:=(elA (dnR v rows) v f b).foldl adS (upL v rows a)
theorem el_end (v:Int)(rows:List Af):upL v rows (upR v rows).length=elS v rows:=by
 unfold upL elS zrL;rw[List.take_length,List.take_length,List.foldl_append]
theorem up_succ {v:Int}{rows:List Af}{a:Nat}{f:Af}(h:(upR v rows)[a]? =some f):upL v rows (a+1)=((dnR v rows).map (cmbS v f)).foldl adS (upL v rows a):=by
 unfold upL;rw[take_snoc h,List.flatMap_append,List.foldl_append];simp
abbrev elH (l:List Af)(D:DataW Unit)(u w:Nat):List (Nat×Ent):=[(1,.box 136 [.own 2 4 (l.map Af.D),.mp 0]),(0,.mp (mxB l.length D)),(2,.arr 32 4 l.length),(3,.arr 32 4 u),(4,.arr 32 4 w)]
theorem ly_elim {rows:List Af}{k n:Nat}{v:Nat}(hf:∀f∈rows,FB k n f)(hk:k≤100000)(hn:n≤100)(hl:rows.length≤5000)(hv:v≤100):
  LP Tryz.prog 79 [.a (.d (afsD rows)),vl (.int .i64 (v:Nat))] fun r=>(r= .tup [.s (.d (afsD (elS (v:Nat) rows))),.s (.d (.lit (.int .i64 0)))]∧(elS (v:Nat) rows).length≤4096)∨(r= .tup [.s (.d (.lit (.slice none 0 0))),.s (.d (.lit (.int .i64 8)))]∧4096<(elS (v:Nat) rows).length):=by
 have hlm:(List.map Af.D rows).length=rows.length:=List.length_map _;refine LX.lp ?_;refine LX_run (m:=0) (n0:=0) mix Tryz.func79 rfl rfl rfl rfl ?_;conv=>whnf
 refine .c (ly_fcan (by omega) fun f hm=>((hf f hm).ok (by omega) (by omega) (by omega)).upN (by omega)) ?_;conv=>whnf
 refine .mk 9 4 ?_;conv=>whnf
 have hnz:NnV []:=fun g hg=>by cases hg
 have zl:∀i,(zrL (v:Nat) rows i).length≤rows.length:=fun i=>by
  have h1:=fold_len (zrR (v:Nat) (rows.take i)) [];have h2:(zrR (v:Nat) (rows.take i)).length≤(rows.take i).length:=List.length_filter_le _ _;rw[List.length_take]at h2;simp only[List.length_nil]at h1;exact tL_ h1 (by omega)
 have zn:∀i,NnV (zrL (v:Nat) rows i):=fun i=>fold_nn (k:=k) (n:=n) (fun f hm=>hf f (List.mem_of_mem_take (List.mem_filter.1 hm).1)) hnz
 refine .mk (Nat×DataW Unit) (fun(i,D)=>⟨[(29,vl (.int .i64 (i:Nat))),(28,vl (.int .i64 ((List.map Af.D rows).length:Nat))),(27,.a (.d (afsD rows))),(8,.a (.own 4 4 ((dnR (v:Nat) (rows.take i)).map Af.D))),(7,.a (.own 3 4 ((upR (v:Nat) (rows.take i)).map Af.D))),(6,.a (.ptr 1 0)),(1,vl (.int .i64 (v:Nat)))],
  elH (zrL (v:Nat) rows i) D (upR (v:Nat) (rows.take i)).length (dnR (v:Nat) (rows.take i)).length,5⟩) (fun b=>b.1≤rows.length∧MpB b.2 ((zrL (v:Nat) rows b.1).map txt)) (fun b=>rows.length-b.1) (0,.map [])
  (Wk.trans (Wk.own 7 3 32 4 rfl rfl (zL_ _)) (Wk.trans (Wk.own 8 4 32 4 rfl rfl (zL_ _)) (Wk.trans (Wk.ownB 1 2 0 32 4 rfl rfl rfl) Wk.go))) ⟨zL_ _,isMap_empty,fun s zd=>⟨(fun hm=>by cases hm),fun _=>rfl⟩⟩ fun⟨i,D⟩ hi=> ?_
 obtain⟨hi,hD⟩:=hi;simp only at hi hD;conv=>whnf
 refine bs (fun h1=> ?_) (fun h1=> ?_)
 ·conv=>whnf
  have h1':i<rows.length:=by have:=of_decide_eq_true h1;omega
  obtain⟨f,hf'⟩:=at_some h1';have hF:=hf f (mG_ hf');refine .mk (i) (Af.D f) (rfl) (at_map hf') ?_;conv=>whnf
  refine .c (pl_coef hF (by omega) (by omega)) ?_;conv=>whnf
  refine .c (lx_rsign (.c ((hF.co _).sz (by omega)))) ?_;conv=>whnf
  rw[sg_eq];have eu:upR (v:Nat) (rows.take (i+1))=upR (v:Nat) (rows.take i)++(if decide (0<cof f.ts (v:Nat))then [f]else []):=filter_snoc hf';have ed:dnR (v:Nat) (rows.take (i+1))=dnR (v:Nat) (rows.take i)++(if decide (cof f.ts (v:Nat)<0)then [f]else []):=filter_snoc hf';have ez:zrR (v:Nat) (rows.take (i+1))=zrR (v:Nat) (rows.take i)++(if decide (cof f.ts (v:Nat)=0)then [f]else []):=filter_snoc hf';have hul:(upR (v:Nat) (rows.take i)).length≤rows.length:=tL_ (List.length_filter_le _ _) (by rw[List.length_take];omega);have hdl:(dnR (v:Nat) (rows.take i)).length≤rows.length:=tL_ (List.length_filter_le _ _) (by rw[List.length_take];omega);refine bs (fun h2=> ?_) (fun h2=> ?_)
  ·have h2':=of_decide_eq_true h2;rw[h2',if_neg (by decide),List.append_nil]at eu ed;rw[if_pos h2]at ez;have ezl:zrL (v:Nat) rows (i+1)=adS (zrL (v:Nat) rows i) f:=by unfold zrL;rw[ez,List.foldl_append];rfl
   conv=>whnf
   refine .lD [1,0,2] [] _ (ly_add hF (by omega) hn (by have:=zl i;omega) (zn i) hD) ?_;rintro _ _ ⟨rfl,D',hD',rfl⟩;refine⟨rfl,(fun k hk=>by cases hk),?_⟩;conv=>whnf
   exact⟨(i+1,D'),by simp only[eu,ed,ezl];exact Wk.go,⟨h1',by simp only[ezl];exact hD'⟩,by simp only;omega⟩
  ·have h2':=of_decide_eq_false h2;rw[if_neg (by rw[h2];exact Bool.noConfusion),List.append_nil]at ez;have ezl:zrL (v:Nat) rows (i+1)=zrL (v:Nat) rows i:=by unfold zrL;rw[ez]
   conv=>whnf
   rw[sg_one];refine bs (fun h3=> ?_) (fun h3=> ?_)
   ·have h3':=of_decide_eq_true h3;rw[if_pos h3]at eu;rw[decide_eq_false (Rat.not_lt.2 (Rat.le_of_lt h3')),if_neg (by decide),List.append_nil]at ed;conv=>whnf
    refine .mk ((upR (v:Nat) (rows.take (i+1))).map Af.D) (by rw[List.length_map]) (by rw[eu,List.map_append];rfl) (by rw[List.length_map,eu,List.length_append,List.length_singleton];omega) ?_;conv=>whnf
    exact⟨(i+1,D),by simp only[ed,ezl];exact Wk.go (h2:=⟨⟨_,rfl,wke_refl _,rfl⟩,⟨_,rfl,wke_refl _,rfl⟩,⟨_,rfl,wke_refl _,rfl⟩,⟨_,rfl,by rw[List.length_map];exact wke_refl _,rfl⟩,⟨_,rfl,wke_refl _,rfl⟩,trivial⟩),⟨h1',by simp only[ezl];exact hD⟩,by simp only;omega⟩
   ·have h3':=of_decide_eq_false h3;have h4':cof f.ts (v:Nat)<0:=by have:=Rat.not_lt.1 h3';grind
    rw[if_neg (by rw[h3];exact Bool.noConfusion),List.append_nil]at eu;rw[decide_eq_true h4',if_pos rfl]at ed;conv=>whnf
    refine .mk ((dnR (v:Nat) (rows.take (i+1))).map Af.D) (by rw[List.length_map]) (by rw[ed,List.map_append];rfl) (by rw[List.length_map,ed,List.length_append,List.length_singleton];omega) ?_;conv=>whnf
    exact⟨(i+1,D),by simp only[eu,ezl];exact Wk.go (h2:=⟨⟨_,rfl,wke_refl _,rfl⟩,⟨_,rfl,wke_refl _,rfl⟩,⟨_,rfl,wke_refl _,rfl⟩,⟨_,rfl,wke_refl _,rfl⟩,⟨_,rfl,by rw[List.length_map];exact wke_refl _,rfl⟩,trivial⟩),⟨h1',by simp only[ezl];exact hD⟩,by simp only;omega⟩
 ·conv=>whnf
  have h1':i=rows.length:=by have:=of_decide_eq_false h1;omega
  subst h1';rw[List.take_length];have e0:upL (v:Nat) rows 0=zrL (v:Nat) rows rows.length:=rfl;have hdn:∀g∈dnR (v:Nat) rows,FB k n g:=fun g hg=>hf g (List.mem_filter.1 hg).1;have hup:∀g∈upR (v:Nat) rows,FB k n g:=fun g hg=>hf g (List.mem_filter.1 hg).1;have hul:(upR (v:Nat) rows).length≤rows.length:=List.length_filter_le _ _;have hdl:(dnR (v:Nat) rows).length≤rows.length:=List.length_filter_le _ _;have ul:∀a,a≤(upR (v:Nat) rows).length→(upL (v:Nat) rows a).length≤rows.length+a*5000∧NnV (upL (v:Nat) rows a):=by
   intro a
   induction a with
   |zero=>intro _;rw[e0];exact⟨by have:=zl rows.length;omega,zn _⟩
   |succ a ih=>
    intro ha;obtain⟨f,hf'⟩:=at_some (show a<(upR (v:Nat) rows).length by omega);obtain⟨i1,i2⟩:=ih (by omega);rw[up_succ hf'];refine⟨?_,fold_nn (k:=4*k+1) (n:=n) (fun g hg=> ?_) i2⟩
    ·have:=fold_len ((dnR (v:Nat) rows).map (cmbS (v:Nat) f)) (upL (v:Nat) rows a);rw[List.length_map]at this;omega
    ·obtain⟨g',hg',rfl⟩:=List.mem_map.1 hg;exact cmb_fb (hup f (mG_ hf')) (hdn g' hg')
  refine .mk (Nat×DataW Unit) (fun(a,D)=>⟨[(55,vl (.int .i64 (a:Nat))),(54,vl (.int .i64 ((List.map Af.D (upR (v:Nat) rows)).length:Nat))),(53,.a (.own 3 4 ((upR (v:Nat) rows).map Af.D))),(8,.a (.own 4 4 ((dnR (v:Nat) rows).map Af.D))),(6,.a (.ptr 1 0)),(1,vl (.int .i64 (v:Nat)))],
   elH (upL (v:Nat) rows a) D (upR (v:Nat) rows).length (dnR (v:Nat) rows).length,5⟩) (fun b=>b.1≤(upR (v:Nat) rows).length∧MpB b.2 ((upL (v:Nat) rows b.1).map txt)) (fun b=>(upR (v:Nat) rows).length-b.1) (0,D)
   (by simp only[e0];exact Wk.go) ⟨zL_ _,by simp only[e0];exact hD⟩ fun⟨a,D⟩ hi=> ?_
  obtain⟨hi,hD⟩:=hi;simp only at hi hD;conv=>whnf
  refine bs (fun h2=> ?_) (fun h2=> ?_)
  ·conv=>whnf
   have h2':a<(upR (v:Nat) rows).length:=by have:=of_decide_eq_true h2;rw[List.length_map]at this;omega
   obtain⟨f,hf'⟩:=at_some h2';have hF:=hup f (mG_ hf');obtain⟨u1,u2⟩:=ul a hi;have hc1:Bt k (cof f.ts (v:Nat)):=hF.co _;refine .mk (a) (Af.D f) (rfl) (at_map hf') ?_;conv=>whnf
   refine .c (pl_coef hF (by omega) (by omega)) ?_;conv=>whnf
   have i0:inL (v:Nat) rows a f 0=upL (v:Nat) rows a:=rfl
   have il:∀b,b≤(dnR (v:Nat) rows).length→(inL (v:Nat) rows a f b).length≤rows.length+a*5000+b∧NnV (inL (v:Nat) rows a f b):=fun b hb=>by
    refine⟨?_,fold_nn (k:=4*k+1) (n:=n) (fun g hg=> ?_) u2⟩
    ·have:=fold_len (elA (dnR (v:Nat) rows) (v:Nat) f b) (upL (v:Nat) rows a);rw[List.length_map,List.length_take]at this;exact tL_ this (by omega)
    ·obtain⟨g',hg',rfl⟩:=List.mem_map.1 hg;exact cmb_fb hF (hdn g' (List.mem_of_mem_take hg'))
   refine .mk (Nat×DataW Unit) (fun(b,D)=>⟨[(64,vl (.int .i64 (b:Nat))),(63,vl (.int .i64 ((List.map Af.D (dnR (v:Nat) rows)).length:Nat))),(62,.a (.own 4 4 ((dnR (v:Nat) rows).map Af.D))),(13,.a (.ptr 6 0)),(12,.a (.ptr 5 0)),(55,vl (.int .i64 (a:Nat))),(54,vl (.int .i64 ((List.map Af.D (upR (v:Nat) rows)).length:Nat))),(53,.a (.own 3 4 ((upR (v:Nat) rows).map Af.D))),(8,.a (.own 4 4 ((dnR (v:Nat) rows).map Af.D))),(6,.a (.ptr 1 0)),(1,vl (.int .i64 (v:Nat)))],
    (5,.box 32 f.A)::(6,.box 30 (can (cof f.ts (v:Nat))).A)::elH (inL (v:Nat) rows a f b) D (upR (v:Nat) rows).length (dnR (v:Nat) rows).length,7⟩) (fun b=>b.1≤(dnR (v:Nat) rows).length∧MpB b.2 ((inL (v:Nat) rows a f b.1).map txt)) (fun b=>(dnR (v:Nat) rows).length-b.1) (0,D)
    (by simp only[i0];exact Wk.go) ⟨zL_ _,by simp only[i0];exact hD⟩ fun⟨b,D⟩ hi=> ?_
   obtain⟨hi,hD⟩:=hi;simp only at hi hD;conv=>whnf
   refine bs (fun h3=> ?_) (fun h3=> ?_)
   ·conv=>whnf
    have h3':b<(dnR (v:Nat) rows).length:=by have:=of_decide_eq_true h3;rw[List.length_map]at this;omega
    obtain⟨g,hg'⟩:=at_some h3';have hG:=hdn g (mG_ hg');have hc2:Bt k (cof g.ts (v:Nat)):=hG.co _;obtain⟨i1,i2⟩:=il b hi;refine .mk (b) (Af.D g) (rfl) (at_map hg') ?_;conv=>whnf
    refine .c (pl_coef hG (by omega) (by omega)) ?_;conv=>whnf
    refine .c (lx_rneg (.c (hc2.sz (by omega)))) ?_;conv=>whnf
    refine .c (pl_scale hF hc2.neg (by omega) (by omega) (by omega)) ?_;conv=>whnf
    refine .c (pl_scale hG hc1 (by omega) (by omega) (by omega)) ?_;conv=>whnf
    refine .c (pl_add (hF.scale hc2.neg) (hG.scale hc1) (by omega) (by omega) (by omega)) ?_;conv=>whnf
    refine .lD [1,0,2] [] _ (ly_add (f:=cmbS (v:Nat) f g) (cmb_fb hF hG) (by omega) hn (by omega) i2 hD) ?_;rintro _ _ ⟨rfl,D',hD',rfl⟩;refine⟨rfl,(fun k hk=>by cases hk),?_⟩;conv=>whnf
    refine .mk (by kernel_rfl) ?_;conv=>whnf
    have en:inL (v:Nat) rows a f (b+1)=adS (inL (v:Nat) rows a f b) (cmbS (v:Nat) f g):=by
     unfold inL elA;rw[take_snoc hg',List.map_append,List.foldl_append];rfl
    exact⟨(b+1,D'),by simp only[en];exact Wk.go,⟨h3',by simp only[en];exact hD'⟩,by simp only;omega⟩
   ·conv=>whnf
    have h3':b=(dnR (v:Nat) rows).length:=by have:=of_decide_eq_false h3;rw[List.length_map]at this;omega
    subst h3';have en:inL (v:Nat) rows a f (dnR (v:Nat) rows).length=upL (v:Nat) rows (a+1):=by
     rw[up_succ hf'];unfold inL elA;rw[List.take_length]
    rw[en]at hD;exact⟨(a+1,D),by simp only[←en];exact Wk.go,⟨h2',hD⟩,by simp only;omega⟩
  ·conv=>whnf
   have h2':a=(upR (v:Nat) rows).length:=by have:=of_decide_eq_false h2;rw[List.length_map]at this;omega
   subst h2';rw[el_end];refine bs (fun h4=> ?_) (fun h4=> ?_)
   ·conv=>whnf
    have h4':4096<(elS (v:Nat) rows).length:=by have:=of_decide_eq_true h4;rw[List.length_map]at this;omega
    exact .mk (.tup [.s (.d (.lit (.slice none 0 0))),.s (.d (.lit (.int .i64 8)))]) [] ⟨rfl,rfl,.inr ⟨rfl,h4'⟩⟩ (vR_ _) rfl trivial rfl
   ·conv=>whnf
    have h4':(elS (v:Nat) rows).length≤4096:=by have:=of_decide_eq_false h4;rw[List.length_map]at this;omega
    exact .mk (.tup [.s (.d (afsD (elS (v:Nat) rows))),.s (.d (.lit (.int .i64 0)))]) [] ⟨rfl,rfl,.inl ⟨rfl,h4'⟩⟩ (WkV.tup ⟨WkA.own,aR_ _,trivial⟩) rfl trivial rfl
noncomputable abbrev fdL (R:List Af) (i:Nat):List Af:=(R.take i).foldl adS []
theorem ly_project {rows:List Af}{b n:Nat}{m:Nat}(hf:∀f∈rows,FB b n f)(hb:b≤10)(hn:n≤100)(hl:rows.length≤4096)(hm:m≤3):
  LP Tryz.prog 37 [.a (.d (afsD rows)),vl (.int .i64 (m:Nat))] fun r=>(r= .tup [.s (.d (afsD (rsS rows m))),.s (.d (.lit (.int .i64 0)))]∧(rsS rows m).length≤4096)∨(r= .tup [.s (.d (.lit (.slice none 0 0))),.s (.d (.lit (.int .i64 8)))]∧∃v,v<m∧4096<(prS rows (v+1)).length):=by
 have hk:∀v,v≤3→kB b v≤10000:=fun v hv=>by
  rcases(show v=0∨v=1∨v=2∨v=3 by omega)with rfl|rfl|rfl|rfl<;>simp only[kB]<;>omega
 refine LX.lp ?_;refine LX_run (m:=0) (n0:=0) mix Tryz.func37 rfl rfl rfl rfl ?_;conv=>whnf
 refine .mk Nat (fun v=>⟨[(12,vl (.int .i64 (v:Nat))),(11,vl (.int .i64 (m:Nat))),(0,.a (.d (afsD (prS rows v))))],[],0⟩) (fun v=>v≤m∧(prS rows v).length≤4096) (fun v=>m-v) 0
  Wk.go ⟨zL_ _,hl⟩ fun v hv=> ?_
 obtain⟨hv,hlv⟩:=hv;conv=>whnf
 refine bs (fun h1=> ?_) (fun h1=> ?_)
 ·conv=>whnf
  have h1':v<m:=by have:=of_decide_eq_true h1;omega
  have hP:=pr_ok hf v;refine .d (ly_elim (v:=v) (fun f hm=>(hP f hm).1) (by have:=hk v (by omega);omega) hn (by omega) (by omega)) ?_;rintro _ (⟨rfl,q⟩|⟨rfl,q⟩)
  ·conv=>whnf
   exact⟨v+1,Wk.go,⟨h1',q⟩,by omega⟩
  ·conv=>whnf
   exact .mk (.tup [.s (.d (.lit (.slice none 0 0))),.s (.d (.lit (.int .i64 8)))]) [] ⟨rfl,rfl,.inr ⟨rfl,v,h1',q⟩⟩ (vR_ _) rfl trivial rfl
 ·conv=>whnf
  have h1':v=m:=by have:=of_decide_eq_false h1;omega
  subst h1';have hP:∀f∈prS rows v,FB 10000 n f:=fun f hm=>((pr_ok hf v f hm).1).up (hk v (by omega)) (Int.le_refl _);have er:rsS rows v=(prS rows v).foldl adS []:=rfl;rw[er];generalize prS rows v=R at hP hlv ⊢
  have fl:∀i,(fdL R i).length≤R.length∧NnV (fdL R i):=fun i=>by
   have h1:=fold_len (R.take i) [];rw[List.length_take]at h1;simp only[List.length_nil]at h1;exact⟨tL_ h1 (by omega),fold_nn (fun f hm=>hP f (List.mem_of_mem_take hm)) fun g hg=>by cases hg⟩
  refine .mk 9 4 ?_;conv=>whnf
  refine .mk (Nat×DataW Unit) (fun(i,D)=>⟨[(30,vl (.int .i64 (i:Nat))),(29,vl (.int .i64 ((List.map Af.D R).length:Nat))),(28,.a (.d (afsD R))),(8,.a (.ptr 1 0))],
   [(1,.box 136 [.own 2 4 ((fdL R i).map Af.D),.mp 0]),(0,.mp (mxB (fdL R i).length D)),(2,.arr 32 4 (fdL R i).length)],3⟩) (fun b=>b.1≤R.length∧MpB b.2 ((fdL R b.1).map txt)) (fun b=>R.length-b.1) (0,.map [])
   (Wk.trans (Wk.ownB 1 2 0 32 4 rfl rfl rfl) Wk.go) ⟨zL_ _,isMap_empty,fun s zd=>⟨(fun hm=>by cases hm),fun _=>rfl⟩⟩ fun⟨i,D⟩ hi=> ?_
  obtain⟨hi,hD⟩:=hi;simp only at hi hD;conv=>whnf
  refine bs (fun h2=> ?_) (fun h2=> ?_)
  ·conv=>whnf
   have h2':i<R.length:=by have:=of_decide_eq_true h2;rw[List.length_map]at this;omega
   obtain⟨f,hf'⟩:=at_some h2';have hF:=hP f (mG_ hf');obtain⟨f1,f2⟩:=fl i;refine .mk (i) (Af.D f) (rfl) (at_map hf') ?_;conv=>whnf
   refine .lD [1,0,2] [] _ (ly_add hF (by omega) hn (by omega) f2 hD) ?_;rintro _ _ ⟨rfl,D',hD',rfl⟩;refine⟨rfl,(fun k hk=>by cases hk),?_⟩;conv=>whnf
   have en:fdL R (i+1)=adS (fdL R i) f:=by unfold fdL;rw[take_snoc hf',List.foldl_append];rfl
   exact⟨(i+1,D'),by simp only[en];exact Wk.go,⟨h2',by simp only[en];exact hD'⟩,by simp only;omega⟩
  ·conv=>whnf
   have h2':i=R.length:=by have:=of_decide_eq_false h2;rw[List.length_map]at this;omega
   subst h2';have en:fdL R R.length=R.foldl adS []:=by unfold fdL;rw[List.take_length]
   have:=(fl R.length).1;rw[en]at this ⊢;exact .mk (.tup [.s (.d (afsD (R.foldl adS []))),.s (.d (.lit (.int .i64 0)))]) [] ⟨rfl,rfl,.inl ⟨rfl,by omega⟩⟩ (WkV.tup ⟨WkA.own,aR_ _,trivial⟩) rfl trivial rfl
section
variable {γ:Gh} {h:Hp} {M:MS} {w:World}
theorem freezeP (r:Rel γ h M w){key:Nat}{t:TypeId}{ds:List D}(hk:h key=some (.box t (ds.map A.d))):
  ∃M',Rel γ (over [(key,.gone)] h) M' w∧Stp γ h M w γ (over [(key,.gone)] h) M' w∧∀v,RdV γ h M w (.a (.ptr key 0)) v→RdV γ (over [(key,.gone)] h) M' w (.a (.elt ds 0)) v:=by
 obtain⟨g,vs,k1,k2,k3⟩:=r.ent key _ hk;have hne:∀key' b i,Owns γ (over [(key,.gone)] h) key' b i→key'≠key:=by
  intro key' b i ho e1;subst e1;unfold Owns at ho;rw[over_same]at ho;exact ho
 have hown:∀key' b i,Owns γ (over [(key,.gone)] h) key' b i→Owns γ h key' b i:=fun key' b i ho=>(owns_congr rfl (over_other (hne _ _ _ ho))).1 ho;have hog:∀i,Owns γ h key g i:=fun i=>by unfold Owns;rw[hk];simp[k1,ib,blk]
 have s:Stp γ h M w γ (over [(key,.gone)] h) (fun b i=>M b i∧b≠g) w:=
  ⟨rfl,rfl,rfl,lR_ _,fun b i v q=>⟨fun q2=>q.1 q2.1,q.2⟩,fun _ _ _=>rfl,fun b i q hn=>⟨q,fun e1=>hn key (e1▸hog i)⟩,fun key' b i ho _=>⟨key',hown _ _ _ ho⟩,fun key' e' he=>by
   by_cases e1:key'=key
   ·subst e1;exact⟨.gone,over_same,by cases e'<;>trivial,.inl rfl⟩
   ·exact⟨e',by rw[over_other e1];exact he,Goes.refl _,.inl rfl⟩⟩
 have hlv:∀key',live (over [(key,.gone)] h key')=true→key'≠key∧live (h key')=true:=by
  intro key' hl'
  by_cases e1:key'=key
  ·subst e1;rw[over_same]at hl';cases hl'
  ·exact⟨e1,by rwa [over_other e1]at hl'⟩
 refine⟨fun b i=>M b i∧b≠g,⟨fun key' e' he=> ?_,fun key' b i ho=>⟨r.own _ _ _ (hown _ _ _ ho),fun e1=> ?_⟩,fun key1 key2 b l1 l2=>r.inj _ _ b (hlv _ l1).2 (hlv _ l2).2,fun b i z q=>r.u32 b i z q.1,fun b i q=>r.dom b i q.1,r.glb.fx s.fx⟩,s,fun v hv=> ?_⟩
 ·by_cases e1:key'=key
  ·subst e1;rw[over_same]at he;injection he with he;subst he;trivial
  ·rw[over_other e1]at he;exact EntR.stp s (r.ent key' e' he) rfl fun _ _ _=>rfl
 ·subst e1;obtain⟨l1,l2⟩:=owns_live (hown _ _ _ ho);exact hne _ _ _ ho (r.inj key' key _ l1 (by rw[hk];rfl) l2 (by rw[k1];rfl))
 ·obtain⟨_,g',q1,q2⟩:=hv;rw[k1]at q1;injection q1 with q1;injection q1 with q1;injection q1 with q1;subst q1;have k4:All2 (RdD M w) ds vs:=All2.unmap (f:=A.d) (R:=RdA γ h M w) k3;refine⟨g,0,fun j=>vs.getD j undef,by rw[q2],fun j d hj=> ?_⟩;obtain⟨u,u1,u2⟩:=All2.get k4 hj;have e5:vs.getD j undef=u:=by rw[List.getD_eq_getElem?_getD,u1];rfl
  simp only[e5];exact⟨⟨fun q=>q.2 rfl,by simp[World.cell?,k2,u1]⟩,RdD.fx s.fx u2⟩
theorem Wk.freezeP {m:Nat}{s:St}(d key:Nat){t:TypeId}{ds:List D}(hT:look s.T d=some (.a (.ptr key 0)))(hk:look s.H key=some (.box t (ds.map A.d))):
  Wk m s ⟨(d,.a (.elt ds 0))::s.T,(key,.gone)::s.H,s.n⟩:=by
 intro N γ0 h0 M0 w0 a w hm hd hS;obtain⟨γ,M,k1,k2,k3,k4,k5⟩:=hS;obtain⟨M',q1,q2,q3⟩:=Lf.freezeP k1 hk;have e1:look ((key,Ent.gone)::s.H)=over [(key,.gone)] (look s.H):=look_app [(key,Ent.gone)] s.H;refine⟨γ,M',by rw[e1];exact q1,⟨k2.1.fx q2.fx,fun d' v' hv'=> ?_⟩,k3,k4,by rw[e1];exact k5.trans q2 hd⟩;simp only[look]at hv';split at hv'
 ·rename_i hdd;subst hdd;injection hv' with hv';subst hv';obtain⟨x,y1,y2⟩:=k2.2 _ _ hT;exact⟨x,y1,by rw[e1];exact q3 x y2⟩
 ·obtain⟨x,y1,y2⟩:=k2.2 d' v' hv';exact⟨x,y1,by rw[e1];exact RdV.stp q2 y2⟩
end
theorem varS_wk {key:Nat}{v:Int}:WkV (.agg [.own key 4 [Tm.D ⟨v,((1:Int):Rat)⟩],.d (.lit (.bool false)),.d (.nat 0),.d (.nat 0)]) (.agg (varS v).A):=by
 show WkV _ (.agg (A.d _::(can 0).A));rw[can0];exact WkV.agg ⟨WkA.own,aR_ _,aR_ _,aR_ _,trivial⟩
def pO:Option Rat→V
 |none=>vl (.pointer none)
 |some x=> .a (.elt (ratD x) 0)
theorem pO_in (H:List (Nat×Ent))(o:Option Rat):inH H (keysV (pO o))=true:=by cases o<;>rfl
theorem kB_le {n:Nat}(hn:n≤3):kB 6 n≤100000:=by
 rcases(show n=0∨n=1∨n=2∨n=3 by omega)with rfl|rfl|rfl|rfl<;>simp only[kB]<;>omega
theorem ly_fmin {p:Pg}(s:Smp p):LP Tryz.prog 7 [.agg p.obj.A,.a (.d (afsD p.rows)),vl (.int .i64 (p.n:Nat))] fun r=>
  r= .tup [.s (.d (.lit (.int .i64 (mnO (mnF p.n (rsS (fmR p) p.n) none none)).1))),.g (can (mnO (mnF p.n (rsS (fmR p) p.n) none none)).2).A,.s (.d (.lit (.int .i64 0)))]∨(r= .tup [.s (.d (.lit (.int .i64 0))),.g (can 0).A,.s (.d (.lit (.int .i64 8)))]∧∃v,v<p.n∧4096<(prS (fmR p) (v+1)).length):=by
 have hn:=s.n3;have hm:=s.m7;obtain⟨a1,a2⟩:=s.ok.af (by omega) (by omega);have hfm:=fmR_fb s.ok;refine LX.lp ?_;refine LX_run (m:=0) (n0:=0) mix Tryz.func7 rfl rfl rfl rfl ?_;conv=>whnf
 refine .c (ly_fcan (by omega) a1) ?_;conv=>whnf
 refine .c (lx_lvalid a2) ?_;conv=>whnf
 refine .c (lx_rof (z:=1) (by decide) (by decide)) ?_;conv=>whnf
 refine Cn.as (pl_sub (FB.var (n:=(p.n+1:Nat)) (v:=(p.n:Nat)) (by omega) (by omega)) (s.ok.obj.up (lR_ 5) (by omega)) (by omega) (by omega) (by omega)) rfl ⟨varS_wk,vR_ _,trivial⟩ rfl rfl ?_;conv=>whnf
 refine .mk (by kernel_rfl) ?_;conv=>whnf
 refine .c (lx_rof (z:= -1) (by decide) (by decide)) ?_;conv=>whnf
 have hcb:Bt 0 ((-1:Int):Rat):=Bt.int (by decide);have hfr:fmR p=abS p::scaleS (abS p) ((-1:Int):Rat)::p.rows:=rfl;generalize ((-1:Int):Rat)=c at hcb hfr ⊢;refine .c (pl_scale (ab_fb s.ok) hcb (by omega) (by omega) (by omega)) ?_;conv=>whnf
 refine .mk ((fmR p).map Af.D) rfl (by rw[hfr];rfl) (by rw[List.length_map];simp[fmR];omega) ?_;conv=>whnf
 refine .d (ly_project hfm (by omega) (by omega) (by simp[fmR];omega) hn) ?_;rintro _ (⟨rfl,hlen⟩|⟨rfl,hbig⟩)
 rotate_left
 ·conv=>whnf
  refine .mk (by kernel_rfl) ?_;conv=>whnf
  exact .mk (.tup [.s (.d (.lit (.int .i64 0))),.g (can 0).A,.s (.d (.lit (.int .i64 8)))]) [] ⟨rfl,rfl,.inr ⟨rfl,hbig⟩⟩ (WkV.tup ⟨aR_ _,rat0_A,aR_ _,trivial⟩) rfl trivial rfl
 conv=>whnf
 refine .mk (by kernel_rfl) ?_;conv=>whnf
 have hsh:=rs_shape (b:=6) (n:=p.n) hfm;clear hfm hfr;generalize rsS (fmR p) p.n=R at hlen hsh ⊢;refine .mk (Nat×Option Rat×Option Rat) (fun(i,lo,hi)=>⟨[(58,vl (.int .i64 (i:Nat))),(57,vl (.int .i64 ((List.map Af.D R).length:Nat))),(56,.a (.d (afsD R))),(13,pO hi),(12,pO lo),(7,.a (.ptr 1 0)),(2,vl (.int .i64 (p.n:Nat)))],[(1,.box 30 [.d (.lit (.bool false)),.d (.nat 0),.d (.nat 0)])],8⟩)
  (fun b=>b.1≤R.length∧mnF p.n (R.drop b.1) b.2.1 b.2.2=mnF p.n R none none∧(∀x,b.2.1=some x→Bt 1000000 x)∧∀x,b.2.2=some x→Bt 1000000 x) (fun b=>R.length-b.1) (0,none,none)
  Wk.go ⟨zL_ _,rfl,(fun x h=>by cases h),fun x h=>by cases h⟩ fun⟨i,lo,hi⟩ hb=> ?_
 obtain⟨hi',hmn,hlo,hhi⟩:=hb;simp only at hi' hmn hlo hhi;conv=>whnf
 refine bs (fun h1=> ?_) (fun h1=> ?_)
 ·conv=>whnf
  have h1':i<R.length:=by have:=of_decide_eq_true h1;rw[List.length_map]at this;omega
  obtain⟨r,hr⟩:=at_some h1';obtain⟨hF,hs⟩:=hsh r (mG_ hr);rw[List.drop_eq_getElem_cons h1',(List.getElem?_eq_some_iff.1 hr).2,mnF]at hmn;refine .mk (i) (Af.D r) (rfl) (at_map hr) ?_;conv=>whnf
  refine .c (pl_coef hF (by omega) (by omega)) ?_;conv=>whnf
  refine .c (lx_rsign (.c ((hF.co _).sz (by have:kB 6 p.n≤100000:=kB_le hn;omega)))) ?_;conv=>whnf
  rw[sg_eq];have hrc:Bt 1000000 r.c:=hF.c.mono (by have:=kB_le hn;omega);have hsc:Sz r.c:=hrc.sz (by omega);refine bs (fun h2=> ?_) (fun h2=> ?_)
  ·have h2':=of_decide_eq_true h2;rw[if_pos h2']at hmn;conv=>whnf
   exact .mk (.tup [.s (.d (.lit (.int .i64 2))),.g (can 0).A,.s (.d (.lit (.int .i64 0)))]) [] ⟨rfl,rfl,.inl (by rw[←hmn];rfl)⟩ (WkV.tup ⟨aR_ _,rat0_A,aR_ _,trivial⟩) rfl trivial rfl
  ·have h2':=of_decide_eq_false h2;rw[if_neg h2']at hmn;conv=>whnf
   rw[sg_one];refine bs (fun h3=> ?_) (fun h3=> ?_)
   ·have h3':=of_decide_eq_true h3;rw[if_pos h3']at hmn;conv=>whnf
    refine .c (lx_rneg (.c hsc)) ?_;conv=>whnf
    cases lo with
    |none=>
     rw[if_pos (fun x h=>by cases h)]at hmn;conv=>whnf
     refine .mk (by kernel_rfl) ?_;conv=>whnf
     exact⟨(i+1,some (-r.c),hi),Wk.trans (Wk.freezeP 12 9 (t:=30) (ds:=ratD (-r.c)) rfl rfl) (Wk.go (h1:=by(repeat' first|exact trivial|exact vR_ _|exact WkV.int (wr64 (by omega) (by omega))|refine⟨⟨_,rfl,?_,rfl⟩,?_⟩|refine⟨⟨_,rfl,?_,pO_in _ _⟩,?_⟩))),⟨h1',hmn,(fun x h=>by injection h with h;subst h;exact hrc.neg),hhi⟩,by simp only;omega⟩
    |some x=>
     conv=>whnf
     refine .c (lx_rcmp (.c hsc.neg) (.c ((hlo x rfl).sz (by omega)))) ?_;conv=>whnf
     rw[cmp_gt];refine bs (fun h4=> ?_) (fun h4=> ?_)
     ·have h4':=of_decide_eq_true h4;rw[if_pos (fun y h=>by injection h with h;subst h;exact h4')]at hmn;conv=>whnf
      refine .mk (by kernel_rfl) ?_;conv=>whnf
      exact⟨(i+1,some (-r.c),hi),Wk.trans (Wk.freezeP 12 9 (t:=30) (ds:=ratD (-r.c)) rfl rfl) (Wk.go (h1:=by(repeat' first|exact trivial|exact vR_ _|exact WkV.int (wr64 (by omega) (by omega))|refine⟨⟨_,rfl,?_,rfl⟩,?_⟩|refine⟨⟨_,rfl,?_,pO_in _ _⟩,?_⟩))),⟨h1',hmn,(fun x h=>by injection h with h;subst h;exact hrc.neg),hhi⟩,by simp only;omega⟩
     ·have h4':=of_decide_eq_false h4;rw[if_neg (fun k=>h4' (k x rfl))]at hmn;conv=>whnf
      refine .mk (by kernel_rfl) ?_;conv=>whnf
      exact⟨(i+1,some x,hi),(Wk.go (h1:=by(repeat' first|exact trivial|exact vR_ _|exact WkV.int (wr64 (by omega) (by omega))|refine⟨⟨_,rfl,?_,rfl⟩,?_⟩|refine⟨⟨_,rfl,?_,pO_in _ _⟩,?_⟩))),⟨h1',hmn,hlo,hhi⟩,by simp only;omega⟩
   ·have h3':=of_decide_eq_false h3;rw[if_neg h3']at hmn;conv=>whnf
    cases hi with
    |none=>
     rw[if_pos (fun x h=>by cases h)]at hmn;conv=>whnf
     refine .mk (by kernel_rfl) ?_;conv=>whnf
     exact⟨(i+1,lo,some r.c),Wk.trans (Wk.freezeP 13 9 (t:=30) (ds:=ratD r.c) rfl rfl) (Wk.go (h1:=by(repeat' first|exact trivial|exact vR_ _|exact WkV.int (wr64 (by omega) (by omega))|refine⟨⟨_,rfl,?_,rfl⟩,?_⟩|refine⟨⟨_,rfl,?_,pO_in _ _⟩,?_⟩))),⟨h1',hmn,hlo,(fun x h=>by injection h with h;subst h;exact hrc)⟩,by simp only;omega⟩
    |some y=>
     conv=>whnf
     refine .c (lx_rcmp (.c hsc) (.c ((hhi y rfl).sz (by omega)))) ?_;conv=>whnf
     rw[cmp_ltd];refine bs (fun h4=> ?_) (fun h4=> ?_)
     ·have h4':=of_decide_eq_true h4;rw[if_pos (fun x h=>by injection h with h;subst h;exact h4')]at hmn;conv=>whnf
      refine .mk (by kernel_rfl) ?_;conv=>whnf
      exact⟨(i+1,lo,some r.c),Wk.trans (Wk.freezeP 13 9 (t:=30) (ds:=ratD r.c) rfl rfl) (Wk.go (h1:=by(repeat' first|exact trivial|exact vR_ _|exact WkV.int (wr64 (by omega) (by omega))|refine⟨⟨_,rfl,?_,rfl⟩,?_⟩|refine⟨⟨_,rfl,?_,pO_in _ _⟩,?_⟩))),⟨h1',hmn,hlo,(fun x h=>by injection h with h;subst h;exact hrc)⟩,by simp only;omega⟩
     ·have h4':=of_decide_eq_false h4;rw[if_neg (fun k=>h4' (k y rfl))]at hmn;conv=>whnf
      refine .mk (by kernel_rfl) ?_;conv=>whnf
      exact⟨(i+1,lo,some y),(Wk.go (h1:=by(repeat' first|exact trivial|exact vR_ _|exact WkV.int (wr64 (by omega) (by omega))|refine⟨⟨_,rfl,?_,rfl⟩,?_⟩|refine⟨⟨_,rfl,?_,pO_in _ _⟩,?_⟩))),⟨h1',hmn,hlo,hhi⟩,by simp only;omega⟩
 ·have h1':i=R.length:=by have:=of_decide_eq_false h1;rw[List.length_map]at this;omega
  subst h1';rw[List.drop_length,mnF]at hmn;rw[←hmn]
  cases lo with
  |none=>
   conv=>whnf
   exact .mk (.tup [.s (.d (.lit (.int .i64 3))),.g (can 0).A,.s (.d (.lit (.int .i64 0)))]) [] ⟨rfl,rfl,.inl rfl⟩ (WkV.tup ⟨aR_ _,rat0_A,aR_ _,trivial⟩) rfl trivial rfl
  |some x=>
   cases hi with
   |none=>
    conv=>whnf
    refine .mk (by kernel_rfl) ?_;conv=>whnf
    refine .mk (by kernel_rfl) ?_;conv=>whnf
    exact .mk _ [] ⟨rfl,rfl,.inl rfl⟩ (vR_ _) rfl trivial rfl
   |some y=>
    conv=>whnf
    refine .c (lx_rcmp (.c ((hlo x rfl).sz (by omega))) (.c ((hhi y rfl).sz (by omega)))) ?_;conv=>whnf
    rw[cmp_gt];refine bs (fun h4=> ?_) (fun h4=> ?_)
    ·have h4':=of_decide_eq_true h4;conv=>whnf
     refine .mk (by kernel_rfl) ?_;conv=>whnf
     exact .mk (.tup [.s (.d (.lit (.int .i64 2))),.g (can 0).A,.s (.d (.lit (.int .i64 0)))]) [] ⟨rfl,rfl,.inl (by rw[mnO,if_pos h4'])⟩ (WkV.tup ⟨aR_ _,rat0_A,aR_ _,trivial⟩) rfl trivial rfl
    ·have h4':=of_decide_eq_false h4;conv=>whnf
     refine .mk (by kernel_rfl) ?_;conv=>whnf
     refine .mk (by kernel_rfl) ?_;conv=>whnf
     exact .mk (.tup [.s (.d (.lit (.int .i64 1))),.g (can x).A,.s (.d (.lit (.int .i64 0)))]) [] ⟨rfl,rfl,.inl (by rw[mnO,if_neg h4'])⟩ (vR_ _) rfl trivial rfl
theorem ly_program {raw:List Nat}(h:RawOk raw):LP Tryz.prog 5 [.a (.d (bysD raw))] fun r=>∃p,Smp p∧r= .agg p.A:=by
 obtain⟨a1,m1,l1,b1,c1⟩:=lx_next h (a:=0) (zL_ _) (n:=2) (by omega);obtain⟨a2,K,l2,b2,c2⟩:=lx_next h (a:=a1) l1 (n:=8) (by omega);have hw:IntKind.i64.wrap (2+(m1:Int))=((2+m1:Nat):Int):=by rw[wr64 (by omega) (by omega)];omega
 refine LX.lp ?_;refine LX_run (m:=0) (n0:=0) mix Tryz.func5 rfl rfl rfl rfl ?_;conv=>whnf
 refine .l [] (lx_new h) ?_;conv=>whnf
 refine .l [1] (c1) ?_;conv=>whnf
 rw[hw];refine .l [1] (c2) ?_;conv=>whnf
 refine .mk (List Af×Nat) (fun(rows,a)=>⟨[(5,vl (.int .i64 ((K-rows.length:Nat):Int))),(4,.a (.ptr 3 0)),(3,.a (.ptr 1 0)),(2,.a (.ptr 0 0))],
  [(1,.box 117 [.d (bysD raw),.d (.lit (.int .i64 (a:Nat)))]),(3,.box 34 [.d (.lit (.int .i64 ((2+m1:Nat):Int))),.own 6 4 (rows.map Af.D),.d (.lit (.slice none 0 0)),.d (.lit (.bool false)),.d (.nat 0),.d (.nat 0)]),(6,.arr 32 4 rows.length),
    (0,.box 34 [.d (.lit (.int .i64 0)),.d (.lit (.slice none 0 0)),.d (.lit (.slice none 0 0)),.d (.lit (.bool false)),.d (.nat 0),.d (.nat 0)])],7⟩) (fun b=>b.1.length≤K∧(∀f∈b.1,FB 5 (2+m1:Nat) f)∧b.2≤raw.length) (fun b=>K-b.1.length) ([],a2)
  (Wk.trans (Wk.ownB 3 6 1 32 4 rfl rfl rfl) Wk.go) ⟨zL_ _,(fun f hf=>by cases hf),l2⟩ fun⟨rows,a⟩ hb=> ?_
 obtain⟨g1,g2,g3⟩:=hb;simp only at g1 g2 g3;obtain⟨a',f,ha',hF,hc⟩:=lx_form h g3 (n:=2+m1) (by omega);conv=>whnf
 refine bs (fun h1=> ?_) (fun h1=> ?_)
 ·conv=>whnf
  have h1':rows.length<K:=by have:=of_decide_eq_true h1;omega
  have hw5:IntKind.i64.wrap (((K-rows.length:Nat):Int)-1)=((K-(rows++[f]).length:Nat):Int):=by rw[wr64 (by omega) (by omega),List.length_append,List.length_singleton];omega
  refine .l [1] (hc) ?_;conv=>whnf
  refine .mk ((rows++[f]).map Af.D) (List.length_map _).symm (by rw[List.map_append];rfl) (by simp;omega) ?_;conv=>whnf
  refine .mk (by kernel_rfl) ?_;conv=>whnf
  rw[hw5];refine⟨(rows++[f],a'),Wk.go (h2:=⟨⟨_,rfl,wke_refl _,rfl⟩,⟨_,rfl,wke_refl _,rfl⟩,⟨_,rfl,by rw[List.length_map];exact wke_refl _,rfl⟩,⟨_,rfl,wke_refl _,rfl⟩,trivial⟩),⟨by rw[List.length_append];exact h1',fun x hx=> ?_,ha'⟩,by simp only[List.length_append,List.length_singleton];omega⟩;rcases List.mem_append.1 hx with h2|h2
  ·exact g2 x h2
  ·rw[List.mem_singleton.1 h2];exact hF
 ·conv=>whnf
  have h1':rows.length=K:=by have:=of_decide_eq_false h1;omega
  refine .l [1] (hc) ?_;conv=>whnf
  exact .mk (.agg (Pg.A ⟨2+m1,rows,f⟩)) [] ⟨rfl,rfl,⟨2+m1,rows,f⟩,⟨⟨g2,hF⟩,by simp only;omega,by simp only;omega,by simp only;omega⟩,rfl⟩ (WkV.agg ⟨aR_ _,WkA.own,aR_ _,aR_ _,aR_ _,aR_ _,trivial⟩) rfl trivial rfl
def bkB (B:Nat):Nat→Nat
 |0=>5
 |m+1=>2*bkB B m+(4*B+8)+1
theorem bkB_mono (B:Nat):∀{m k:Nat},m≤k→bkB B m≤bkB B k:=by
 intro m k h
 induction k with
 |zero=>rw[show m=0 by omega];exact lR_ _
 |succ k ih=>
  rcases Nat.lt_or_ge k m with h1|h1
  ·rw[show m=k+1 by omega];exact lR_ _
  ·have:=ih h1;simp only[bkB];omega
theorem bkB_le (B:Nat):∀{m:Nat},m≤3→bkB B m≤28*B+103
 |0,_=>by simp only[bkB];omega
 |1,_=>by simp only[bkB];omega
 |2,_=>by simp only[bkB];omega
 |3,_=>by simp only[bkB];omega
theorem FB.byW {n:Int}{p:Af}{l u:Rat}{B:Nat}(hp:FB 5 n p)(hl:Bt B l)(hu:Bt B u)(h:unB l u=true):FB (4*B+8) n (byW p l u):=by
 have hne:=un_ne h;have hd:=hu.sub hl
 have bc:∀c:Rat,c*(u/(u-l))+ -(l*u)/(u-l)=u*((c-l)/(u-l)):=fun c=>by
  rw[Rat.div_def,Rat.div_def,Rat.div_def];grind
 refine⟨ok_fold (fun t ht=>by cases ht) (ok_scale _ hp.ts),fun w=> ?_,?_⟩
 ·rw[Lf.byW,addS,cof_fold,scaleS,cof_scale];show Bt _ (_+0);rw[Rat.add_zero];exact((hp.co w).mul (hu.div hd hne)).mono (by omega)
 ·show Bt _ (p.c*(u/(u-l))+gapQ l u);rw[gapQ,if_pos h,bc];exact(hu.mul ((hp.c.sub hl).div hd hne)).mono (by omega)
theorem rpl_fb {n:Int}{p:Af}{j B:Nat}{lo hi c:Rat}(hp:FB 5 n p)(hl:Bt B lo)(hu:Bt B hi):FB (4*B+8) n (rplS p j lo hi c).by_:=by
 unfold rplS;split
 ·exact hp.up (by omega) (Int.le_refl _)
 ·rename_i c1;split
  ·exact FB.z _ _
  ·rename_i c2;split
   ·split
    ·exact hp.up (by omega) (Int.le_refl _)
    ·exact FB.z _ _
   ·exact FB.byW hp hl hu (by rw[unB,decide_eq_true (by grind),decide_eq_true (by grind)];rfl)
theorem rpl_c {p:Af}{j B F:Nat}{lo hi c:Rat}(hl:Bt B lo)(hu:Bt B hi)(hc:Bt F c):Bt (F+2*B+1) (rplS p j lo hi c).c∧0≤(rplS p j lo hi c).c:=by
 have r1:Bt (F+2*B+1) (rabs c):=hc.rabs.mono (by omega);have r0:=rabs_nn c;unfold rplS;split
 ·exact⟨r1,r0⟩
 ·rename_i c1;split
  ·exact⟨r1,r0⟩
  ·rename_i c2;split
   ·split<;>exact⟨r1,r0⟩
   ·have h3:0<hi-lo:=by grind
    exact⟨(hc.rabs.div (hu.sub hl) (by grind)).mono (by omega),by rw[Rat.div_def];exact Rat.mul_nonneg r0 (Rat.le_of_lt (Rat.inv_pos.2 h3))⟩
theorem rpl_row {q:Qu}{ls:List Lm}{J j:Nat}{p:Af}{c:Rat}(hj:j<J):RwJ q ls J (rplS p j (loV ls j) (hiV ls j) c).r:=by
 unfold rplS;split
 ·rename_i c1;simp only;split
  ·exact .above j hj
  ·exact .onEq j hj c1
 ·rename_i c1;split
  ·rename_i c2;simp only;split
   ·exact .zero j hj
   ·exact .offEq j hj c2
  ·rename_i c2;split
   ·split
    ·exact .above j hj
    ·exact .zero j hj
   ·exact .tri j hj (by grind) (by grind)
theorem FB.substW {F b:Nat}{n v:Int}{f g:Af}(h:FB F n f)(hg:FB b n g):FB (2*F+b+1) n (substS f v g):=by
 have:=(h.rest v).add (hg.scale (h.co v));exact this.up (by omega) (Int.le_refl _)
theorem cof_subst {f g:Af}{v w:Int}:cof (substS f v g).ts w=(if w=v then 0 else cof f.ts w)+cof g.ts w*cof f.ts v:=by
 rw[substS,addS,cof_fold,scaleS,cof_scale,restS,cof_without]
structure BkI (q:Qu)(ls:List Lm)(J B:Nat)(f:Af)(m:Nat)(g:Af)(l:List Mu):Prop where
 fb:FB (bkB B (J-m)) (q.g.n+J:Nat) g
 mu:MuB (bkB B J+2*B+1) l
 len:l.length≤J-m
 nn:∀x∈l,0≤x.c
 rows:∀x∈l,RwJ q ls J x.r
 eq:∀(κ:Rat) (ξ:Int→Rat),wsum (pR κ ξ q ls) l=ph κ ξ f-ph κ ξ g
 z:∀i:Nat,m≤i→cof g.ts (q.g.n+i:Nat)=0
 same:J=0→g=f
theorem BkI.start {q:Qu}{ls:List Lm}{J B U:Nat}{f:Af}(hf:FB 5 (q.g.n+J:Nat) f)(hU:J≤U):BkI q ls J B f U f []:=
 ⟨by rw[show J-U=0 by omega];exact hf,fun m hm=>(by cases hm),by simp,fun m hm=>(by cases hm),fun m hm=>(by cases hm),fun κ ξ=>by rw[wsum];grind,fun i hi=>hf.ts.cof_ge (by omega),fun _=>rfl⟩
theorem BkI.skip {q:Qu}{ls:List Lm}{J B m:Nat}{f g:Af}{l:List Mu}(h:BkI q ls J B f (m+1) g l)(hz:cof g.ts (q.g.n+m:Nat)=0):BkI q ls J B f m g l:=
 ⟨h.fb.up (bkB_mono B (by omega)) (Int.le_refl _),h.mu,by have:=h.len;omega,h.nn,h.rows,h.eq,fun i hi=>by
  rcases Nat.lt_or_ge m i with h1|h1
  ·exact h.z i h1
  ·rw[show i=m by omega];exact hz,h.same⟩
theorem BkI.next {q:Qu}{ls:List Lm}{J B m:Nat}{f g p:Af}{l:List Mu}(h:BkI q ls J B f (m+1) g l)(hm:m<J)(hl:LsI ls J)(hp:q.g.us[m]? =some p)(hpf:FB 5 (q.g.n+m:Nat) p)(hv:Bt B (loV ls m)∧Bt B (hiV ls m)):
  BkI q ls J B f m (substS g (q.g.n+m:Nat) (rplS p m (loV ls m) (hiV ls m) (cof g.ts (q.g.n+m:Nat))).by_) (l++[⟨(rplS p m (loV ls m) (hiV ls m) (cof g.ts (q.g.n+m:Nat))).r,(rplS p m (loV ls m) (hiV ls m) (cof g.ts (q.g.n+m:Nat))).c⟩]):=by
 have hco:=h.fb.co (q.g.n+m:Nat);have e1:atF q.g.us m=p:=by unfold atF;rw[Int.toNat_natCast,hp];rfl
 have hby:=rpl_fb (j:=m) (c:=cof g.ts (q.g.n+m:Nat)) hpf hv.1 hv.2;have hJ':FB (4*B+8) (q.g.n+J:Nat) (rplS p m (loV ls m) (hiV ls m) (cof g.ts (q.g.n+m:Nat))).by_:=hby.up (lR_ _) (by omega);have hrc:=rpl_c (p:=p) (j:=m) hv.1 hv.2 hco;have hg:bkB B (J-(m+1))≤bkB B J:=bkB_mono B (by omega);refine⟨?_,fun x hx=> ?_,by rw[List.length_append,List.length_singleton];have:=h.len;omega,fun x hx=> ?_,fun x hx=> ?_,fun κ ξ=> ?_,fun i hi=> ?_,fun h0=>by omega⟩
 ·have:=h.fb.substW (v:=(q.g.n+m:Nat)) hJ';rw[show J-m=(J-(m+1))+1 by omega];exact this
 ·rcases List.mem_append.1 hx with hx|hx
  ·exact h.mu x hx
  ·rw[List.mem_singleton.1 hx];exact hrc.1.mono (by omega)
 ·rcases List.mem_append.1 hx with hx|hx
  ·exact h.nn x hx
  ·rw[List.mem_singleton.1 hx];exact hrc.2
 ·rcases List.mem_append.1 hx with hx|hx
  ·exact h.rows x hx
  ·rw[List.mem_singleton.1 hx];exact rpl_row hm
 ·have e2:=rpl_ph (κ:=κ) (ξ:=ξ) (q:=q) (c:=cof g.ts (q.g.n+m:Nat)) hl hm;rw[e1]at e2;rw[wsum_append,h.eq,ph_subst];simp only[wsum];generalize (rplS p m (loV ls m) (hiV ls m) (cof g.ts (q.g.n+m:Nat)))=x at *
  rw[←e2];simp only[pX];grind
 ·rw[cof_subst];have hz:cof (rplS p m (loV ls m) (hiV ls m) (cof g.ts (q.g.n+m:Nat))).by_.ts (q.g.n+i:Nat)=0:=hby.ts.cof_ge (by omega);rw[hz];split
  ·grind
  ·rename_i hne;rw[h.z i (by omega)];grind
theorem LX.ren0s {P:Program}{F:FuncId}{args:List V}{j k n:Nat}{t:TypeId}{v:V}(hk:∀key∈keysV v,key=j)(hc:LX P F args [] fun v' H=>v'=v∧H=[(j,.arr t k n)]):LX P F args [] fun v' H=>v'=renV (fun _=>0) v∧H=[(0,.arr t k n)]:=by
 obtain⟨_,_,⟨rfl,rfl⟩,hc⟩:=hc;refine⟨_,_,⟨rfl,rfl⟩,fun γ M w rs hr ha=> ?_⟩;refine cM (hc γ M w rs hr ha) ?_;rintro e w' ⟨r,γ',M',h1,h2,h3,h4⟩
 have hl0:∀key e',look [(0,Ent.arr t k n)] key=some e'→key=0∧e'= .arr t k n:=fun key e' h=>by
  simp only[look]at h;split at h
  ·injection h with h;exact⟨by omega,h.symm⟩
  ·cases h
 have hlj:look [(j,Ent.arr t k n)] j=some (.arr t k n):=by simp[look]
 have hl00:look [(0,Ent.arr t k n)] 0=some (.arr t k n):=rfl
 have ho:∀key b i,Owns (fun _=>γ' j) (look [(0,Ent.arr t k n)]) key b i→Owns γ' (look [(j,Ent.arr t k n)]) j b i:=fun key b i h=>by
  unfold Owns at h
  cases h5:look [(0,Ent.arr t k n)] key with
  |none=>rw[h5]at h;exact h.elim
  |some e'=>
   obtain⟨rfl,rfl⟩:=hl0 key e' h5;rw[h5]at h;simp only[Owns,hlj];exact h
 refine⟨r,fun _=>γ' j,M',h1,⟨fun key e' h=> ?_,fun key b i h=>h2.own j b i (ho key b i h),fun k1 k2 b l1 l2 _ _=> ?_,h2.u32,h2.dom,h2.glb⟩,?_,⟨h4.os,h4.tape,h4.output,h4.size,h4.fx,h4.other,h4.keep,fun key b i h hb=>h4.new j b i (ho key b i h) hb,fun key e h=>by simp[look]at h⟩⟩
 ·obtain⟨rfl,rfl⟩:=hl0 key e' h;exact h2.ent j _ hlj
 ·cases h5:look [(0,Ent.arr t k n)] k1 with
  |none=>rw[h5]at l1;cases l1
  |some e1=>
   cases h6:look [(0,Ent.arr t k n)] k2 with
   |none=>rw[h6]at l2;cases l2
   |some e2=>rw[(hl0 _ _ h5).1,(hl0 _ _ h6).1]
 ·refine h3.ren fun key hkk=> ?_;obtain rfl:=hk key hkk;refine⟨rfl,?_,?_,?_,?_,?_,(fun h=>by rw[hlj]at h;cases h),(fun e0 e k o ar he=>by rw[hl00]at he;cases he)⟩
  ·intro h;rw[hlj]at h;cases h
  ·intro h;rw[hlj]at h;cases h
  ·intro _;rfl
  ·intro e k n he;rw[hl00]at he;rw[hlj];exact he
  ·intro e k n he;rw[hl00]at he;cases he
theorem pl_back5 {q:Qu}{ls:List Lm}{J B:Nat}{f:Af}(hs:SpOk (S0 q ls))(hq:QuB q)(h:LsI ls J)(hv:LsV ls J B)(hJ:J<q.g.us.length)(hf:FB 5 (q.g.n+J:Nat) f)(hB:B≤165000):
  LX Tryz.prog 291 [.agg (S0 q ls).A,.agg f.A] [] fun v H=>∃g l l',(BkI q ls J B f 0 g l∧Col l l' (bkB B J+2*B+1))∧v= .tup [.g g.A,.s (.own 5 7 (l'.map Mu.D)),.s (.d (.lit (.bool true)))]∧H=[(5,.arr 256 7 (l'.map Mu.D).length)]:=by
 have hn3:=hq.g.n2;have hu4:=hq.g.u1;have hg3:=bkB_le B (m:=J) (by omega);refine LX_run (m:=0) (n0:=0) mix Tryz.func291 rfl rfl rfl rfl ?_;conv=>whnf
 refine .c (lx_quvalid hs.q) ?_;conv=>whnf
 refine .c (lx_gvars hs.q.g) ?_;conv=>whnf
 refine .c (lx_lvalid ((hf.up (n':=((q.g.n+q.g.us.length:Nat):Int)) (lR_ _) (by omega)).ok (by omega) (by omega) (by omega))) ?_;conv=>whnf
 refine .mk (by kernel_rfl) ?_;conv=>whnf
 have hw0:IntKind.i64.wrap (((q.g.us.map Af.D).length:Int)-1)=((q.g.us.length:Nat):Int)-1:=by rw[List.length_map,wr64 (by omega) (by omega)]
 rw[hw0]
 refine .mk (Nat×Af×List Mu) (fun(m,g,l)=>⟨[(9,vl (.int .i64 ((m:Int)-1))),(8,.a (.own 4 7 (l.map Mu.D))),(7,.a (.ptr 3 0)),(4,.a (.ptr 2 0)),(3,.a (.ptr 1 0)),(2,.a (.ptr 0 0))],
  [(0,.box 108 (S0 q ls).A),(1,.box 32 g.A),(2,.box 32 [.d (.lit (.slice none 0 0)),.d (.lit (.bool false)),.d (.nat 0),.d (.nat 0)]),(3,.box 100 q.g.A),(4,.arr 256 7 (l.map Mu.D).length)],5⟩)
  (fun b=>b.1≤q.g.us.length∧BkI q ls J B f b.1 b.2.1 b.2.2) (fun b=>b.1) (q.g.us.length,f,[]) (Wk.trans (Wk.own 8 4 256 7 rfl rfl (zL_ _)) Wk.go) ⟨lR_ _,BkI.start hf (Nat.le_of_lt hJ)⟩ fun⟨m,g,l⟩ hb=> ?_
 obtain⟨hm,hI⟩:=hb;simp only at hm hI;have hll:=hI.len;have hgm:=bkB_mono B (show J-m≤J by omega);conv=>whnf
 refine bs (fun h1=> ?_) (fun h1=> ?_)
 rotate_left
 ·conv=>whnf
  have e:m=0:=by have:=of_decide_eq_false h1;omega
  subst e;obtain⟨l',hc,cc⟩:=pl_collect (l:=l) (K:=bkB B J+2*B+1) (by omega) hI.mu (by omega) hI.nn;refine Cn.l [] cc ?_;conv=>whnf
  exact⟨_,_,⟨g,l,l',⟨hI,hc⟩,rfl,rfl⟩,vR_ _,rfl,⟨⟨_,rfl,wke_refl _,rfl⟩,trivial⟩,rfl⟩
 ·conv=>whnf
  have h1':1≤m:=by have:=of_decide_eq_true h1;omega
  obtain⟨m,rfl⟩:∃k,m=k+1:=⟨m-1,by omega⟩;have hw:IntKind.i64.wrap ((q.g.n:Int)+(m:Int))=((q.g.n+m:Nat):Int):=by rw[wr64 (by omega) (by omega)];omega
  have hj:((m+1:Nat):Int)-1=(m:Int):=by omega
  have hwj:IntKind.i64.wrap ((m:Int)-1)=(m:Int)-1:=wr64 (by omega) (by omega);have hco:=hI.fb.co ((q.g.n+m:Nat):Int);have cz:Sz (cof g.ts (q.g.n+m:Nat)):=hco.mono (by omega);rw[hj,hw];refine .c (pl_coef hI.fb (by omega) (by omega)) ?_;conv=>whnf
  refine .c (lx_rsign (.c cz)) ?_;conv=>whnf
  by_cases h0:cof g.ts (q.g.n+m:Nat)=0
  ·refine bT (by rw[h0];rfl) ?_;conv=>whnf
   rw[hwj];exact⟨(m,g,l),Wk.go,⟨by simp only;omega,hI.skip h0⟩,by simp only;omega⟩
  ·refine bF (sgn_ne h0) ?_;conv=>whnf
   have hmJ:m<J:=by
    rcases Nat.lt_or_ge m J with h1|h1
    ·exact h1
    ·exact absurd (hI.fb.ts.cof_ge (by omega)) h0
   obtain⟨p,hp⟩:=at_some (l:=q.g.us) (i:=m) (by omega);have hpf:FB 5 (q.g.n+m:Nat) p:=hq.g.us m p hp;have hI':=hI.next hmJ h hp hpf (hv m hmJ);have hby:=rpl_fb (j:=m) (c:=cof g.ts (q.g.n+m:Nat)) hpf (hv m hmJ).1 (hv m hmJ).2;refine .c (pl_replace hs h hmJ (Nat.le_of_lt hJ) hp (hpf.up (lR_ _) (by omega)) (hv m hmJ) hco (by omega) (by omega)) ?_;conv=>whnf
   have hpb:FB 5 (q.g.n+J:Nat) p:=hpf.up (lR_ _) (by omega);generalize hx:rplS p m (loV ls m) (hiV ls m) (cof g.ts (q.g.n+m:Nat))=x at *
   have hxb:FB (4*B+8) (q.g.n+J:Nat) x.by_:=hby.up (lR_ _) (by omega);have hgm2:=bkB_mono B (show J-(m+1)≤2 by omega);have hg2:bkB B 2≤12*B+47:=by simp only[bkB];omega
   refine .c (pl_subst hI.fb hxb (by omega) (by omega) (by omega)) ?_;conv=>whnf
   refine .mk ((l++[(⟨x.r,x.c⟩:Mu)]).map Mu.D) rfl (by rw[List.map_append];rfl) (by simp;omega) ?_;conv=>whnf
   rw[hwj];exact⟨(m,_,l++[⟨x.r,x.c⟩]),Wk.go,⟨by simp only;omega,hI'⟩,by simp only;omega⟩
theorem pl_back {q:Qu}{ls:List Lm}{J B:Nat}{f:Af}(hs:SpOk (S0 q ls))(hq:QuB q)(h:LsI ls J)(hv:LsV ls J B)(hJ:J<q.g.us.length)(hf:FB 5 (q.g.n+J:Nat) f)(hB:B≤165000):
  ∃g l l',BkI q ls J B f 0 g l∧Col l l' (bkB B J+2*B+1)∧LX Tryz.prog 291 [.agg (S0 q ls).A,.agg f.A] [] fun v H=>v= .tup [.g g.A,.s (.own 0 7 (l'.map Mu.D)),.s (.d (.lit (.bool true)))]∧H=oH l':=by
 obtain⟨v,H,⟨g,l,l',⟨h1,h2⟩,rfl,rfl⟩,hc⟩:=pl_back5 hs hq h hv hJ hf hB;exact⟨g,l,l',h1,h2,LX.ren0s (v:= .tup [.g g.A,.s (.own 5 7 (l'.map Mu.D)),.s (.d (.lit (.bool true)))]) (by intro key hk;simp[keysV,keysW,keysA]at hk;exact hk) ⟨_,_,⟨rfl,rfl⟩,hc⟩⟩
def bB (J:Nat):Nat:=if J=0 then 0 else if J=1 then 80 else if J=2 then 2100 else 165000
def bV (J:Nat):Nat:=if J=0 then 80 else if J=1 then 2100 else if J=2 then 165000 else 34000000
theorem bB_le (J:Nat):bB J≤165000:=by unfold bB;repeat' split
                                      all_goals omega
theorem bV_le {i J:Nat}(h:i<J)(hJ:J≤3):bV i≤bB J:=by
 obtain rfl|rfl|rfl:J=1∨J=2∨J=3:=by omega
 ·obtain rfl:i=0:=by omega
  decide
 ·obtain rfl|rfl:i=0∨i=1:=by omega
  all_goals decide
 ·obtain rfl|rfl|rfl:i=0∨i=1∨i=2:=by omega
  all_goals decide
theorem w_f1 {J:Nat}(hJ:J≤3):5+(3+J)*(5+bB J+12)+6≤bV J:=by
 obtain rfl|rfl|rfl|rfl:J=0∨J=1∨J=2∨J=3:=by omega
 all_goals decide
theorem w_f2 {J:Nat}(hJ:J≤3):bkB (bB J) J+3*(bkB (bB J) J+bB J+12)+6≤bV J:=by
 obtain rfl|rfl|rfl|rfl:J=0∨J=1∨J=2∨J=3:=by omega
 all_goals decide
theorem w_f3 {J:Nat}(hJ:J≤3):15*(4*bB J+17+14*(5+3*bB J+1+1)+1)≤900000000:=by
 have:=bB_le J;omega
theorem w_f4 {J:Nat}(hJ:J≤3):7*(4*bB J+17+6*(3*(bkB (bB J) J+3*bB J+2)+1)+1)≤900000000:=by
 obtain rfl|rfl|rfl|rfl:J=0∨J=1∨J=2∨J=3:=by omega
 all_goals decide
structure Hyp (q:Qu)(ls:List Lm)(J:Nat):Prop where
 sp:SpOk (S0 q ls)
 qb:QuB q
 li:LsI ls J
 lv:LsV ls J (bB J)
 jl:J<q.g.us.length
structure LowOk (q:Qu)(ls:List Lm)(J:Nat)(f:Af)(x:Rat)(l:List Mu):Prop where
 sm:∃K,SmOk (S0 q ls) l (bB J) K
 eq:∀(κ:Rat) (ξ:Int→Rat),wsum (pR κ ξ q ls) l=ph κ ξ f-κ*x
 b:∃k,k+6≤bV J∧Bt k x
 rows:∀m∈l,RwJ q ls J m.r
 same:J=0→x=bxV q ls f f.ts.length
theorem bnd_rows {q:Qu}{ls:List Lm}{J:Nat}{x:Int}{up:Bool}(h0:0≤x)(h1:x<q.g.n+J):∀m∈(bndB q ls x up).2,RwJ q ls J m.r:=by
 intro m hm;unfold bndB at hm
 by_cases hx:x<q.g.n
 ·rw[if_pos hx]at hm;unfold inB at hm;split at hm
  ·rw[List.mem_singleton.1 hm];exact .hi x h0 hx
  ·rw[List.mem_singleton.1 hm];exact .lo x h0 hx
 ·rw[if_neg hx]at hm;obtain⟨j,hj⟩:∃j:Nat,x-q.g.n=j:=⟨(x-q.g.n).toNat,by omega⟩;have e:(x-(q.g.n:Int)).toNat=j:=by omega
  have hjJ:j<J:=by omega
  rw[e]at hm;have two:∀{a b:Mu},m∈[a,b]→m=a∨m=b:=fun h=>by simpa using h
  split at hm
  ·unfold highB at hm;split at hm
   ·rename_i c;rw[List.mem_singleton.1 hm];exact .offEq j hjJ c
   ·rename_i c1;split at hm
    ·rename_i c2;rcases two hm with rfl|rfl
     ·exact .onEq j hjJ c2
     ·exact .up j hjJ
    ·rename_i c2;rcases two hm with rfl|rfl
     ·exact .up j hjJ
     ·exact .tri j hjJ (by grind) (by grind)
  ·unfold lowB at hm;split at hm
   ·rcases two hm with rfl|rfl
    ·exact .above j hjJ
    ·exact .low j hjJ
   ·rw[List.mem_singleton.1 hm];exact .zero j hjJ
theorem bxM_rows {q:Qu}{ls:List Lm}{J k:Nat}{f:Af}(hf:FB k (q.g.n+J:Nat) f)(i:Nat):∀m∈bxM q ls f i,RwJ q ls J m.r:=by
 intro m hm;obtain⟨t,ht,hm⟩:=List.mem_flatMap.1 hm;obtain⟨a,ha,rfl⟩:=List.mem_map.1 hm;obtain⟨t1,t2,_,_⟩:=hf.tm t (List.mem_of_mem_take ht);exact bnd_rows t1 (by omega) a ha
theorem Hyp.sm {q:Qu}{ls:List Lm}{J K:Nat}{l:List Mu}(h:Hyp q ls J)(hc:CanL l)(hr:∀m∈l,RwJ q ls J m.r)(hm:MuB K l)(hn:l.length≤1000)(hb:(l.length+1)*(4*bB J+17+K+1)≤900000000):SmOk (S0 q ls) l (bB J) K:=
 have hu:=h.qb.g.u1
 ⟨hc,fun m hmm=>⟨(hr m hmm).ok h.li (Nat.le_of_lt h.jl) (by omega),(hr m hmm).bits h.li h.lv⟩,hm,hn,hb⟩
theorem low_box {q:Qu}{ls:List Lm}{J:Nat}{f:Af}(h:Hyp q ls J)(hf:FB 5 (q.g.n+J:Nat) f):
  ∃x l,LowOk q ls J f x l∧LV Tryz.prog 265 [.agg [],.agg (S0 q ls).A,.agg f.A] (.tup [.g (can x).A,.s (.d (musD l)),.s (.d (.lit (.bool true)))]):=by
 have hn3:=h.qb.g.n2;have hu4:=h.qb.g.u1;have hJ:=h.jl;have hB:=bB_le J;have hlen:=hf.ts.len (by omega);have hfl:f.ts.length≤3+J:=by omega
 obtain⟨l',hc,cc⟩:=pl_blower h.sp h.qb h.li h.lv h.jl hf (by omega) (by omega);have hbl:=(bxM_ok h.qb h.lv hf f.ts.length (lR_ _)).2.1;have hll:=hc.len
 have hrow:∀m∈l',RwJ q ls J m.r:=fun m hm=>by
  obtain⟨y,hy,e⟩:=hc.rows m hm;rw[e];exact bxM_rows hf _ y hy
 have hk:(bxM q ls f f.ts.length).length*(5+3*bB J+1+1)≤14*(5+3*bB J+1+1):=Nat.mul_le_mul_right _ (by omega);have hbig:=w_f3 (J:=J) (by omega);have hm15:(l'.length+1)*(4*bB J+17+14*(5+3*bB J+1+1)+1)≤15*(4*bB J+17+14*(5+3*bB J+1+1)+1):=Nat.mul_le_mul_right _ (by omega);have f1:=w_f1 (J:=J) (by omega);have hv:f.ts.length*(5+bB J+12)≤(3+J)*(5+bB J+12):=Nat.mul_le_mul_right _ (by omega)
 exact⟨_,l',⟨⟨_,h.sm hc.can hrow (hc.mu.up hk) (by omega) (tL_ hm15 hbig)⟩,fun κ ξ=>by rw[hc.sum];exact bx_ph h.li hf,
  ⟨5+(3+J)*(5+bB J+12),f1,(bxV_ok h.qb h.lv hf _ (lR_ _)).mono (by omega)⟩,hrow,fun _=>rfl⟩,cc⟩
theorem low_sym {q:Qu}{ls:List Lm}{J:Nat}{f:Af}(h:Hyp q ls J)(hf:FB 5 (q.g.n+J:Nat) f):
  ∃x l,LowOk q ls J f x l∧LV Tryz.prog 289 [.agg [],.agg (S0 q ls).A,.agg f.A] (.tup [.g (can x).A,.s (.d (musD l)),.s (.d (.lit (.bool true)))]):=by
 have hn3:=h.qb.g.n2;have hu4:=h.qb.g.u1;have hJ:=h.jl;have hB:=bB_le J;have f2:=w_f2 (J:=J) (by omega);have f4:=w_f4 (J:=J) (by omega);have hG:=bkB_le (bB J) (m:=J) (by omega);obtain⟨g,l,lb,hI,hC,cb'⟩:=pl_back h.sp h.qb h.li h.lv h.jl hf hB;have hg:FB (bkB (bB J) J) (q.g.n+J:Nat) g:=hI.fb
 have hin:∀t∈g.ts,t.v<q.g.n:=fun t ht=>by
  obtain⟨t1,t2,t3,_⟩:=hg.tm t ht;rcases Int.lt_or_le t.v q.g.n with h1|h1
  ·exact h1
  ·exfalso;have hz:=hI.z (t.v-q.g.n).toNat (zL_ _);rw[show((q.g.n+(t.v-q.g.n).toNat:Nat):Int)=t.v by omega,(hg.ts.cof_mem t ht).1]at hz;exact t3 hz
 have hgn:FB (bkB (bB J) J) (q.g.n+(0:Nat):Nat) g:=by
  refine⟨?_,hg.co,hg.c⟩;have:∀(ts:List Tm) (lo:Int),TsOk (q.g.n+J:Nat) lo ts→(∀t∈ts,t.v<q.g.n)→TsOk (q.g.n+0:Nat) lo ts:=by
   intro ts
   induction ts with
   |nil=>intros;trivial
   |cons t ts ih=>intro lo hk hi;exact⟨hk.1,by have:=hi t (by simp);omega,hk.2.2.1,ih _ hk.2.2.2 fun u hu=>hi u (by simp[hu])⟩
  exact this g.ts 0 hg.ts hin
 have hgl:=hgn.ts.len (by omega);have hgl3:g.ts.length≤3:=by omega
 obtain⟨lx,hX,cx⟩:=pl_blower h.sp h.qb h.li h.lv h.jl hg (by omega) (by omega);have hbl:=(bxM_ok h.qb h.lv hg g.ts.length (lR_ _)).2.2.1 hin;have hxl:=hX.len;have hcl:=hC.len;have hil:=hI.len;have k1:MuB (3*(bkB (bB J) J+3*bB J+2)) lb:=hC.mu.up (Nat.mul_le_mul (by omega) (by omega));have k2:MuB (3*(bkB (bB J) J+3*bB J+2)) lx:=hX.mu.up (Nat.mul_le_mul (by omega) (by omega))
 have kk:MuB (3*(bkB (bB J) J+3*bB J+2)) (lb++lx):=fun m hm=>by
  rcases List.mem_append.1 hm with hm|hm
  ·exact k1 m hm
  ·exact k2 m hm
 have nn:∀m∈lb++lx,0≤m.c:=fun m hm=>by
  rcases List.mem_append.1 hm with hm|hm
  ·exact Rat.le_of_lt (hC.can.pos m hm)
  ·exact Rat.le_of_lt (hX.can.pos m hm)
 have hal:(lb++lx).length≤6:=by rw[List.length_append];omega
 obtain⟨l',hc,cc⟩:=pl_collect (l:=lb++lx) (by omega) kk (by omega) nn;have hll:=hc.len
 have hrow:∀m∈l',RwJ q ls J m.r:=fun m hm=>by
  obtain⟨y,hy,e⟩:=hc.rows m hm;rw[e];rcases List.mem_append.1 hy with hy|hy
  ·obtain⟨z,hz,e⟩:=hC.rows y hy;rw[e];exact hI.rows z hz
  ·obtain⟨z,hz,e⟩:=hX.rows y hy;rw[e];exact bxM_rows hg _ z hz
 have hk:(lb++lx).length*(3*(bkB (bB J) J+3*bB J+2)+1)≤6*(3*(bkB (bB J) J+3*bB J+2)+1):=Nat.mul_le_mul_right _ hal;have hm7:(l'.length+1)*(4*bB J+17+6*(3*(bkB (bB J) J+3*bB J+2)+1)+1)≤7*(4*bB J+17+6*(3*(bkB (bB J) J+3*bB J+2)+1)+1):=Nat.mul_le_mul_right _ (by omega);have hv:g.ts.length*(bkB (bB J) J+bB J+12)≤3*(bkB (bB J) J+bB J+12):=Nat.mul_le_mul_right _ hgl3
 refine⟨bxV q ls g g.ts.length,l',⟨⟨_,h.sm hc.can hrow (hc.mu.up hk) (by omega) (tL_ hm7 f4)⟩,fun κ ξ=>by
   rw[hc.sum,wsum_append,hC.sum,hX.sum,hI.eq,bx_ph h.li hg];grind,
  ⟨_,f2,(bxV_ok h.qb h.lv hg _ (lR_ _)).mono (by omega)⟩,hrow,fun h0=>by rw[hI.same h0]⟩,?_⟩
 refine LX_run (m:=0) (n0:=0) mix Tryz.func289 rfl rfl rfl rfl ?_;conv=>whnf
 refine Cn.l [] cb' ?_;conv=>whnf
 refine .c (cx) ?_;conv=>whnf
 refine .mk ((lb++lx).map Mu.D) rfl (by rw[List.map_append]) (by simp only[List.length_map];omega) ?_;conv=>whnf
 refine Cn.l [] cc ?_;conv=>whnf
 exact .s ⟨rfl,rfl⟩
abbrev dBox:Value:= .iface 194 (.agg #[])
abbrev dSym:Value:= .iface 196 (.agg #[])
abbrev dTwo:Value:= .agg #[dBox,dSym]
theorem meth_box:Meth Tryz.prog 194 (.agg #[]) "Lower" 265 (.agg #[]):=fun w=>by rfl
theorem meth_sym:Meth Tryz.prog 196 (.agg #[]) "Lower" 289 (.agg #[]):=fun w=>by rfl
theorem meth_two:Meth Tryz.prog 229 dTwo "Lower" 301 dTwo:=fun w=>by rfl
theorem bV_top (J:Nat):bV J≤34000000:=by
 unfold bV
 repeat' split
 all_goals omega
theorem LowOk.sz {q:Qu}{ls:List Lm}{J:Nat}{f:Af}{x:Rat}{l:List Mu}(h:LowOk q ls J f x l):Sz x:=by
 obtain⟨k,hk,hb⟩:=h.b;have:=bV_top J;exact hb.mono (by omega)
theorem low_two {q:Qu}{ls:List Lm}{J:Nat}{f:Af}(h:Hyp q ls J)(hf:FB 5 (q.g.n+J:Nat) f):
  ∃x l,LowOk q ls J f x l∧LV Tryz.prog 301 [.agg [.d (.lit dBox),.d (.lit dSym)],.agg (S0 q ls).A,.agg f.A] (.tup [.g (can x).A,.s (.d (musD l)),.s (.d (.lit (.bool true)))]):=by
 obtain⟨x,l,hx,cx⟩:=low_box h hf;obtain⟨y,m,hy,cy⟩:=low_sym h hf
 by_cases hc:x<y
 ·refine⟨y,m,hy,?_⟩;refine LX_run (m:=0) (n0:=0) mix Tryz.func301 rfl rfl rfl rfl ?_;conv=>whnf
  refine .mk 265 (.agg #[]) meth_box ?_;conv=>whnf
  refine .c (cx) ?_;conv=>whnf
  refine .mk 289 (.agg #[]) meth_sym ?_;conv=>whnf
  refine .c (cy) ?_;conv=>whnf
  refine .c (lx_rcmp (.c hy.sz) (.c hx.sz)) ?_;conv=>whnf
  refine bT (by rw[cmp_gt];exact decide_eq_true hc) ?_;conv=>whnf
  exact .q ⟨rfl,rfl⟩
 ·refine⟨x,l,hx,?_⟩;refine LX_run (m:=0) (n0:=0) mix Tryz.func301 rfl rfl rfl rfl ?_;conv=>whnf
  refine .mk 265 (.agg #[]) meth_box ?_;conv=>whnf
  refine .c (cx) ?_;conv=>whnf
  refine .mk 289 (.agg #[]) meth_sym ?_;conv=>whnf
  refine .c (cy) ?_;conv=>whnf
  refine .c (lx_rcmp (.c hy.sz) (.c hx.sz)) ?_;conv=>whnf
  refine bF (by rw[cmp_gt];exact decide_eq_false hc) ?_;conv=>whnf
  exact .q ⟨rfl,rfl⟩
structure Dom (d:Value):Prop where
 low:∃t v F r,d= .iface t v∧Meth Tryz.prog t v "Lower" F r∧entT Tryz.prog F=true∧∀(q:Qu) (ls:List Lm) (J:Nat) (f:Af),Hyp q ls J→FB 5 (q.g.n+J:Nat) f→
  ∃x l,LowOk q ls J f x l∧LV Tryz.prog F [cst r,.agg (S0 q ls).A,.agg f.A] (.tup [.g (can x).A,.s (.d (musD l)),.s (.d (.lit (.bool true)))])
abbrev domV (z:Nat):Value:=if z=0 then dBox else if z=1 then dSym else .iface 229 dTwo
theorem dom_ok {z:Nat}(hz:z≤2):Dom (domV z):=by
 obtain rfl|rfl|rfl:z=0∨z=1∨z=2:=by omega
 ·exact⟨_,_,_,_,rfl,meth_box,rfl,fun q ls J f h hf=>low_box h hf⟩
 ·exact⟨_,_,_,_,rfl,meth_sym,rfl,fun q ls J f h hf=>low_sym h hf⟩
 ·exact⟨_,_,_,_,rfl,meth_two,rfl,fun q ls J f h hf=>low_two h hf⟩
theorem pl_both:LV Tryz.prog 138 [vl dBox,vl dSym] (vl (.iface 229 dTwo)):=by
 refine LX_run (m:=0) (n0:=0) mix Tryz.func138 rfl rfl rfl rfl ?_;conv=>whnf
 exact .q ⟨rfl,rfl⟩
theorem pl_get {z:Nat}(hz:z≤2):LV Tryz.prog 99 [vl (.int .i64 (z:Nat))] (.tup [.s (.d (.lit (domV z))),.s (.d (.lit (.bool true)))]):=by
 obtain rfl|rfl|rfl:z=0∨z=1∨z=2:=by omega
 ·refine LX_run (m:=0) (n0:=0) mix Tryz.func99 rfl rfl rfl rfl ?_;conv=>whnf
  exact .q ⟨rfl,rfl⟩
 ·refine LX_run (m:=0) (n0:=0) mix Tryz.func99 rfl rfl rfl rfl ?_;conv=>whnf
  exact .q ⟨rfl,rfl⟩
 ·refine LX_run (m:=0) (n0:=0) mix Tryz.func99 rfl rfl rfl rfl ?_;conv=>whnf
  refine .c (pl_both) ?_;conv=>whnf
  exact .q ⟨rfl,rfl⟩
theorem pl_round {x:Rat}{K n:Nat}{up:Bool}(hx:Bt K x)(hK:K≤40000000)(hn:n≤0):
  ∃y,(Bt (K+6) y∧(up=false→y≤x)∧(up=true→x≤y)∧(n=0→y=x))∧LV Tryz.prog 142 [ratV x,vl (.bool up),vl (.int .i64 (n:Nat))] (ratV y):=by
 refine⟨x,⟨hx.mono (by omega),fun _=>Rat.le_refl,fun _=>Rat.le_refl,fun _=>rfl⟩,?_⟩;have e0:((n:Int)==0)=true:=by rw[show n=0 by omega];rfl
 cases up
 all_goals refine LX_run (m:=0) (n0:=0) mix Tryz.func142 rfl rfl rfl rfl ?_
           conv=>whnf
 all_goals refine bT (e0) ?_
           conv=>whnf
 all_goals exact .q ⟨rfl,rfl⟩
section
variable {P:Program} {F:FuncId} {vs gs:List V} {H:List (Nat×Ent)} {n:Nat} {K:V→List (Nat×Ent)→List Nat→Nat→Prop} {v:V} {R:V→Prop}
def okFK (ks:List Nat)(n:Nat)(gs:List V)(H H1:List (Nat×Ent)):Bool:=
 decide ks.Nodup&&ks.all (fun k=>Nat.blt k n)&&(gs.flatMap keysV).all (fun k=>ks.contains k)&&H1.all (fun p=>(Nat.blt p.1 ks.length||(look H (back ks n p.1)).isNone))
theorem Cn.lK {Hs H1:List (Nat×Ent)}(ks:List Nat)(hc:LX P F ((vs.map stripV).map (renV fun k=>ks.idxOf k)) Hs fun v' H'=>v'=v∧H'=H1)
  (hk:fX (renV (back ks n) v) fun v=>fHs (H1.map fun p=>(back ks n p.1,renE (back ks n) p.2)) fun sets=>K v sets (ks++H1.map fun p=>back ks n p.1) (n+H1.length)) (he:entT P F=true:=by rfl)
  (hl:lendKF ks (look H) 0 ks=some Hs:=by rfl) (hok:okFK ks n (vs.map stripV) H H1=true:=by rfl):Cn P F vs H n K:=by
 unfold okFK at hok;simp only[Bool.and_eq_true,Bool.or_eq_true,decide_eq_true_eq,List.all_eq_true,Nat.blt_eq,List.contains_eq_mem]at hok;obtain⟨⟨⟨o1,o2⟩,o3⟩,o4⟩:=hok;refine .lendK ks _ Hs _ he hc (strips_ok vs) o1 o2 hl o3 fun v' H1' hR=> ?_;obtain⟨rfl,rfl⟩:=hR;exact⟨fun p hp hle=>(o4 p hp).elim (fun h=>absurd h (by omega)) fun h=>by simpa using h,hk⟩
end
theorem cst_keys (r:Value):keysV (cst r)=[]:=by
 cases r with
 |agg cs=>
  show(cs.toList.map fun c=>A.d (.lit c)).flatMap keysA=[];simp[keysA]
 |_=>rfl
structure LmD (q:Qu)(ls:List Lm)(j:Nat)(up:Bool)(v:Rat)(l:List Mu):Prop where
 jl:j<q.g.us.length
 x:∃x,(∀(κ:Rat) (ξ:Int→Rat),wsum (pR κ ξ q ls) l=ph κ ξ (if up=true then scaleS (atF q.g.us j) m1 else atF q.g.us j)-κ*x)∧(if up=true then -x≤v else v≤x)
 rows:∀m∈l,RwJ q ls j m.r
 sm:∃K,SmOk (S0 q ls) l (bB j) K
 b:Bt (bV j) v
theorem LmD.dv {q:Qu}{ls:List Lm}{j:Nat}{up:Bool}{v:Rat}{l:List Mu}(h:LmD q ls j up v l):∃K,DvL (S0 q ls) j up v l (bB j) K:=by
 obtain⟨K,hs⟩:=h.sm;obtain⟨x,hx,hv⟩:=h.x;have hb:=bV_top j
 have key:∀(κ:Rat) (ξ:Int→Rat),ph κ ξ (fL (atF q.g.us j) up v)-wsum (pR κ ξ q ls) l=κ*(if up=true then v+x else x-v):=fun κ ξ=>by
  rw[hx,fL]
  cases up
  ·simp only[Bool.false_eq_true,if_false,ph_sub,ph_num];grind
  ·simp only[if_true,ph_scale,ph_sub,ph_num,m1,m1_r];grind
 refine⟨K,hs,h.jl,h.b.mono (by omega),fun w=> ?_,?_⟩
 ·have:=key 0 (fun u=>if u=w then 1 else 0);rw[←cof_ph]at this;have e:(fun r=>cof (frm (S0 q ls) r).ts w)=pR 0 (fun u=>if u=w then 1 else 0) q ls:=by funext r;rw[cof_ph]
  show cof _ w=wsum (fun r=>cof (frm (S0 q ls) r).ts w) l;rw[e];grind
 ·have:=key 1 (fun _=>0);rw[←c_ph]at this;have e:(fun r=>(frm (S0 q ls) r).c)=pR 1 (fun _=>0) q ls:=by funext r;rw[c_ph]
  show 0≤_-wsum (fun r=>(frm (S0 q ls) r).c) l;rw[e,this]
  cases up
  ·simp only[Bool.false_eq_true,if_false]at hv ⊢;grind
  ·simp only[if_true]at hv ⊢;grind
theorem best_none {ls:List Lm}{u:Int}:∀i,(∀(k:Nat) m,k<i→ls[k]? =some m→m.u≠u)→bestTo ls u i=(0,0)
 |0,_=>rfl
 |i+1,h=>by
  have ih:=best_none i fun k m hk hm=>h k m (by omega) hm
  cases hm:ls[i]? with
  |none=>rw[bestTo,hm];exact ih
  |some m=>rw[bestTo_succ hm,ih,bstep,if_neg (h i m (by omega) hm)]
theorem LsI.uJ {ls:List Lm}{J:Nat}(h:LsI ls J):∀(k:Nat) m,k<2*J→ls[k]? =some m→m.u≠J:=fun k m hk hm=>by
 rcases Nat.mod_two_eq_zero_or_one k with h4|h4
 ·obtain⟨v,l,e⟩:=h.lo (k/2) (by omega);rw[show 2*(k/2)=k by omega,hm]at e;injection e with e;subst e;show((k/2:Nat):Int)≠J;omega
 ·obtain⟨v,l,e⟩:=h.hi (k/2) (by omega);rw[show 2*(k/2)+1=k by omega,hm]at e;injection e with e;subst e;show((k/2:Nat):Int)≠J;omega
structure RunI (q:Qu)(ls:List Lm)(J:Nat)(up:Bool):Prop where
 hyp:Hyp q ls J
 len:ls.length=2*J+cond up 1 0
 last:up=true→∃v l,ls[2*J]? =some (mkL J false v l)
theorem RunI.best0 {q:Qu}{ls:List Lm}{J:Nat}{up:Bool}(h:RunI q ls J up):(if up=true then(bestS (S0 q ls) J).2 else(bestS (S0 q ls) J).1)=0:=by
 have hl:=h.len
 cases up
 ·simp only[cond,Nat.add_zero]at hl;rw[if_neg (by decide)];show(bestTo ls J ls.length).1=0;rw[hl,best_none _ h.hyp.li.uJ]
 ·simp only[cond]at hl;rw[if_pos rfl];show(bestTo ls J ls.length).2=0;obtain⟨v,l,e⟩:=h.last rfl;rw[hl,bestTo_succ e,best_none _ h.hyp.li.uJ,bstep];simp[mkL]
abbrev stA (q:Qu)(ls:List Lm):List A:=q.A++[.d (dcsD []),.own 5 6 (ls.map Lm.D)]
abbrev stH (q:Qu)(p:Af)(d:Value)(ls:List Lm)(J n:Nat):List (Nat×Ent):=
 [(0,.box 32 p.A),(1,.box 158 [.d (.lit d)]),(2,.box 108 (stA q ls)),(3,.box 3 [.d (.lit (.int .i64 (J:Nat)))]),(4,.box 3 [.d (.lit (.int .i64 (n:Nat)))]),(5,.arr 113 6 (ls.map Lm.D).length)]
theorem pl_step {q:Qu}{ls:List Lm}{J n:Nat}{up:Bool}{d:Value}{p:Af}(h:RunI q ls J up)(hd:Dom d)(hn:n≤0)(hp:q.g.us[J]? =some p):
  ∃v l,(LmD q ls J up v l∧(n=0→J=0→v=if up=true then -(bxV q ls (scaleS p m1) (scaleS p m1).ts.length)else bxV q ls p p.ts.length))∧LX Tryz.prog 141 [vl (.bool up),.a (.ptr 0 0),.a (.ptr 1 0),.a (.ptr 2 0),.a (.ptr 3 0),.a (.ptr 4 0)] (stH q p d ls J n) fun v' H=>v'= .tup []∧H=stH q p d (ls++[mkL J up v l]) J n:=by
 have hu4:=h.hyp.qb.g.u1;have hJ:=h.hyp.jl;have hn3:=h.hyp.qb.g.n2;have hpf:FB 5 (q.g.n+J:Nat) p:=h.hyp.qb.g.us J p hp;have e1:atF q.g.us J=p:=by unfold atF;rw[Int.toNat_natCast,hp];rfl
 have hb:=bV_top J;obtain⟨t,dv,F,r,rfl,hm,hent,hlow⟩:=hd.low
 cases up
 ·obtain⟨x,l,hx,cx⟩:=hlow q ls J p h.hyp hpf;obtain⟨k,hk,hbx⟩:=hx.b;obtain⟨y,⟨y1,y2,y3,y4⟩,cy⟩:=pl_round (up:=false) hbx (by omega) hn;refine⟨y,l,⟨⟨hJ,⟨x,fun κ ξ=>by rw[if_neg (by decide),e1];exact hx.eq κ ξ,by rw[if_neg (by decide)];exact y2 rfl⟩,hx.rows,hx.sm,y1.mono (by omega)⟩,fun h0 hj=>by rw[if_neg (by decide),y4 h0,hx.same hj]⟩,?_⟩;have hb0:=h.best0;rw[if_neg (by decide)]at hb0;have hll:=h.len;simp only[cond]at hll;refine LX_run (m:=6) (n0:=6) mix Tryz.func141 rfl rfl rfl rfl ?_;conv=>whnf
  refine .mk F r hm ?_;rw[fVs_eq];refine Cn.as cx hent ⟨vR_ _,stripV_ok _,stripV_ok _,trivial⟩ (by rw[List.flatMap_cons,cst_keys];rfl) rfl ?_;conv=>whnf
  refine .c (lx_best h.hyp.sp) ?_;conv=>whnf
  refine .c (cy) ?_;conv=>whnf
  rw[hb0];conv=>whnf
  refine .mk (by kernel_rfl) ?_;conv=>whnf
  refine .mk ((ls++[mkL J false y l]).map Lm.D) rfl (by rw[List.map_append];rfl) (by simp;omega) ?_;conv=>whnf
  exact⟨_,_,⟨rfl,rfl⟩,vR_ _,rfl,⟨⟨_,rfl,wke_refl _,rfl⟩,⟨_,rfl,wke_refl _,rfl⟩,⟨_,rfl,wke_refl _,rfl⟩,⟨_,rfl,wke_refl _,rfl⟩,⟨_,rfl,wke_refl _,rfl⟩,⟨_,rfl,wke_refl _,rfl⟩,trivial⟩,rfl⟩
 ·have hps:=hpf.scale m1_b;obtain⟨x,l,hx,cx⟩:=hlow q ls J (scaleS p m1) h.hyp (hps.up (by omega) (Int.le_refl _));obtain⟨k,hk,hbx⟩:=hx.b;obtain⟨y,⟨y1,y2,y3,y4⟩,cy⟩:=pl_round (up:=true) hbx.neg (by omega) hn;refine⟨y,l,⟨⟨hJ,⟨x,fun κ ξ=>by rw[if_pos rfl,e1];exact hx.eq κ ξ,by rw[if_pos rfl];exact y3 rfl⟩,hx.rows,hx.sm,y1.mono (by omega)⟩,fun h0 hj=>by rw[if_pos rfl,y4 h0,hx.same hj]⟩,?_⟩;have hb0:=h.best0;rw[if_pos rfl]at hb0;have hll:=h.len;simp only[cond]at hll;refine LX_run (m:=6) (n0:=6) mix Tryz.func141 rfl rfl rfl rfl ?_;conv=>whnf
  refine .c (lx_rofm) ?_;conv=>whnf
  refine .c (pl_scale hpf m1_b (by omega) (by omega) (by omega)) ?_;conv=>whnf
  refine .mk (by kernel_rfl) ?_;conv=>whnf
  refine .mk F r hm ?_;rw[fVs_eq];refine Cn.as cx hent ⟨vR_ _,stripV_ok _,stripV_ok _,trivial⟩ (by rw[List.flatMap_cons,cst_keys];rfl) rfl ?_;conv=>whnf
  refine .c (lx_best h.hyp.sp) ?_;conv=>whnf
  refine .c (lx_rneg (.c hx.sz)) ?_;conv=>whnf
  refine .c (cy) ?_;conv=>whnf
  rw[hb0];conv=>whnf
  refine .mk (by kernel_rfl) ?_;conv=>whnf
  refine .mk ((ls++[mkL J true y l]).map Lm.D) rfl (by rw[List.map_append];rfl) (by simp;omega) ?_;conv=>whnf
  exact⟨_,_,⟨rfl,rfl⟩,vR_ _,rfl,⟨⟨_,rfl,wke_refl _,rfl⟩,⟨_,rfl,wke_refl _,rfl⟩,⟨_,rfl,wke_refl _,rfl⟩,⟨_,rfl,wke_refl _,rfl⟩,⟨_,rfl,wke_refl _,rfl⟩,⟨_,rfl,wke_refl _,rfl⟩,trivial⟩,rfl⟩
structure RunS (q:Qu)(ls:List Lm)(J:Nat)(up:Bool):Prop where
 len:ls.length=2*J+cond up 1 0
 ds:∀(i:Nat) m,ls[i]? =some m→∃j b v l,i=2*j+cond b 1 0∧m=mkL j b v l∧LmD q (ls.take i) j b v l
theorem RunS.li {q:Qu}{ls:List Lm}{J:Nat}{up:Bool}(h:RunS q ls J up):LsI ls J:=by
 have hl:=h.len;have hup:cond up 1 0≤1:=by cases up<;>decide
 refine⟨by omega,by omega,fun j hj=> ?_,fun j hj=> ?_,fun m hm=> ?_⟩
 ·obtain⟨m,hm⟩:=at_some (l:=ls) (i:=2*j) (by omega);obtain⟨j',b,v,l,e1,e2,_⟩:=h.ds _ m hm;have hb:b=false:=by cases b<;>simp only[cond]at e1<;>first|rfl|omega
  subst hb;simp only[cond]at e1;rw[show j'=j by omega]at e2;exact⟨v,l,by rw[hm,e2]⟩
 ·obtain⟨m,hm⟩:=at_some (l:=ls) (i:=2*j+1) (by omega);obtain⟨j',b,v,l,e1,e2,_⟩:=h.ds _ m hm;have hb:b=true:=by cases b<;>simp only[cond]at e1<;>first|rfl|omega
  subst hb;simp only[cond]at e1;rw[show j'=j by omega]at e2;exact⟨v,l,by rw[hm,e2]⟩
 ·obtain⟨j',b,v,l,e1,e2,_⟩:=h.ds _ m hm;rw[e2];show(j':Int)=J
  cases b<;>simp only[cond]at e1<;>omega
theorem RunS.val {q:Qu}{ls:List Lm}{J:Nat}{up:Bool}(h:RunS q ls J up):∀m∈ls,∃j v,j<q.g.us.length∧m.u=j∧m.v=can v∧Bt (bV j) v:=fun m hm=>by
 obtain⟨i,hi⟩:=List.mem_iff_getElem?.1 hm;obtain⟨j,b,v,l,e1,rfl,hd⟩:=h.ds i m hi;exact⟨j,v,hd.jl,rfl,rfl,hd.b⟩
theorem RunS.sp {q:Qu}{ls:List Lm}{J:Nat}{up:Bool}(h:RunS q ls J up)(hq:QuB q)(hJ:J≤q.g.us.length):SpOk (S0 q ls):=by
 have hl:=h.len;have hu:=hq.g.u1;have hup:cond up 1 0≤1:=by cases up<;>decide
 refine⟨hq.ok,by simp,fun d hd=>(by cases hd),(show ls.length≤1000000 by omega),fun m hm=> ?_,fun x hx=>(hq.r.sl x hx).mono (by decide),fun x hx=>(hq.r.sh x hx).mono (by decide),fun d hd=>(by cases hd),fun m hm=> ?_⟩
 ·obtain⟨j,v,_,_,e,hb⟩:=h.val m hm;have:=bV_top j;rw[e];exact Sz.sm (hb.mono (by omega))
 ·obtain⟨j,v,_,_,e,hb⟩:=h.val m hm;have:=bV_top j;rw[e,can_q];exact hb.mono (by omega)
theorem RunS.lv {q:Qu}{ls:List Lm}{J:Nat}{up:Bool}(h:RunS q ls J up)(hJ:J≤3):LsV ls J (bB J):=by
 have hli:=h.li;intro j hj;obtain⟨l,e⟩:=hli.loA hj;obtain⟨l',e'⟩:=hli.hiA hj
 have key:∀(i:Nat) b v l,ls[i]? =some (mkL j b v l)→Bt (bB J) v:=fun i b v l hi=>by
  obtain⟨j',b',v',l',e1,e2,hd⟩:=h.ds i _ hi;simp only[mkL,Lm.mk.injEq]at e2;obtain⟨e3,e4,e5,_⟩:=e2;have ej:j'=j:=by omega
  have ev:v=v':=by
   have:=congrArg Rw.q e5
   rwa [can_q,can_q]at this
  rw[ev];subst ej;exact hd.b.mono (bV_le hj hJ)
 exact⟨key _ _ _ _ e,key _ _ _ _ e'⟩
theorem RunS.hyp {q:Qu}{ls:List Lm}{J:Nat}{up:Bool}(h:RunS q ls J up)(hq:QuB q)(hJ:J<q.g.us.length):Hyp q ls J:=
 have hu:=hq.g.u1
 ⟨h.sp hq (Nat.le_of_lt hJ),hq,h.li,h.lv (by omega),hJ⟩
theorem RunS.run {q:Qu}{ls:List Lm}{J:Nat}{up:Bool}(h:RunS q ls J up)(hq:QuB q)(hJ:J<q.g.us.length):RunI q ls J up:=by
 refine⟨h.hyp hq hJ,h.len,fun hup=> ?_⟩;subst hup;have hl:=h.len;simp only[cond]at hl;obtain⟨m,hm⟩:=at_some (l:=ls) (i:=2*J) (by omega);obtain⟨j',b,v,l,e1,e2,_⟩:=h.ds _ m hm;have hb:b=false:=by cases b<;>simp only[cond]at e1<;>first|rfl|omega
 subst hb;simp only[cond]at e1;rw[show j'=J by omega]at e2;exact⟨v,l,by rw[hm,e2]⟩
theorem RunS.snoc {q:Qu}{ls:List Lm}{J:Nat}{up:Bool}{v:Rat}{l:List Mu}(h:RunS q ls J up)(hd:LmD q ls J up v l):RunS q (ls++[mkL J up v l]) (cond up (J+1) J) (!up):=by
 have hl:=h.len;refine⟨by rw[List.length_append,List.length_singleton,hl];cases up<;>simp only[cond,Bool.not_true,Bool.not_false]<;>omega,fun i m hm=> ?_⟩;rcases Nat.lt_or_ge i ls.length with h1|h1
 ·rw[List.getElem?_append_left h1]at hm;rw[List.take_append_of_le_length (Nat.le_of_lt h1)];exact h.ds i m hm
 ·rw[List.getElem?_append_right h1]at hm;have hi:i=ls.length:=by
   have:=(List.getElem?_eq_some_iff.1 hm).1;simp at this;omega
  subst hi;rw[Nat.sub_self]at hm;injection hm with hm;rw[List.take_append_of_le_length (lR_ _),List.take_length];exact⟨J,up,v,l,hl,hm.symm,hd⟩
theorem RunS.nil {q:Qu}:RunS q [] 0 false:=⟨rfl,fun i m h=>by simp at h⟩
def RunE (q:Qu)(ls:List Lm):Prop:=∀p,q.g.us[0]? =some p→(∃ls' l,ls[0]? =some (mkL 0 false (bxV q ls' p p.ts.length) l))∧∃ls' l,ls[1]? =some (mkL 0 true (-(bxV q ls' (scaleS p m1) (scaleS p m1).ts.length)) l)
theorem pl_run {q:Qu}{n:Nat}{d:Value}(hq:QuB q)(hd:Dom d)(hn:n≤0):
  ∃ls,(RunS q ls q.g.us.length false∧(n=0→RunE q ls))∧LV Tryz.prog 100 [vl d,.agg (S0 q []).A,vl (.int .i64 (n:Nat))] (.tup [.g (S0 q ls).A,.s (.d (.lit (.int .i64 0)))]):=by
 suffices hh:LX Tryz.prog 100 [vl d,.agg (S0 q []).A,vl (.int .i64 (n:Nat))] [] fun v H=>∃ls,(RunS q ls q.g.us.length false∧(n=0→RunE q ls))∧v= .tup [.g (S0 q ls).A,.s (.d (.lit (.int .i64 0)))]∧H=[] by
  obtain⟨v,H',⟨ls,h1,rfl,rfl⟩,hc⟩:=hh;exact⟨ls,h1,_,_,⟨rfl,rfl⟩,hc⟩
 have hu4:=hq.g.u1;obtain⟨t,dv,F,r,hdv,hm,hent,hlow⟩:=hd.low;rw[hdv]at hd ⊢;refine LX_run (m:=0) (n0:=0) mix Tryz.func100 rfl rfl rfl rfl ?_;conv=>whnf
 refine .c (lx_quvalid hq.ok) ?_;conv=>whnf
 refine bF (decide_eq_false (by omega)) ?_;conv=>whnf
 refine Cn.l [] (lx_cloneD (l:=[]) (by decide)) ?_;conv=>whnf
 refine Cn.l [] (lx_cloneL (l:=[]) (by decide)) ?_;conv=>whnf
 refine .mk (by kernel_rfl) ?_;conv=>whnf
 refine .mk (Nat×List Lm) (fun(j,ls)=>⟨[(41,vl (.int .i64 (j:Nat))),(40,vl (.int .i64 (q.g.us.map Af.D).length)),(39,.a (.d (afsD q.g.us))),(6,.a (.ptr 3 0)),(5,.a (.ptr 2 0)),(4,.a (.ptr 1 0)),(3,.a (.ptr 0 0))],
  [(0,.box 158 [.d (.lit (.iface t dv))]),(1,.box 108 (stA q ls)),(2,.box 3 [.d (.lit (.int .i64 (n:Nat)))]),(3,.box 108 [.d (.lit (.int .i64 0)),.d (.lit (.slice none 0 0)),.d (.lit (.slice none 0 0)),.d (.lit (.slice none 0 0)),.d (.lit (.slice none 0 0)),.d (.lit (.slice none 0 0)),.d (.lit (.slice none 0 0)),.d (.lit (.bool false)),.d (.nat 0),.d (.nat 0),.d (.lit (.slice none 0 0)),.d (.lit (.slice none 0 0))]),(5,.arr 113 6 (ls.map Lm.D).length)],6⟩)
  (fun b=>b.1≤q.g.us.length∧RunS q b.2 b.1 false∧(n=0→1≤b.1→RunE q b.2)) (fun b=>q.g.us.length-b.1) (0,[])
  (Wk.go (h2:=⟨⟨_,rfl,wke_refl _,rfl⟩,⟨_,rfl,⟨_,rfl,aR_ _,aR_ _,aR_ _,aR_ _,aR_ _,aR_ _,aR_ _,aR_ _,aR_ _,aR_ _,WkA.own,aR_ _,trivial⟩,rfl⟩,⟨_,rfl,wke_refl _,rfl⟩,⟨_,rfl,wke_refl _,rfl⟩,⟨_,rfl,wke_refl _,rfl⟩,trivial⟩))
  ⟨zL_ _,RunS.nil,fun _ h=>by omega⟩ fun⟨j,ls⟩ hb=> ?_
 obtain⟨hj,hR,hE⟩:=hb;simp only at hj hR hE;conv=>whnf
 refine bs (fun h1=> ?_) (fun h1=> ?_)
 ·conv=>whnf
  have h1':j<q.g.us.length:=by simpa using h1
  obtain⟨p,hp⟩:=at_some h1';obtain⟨v,l,⟨hv,hx⟩,c1⟩:=pl_step (hR.run hq h1') hd hn hp;have hR1:=hR.snoc hv;simp only[cond,Bool.not_false]at hR1;obtain⟨v2,l2,⟨hv2,hx2⟩,c2⟩:=pl_step (hR1.run hq h1') hd hn hp;have hR2:=hR1.snoc hv2;simp only[cond,Bool.not_true]at hR2;refine .mk (j) (p.D) (rfl) (at_map hp) ?_;conv=>whnf
  conv=>whnf
  refine Cn.lK [7,0,1,6,2,5] c1 ?_;conv=>whnf
  refine Cn.lK [7,0,1,6,2,5] c2 ?_;conv=>whnf
  refine⟨(j+1,ls++[mkL j false v l]++[mkL j true v2 l2]),Wk.go,⟨h1',hR2,fun h0 _=> ?_⟩,by simp only;omega⟩;rcases eP_ j with h3|h3
  ·subst h3;have hl0:=hR.len;simp only[cond]at hl0;obtain rfl:ls=[]:=List.eq_nil_of_length_eq_zero (by omega);intro p' hp';rw[hp]at hp';injection hp' with hp';subst hp';have e1:=hx h0 rfl;have e2:=hx2 h0 rfl;rw[if_neg (by decide)]at e1;rw[if_pos rfl]at e2;exact⟨⟨_,l,by rw[←e1];rfl⟩,⟨_,l2,by rw[←e2];rfl⟩⟩
  ·have hl0:=hR.len;simp only[cond]at hl0;intro p' hp';obtain⟨⟨a1,a2,a3⟩,⟨b1,b2,b3⟩⟩:=hE h0 h3 p' hp';exact⟨⟨a1,a2,by rw[List.append_assoc,List.getElem?_append_left (by omega)];exact a3⟩,⟨b1,b2,by rw[List.append_assoc,List.getElem?_append_left (by omega)];exact b3⟩⟩
 ·conv=>whnf
  have e:j=q.g.us.length:=by simp at h1;omega
  subst e
  have hE':n=0→RunE q ls:=fun h0=>by
   rcases eP_ q.g.us.length with h|h
   ·intro p hp;have:=at_lt hp;omega
   ·exact hE h0 h
  exact .s ⟨ls,⟨hR,hE'⟩,rfl,rfl⟩
theorem SpOk.take {q:Qu}{ls:List Lm}(h:SpOk (S0 q ls))(i:Nat):SpOk (S0 q (ls.take i)):=
 ⟨h.q,h.pl,h.pn,tL_ (List.length_take_le' _ _) h.ll,fun m hm=>h.ln m (List.mem_of_mem_take hm),h.rlo,h.rhi,h.pb,fun m hm=>h.lb m (List.mem_of_mem_take hm)⟩
theorem pl_dscope {q:Qu}{ls:List Lm}{J:Nat}{up:Bool}(hq:QuB q)(hR:RunS q ls J up)(hJ:J≤q.g.us.length):LV Tryz.prog 57 [.agg (S0 q ls).A] (vl (.bool true)):=
 pl_scope (hR.sp hq hJ) fun i m hm=>by
  obtain⟨j,b,v,l,e1,rfl,hd⟩:=hR.ds i m hm;obtain⟨K,hv⟩:=hd.dv;exact pl_dlemma ((hR.sp hq hJ).take i) hq hv
theorem pl_trun {q:Qu}{z n:Nat}(hq:QuB q)(hz:z≤2)(hn:n≤0):
  ∃ls,(RunS q ls q.g.us.length false∧(n=0→RunE q ls))∧LV Tryz.prog 56 [vl (.int .i64 (z:Nat)),.agg (S0 q []).A,vl (.int .i64 (n:Nat))] (.tup [.g (S0 q ls).A,.s (.d (.lit (.bool true)))]):=by
 obtain⟨ls,h,c⟩:=pl_run hq (dom_ok hz) hn;refine⟨ls,h,?_⟩;obtain⟨t,dv,_,_,hdv,_⟩:=(dom_ok hz).low;have cg:=pl_get hz;rw[hdv]at cg c;refine LX_run (m:=0) (n0:=0) mix Tryz.func56 rfl rfl rfl rfl ?_;conv=>whnf
 refine .c (cg) ?_;conv=>whnf
 refine .c (c) ?_;conv=>whnf
 exact .q ⟨rfl,rfl⟩
def p0:Af:=subS (varS 0) (numS q1)
def qu0:Qu:=⟨⟨1,[p0],[varS 1]⟩,⟨[0],[((3:Int):Rat)],[]⟩,varS 1⟩
theorem p0_b:FB 5 (1+(0:Nat):Nat) p0:=((FB.var (n:=1) (by decide) (by decide)).sub (FB.num q1_b)).up (by omega) (Int.le_refl _)
theorem p0_eq:p0=⟨[⟨0,1⟩],-1⟩:=by
 refine Af.ext' (n:=1) (n':=1) p0_b.ts ⟨by decide,by decide,by decide,trivial⟩ (fun w=> ?_) ?_
 ·rw[p0,cof_sub];simp only[varS,numS,cof];show(if(0:Int)=w then q1 else 0)+0-0=(if(0:Int)=w then 1 else 0)+0;rw[q1_r];grind
 ·rw[p0,c_sub];show(0:Rat)-q1= -1;rw[q1_r];grind
theorem p0s_eq:scaleS p0 m1=⟨[⟨0,-1⟩],1⟩:=by
 refine Af.ext' (n:=1) (n':=1) (p0_b.scale m1_b).ts ⟨by decide,by decide,by grind,trivial⟩ (fun w=> ?_) ?_
 ·rw[scaleS,cof_scale,p0_eq];simp only[cof,m1,m1_r];grind
 ·rw[scaleS,p0_eq,m1,m1_r];show(-1:Rat)* -1=1;grind
theorem v1_b:FB 5 (1+[p0].length:Nat) (varS 1):=(FB.var (n:=2) (by decide) (by decide)).up (by omega) (Int.le_refl _)
theorem qu0_b:QuB qu0:=by
 refine⟨⟨by decide,by decide,by decide,by decide,by decide,fun j f h=> ?_,fun f hf=> ?_⟩,?_,v1_b⟩
 ·have:=at_lt h;obtain rfl:j=0:=by simpa [qu0]using this
  injection h with h;subst h;exact p0_b
 ·rw[List.mem_singleton.1 hf];exact v1_b
 ·refine⟨rfl,rfl,by decide,fun q hq=> ?_,fun q hq=> ?_,fun i a b ha hb=> ?_,fun f hf=>(by cases hf)⟩
  ·rw[List.mem_singleton.1 hq];exact bt0 _
  ·rw[List.mem_singleton.1 hq];exact(Bt.int (k:=2) (by decide)).mono (by decide)
  ·have:=at_lt ha;obtain rfl:i=0:=by simpa [qu0]using this
   injection ha with ha;injection hb with hb;subst ha hb;decide
theorem bx0 (ls:List Lm):bxV qu0 ls p0 p0.ts.length= -1∧bxV qu0 ls (scaleS p0 m1) (scaleS p0 m1).ts.length= -2:=by
 rw[p0s_eq,p0_eq];constructor
 ·show(-1:Rat)+1*(tmB qu0 ls ⟨0,1⟩).1= -1;have:(tmB qu0 ls ⟨0,1⟩).1=0:=by
   unfold tmB bndB inB;rw[if_pos (by decide),if_neg (by simp;grind)];rfl
  rw[this];grind
 ·show(1:Rat)+ -1*(tmB qu0 ls ⟨0,-1⟩).1= -2;have:(tmB qu0 ls ⟨0,-1⟩).1=((3:Int):Rat):=by
   unfold tmB bndB inB;rw[if_pos (by decide),if_pos (decide_eq_true (by grind))];rfl
  rw[this,show((3:Int):Rat)=3 from rfl];grind
theorem pl_same {q:Rat}{k:Nat}(h:Bt k q)(hk:k≤3000000000):LV Tryz.prog 9 [ratV q,ratV q] (vl (.bool true)):=by
 have:=lx_zsame (c:=decide (q<0)) (xs:=limbs q.num.natAbs) (ys:=limbs (dn q)) h hk
 rwa [vB_can]at this
theorem rat0D:(can (0:Rat)).D=[.lit (.bool false),.lm (limbs 0),.lm (limbs 0)]:=by
 show [D.lit (.bool (decide ((0:Rat)<0))),D.lm (limbs (0:Rat).num.natAbs),D.lm (limbs (dn 0))]=_;rw[show decide ((0:Rat)<0)=false by decide];rfl
theorem pl_awake:LV Tryz.prog 17 [] (vl (.bool true)):=by
 obtain⟨ls,⟨hR,hE⟩,cr⟩:=pl_trun (z:=2) (n:=0) qu0_b (by decide) (by decide);obtain⟨⟨l1,m1',e1⟩,⟨l2,m2,e2⟩⟩:=hE rfl p0 rfl;rw[(bx0 l1).1]at e1;rw[(bx0 l2).2]at e2;rw[show(-1:Rat)=m1 from m1_r.symm]at e1;rw[show(- -2:Rat)=((2:Int):Rat) by rw[show((2:Int):Rat)=2 from rfl];grind]at e2;have hl:=hR.len;have hl2:ls.length=2:=hl;have hs:=hR.sp qu0_b (lR_ _);have cd:=pl_dscope qu0_b hR (lR_ _);have hph:phaseS (S0 qu0 ls) 0=0:=by
  have hb:bestS (S0 qu0 ls) 0=(1,2):=hR.li.bestS (J:=1) (j:=0) (by decide);unfold phaseS;rw[hb];have v1:(vAt ls 1)= -1:=by
   unfold vAt atL;rw[show((1:Int)-1).toNat=0 from rfl,e1];exact(can_q _).trans m1_r
  have v2:(vAt ls 2)=2:=by
   unfold vAt atL;rw[show((2:Int)-1).toNat=1 from rfl,e2];exact can_q _
  unfold onS offS;rw[show(S0 qu0 ls).ls=ls from rfl,v1,v2,sg_ge,sg_le,decide_eq_false (show ¬(0:Rat)≤ -1 by grind),decide_eq_false (show ¬(2:Rat)≤0 by grind)];rfl
 have cp:=lx_phase (u:=0) hs;rw[hph]at cp;refine LX_run (m:=0) (n0:=0) mix Tryz.func17 rfl rfl rfl rfl ?_;conv=>whnf
 refine .c (lx_zvar) ?_;conv=>whnf
 refine .c (lx_zofp) ?_;conv=>whnf
 refine .c (lx_num q1_z) ?_;conv=>whnf
 refine .c (lx_sub (FB.var (n:=1) (v:=0) (by decide) (by decide)) (FB.num q1_b) (by decide) (by decide) (by decide)) ?_;conv=>whnf
 refine .c (lx_zvar) ?_;conv=>whnf
 refine .mk (by kernel_rfl) ?_;conv=>whnf
 refine .c (lx_zof (z:=3) (by decide) (by decide)) ?_;conv=>whnf
 refine .c (lx_zvar) ?_;conv=>whnf
 refine .mk (by kernel_rfl) ?_;conv=>whnf
 refine Cn.as cr rfl ⟨vR_ _,WkV.agg ⟨aR_ _,WkA.own,WkA.own,(by show WkA _ (.d (.sl 3 [(can 0).D]));rw[rat0D];exact WkA.own),WkA.own,aR_ _,aR_ _,aR_ _,aR_ _,aR_ _,WkA.nil,WkA.nil,trivial⟩,vR_ _,trivial⟩ rfl rfl ?_;conv=>whnf
 refine bT (by rw[List.length_map];show((ls.length:Int)==2)=true;rw[hl2];rfl) ?_;conv=>whnf
 refine .mk (0) ((mkL 0 false m1 m1').D) (rfl) (at_map e1) ?_;conv=>whnf
 conv=>whnf
 refine .c (lx_zofm) ?_;conv=>whnf
 refine .c (pl_same m1_b (by decide)) ?_;conv=>whnf
 refine .mk (1) ((mkL 0 true ((2:Int):Rat) m2).D) (rfl) (at_map e2) ?_;conv=>whnf
 conv=>whnf
 refine .c (lx_zof (z:=2) (by decide) (by decide)) ?_;conv=>whnf
 refine .c (pl_same (q:=((2:Int):Rat)) (Bt.int (k:=2) (by decide)) (by decide)) ?_;conv=>whnf
 refine .c (cd) ?_;conv=>whnf
 refine .c (cp) ?_;conv=>whnf
 refine .mk (by kernel_rfl) ?_;conv=>whnf
 exact .q ⟨rfl,rfl⟩
def q2:Rat:=((2:Int):Rat)
theorem q2_b:Bt 1 q2:=Bt.int (by decide)
def re:Af:=subS (varS 0) (numS q2)
def pe:Pg:=⟨1,[re],varS 0⟩
theorem re_b:FB 2 (1:Nat) re:=(FB.var (n:=1) (by decide) (by decide)).sub (FB.num q2_b)
theorem pe_s:Smp pe:=by
 refine⟨⟨fun f hf=> ?_,(FB.var (n:=1) (by decide) (by decide)).up (by omega) (Int.le_refl _)⟩,by decide,by decide,by decide⟩;rw[List.mem_singleton.1 (show f∈[re]from hf)];exact re_b.up (by omega) (Int.le_refl _)
theorem pe_sol:SolOk pe 1 q2 [q2] [1] []:=by
 have hrow:∀i,i<1→pe.row i=re:=fun i hi=>by rw[show i=0 by omega];rfl
 have hph:∀u:Nat→Rat,ph 1 (vz u) re=u 0-q2:=fun u=>by
  unfold re;rw[ph_sub,ph_var,ph_num,Rat.one_mul];rfl
 have hob:∀u:Nat→Rat,ph 1 (vz u) pe.obj=u 0:=fun u=>ph_var;refine⟨.inl rfl,fun _=>⟨rfl,fun i hi=> ?_,(hob _).trans rfl,rfl,rfl,fun i hi=> ?_,fun u=> ?_⟩,(fun h=>absurd h (by decide)),fun h=>absurd h (by decide)⟩
 ·rw[hrow i hi,hph];show 0≤q2-q2;grind
 ·rw[show i=0 from by have:i<1:=hi;omega];show(0:Rat)≤1;decide
 ·rw[hob];show u 0=smR (fun i=>gq [1] i*ph 1 (vz u) (pe.row i)) 1+q2;rw[smR,smR,hrow 0 (by decide),hph];show u 0=0+1*(u 0-q2)+q2;grind
theorem pe_small:¬ ∃v,v<pe.n∧4096<(prS (fmR pe) (v+1)).length:=by
 rintro⟨v,hv,h⟩;have h0:v=0:=by have:v<1:=hv;omega
 subst h0;have h1:(prS (fmR pe) 1)=elS (0:Nat) (fmR pe):=rfl;rw[h1]at h;unfold elS at h;have h2:=fold_len (zrR (0:Nat) (fmR pe)++(upR (0:Nat) (fmR pe)).flatMap fun f=>(dnR (0:Nat) (fmR pe)).map (cmbS (0:Nat) f)) [];have hl:(fmR pe).length=3:=rfl;have z1:(zrR (0:Nat) (fmR pe)).length≤3:=tL_ (List.length_filter_le _ _) (Nat.le_of_eq hl);have u1:(upR (0:Nat) (fmR pe)).length≤3:=tL_ (List.length_filter_le _ _) (Nat.le_of_eq hl);have d1:(dnR (0:Nat) (fmR pe)).length≤3:=tL_ (List.length_filter_le _ _) (Nat.le_of_eq hl);have key:∀us:List Af,(us.flatMap fun f=>(dnR (0:Nat) (fmR pe)).map (cmbS (0:Nat) f)).length≤us.length*3:=by
  intro us
  induction us with
  |nil=>simp
  |cons x xs ih=>rw[List.flatMap_cons,List.length_append,List.length_map,List.length_cons];omega
 have:=key (upR (0:Nat) (fmR pe));rw[List.length_append,List.length_nil]at h2;omega
theorem ly_awake:LV Tryz.prog 4 [] (vl (.bool true)):=by
 obtain⟨_,⟨st,val,pt,du,ray,ba,pv,hs,hb,rfl⟩,hk,c1⟩:=ly_solve pe_s;obtain⟨rfl,h2⟩:=sol_same hs pe_sol;have h2:=h2 rfl;subst h2;obtain⟨_,hr,hk2,c2⟩:=ly_fmin pe_s;have hf:=fm_same pe_s.ok pe_sol;rcases hr with rfl|⟨_,hbig⟩
 ·rw[hf.1,hf.2 rfl]at c2;have cc:=ly_check pe_s hs hb (pv:=pv);have cs:=pl_same (q:=q2) (k:=1) q2_b (by decide);refine LX_run (m:=0) (n0:=0) mix Tryz.func4 rfl rfl rfl rfl ?_;conv=>whnf
  refine .c (lx_zvar) ?_;conv=>whnf
  refine .c (lx_zof (z:=2) (by decide) (by decide)) ?_;conv=>whnf
  refine .c (lx_num (q2_b.sz (by decide))) ?_;conv=>whnf
  refine .c (lx_sub (FB.var (n:=1) (v:=0) (by decide) (by decide)) (FB.num q2_b) (by decide) (by decide) (by decide)) ?_;conv=>whnf
  refine .mk (by kernel_rfl) ?_;conv=>whnf
  refine .c (c1) ?_;conv=>whnf
  refine .c (c2) ?_;conv=>whnf
  refine .c (pl_awake) ?_;conv=>whnf
  refine .c (lx_zof (z:=2) (by decide) (by decide)) ?_;conv=>whnf
  refine .c (cs) ?_;conv=>whnf
  refine .c (lx_zof (z:=2) (by decide) (by decide)) ?_;conv=>whnf
  refine .c (cs) ?_;conv=>whnf
  refine .c (cc) ?_;conv=>whnf
  refine .mk (by kernel_rfl) ?_;conv=>whnf
  exact .q ⟨rfl,rfl⟩
 ·exact absurd hbig pe_small
theorem ly_top {raw:List Nat}(h:RawOk raw):LV Tryz.prog 3 [.a (.d (bysD raw))] (vl (.bool true)):=by
 refine LX_run (m:=0) (n0:=0) mix Tryz.func3 rfl rfl rfl rfl ?_;conv=>whnf
 refine .c (ly_awake) ?_;conv=>whnf
 refine bs (fun h0=> ?_) (fun h0=> ?_)
 ·conv=>whnf
  exact .q ⟨rfl,rfl⟩
 conv=>whnf
 refine .d (ly_program h) ?_;rintro _ ⟨p,s,rfl⟩;conv=>whnf
 refine .d (ly_solve s) ?_;rintro _ ⟨st,val,pt,du,ray,ba,pv,hs,hb,rfl⟩;conv=>whnf
 refine .d (ly_fmin s) ?_;have hf:=fm_same s.ok hs;have hsz:=hb.v;have ok:=s.ok.af (by omega) (by have:=s.n3;omega);have hn:=s.n3;have hm:=s.m7;have hlm:(List.map Af.D p.rows).length=p.rows.length:=List.length_map _;have hq:=s.ok.obj.ts.len (Int.natCast_nonneg _);rintro _ (rfl|⟨rfl,_⟩)
 case' inl=>
  rw[hf.1];have hv:=hf.2;generalize (mnO (mnF p.n (rsS (fmR p) p.n) none none)).2=v2 at hv ⊢;conv=>whnf
  refine .c (ly_check s hs hb) ?_;conv=>whnf
  refine bF ((by simp)) ?_;conv=>whnf
  refine bs (fun h1=> ?c1) (fun h1=> ?c2)
  case' c1=>
   conv=>whnf
   rw[hv (eq_of_beq h1)];refine .c (pl_same hsz (by omega)) ?_;conv=>whnf
  case' c2=>
   conv=>whnf
 case' inr=>
  conv=>whnf
  refine .c (ly_check s hs hb) ?_;conv=>whnf
 all_goals
  refine .lE [] [] (ly_wnew ok.2 (by omega) (by omega)) ?_;conv=>whnf
  refine .mk Nat (fun i=>⟨[(11,vl (.int .i64 (i:Nat))),(9,.a (.ptr 3 0)),(4,.a (.ptr 1 0)),(3,.a (.ptr 0 0))],
   [(0,.box 34 p.A),(1,.box 39 ((solD st val pt du ray ba pv).map A.d)),(3,.box 94 (svA p.n (.own 5 4 ((p.rows.take i).map Af.D)) p.obj)),(5,.arr 32 4 (p.rows.take i).length)],6⟩) (fun i=>i≤p.rows.length) (fun i=>p.rows.length-i) 0
   (Wk.trans (Wk.ownB 3 5 1 32 4 rfl rfl rfl) Wk.go) (zL_ _) fun i hi=> ?_
  conv=>whnf
  refine bs (fun g1=> ?_) (fun g1=> ?_)
  ·conv=>whnf
   have hi':i<p.rows.length:=by have:=of_decide_eq_true g1;rw[hlm]at this;omega
   obtain⟨g,hg⟩:=at_some hi';refine .mk (i) (g.D) (rfl) (at_map hg) ?_;conv=>whnf
   conv=>whnf
   have hgt:=(s.ok.rows g (mG_ hg)).ts.len (Int.natCast_nonneg _);refine .lE [3,5] [] (ly_wadd (n:=p.n) (rows:=p.rows.take i) (f:=p.obj) (g:=g) (ok.1 g (mG_ hg)) (by omega) (by omega) (by simp;omega)) ?_;conv=>whnf
   rw[←take_snoc hg];exact⟨i+1,Wk.go,hi',by omega⟩
  ·have e:p.rows.take i=p.rows:=List.take_of_length_le (by have:=of_decide_eq_false g1;rw[hlm]at this;omega);rw[e];conv=>whnf
   refine .lD [3,5] [] _ (ly_wsolve s) ?_;rintro _ _ ⟨⟨st',val',pt',du',ray',ba',pv',hs',hb',rfl⟩,rfl⟩;refine⟨rfl,fun _ h=>(nomatch h),?_⟩;obtain⟨rfl,hval⟩:=sol_same hs hs';conv=>whnf
   refine bT ((by simp)) ?_;conv=>whnf
   refine .c (ly_check s hs' hb') ?_;conv=>whnf
   refine bs (fun g2=> ?_) (fun g2=> ?_)
   ·conv=>whnf
    exact .q ⟨rfl,rfl⟩
   ·rw[←hval (by simpa using g2)];conv=>whnf
    refine .c (pl_same hsz (by omega)) ?_;conv=>whnf
    exact .q ⟨rfl,rfl⟩
open Go.ChangeShapes Go.WideShapes
theorem wfu8 {n:Int}(h:(Lit.int .u8 n).wf=true):0≤n∧n<256:=by
 simp[Lit.wf,IntKind.min,IntKind.max,IntKind.signed,IntKind.bits]at h;omega
theorem laid_tail {P:Program}{W:World}{x:String×DataW Unit}{rest:List (String×DataW Unit)}(h:laidMet P (x::rest) W):laidMet P rest W:=by
 obtain⟨ps,⟨g',t',cs,fuel,p,q,hg',ht',hvar,hd,h1,h2⟩,hnd,hall⟩:=h
 subst_vars
 exact⟨q,by assumption,(List.nodup_append.1 hnd).2.1,fun b off hm=>hall b off (List.mem_append_right _ hm)⟩
abbrev d32T:List Int:=[0,1,28,2,29,14,24,3,30,22,20,15,25,17,4,8,31,27,13,23,21,19,16,7,26,12,18,6,11,5,10,9]
abbrev d64T:List Int:=[0,1,56,2,57,49,28,3,61,58,42,50,38,29,17,4,62,47,59,36,45,43,51,22,53,39,33,30,24,18,12,5,63,55,48,27,60,41,37,16,46,35,44,21,52,32,23,11,54,26,40,15,34,20,31,10,25,14,19,9,13,8,7,6]
abbrev p10T:List Int:=[1,10,100,1000,10000,100000,1000000,10000000,100000000,1000000000,10000000000,100000000000,1000000000000,10000000000000,100000000000000,1000000000000000,10000000000000000,100000000000000000,1000000000000000000,10000000000000000000]
abbrev laidL:List (String×DataW Unit):=[("math/bits.deBruijn32tab",Rows.laid_math_bits_deBruijn32tab),("math/bits.deBruijn64tab",Rows.laid_math_bits_deBruijn64tab),("internal/strconv.uint64pow10",Rows.laid_internal_strconv_uint64pow10)]
theorem gT0:Tryz.prog.globalNamed "internal/strconv.uint64pow10" =some 0:=by kernel_rfl
theorem gT1:Tryz.prog.globalNamed "math/bits.deBruijn32tab" =some 1:=by kernel_rfl
theorem gT2:Tryz.prog.globalNamed "math/bits.deBruijn64tab" =some 2:=by kernel_rfl
theorem row_tab {g:Nat}{k:IntKind}{zs:List Int}{W:World}(hT:∀j,j<zs.length→W.cell? ⟨g,j,none⟩=some (.int k (zs.getD j 0))){j:Nat}{d:D}(hd:(zs.map fun z=>D.lit (.int k z))[j]? =some d):∃v,Fx M0 W g j v∧RdD M0 W d v:=by
 rw[List.getElem?_map]at hd
 cases hz:zs[j]? with
 |none=>rw[hz]at hd;cases hd
 |some z=>
  rw[hz]at hd;injection hd with hd;subst hd;have:=hT j (at_lt hz);rw[show zs.getD j 0=z by rw[List.getD_eq_getElem?_getD,hz];rfl]at this;exact⟨_,⟨fun h=>h,this⟩,.lit _⟩
theorem glb_of_laid {W:World}(h:laidMetH Tryz.prog laidL W):Glb M0 W:=by
 rw[MakeChecks.laidMetH_plain _ _ _ (by kernel_rfl)]at h;have t1:=Lib.tabIs_of_head (k:= .u8) (zs:=d32T) (W:=W) gT1 (t:=295) (by kernel_rfl) Tryz.underlying295 Tryz.underlying5 (by kernel_rfl) (by kernel_rfl) h;have h2:=laid_tail h;have t2:=Lib.tabIs_of_head (k:= .u8) (zs:=d64T) (W:=W) gT2 (t:=296) (by kernel_rfl) Tryz.underlying296 Tryz.underlying5 (by kernel_rfl) (by kernel_rfl) h2;have h3:=laid_tail h2;have t0:=Lib.tabIs_of_head (k:= .u64) (zs:=p10T) (W:=W) gT0 (t:=287) (by kernel_rfl) Tryz.underlying287 Tryz.underlying156 (by kernel_rfl) (by kernel_rfl) h3;have c0:=fun j (hj:j<p10T.length)=>t0.cell gT0 j hj;have c1:=fun j (hj:j<d32T.length)=>t1.cell gT1 j hj;have c2:=fun j (hj:j<d64T.length)=>t2.cell gT2 j hj;intro g row hg j d hd;unfold GT at hg;split at hg
 ·injection hg with hg;subst hg;exact row_tab c0 hd
 ·injection hg with hg;subst hg;exact row_tab c1 hd
 ·injection hg with hg;subst hg;exact row_tab c2 hd
 ·cases hg
def Bys (w:World)(v:Value)(n:Nat):Prop:=n≤1000000→∃raw,RdD M0 w (bysD raw) v∧raw.length=n∧RawOk raw
theorem bys_of_read {H:Type}{enc:TypeId×Value→H}{w:World}{base:Nat}{held:Bool}{fuel:Nat}{c:Value}{y:DataW H×List MemPlace}
  (h:DataW.trod enc Tryz.prog w base (fun _=>true) held fuel 23 [c]=some y):∃a n k,c= .slice a n k∧Bys w (.slice a n k) n:=by
 rcases open_ints Tryz.underlying23 Tryz.underlying5 (by kernel_rfl) h with⟨hcs,_⟩|⟨x,l,c',zs,hcs,_,hl,hm,hz,_,hcell,hwz⟩
 ·injection hcs with h1 _;subst h1;refine⟨_,_,_,rfl,fun hn=>⟨[],?_,rfl,⟨zL_ _,fun b h=>by cases h⟩⟩⟩;exact nil_ok 1
 ·injection hcs with h1 _;subst h1;refine⟨_,_,_,rfl,fun hn=> ?_⟩;have hzl:l≤zs.length:=by simp at hz;omega
  have hlen:((zs.take l).map Int.toNat).length=l:=by simp;omega
  refine⟨(zs.take l).map Int.toNat,?_,hlen,⟨by omega,fun b hb=> ?_⟩⟩
  ·have hrow:∀(i:Nat) (row:List D),(((zs.take l).map Int.toNat).map fun b=>[D.lit (.int .u8 (b:Nat))])[i]? =some row→i<l∧row=[.lit (.int .u8 (zs.getD i 0))]:=fun i row hi=>by
    rw[List.getElem?_map,List.getElem?_map]at hi
    cases hj:(zs.take l)[i]? with
    |none=>rw[hj]at hi;cases hi
    |some z=>
     rw[hj]at hi;injection hi with hi;have hlt:=at_lt hj;have hil:i<l:=by simp at hlt;omega
     have hz2:zs[i]? =some z:=by rw[List.getElem?_take]at hj;split at hj<;>simp_all
     have hw:=wfu8 (hwz z (mG_ hz2));rw[show zs.getD i 0=z by rw[List.getD_eq_getElem?_getD,hz2];rfl,←hi];exact⟨hil,by simp;omega⟩
   have hx0:0<l→x.spot=none:=fun h0=>by
    have c0:=hcell 0 (by omega);rw[show x.add 0=x by rfl]at c0;unfold World.cell? at c0;split at c0
    ·split at c0
     ·cases c0
     ·next h=>simpa using h
    ·cases c0
   have:=RdD.sl (M:=M0) (w:=w) 1 (((zs.take l).map Int.toNat).map fun b=>[D.lit (.int .u8 (b:Nat))]) (some x) c' (fun i _=> .int .u8 (zs.getD i 0)) (by simp;omega) (by simp;omega) (fun h0=> ?_) (fun i row hi=> ?_) (fun _ _=>rfl) (fun i row j d hi hj=> ?_)
   ·rw[List.length_map,hlen]at this;exact this
   ·have h0':0<l:=by simp at h0;omega
    obtain⟨bl,off,spot⟩:=x;have hs:=hx0 h0';simp only at hs;subst hs;refine⟨bl,off,rfl,fun i row j d hi hj=> ?_⟩;obtain⟨h1,rfl⟩:=hrow i row hi;obtain rfl:j=0:=by
     rcases j with _|j
     ·rfl
     ·simp at hj
    have:=hcell i (by omega);rw[Addr.add_lit]at this;exact⟨fun h=>h,by rw[Nat.mul_one,Nat.add_zero];exact this⟩
   ·rw[(hrow i row hi).2];rfl
   ·obtain⟨h1,rfl⟩:=hrow i row hi;obtain rfl:j=0:=by
     rcases j with _|j
     ·rfl
     ·simp at hj
    injection hj with hj;subst hj;exact .lit _
  ·obtain⟨z,h1,rfl⟩:=List.mem_map.1 hb;have:=wfu8 (hwz z (List.mem_of_mem_take h1));omega
theorem open_Bys {H:Type}{enc:TypeId×Value→H}{w:World}{base:Nat}{held:Bool}{r:Reach}{b0:Nat}{v:Value}{d:DataW H}{p:List MemPlace}
  (hv:Value.okWide Tryz.prog w r b0 23 v) (h:DataW.Trod enc Tryz.prog w base (fun _=>true) held 23 v d p):∃a n c,v= .slice a n c∧Bys w (.slice a n c) n:=by
 obtain⟨a,n,c,rfl⟩:=okWide_slice Tryz.underlying23 hv;obtain⟨m,hm⟩:=h;exact bys_of_read (c:= .slice a n c) hm
end Go.Proofs.YthdoopaenanibaaGreatDoor.Lf
