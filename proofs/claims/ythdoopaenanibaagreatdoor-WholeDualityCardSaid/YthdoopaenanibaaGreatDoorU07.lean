/- Texts LyR LyS LyT LyU LyV LyW LyX LyY LyZ LzA LzB LzC LzD LzE LzF LzG LzH LzI LqH LzL LtB LtC LtD of this proof, in this order. -/
import Derived.Test.YthdoopaenanibaaGreatDoorU06
import Derived.Laws.CopyOwn
import Derived.Lib.AppendZerosOnto
import Derived.Deep.RegionLaw
import Derived.Lib.ItoaNum
import Derived.Shelf.Strings.Builder1
import Derived.Shelf.Strings.Builder2
import Derived.Shelf.Strings.OnBuilder
import Derived.Shelf.Small.Bits
import Derived.Shelf.Strings.BuilderF
import Derived.Shelf.Strconv.Itoa0
import Derived.Shelf.Strconv.Itoa1
import Derived.Shelf.LaysM
import Derived.Shelf.Strconv.Itoa2
import Derived.Shelf.Strconv.Itoa3
import Derived.Shelf.Strings.Prefix
import Derived.Shelf.Bits.Mul64
import Derived.Shelf.Strings.Repeat
import Derived.Ground.Names2Prog
import Derived.Shelf.Slices.ReverseS
import Derived.Shelf.Slices.Cells
import Derived.Lib.AppendIntMem
import Derived.Lib.Walk
import Derived.WalkKit
import Derived.BigCall
import Derived.BigGuard
set_option linter.unusedVariables false
set_option linter.unusedSimpArgs false
set_option maxRecDepth 100000
set_option maxHeartbeats 4000000
namespace Go.Proofs.YthdoopaenanibaaGreatDoor.Lf
open Go.RowKit Nt
section
variable {P:Program}
theorem run_copyK (w:World)(dT sT ty elem:TypeId)(g o dLen dCap k:Nat)(a:Addr)(sLen sCap:Nat)(cur:Array Value)(t:TypeId)(cs:List Value)
  (hu:P.underlying dT=some (.slice elem)) (hs:(P.info? elem).map (·.size)=some k)
  (hg:w.heap[g]? =some (.cells cur t (0,0))) (hn:cs.length=Nat.min sLen dLen*k)
  (hsrc:∀j v,cs[j]? =some v→w.cell? (a.add j)=some v) (hfit:o+cs.length≤cur.size) (h1:∀v∈cs,v.oneCell'=true):
  (Builtin.copy_ #[dT,sT] ty #[.slice (some ⟨g,o,none⟩) dLen dCap,.slice (some a) sLen sCap]).run P w=
   .ok (goInt (Nat.min sLen dLen)) (w.setRow g (cur.toList.take o++cs++cur.toList.drop (o+cs.length)).toArray):=by
 have hl:=run_loadCells_list (P:=P) w a cs hsrc;have hst:=run_storeCells_at P g o t cs 0 cur w hg (by simpa using hfit) h1
 cases hq:P.info? elem with
 |none=>simp[hq]at hs
 |some i=>
  have hi:i.size=k:=by simpa [hq]using hs
  simp[Builtin.copy_,run_underlying hu,Builtin.lenOf,Builtin.firstCells,sizeOf,typeInfo,hq,hi,←hn,hl,hst]
theorem step_copyK {ops:Array Oper}{o:Oper}{a:Act}{w:World}{K:Act→World→Prop}{Q:Exit→Act→World→Prop}{E:Prop}(hgd:o.guard=none)(d s:Operand)(dT sT:TypeId)
  (ho:o.op= .call {callee:= .builtin .copy,args:= #[d,s],argTypes:= #[dT,sT]}) (elem:TypeId) (hu:P.underlying dT=some (.slice elem)) (k:Nat) (hsz:(P.info? elem).map (·.size)=some k)
  (g off dLen dCap:Nat) (ad:Addr) (sLen sCap:Nat) (hd:a.eval d= .slice (some ⟨g,off,none⟩) dLen dCap) (hs:a.eval s= .slice (some ad) sLen sCap)
  (cur:List Value) (t:TypeId) (hg:w.heap[g]? =some (.cells cur.toArray t (0,0))) (cs:List Value) (hn:cs.length=Nat.min sLen dLen*k)
  (hsrc:∀j v,cs[j]? =some v→w.cell? (ad.add j)=some v)
  (hfit:off+cs.length≤cur.length) (h1:∀v∈cs,v.oneCell'=true) (B:Nat) (w0:World) (hb:RowKit.Below B w0 w) (hBg:B≤g)
  (h:∀w',RowKit.Hid (w'.heap[g]? =some (.cells (cur.take off++cs++cur.drop (off+cs.length)).toArray t (0,0)))→RowKit.Below B w0 w'→Hid (w'.heap.size=w.heap.size)→K (a.put o.dst (goInt (Nat.min sLen dLen))) w'):
  if Region.wanted o (yielded ops a.tmps)=true then Oper.wp P o a w K Q else E:=by
 have hw:Region.wanted o (yielded ops a.tmps)=true:=by simp[Region.wanted,hgd]
 rw[if_pos hw];have hrun:=run_copyK (P:=P) w dT sT o.type elem g off dLen dCap k ad sLen sCap cur.toArray t cs hu hsz hg hn hsrc (by simpa using hfit) h1;unfold Oper.wp;simp[execOp,ho,resolve,invoke,builtin,hd,hs,hrun,Result.andThen];exact h _ (show _=_ by simpa using setRow_heap w g _ _ t _ hg) (below_setRow hb hBg _) (show _=_ by simp[World.setRow])
end
theorem u_rs:Tryz.prog.underlying 36=some (.slice 30):=by kernel_rfl
def InsP (os zs:List Value)(i n:Nat)(w:World)(e:Ending)(w':World):Prop:=∃(c:Nat) (sp:List Value),n+1≤c∧e= .returned (.slice (some ⟨w.heap.size,0,none⟩) (n+1) c)∧
 w'.heap[w.heap.size]? =some (.cells (os.take (i*3)++zs++os.drop (i*3)++sp).toArray 30 (0,0))∧Below w.heap.size w w'∧w'.heap.size=w.heap.size+1∧∀x∈sp,x∈os∨x∈zs∨∀q:Int,x≠ .int .u32 q
theorem ins_raw {b i n g o cg:Nat}{os zs:List Value}{w:World}(hi:i<n)(hn:n≤2000)(hol:os.length=n*3)(hcell:∀j u,os[j]? =some u→w.cell? ⟨b,j,none⟩=some u)(hzl:zs.length=3)(hzc:∀j u,zs[j]? =some u→w.cell? ⟨g,o+j,none⟩=some u)
  (h1:∀u∈os,u.oneCell'=true) (h2:∀u∈zs,u.oneCell'=true):
  Calls Tryz.prog 63 #[.slice (some ⟨b,0,none⟩) n n,.int .i64 (i:Nat),.slice (some ⟨g,o,none⟩) 1 cg] w fun e w'=>InsP os zs i n w e w':=by
 have c1:¬(i=n):=by omega
 obtain⟨ti,z,hti,hzz,_,hsz,hby,hzs,hzu⟩:=appOk_ok (P:=Tryz.prog) (e:=30) (k:=3) (by kernel_rfl);have hold:(Builtin.firstCells ti.size i (.slice (some ⟨b,0,none⟩) i n)).run Tryz.prog w.drew= .ok (os.take (i*3)).toArray w.drew:=by
  refine run_firstCells_some _ _ _ _ _ _ _ (by rw[hsz,List.length_take];omega) fun j v hj=> ?_;rw[Addr.add_lit,Nat.zero_add];rw[List.getElem?_take]at hj;split at hj
  ·exact hcell j v hj
  ·cases hj
 have hap:∀ty,∃C,n+1≤C∧(Builtin.append_ #[36,3] ty #[.slice (some ⟨b,0,none⟩) i n,.int .i64 ((n:Int)+1-i)]).run Tryz.prog w= .ok (.slice (some ⟨w.heap.size,0,none⟩) (n+1) C) (w.drew.alloc (.cells ((os.take (i*3)).toArray++Builtin.zeroCells z.cells (n+1-i)++Builtin.zeroCells z.cells (C-(n+1))) 30)):=fun ty=>by
  have hr:=Lib.run_append_grow_zeros (P:=Tryz.prog) w 36 3 ty 30 ti z .i64 .i64 u_rs (by kernel_rfl) hti hzz (some ⟨b,0,none⟩) i n (os.take (i*3)) hold (n+1-i) (by omega) (by omega) (by omega) (by omega) (by have:=Nat.mul_le_mul (show n+1-i≤3000 by omega) hby;omega) (by
   have h3:=nextslicecap_le (need:=i+(n+1-i)) (old:=n) (by omega);have:=Nat.mul_le_mul (show Builtin.nextslicecap (i+(n+1-i)) n≤6000 by omega) hby;omega)
  have e1:((n:Int)+1-i)=((n+1-i:Nat):Int):=by omega
  rw[e1];rw[show i+(n+1-i)=n+1 by omega]at hr;exact⟨_,grownCap_ge w (n+1) n 30,hr⟩
 obtain⟨C,hC,hap⟩:=hap 36;obtain⟨W1,hW1⟩:∃W1,W1=w.drew.alloc (.cells ((os.take (i*3)).toArray++Builtin.zeroCells z.cells (n+1-i)++Builtin.zeroCells z.cells (C-(n+1))) 30):=⟨_,rfl⟩;rw[←hW1]at hap;obtain⟨cur,hcur⟩:∃cur:List Value,cur=os.take (i*3)++(Builtin.zeroCells z.cells (n+1-i)).toList++(Builtin.zeroCells z.cells (C-(n+1))).toList:=⟨_,rfl⟩;have hcl:cur.length=C*3:=by rw[hcur];simp[size_zeroCells,hzs,List.length_take];omega
 have f1:Hid (W1.heap[w.heap.size]? =some (.cells cur.toArray 30 (0,0))):=by
  have e1:cur.toArray=(os.take (i*3)).toArray++Builtin.zeroCells z.cells (n+1-i)++Builtin.zeroCells z.cells (C-(n+1)):=by rw[hcur];apply Array.ext';simp
  rw[e1,hW1];exact heap_alloc_new w.drew _
 have f2:Below w.heap.size w W1:=by rw[hW1];exact⟨rfl,rfl,rfl,by simp,fun k hk=>Below.heap_alloc _ _ _ hk⟩
 have f3:Hid (W1.heap.size=w.heap.size+1):=by rw[hW1];show(w.drew.heap.push _).size=_;simp
 have f4:Hid (os.take (i*3)=cur.take (i*3)):=by
  show _=_;rw[hcur,List.append_assoc,List.take_append_of_le_length (by simp;omega),List.take_take,Nat.min_self]
 have hbl:∀j u,os[j]? =some u→b<w.heap.size:=fun j u hj=>World.block_lt_of_cell? _ _ (hcell j u hj);have hgl:∀j u,zs[j]? =some u→g<w.heap.size:=fun j u hj=>World.block_lt_of_cell? _ _ (hzc j u hj);have hsz':(Tryz.prog.info? 30).map (·.size)=some 3:=by rw[hti];exact congrArg some hsz
 have c2:¬(C=i+1):=by omega
 have c3:i+1≤C:=by omega
 have c4:i≤C:=by omega
 have hcm:Hid (∀x∈cur,x∈os∨∀q:Int,x≠ .int .u32 q):=fun x hx=>by
  rw[hcur]at hx
  have hz:∀m,x∈(Builtin.zeroCells z.cells m).toList→∀q:Int,x≠ .int .u32 q:=fun m hm=>by
   obtain⟨q,hq⟩:=List.mem_iff_getElem?.1 hm;exact zeroCells_u32 (by omega) hzu q x (by simpa using hq)
  rcases List.mem_append.1 hx with h3|h3
  ·rcases List.mem_append.1 h3 with h4|h4
   ·exact .inl (List.mem_of_mem_take h4)
   ·exact .inr (hz _ h4)
  ·exact .inr (hz _ h3)
 clear hW1 hold hcur
 have q1:Hid (∀j u,zs[j]? =some u→W1.cell? ((⟨g,o,none⟩:Addr).add j)=some u):=fun j u hj=>by
  rw[Addr.add_lit,World.cell?_of_block (a:=⟨g,o+j,none⟩) (f2.block g (hgl j u hj))];exact hzc j u hj
 have q2:Hid (∀W,Below w.heap.size w W→∀j u,(os.drop (i*3))[j]? =some u→W.cell? ((⟨b,i*3,none⟩:Addr).add j)=some u):=fun W hW j u hj=>by
  rw[List.getElem?_drop]at hj;rw[Addr.add_lit,World.cell?_of_block (a:=⟨b,i*3+j,none⟩) (hW.block b (hbl _ u hj))];exact hcell _ u hj
 clear hcell hzc hbl hgl;have hmin:Nat.min 1 (n+1-i)=1:=Nat.min_eq_left (by omega)
 obtain⟨W2,hc1,g2,b2,s2⟩:∃W2,(∀ty,(Builtin.copy_ #[36,36] ty #[.slice (some ⟨w.heap.size,i*3,none⟩) (n+1-i) (C-i),.slice (some ⟨g,o,none⟩) 1 cg]).run Tryz.prog W1= .ok (goInt 1) W2)∧
   Hid (W2.heap[w.heap.size]? =some (.cells (cur.take (i*3)++zs++cur.drop (i*3+zs.length)).toArray 30 (0,0)))∧Below w.heap.size w W2∧Hid (W2.heap.size=w.heap.size+1):=by
  have hrun:=fun ty=>run_copyK (P:=Tryz.prog) W1 36 36 ty 30 w.heap.size (i*3) (n+1-i) (C-i) 3 ⟨g,o,none⟩ 1 cg cur.toArray 30 zs u_rs hsz' f1.out (by rw[hzl,hmin]) q1.out (by simp;omega) h2;rw[hmin]at hrun;exact⟨_,fun ty=>hrun ty,(show _=_ by simpa using setRow_heap W1 w.heap.size _ _ _ _ f1.out),below_setRow f2 (lR_ _) _,(show _=_ by simp[World.setRow];exact f3.out)⟩
 clear q1 f1
 go_enter Tryz.func63,Tryz.ntmps63
 go_wp2_with (first
  |(at_builtin;refine Lib.wpList_append_run _ rfl _ _ _ _ rfl _ _ rfl rfl _ _ hap ?_))
 have b2':Below w.heap.size w W2.drew:=⟨b2.1,b2.2,b2.3,b2.4,b2.5⟩;have hdl:(os.drop (i*3)).length=(n-i)*3:=by rw[List.length_drop,Nat.sub_mul];omega
 have hmin2:Nat.min (n-i) (n-i)=n-i:=Nat.min_self _;have cw:IntKind.i64.wrap ((i:Int)+1)=((i+1:Nat):Int):=by rw[wr64 (by omega) (by omega)];omega
 have c5:((i+1:Nat):Int)≤(n:Int)+1:=by omega
 have c6:((i+1:Nat):Int).toNat=i+1:=Int.toNat_natCast _;have c7:(0:Int)≤(i:Int)+1:=by omega
 have c8:i≤n:=by omega
 go_region_law (refine step_copyK rfl (.tmp 50) (.tmp 53) _ _ rfl 30 u_rs 3 hsz' w.heap.size ((i+1)*3) (n-i) (C-(i+1)) ⟨b,i*3,none⟩ (n-i) (n-i) (by simp[Act.eval,Act.put]) (by simp[Act.eval,Act.put];intro hh;omega) (cur.take (i*3)++zs++cur.drop (i*3+zs.length)) 30 g2.out (os.drop (i*3)) (by rw[hdl,hmin2]) (q2.out _ b2') (by simp;omega) (fun u hu=>h1 u (List.mem_of_mem_drop hu)) w.heap.size w b2' (lR_ _) ?_;intro W3 g3 b3 s3)
 have e2:(cur.take (i*3)++zs++cur.drop (i*3+zs.length)).take ((i+1)*3)=os.take (i*3)++zs:=by
  rw[List.take_append_of_le_length (by simp;omega),List.take_of_length_le (by simp;omega),f4.out]
 have g4:Hid (W3.heap[w.heap.size]? =some (.cells (os.take (i*3)++zs++os.drop (i*3)++(cur.take (i*3)++zs++cur.drop (i*3+zs.length)).drop ((i+1)*3+(os.drop (i*3)).length)).toArray 30 (0,0))):=by
  have:=g3.out;rw[e2]at this;exact this
 have s4:Hid (W3.heap.size=w.heap.size+1):=Eq.trans s3.out s2.out
 have hsp:Hid (∀x∈(cur.take (i*3)++zs++cur.drop (i*3+zs.length)).drop ((i+1)*3+(os.drop (i*3)).length),x∈os∨x∈zs∨∀q:Int,x≠ .int .u32 q):=fun x hx=>by
  have hx:=List.mem_of_mem_drop hx;rcases List.mem_append.1 hx with h3|h3
  ·rcases List.mem_append.1 h3 with h4|h4
   ·exact(hcm.out x (List.mem_of_mem_take h4)).elim .inl fun h=> .inr (.inr h)
   ·exact .inr (.inl h4)
  ·exact(hcm.out x (List.mem_of_mem_drop h3)).elim .inl fun h=> .inr (.inr h)
 clear e2 g3 s3;go_wp2
 all_goals (go_ret;unfold InsP;exact⟨C,_,hC,rfl,g4.out,b3,s4.out,hsp.out⟩)
theorem tQ_rows (l:List Rat):∀row∈tQ l,row.length=3:=fun row hr=>by
 obtain⟨q,_,rfl⟩:=List.mem_map.1 hr;rfl
theorem flat3 {rows:List (List D)}(h:∀row∈rows,row.length=3):rows.flatten.length=rows.length*3:=by
 induction rows with
 |nil=>rfl
 |cons x xs ih=>rw[List.flatten_cons,List.length_append,ih fun r hr=>h r (by simp[hr]),h x (by simp),List.length_cons];omega
theorem tk_app {α:Type}{A B:List α}{k:Nat}(h:A.length=k):(A++B).take k=A∧(A++B).drop k=B:=by subst h;simp
theorem tQ_ins (l:List Rat)(i:Nat)(c:Rat):(tQ (insC l i c)).flatten=(tQ l).flatten.take (i*3)++ratD c++(tQ l).flatten.drop (i*3):=by
 have e:tQ l=(tQ l).take i++(tQ l).drop i:=(List.take_append_drop i _).symm;unfold insC;rw[tQ,List.map_append,List.map_cons,List.flatten_append,List.flatten_cons];have e1:(l.take i).map (fun q=>ratD q)=(tQ l).take i:=by rw[tQ,List.map_take]
 have e2:(l.drop i).map (fun q=>ratD q)=(tQ l).drop i:=by rw[tQ,List.map_drop]
 rw[e1,e2]
 by_cases hi:i≤(tQ l).length
 ·have hl:((tQ l).take i).flatten.length=i*3:=by rw[flat3 fun r hr=>tQ_rows l r (List.mem_of_mem_take hr),List.length_take,Nat.min_eq_left hi]
  have e3:(tQ l).flatten=((tQ l).take i).flatten++((tQ l).drop i).flatten:=by rw[←List.flatten_append,List.take_append_drop]
  rw[e3,(tk_app hl).1,(tk_app hl).2,List.append_assoc]
 ·have hl:(tQ l).flatten.length=(tQ l).length*3:=flat3 (tQ_rows l);rw[List.take_of_length_le (by omega),List.drop_of_length_le (by omega),List.take_of_length_le (by rw[hl];omega),List.drop_of_length_le (by rw[hl];omega)];simp
theorem ly_insert {o:List (Sum (Nat×Nat×Bool) D)}{ar:List (List (List D))}{a n i:Nat}{rows:List (List D)}{l:List Rat}{c:Rat}(har:ar[a]? =some rows)(hl:Rw' rows l)(hn:l.length=n)(hi:i<n)(hb:n≤2000):
  LX Tryz.prog 63 [.a (.row 0 a n true),vl (.int .i64 (i:Nat)),.a (.d (.sl 3 [ratD c]))] [ttH 0 o ar] fun v H=>v= .a (.row 0 ar.length (n+1) false)∧H=[ttH 0 o (ar++[tQ (insC l i c)])]:=by
 refine⟨_,_,⟨rfl,rfl⟩,fun γ M w rs hr ha=> ?_⟩
 match rs,ha with
 |[v0,v1,v2],⟨a0,a1,a2,_⟩=>
 obtain rfl:v1= .int .i64 (i:Nat):=lit_inv a1;have hkey:look [ttH 0 o ar] 0=some (ttH 0 o ar).2:=rfl;have hent:=hr.ent 0 _ hkey;have a0:RdA γ (look [ttH 0 o ar]) M w (.row 0 a n true) v0:=a0;have hf:∃bb,v0= .slice (some ⟨bb,0,none⟩) n n:=by
  obtain⟨_,⟨bb,cc,_,e1,_,e2⟩,_⟩:=a0;exact⟨bb,by rw[e1,e2 rfl]⟩
 obtain⟨hd,ps,b,c',q1,q2,q3,q4,q5,q6⟩:=row_block hent a0 hkey har;obtain⟨bb,hbb⟩:=hf;have hbb2:v0= .slice (some ⟨b,0,none⟩) n n:=by
  rw[q4]at hbb ⊢;injection hbb with e1 e2 e3;rw[e3]
 clear hbb q4;subst hbb2;obtain⟨hd2,ps2,y1,y2,y3,y4,y5⟩:=id hent;have hps:ps2[a]? =some b:=by
  have h1:rowT (γ 0) a= .pointer (some ⟨b,0,none⟩):=by rw[q1];exact rowT_at q3
  have hlt:a<ps2.length:=by have:=(List.getElem?_eq_some_iff.1 har).1;omega
  rw[y1,rowT_at (List.getElem?_eq_getElem hlt)]at h1;injection h1 with h1;injection h1 with h1;injection h1 with h1;rw[List.getElem?_eq_getElem hlt,h1]
 obtain⟨vs,sp,m1,m2,m3,m4⟩:=y5 a b rows hps har;have hvl:vs.length=rows.length*3:=by rw[←m3.len,flat3 m2]
 have hnr:n≤rows.length:=by rw[←hn];exact hl.2
 have hos:(vs.take (n*3)).length=n*3:=by rw[List.length_take];omega
 have hfl:(tQ l).flatten=rows.flatten.take (n*3):=by
  rw[←hl.1,hn];have e3:rows.flatten=(rows.take n).flatten++(rows.drop n).flatten:=by rw[←List.flatten_append,List.take_append_drop]
  have h5:(rows.take n).flatten.length=n*3:=by rw[flat3 fun r hr=>m2 r (List.mem_of_mem_take hr),List.length_take,Nat.min_eq_left hnr]
  rw[e3,(tk_app h5).1]
 have hrd:All2 (RdD M w) (tQ l).flatten (vs.take (n*3)):=by rw[hfl];exact All2.take _ m3
 have hMb:∀j,M b j:=fun j=>hr.own 0 b j (by unfold Owns;rw[hkey];show ib (γ 0) b;rw[q1];exact ib_tt.2 (.inr (mG_ q3)))
 have hcell:∀j u,(vs.take (n*3))[j]? =some u→w.cell? ⟨b,j,none⟩=some u:=fun j u hj=>by
  rw[List.getElem?_take]at hj;split at hj
  ·simp[World.cell?,m1,List.getElem?_append_left (List.getElem?_eq_some_iff.1 hj).1,hj]
  ·cases hj
 -- what is put in
 obtain⟨ad,m,cg,hv2⟩:∃ad m cg,v2= .slice ad m cg:=by
  rcases rdD_slice a2 with⟨_,e⟩|h5
  ·cases e
  ·exact h5
 subst hv2;obtain⟨z1,z2,z3,z4,zs,z5,z6,z7,z8⟩:=sl_cells a2 (by decide);have hm:m=1:=by rw[←z1];rfl
 subst hm;obtain⟨g,og,rfl,z9⟩:=z7 (by decide);have hzr:All2 (RdD M w) (ratD c) zs:=by
  refine All2.of_get (by rw[z5];rfl) fun j x y hx hy=> ?_;obtain⟨u,u1,u2⟩:=z8 0 (ratD c) j x rfl hx;rw[Nat.zero_mul,Nat.zero_add,hy]at u1;injection u1 with u1;subst u1;exact u2
 refine cM (ins_raw (zs:=zs) hi hb hos hcell (by rw[z5]) (fun j u hj=>(z9 j u hj).2) (fun u hu=>m4 u (List.mem_of_mem_take hu)) z6) ?_;rintro e w' ⟨C,sp2,p1,rfl,p2,p3,p4,p5⟩
 -- the world as one that has a new block
 obtain⟨w1,hw1⟩:∃w1:World,w1={w' with heap:=w.heap}:=⟨_,rfl⟩;obtain⟨cs,hcs⟩:∃cs:List Value,cs=(vs.take (n*3)).take (i*3)++zs++(vs.take (n*3)).drop (i*3):=⟨_,rfl⟩;rw[←hcs]at p2;have hw':w'=w1.alloc (.cells (cs++sp2).toArray 30):=by
  have hheap:w'.heap=w.heap.push (.cells (cs++sp2).toArray 30 (0,0)):=by
   refine Array.ext_getElem? fun j=> ?_;rw[Array.getElem?_push]
   by_cases hj:j=w.heap.size
   ·rw[if_pos hj,hj];exact p2
   ·rw[if_neg hj];rcases Nat.lt_or_ge j w.heap.size with h5|h5
    ·exact p3.block j h5
    ·rw[Array.getElem?_eq_none (by omega),Array.getElem?_eq_none (by omega)]
  rw[hw1];show w'={w' with heap:=w.heap.push (.cells (cs++sp2).toArray 30 (0,0))};rw[←hheap]
 have g0:w1.heap=w.heap:=by rw[hw1]
 have g1:w1.os=w.os:=by rw[hw1];exact p3.1
 have g2:w1.tape=w.tape:=by rw[hw1];exact p3.2
 have g3:w1.output=w.output:=by rw[hw1];exact p3.3
 clear hw1
 have hold:∀b,b<w.heap.size→(w1.alloc (.cells (cs++sp2).toArray 30)).heap[b]? =w.heap[b]?:=fun b hb=>by
  rw[Below.heap_alloc _ _ _ (by rw[g0];exact hb),g0]
 have hlt:∀b,ib (γ 0) b→b<w.heap.size:=fun b q=>blk_lt hr hkey rfl q;have hpsl:∀b∈ps2,b<w.heap.size:=fun b hb=>hlt b (by rw[y1];exact ib_tt.2 (.inr hb))
 have hu0:∀x∈vs.take (n*3),∀z:Int,x≠ .int .u32 z:=fun x hx z e1=>by
  obtain⟨j,hj⟩:=List.mem_iff_getElem?.1 hx;exact hr.u32 b j z (hMb j) (by rw[hcell j x hj,e1])
 have hu1:∀x∈zs,∀z:Int,x≠ .int .u32 z:=fun x hx=>by
  obtain⟨j,hj⟩:=List.mem_iff_getElem?.1 hx;have hlt:=(List.getElem?_eq_some_iff.1 hj).1;obtain⟨y,e1,e2⟩:=All2.get hzr (i:=j) (x:=(ratD c)[j]'(by rw[z5]at hlt;exact hlt)) (List.getElem?_eq_getElem _);rw[hj]at e1;injection e1 with e1;subst e1;refine plainD_u32 e2 ?_
  have:∀d∈ratD c,plainD d=true:=fun d hd=>by
   rcases List.mem_cons.1 hd with e|hd
   ·rw[e];rfl
   rcases List.mem_cons.1 hd with e|hd
   ·rw[e];rfl
   rcases List.mem_cons.1 hd with e|hd
   ·rw[e];rfl
   ·cases hd
  exact this _ (List.getElem_mem _)
 have hu2:∀x∈cs,∀z:Int,x≠ .int .u32 z:=fun x hx=>by
  rw[hcs]at hx;rcases List.mem_append.1 hx with h3|h3
  ·rcases List.mem_append.1 h3 with h4|h4
   ·exact hu0 x (List.mem_of_mem_take h4)
   ·exact hu1 x h4
  ·exact hu0 x (List.mem_of_mem_drop h3)
 obtain⟨r,st⟩:=grow_tt (o':=o) (ar':=ar++[tQ (insC l i c)]) (v':=ttV hd2 (ps2++[w.heap.size])) (w1:=w1) (cs:=(cs++sp2).toArray) (t:=30) hr hkey g0 g1 g2 g3 (fun b hb=>by
   rcases ib_tt.1 hb with h3|h3
   ·exact .inl (by rw[y1];exact ib_tt.2 (.inl h3))
   ·rcases List.mem_append.1 h3 with h4|h4
    ·exact .inl (by rw[y1];exact ib_tt.2 (.inr h4))
    ·rw[List.mem_singleton]at h4;exact .inr h4)
  ⟨rfl,rfl,rfl,lR_ _,by simp,fun x hx=>by rw[List.getD_eq_getElem?_getD,List.getD_eq_getElem?_getD,List.getElem?_append_left hx]⟩
  ⟨fun x hx=>by rw[y1];exact rowT_app (by omega),fun _=>by rw[y1];rfl⟩ (fun j x hj=>by
   have hj':(cs++sp2)[j]? =some x:=by simpa using hj
   rcases List.mem_append.1 (mG_ hj')with h3|h3
   ·exact hu2 x h3
   ·rcases p5 x h3 with h4|h4|h4
    ·exact hu0 x h4
    ·exact hu1 x h4
    ·exact h4) fun st=>by
  refine⟨hd2,ps2++[w.heap.size],upd_same,by simp[y2],List.nodup_append.2 ⟨y3,by simp,fun x hx y hy=>by rw[List.mem_singleton]at hy;have:=hpsl x hx;omega⟩,?_,fun x b rows hx hrx=> ?_⟩
  ·rcases y4 with y4|⟨g2,c,os,sp2,e2,e3,e4,e5,e6,e7⟩
   ·exact .inl y4
   ·have hg2:=lt_of_block e6;refine .inr ⟨g2,c,os,sp2,e2,e3,e4,fun hm=> ?_,by rw[hold g2 hg2];exact e6,All2.imp (fun _ _=>RdA.stp st) e7⟩;rcases List.mem_append.1 hm with hm|hm
    ·exact e5 hm
    ·rw[List.mem_singleton]at hm;omega
  ·by_cases hxl:x<ps2.length
   ·rw[List.getElem?_append_left hxl]at hx;rw[List.getElem?_append_left (by omega)]at hrx;obtain⟨vs2,sp2,m1,m2,m3,m4⟩:=y5 x b rows hx hrx;exact⟨vs2,sp2,by rw[hold b (hpsl b (mG_ hx))];exact m1,m2,All2.imp (fun _ _=>RdD.fx st.fx) m3,m4⟩
   ·have hxe:x=ps2.length:=by
     have:=(List.getElem?_eq_some_iff.1 hx).1;simp at this;omega
    subst hxe;rw[List.getElem?_append_right (lR_ _)]at hx;simp at hx;subst hx;rw[List.getElem?_append_right (by omega)]at hrx;simp[y2]at hrx;subst hrx;refine⟨cs,sp2,by have:=heap_alloc_new w1 (.cells (cs++sp2).toArray 30);rwa [g0]at this,tQ_rows _,All2.imp (fun _ _=>RdD.fx st.fx) ?_,fun v hv=> ?_⟩
    ·rw[tQ_ins,hcs];exact All2.app (All2.app (All2.take _ hrd) hzr) (All2.drop _ hrd)
    ·rw[hcs]at hv;rcases List.mem_append.1 hv with h3|h3
     ·rcases List.mem_append.1 h3 with h4|h4
      ·exact m4 v (List.mem_of_mem_take (List.mem_of_mem_take h4))
      ·exact z6 v h4
     ·exact m4 v (List.mem_of_mem_take (List.mem_of_mem_drop h3))
 rw[←hw']at r st;have eH:look [ttH 0 o (ar++[tQ (insC l i c)])]=over [(0,.tt 36 30 3 o (ar++[tQ (insC l i c)]))] (look [ttH 0 o ar]):=by
  funext k;unfold over;simp only[look];split<;>simp_all
 refine⟨_,_,_,rfl,by rw[eH];exact r,?_,by rw[eH];exact st⟩;rw[eH];refine⟨by rw[over_same];rfl,⟨w.heap.size,C,by rw[upd_same];exact rowT_at (by rw[←y2,List.getElem?_append_right (lR_ _)];simp),rfl,p1,fun h=>by cases h⟩,fun f0 f1 k1 o1 ar1 h5=> ?_⟩;rw[over_same]at h5;injection h5 with h5;injection h5 with q1 q2 q3 q4 q5;subst q5;refine⟨by simp,?_⟩;rw[List.getD_eq_getElem?_getD,List.getElem?_append_right (lR_ _)];simp[tQ_len,insC_len (show i≤l.length by omega),hn]
theorem ly_nz {q:Rat}(h:Sz q):LV Tryz.prog 67 [ratV q] (vl (.bool (decide (q≠0)))):=by
 refine LX_run (m:=0) (n0:=0) mix Tryz.func67 rfl rfl rfl rfl ?_;conv=>whnf
 refine .c (lx_rsign (.c h)) ?_;conv=>whnf
 rw[sg_ne0];refine bs (fun h1=> ?_) (fun h1=> ?_)
 ·conv=>whnf
  exact .q ⟨by rw[h1],rfl⟩
 ·conv=>whnf
  exact .q ⟨by rw[h1],rfl⟩
def nzS (l:List Rat):Option Nat:=(List.range l.length).find? fun j=>decide (gq l j≠0)
theorem nz_at {l:List Rat}{r:Nat}(hr:r<l.length)(h2:gq l r≠0)(hb:∀j,j<r→gq l j=0):nzS l=some r:=by
 unfold nzS;rw[List.find?_range_eq_some];exact⟨decide_eq_true h2,List.mem_range.2 hr,fun j hj=>by rw[decide_eq_false (fun k:gq l j≠0=>k (hb j hj))];rfl⟩
theorem nz_some {l:List Rat}{r:Nat}(h:nzS l=some r):r<l.length∧gq l r≠0:=by
 unfold nzS at h;rw[List.find?_range_eq_some]at h;exact⟨List.mem_range.1 h.2.1,of_decide_eq_true h.1⟩
theorem nz_ex {l:List Rat}{e:Nat}(he:e<l.length)(h:gq l e≠0):∃r,nzS l=some r:=by
 cases hq:nzS l with
 |some r=>exact⟨r,rfl⟩
 |none=>
  exfalso;unfold nzS at hq;rw[List.find?_eq_none]at hq;exact hq e (List.mem_range.2 he) (decide_eq_true h)
theorem ly_idxf {o:List (Sum (Nat×Nat×Bool) D)}{ar:List (List (List D))}{a n:Nat}{f:Bool}{rows:List (List D)}{l:List Rat}(har:ar[a]? =some rows)(hR:Rw' rows l)(hn:l.length=n)(hl:n≤1000000)(hq:∀j,j<n→Bt 1000000 (gq l j)):
  LX Tryz.prog 66 [.a (.row 0 a n f),.a (.fn (.func 67) [] [])] [ttH 0 o ar] fun v H=>v=vl (.int .i64 (bI (nzS l)))∧H=[ttH 0 o ar]:=by
 subst hn;refine LX_run (m:=1) (n0:=1) mix Tryz.func66 rfl rfl rfl rfl ?_;conv=>whnf
 refine .mk Nat (fun i=>⟨[(8,vl (.int .i64 (i:Nat))),(7,vl (.int .i64 (l.length:Nat))),(1,.a (.fn (.func 67) [] [])),(0,.a (.row 0 a l.length f))],[ttH 0 o ar],1⟩) (fun i=>i≤l.length∧∀j,j<i→gq l j=0) (fun i=>l.length-i) 0
  Wk.go ⟨zL_ _,fun j hj=>by omega⟩ fun i hi=> ?_
 obtain⟨hi,hb⟩:=hi;conv=>whnf
 refine bs (fun h1=> ?_) (fun h1=> ?_)
 ·conv=>whnf
  have h1':i<l.length:=by have:=of_decide_eq_true h1;omega
  refine .mk i rfl h1' ?_;conv=>whnf
  refine .mk rows i 0 (ratD (gq l i)) har rfl (hR.at h1') ?_;conv=>whnf
  refine .c (ly_nz ((hq i h1').sz (by omega))) ?_;conv=>whnf
  refine bs (fun h2=> ?_) (fun h2=> ?_)
  ·conv=>whnf
   have h2':=of_decide_eq_true h2;rw[nz_at h1' h2' hb];exact⟨_,_,⟨rfl,rfl⟩,vR_ _,rfl,⟨⟨_,rfl,wke_refl _,rfl⟩,trivial⟩,rfl⟩
  ·conv=>whnf
   have h2':gq l i=0:=by have:=of_decide_eq_false h2;exact Classical.not_not.1 this
   refine⟨i+1,Wk.go,⟨h1',fun j hj=> ?_⟩,by omega⟩;rcases Nat.lt_or_ge j i with h3|h3
   ·exact hb j h3
   ·rw[show j=i by omega];exact h2'
 ·conv=>whnf
  have h1':i=l.length:=by have:=of_decide_eq_false h1;omega
  have e:nzS l=none:=by
   cases hz:nzS l with
   |none=>rfl
   |some r=>obtain⟨q1,q2⟩:=nz_some hz;exact absurd (hb r (by omega)) q2
  rw[e];exact⟨_,_,⟨rfl,rfl⟩,vR_ _,rfl,⟨⟨_,rfl,wke_refl _,rfl⟩,trivial⟩,rfl⟩
section
variable {P:Program}
theorem run_appRoomK (w:World)(t ty e:TypeId)(i:TypeInfo)(k:Nat)(hu:P.underlying t=some (.slice e))(hi:P.info? e=some i)(hk:i.size=k)(b n cap m c:Nat)(ad:Addr)(news cur:List Value)(et:TypeId)
  (hg:w.heap[b]? =some (.cells cur.toArray et (0,0))) (hn:news.length=m*k) (hsrc:∀j u,news[j]? =some u→w.cell? (ad.add j)=some u) (h1:∀u∈news,u.oneCell'=true) (hroom:n+m≤cap) (hfit:n*k+news.length≤cur.length):
  (Builtin.append_ #[t,t] ty #[.slice (some ⟨b,0,none⟩) n cap,.slice (some ad) m c]).run P w= .ok (.slice (some ⟨b,0,none⟩) (n+m) cap) (w.setRow b (cur.take (n*k)++news++cur.drop (n*k+news.length)).toArray):=by
 have hl:=run_loadCells_list (P:=P) w ad news hsrc;have hst:=run_storeCells_at P b (n*k) et news 0 cur.toArray w hg (by simpa using hfit) h1;have hadd:(⟨b,0,none⟩:Addr).add (n*k)=⟨b,n*k,none⟩:=by rw[Addr.add_lit,Nat.zero_add]
 subst hk;simp[Builtin.append_,run_underlying hu,Builtin.lenOf,Builtin.firstCells,sizeOf,typeInfo,hi,←hn,hl,hroom,hadd,hst]
theorem run_clearK (w:World)(t ty e:TypeId)(z:Value)(k:Nat)(hu:P.underlying t=some (.slice e))(hv:∀w,(zeroValue e).run P w= .ok z w)(b o n c:Nat)(hn:0<n)(cur:List Value)(et:TypeId)(hg:w.heap[b]? =some (.cells cur.toArray et (0,0)))
  (h1:∀u∈(Builtin.zeroCells z.cells n).toList,u.oneCell'=true) (hfit:o+(Builtin.zeroCells z.cells n).size≤cur.length):
  (Builtin.clear_ #[t] ty #[.slice (some ⟨b,o,none⟩) n c]).run P w= .ok (.tuple #[]) (w.setRow b (cur.take o++(Builtin.zeroCells z.cells n).toList++cur.drop (o+(Builtin.zeroCells z.cells n).size)).toArray):=by
 have hst:=run_storeCells_at P b o et (Builtin.zeroCells z.cells n).toList 0 cur.toArray w hg (by simpa using hfit) h1;obtain⟨m,rfl⟩:∃m,n=m+1:=⟨n-1,by omega⟩;simp only[Nat.add_zero,Array.length_toList]at hst;simp[Builtin.clear_,run_underlying hu,hv,hst]
theorem step_appK {ops:Array Oper}{o:Oper}{a:Act}{w:World}{K:Act→World→Prop}{Q:Exit→Act→World→Prop}{E:Prop}(hgd:o.guard=none)(s x:Operand)(t:TypeId)
  (ho:o.op= .call {callee:= .builtin .append,args:= #[s,x],argTypes:= #[t,t]}) (vs vx:Value) (hs:a.eval s=vs) (hx:a.eval x=vx) (r:Value) (w':World)
  (hrun:∀ty,(Builtin.append_ #[t,t] ty #[vs,vx]).run P w= .ok r w') (h:K (a.put o.dst r) w'):if Region.wanted o (yielded ops a.tmps)=true then Oper.wp P o a w K Q else E:=by
 have hw:Region.wanted o (yielded ops a.tmps)=true:=by simp[Region.wanted,hgd]
 rw[if_pos hw];unfold Oper.wp;simp[execOp,ho,resolve,invoke,builtin,hs,hx,hrun,Result.andThen];exact h
end
def DelP (cur zz:List Value)(i n b cap:Nat)(et:TypeId)(w:World)(e:Ending)(w':World):Prop:=e= .returned (.slice (some ⟨b,0,none⟩) (n-1) cap)∧
 w'.heap[b]? =some (.cells (cur.take (i*3)++(cur.take (n*3)).drop ((i+1)*3)++zz++cur.drop (n*3)).toArray et (0,0))∧(∀g,g≠b→w'.heap[g]? =w.heap[g]?)∧w'.heap.size=w.heap.size∧w'.os=w.os∧w'.tape=w.tape∧w'.output=w.output
theorem del_raw {b i n cap:Nat}{cur:List Value}{w:World}{z:Value}(hz:∀w,(zeroValue 30).run Tryz.prog w= .ok z w)(hi:i+1<n)(hn:n≤2000)(hnc:n≤cap)(hg:w.heap[b]? =some (.cells cur.toArray 30 (0,0)))(hcl:n*3≤cur.length)
  (h1:∀u∈cur.take (n*3),u.oneCell'=true) (h2:∀u∈(Builtin.zeroCells z.cells 1).toList,u.oneCell'=true) (hz3:(Builtin.zeroCells z.cells 1).size=3):
  Calls Tryz.prog 69 #[.slice (some ⟨b,0,none⟩) n cap,.int .i64 (i:Nat),.int .i64 ((i+1:Nat):Int)] w fun e w'=>DelP cur (Builtin.zeroCells z.cells 1).toList i n b cap 30 w e w':=by
 obtain⟨m,rfl⟩:∃m,n=m+1:=⟨n-1,by omega⟩;obtain⟨ti,z',hti,hzz,_,hsz,hby,hzs,hzu⟩:=appOk_ok (P:=Tryz.prog) (e:=30) (k:=3) (by kernel_rfl);obtain⟨news,hnews⟩:∃news,news=(cur.take ((m+1)*3)).drop ((i+1)*3):=⟨_,rfl⟩;have hnl:news.length=(m-i)*3:=by rw[hnews,List.length_drop,List.length_take];omega
 have hsrc:∀j u,news[j]? =some u→w.drew.cell? ((⟨b,(i+1)*3,none⟩:Addr).add j)=some u:=fun j u hj=>by
  rw[hnews,List.getElem?_drop,List.getElem?_take]at hj;split at hj
  ·rw[Addr.add_lit];show w.cell? _=_;simp[World.cell?,hg,hj]
  ·cases hj
 have hn1:∀u∈news,u.oneCell'=true:=fun u hu=>by rw[hnews]at hu;exact h1 u (List.mem_of_mem_drop hu)
 obtain⟨W1,hap,g1,o1⟩:∃W1:World,(∀ty,(Builtin.append_ #[36,36] ty #[.slice (some ⟨b,0,none⟩) i cap,.slice (some ⟨b,(i+1)*3,none⟩) (m-i) (cap-(i+1))]).run Tryz.prog w.drew= .ok (.slice (some ⟨b,0,none⟩) m cap) W1)∧
   Hid (W1.heap[b]? =some (.cells (cur.take (i*3)++news++cur.drop (i*3+news.length)).toArray 30 (0,0)))∧Hid ((∀g,g≠b→W1.heap[g]? =w.heap[g]?)∧W1.heap.size=w.heap.size∧W1.os=w.os∧W1.tape=w.tape∧W1.output=w.output):=
  ⟨_,fun ty=>(by have:=run_appRoomK (P:=Tryz.prog) w.drew 36 ty 30 ti 3 u_rs hti hsz b i cap (m-i) (cap-(i+1)) _ news cur 30 hg hnl hsrc hn1 (by omega) (by rw[hnl];omega);rwa [show i+(m-i)=m by omega]at this),
   (show _=_ by simpa using setRow_heap w.drew b _ _ _ _ hg),(show _∧_ from⟨fun g hne=>setRow_other w.drew b g _ hne,by simp[World.setRow],rfl,rfl,rfl⟩)⟩
 clear hsrc;have hw1:IntKind.i64.wrap ((i:Int)+1)=((i+1:Nat):Int):=by rw[wr64 (by omega) (by omega)];omega
 have c1:i+1≤m+1:=by omega
 have c5:i≤m:=by omega
 have c6:((i+1:Nat):Int)=(i:Int)+1:=by omega
 have c2:i≤cap:=by omega
 have c3:¬(cap=i+1):=by omega
 have c4:i+1≤cap:=by omega
 have c7:m≤cap:=by omega
 have c10:(0:Int)≤(i:Int)+1:=by omega
 have c8:¬(cap=m):=by omega
 have c9:m+1≤cap:=hnc
 obtain⟨W2,hcle,g2,o2⟩:∃W2:World,(∀ty,(Builtin.clear_ #[36] ty #[.slice (some ⟨b,m*3,none⟩) 1 (cap-m)]).run Tryz.prog W1= .ok (.tuple #[]) W2)∧
   Hid (W2.heap[b]? =some (.cells ((cur.take (i*3)++news++cur.drop (i*3+news.length)).take (m*3)++(Builtin.zeroCells z.cells 1).toList++(cur.take (i*3)++news++cur.drop (i*3+news.length)).drop (m*3+(Builtin.zeroCells z.cells 1).size)).toArray 30 (0,0)))∧Hid ((∀g,g≠b→W2.heap[g]? =w.heap[g]?)∧W2.heap.size=w.heap.size∧W2.os=w.os∧W2.tape=w.tape∧W2.output=w.output):=by
  obtain⟨k1,k2,k3,k4,k5⟩:=o1.out
  exact⟨_,fun ty=>run_clearK (P:=Tryz.prog) W1 36 ty 30 z 3 u_rs hz b (m*3) 1 (cap-m) (by decide) _ 30 g1.out h2 (by simp;omega),(show _=_ by simpa using setRow_heap W1 b _ _ _ _ g1.out),
   (show _∧_ from⟨fun g hne=>(setRow_other W1 b g _ hne).trans (k1 g hne),by simpa [World.setRow]using k2,k3,k4,k5⟩)⟩
 clear hz
 go_enter Tryz.func69,Tryz.ntmps69
 go_wp2_with fail
 go_region_law (refine step_appK rfl (.tmp 22) (.tmp 25) _ rfl _ _ (by simp[Act.eval,Act.put]) (by simp[Act.eval,Act.put]) _ _ hap ?_)
 have hAl:(cur.take (i*3)++news).length=m*3:=by rw[List.length_append,List.length_take,hnl,Nat.min_eq_left (by omega)];omega
 have e1:(cur.take (i*3)++news++cur.drop (i*3+news.length)).take (m*3)=cur.take (i*3)++news:=(tk_app hAl).1;have e2:(cur.take (i*3)++news++cur.drop (i*3+news.length)).drop (m*3+(Builtin.zeroCells z.cells 1).size)=cur.drop ((m+1)*3):=by
  rw[←List.drop_drop,(tk_app hAl).2,List.drop_drop,hnl,hz3]
  congr 1
  omega
 have g3:Hid (W2.heap[b]? =some (.cells (cur.take (i*3)++(cur.take ((m+1)*3)).drop ((i+1)*3)++(Builtin.zeroCells z.cells 1).toList++cur.drop ((m+1)*3)).toArray 30 (0,0))):=by
  have:=g2.out;rw[e1,e2,hnews]at this;exact this
 clear e1 e2 hAl hnews hnl g1 g2;go_wp2
 all_goals (go_ret;unfold DelP;exact⟨rfl,g3.out,o2.out⟩)
theorem zc1 {zs:Array Value}:(Builtin.zeroCells zs 1).toList=zs.toList:=by
 refine List.ext_getElem (by simp[Builtin.zeroCells]) fun i h1 h2=> ?_;have h3:i<zs.size:=by simpa using h2
 simp[Builtin.zeroCells,Nat.mod_eq_of_lt h3,h3]
theorem tQ_del (l:List Rat)(i:Nat)(hi:i<l.length):(tQ (l.eraseIdx i)).flatten=(tQ l).flatten.take (i*3)++(tQ l).flatten.drop ((i+1)*3):=by
 rw[List.eraseIdx_eq_take_drop_succ,tQ,List.map_append,List.flatten_append];have e1:(l.take i).map (fun q=>ratD q)=(tQ l).take i:=by rw[tQ,List.map_take]
 have e2:(l.drop (i+1)).map (fun q=>ratD q)=(tQ l).drop (i+1):=by rw[tQ,List.map_drop]
 rw[e1,e2];have hl:∀j,j≤l.length→((tQ l).take j).flatten.length=j*3:=fun j hj=>by rw[flat3 fun r hr=>tQ_rows l r (List.mem_of_mem_take hr),List.length_take,tQ_len,Nat.min_eq_left hj]
 have e3:∀j,(tQ l).flatten=((tQ l).take j).flatten++((tQ l).drop j).flatten:=fun j=>by rw[←List.flatten_append,List.take_append_drop]
 congr 1
 ·rw[e3 i,(tk_app (hl i (by omega))).1]
 ·rw[e3 (i+1),(tk_app (hl (i+1) (by omega))).2]
theorem over_ttH {o o':List (Sum (Nat×Nat×Bool) D)}{ar ar':List (List (List D))}:look [ttH 0 o' ar']=over [(0,.tt 36 30 3 o' ar')] (look [ttH 0 o ar]):=by
 funext k;unfold over;simp only[look];split<;>simp_all
theorem ly_delete {o:List (Sum (Nat×Nat×Bool) D)}{ar:List (List (List D))}{a n i:Nat}{f:Bool}{rows:List (List D)}{l:List Rat}(har:ar[a]? =some rows)(hl:Rw' rows l)(hn:l.length=n)(hi:i+1<n)(hb:n≤2000):
  LX Tryz.prog 69 [.a (.row 0 a n f),vl (.int .i64 (i:Nat)),vl (.int .i64 ((i+1:Nat):Int))] [ttH 0 o ar] fun v H=>v= .a (.row 0 a (n-1) false)∧H=[ttH 0 o (ar.set a (tQ (l.eraseIdx i)++[ratD 0]++rows.drop n))]:=by
 refine⟨_,_,⟨rfl,rfl⟩,fun γ M w rs hr ha=> ?_⟩
 match rs,ha with
 |[v0,v1,v2],⟨a0,a1,a2,_⟩=>
 obtain rfl:v1= .int .i64 (i:Nat):=lit_inv a1;obtain rfl:v2= .int .i64 ((i+1:Nat):Int):=lit_inv a2;have hkey:look [ttH 0 o ar] 0=some (ttH 0 o ar).2:=rfl;have hent:=hr.ent 0 _ hkey;have a0:RdA γ (look [ttH 0 o ar]) M w (.row 0 a n f) v0:=a0;obtain⟨hd,ps,b,cap,q1,q2,q3,q4,q5,q6⟩:=row_block hent a0 hkey har;subst q4;obtain⟨hd2,ps2,y1,y2,y3,y4,y5⟩:=id hent;have hps:ps2[a]? =some b:=by
  have h1:rowT (γ 0) a= .pointer (some ⟨b,0,none⟩):=by rw[q1];exact rowT_at q3
  have hlt:a<ps2.length:=by have:=(List.getElem?_eq_some_iff.1 har).1;omega
  rw[y1,rowT_at (List.getElem?_eq_getElem hlt)]at h1;injection h1 with h1;injection h1 with h1;injection h1 with h1;rw[List.getElem?_eq_getElem hlt,h1]
 obtain⟨vs,sp,m1,m2,m3,m4⟩:=y5 a b rows hps har;have hvl:vs.length=rows.length*3:=by rw[←m3.len,flat3 m2]
 have hnr:n≤rows.length:=by rw[←hn];exact hl.2
 have e3:rows.flatten=(rows.take n).flatten++(rows.drop n).flatten:=by rw[←List.flatten_append,List.take_append_drop]
 have h5:(rows.take n).flatten.length=n*3:=by rw[flat3 fun r hr=>m2 r (List.mem_of_mem_take hr),List.length_take,Nat.min_eq_left hnr]
 have hfl:(tQ l).flatten=rows.flatten.take (n*3):=by rw[←hl.1,hn,e3,(tk_app h5).1]
 have hfd:(rows.drop n).flatten=rows.flatten.drop (n*3):=by rw[e3,(tk_app h5).2]
 have hrd:All2 (RdD M w) (tQ l).flatten (vs.take (n*3)):=by rw[hfl];exact All2.take _ m3
 have hib:ib (γ 0) b:=by rw[q1];exact ib_tt.2 (.inr (mG_ q3))
 have hMb:∀j,M b j:=fun j=>hr.own 0 b j (by unfold Owns;rw[hkey];exact hib);obtain⟨ti,z,g1,g2,g3⟩:=zeroT_ok (γ:=γ) (h:=look [ttH 0 o ar]) (M:=M) (w:=w) zb_ok (show zeroT Tryz.prog zb 30=some [.d (.lit (.bool false)),.d (.nat 0),.d (.nat 0)] by kernel_rfl);have hz:∀w,(zeroValue 30).run Tryz.prog w= .ok z w:=fun w=>by simp[zeroValue,typeInfo,g1,g2]
 have hzr:All2 (RdD M w) (ratD 0) z.cells.toList:=by rw[ratD_0];exact All2.unmap (f:=A.d) (R:=RdA γ (look [ttH 0 o ar]) M w) (xs:=[.lit (.bool false),.nat 0,.nat 0]) g3
 have hzl:z.cells.toList.length=3:=by rw[←hzr.len];rfl
 have hz1:∀u∈(Builtin.zeroCells z.cells 1).toList,u.oneCell'=true∧∀q:Int,u≠ .int .u32 q:=fun u hu=>by
  rw[zc1]at hu;obtain⟨j,hj⟩:=List.mem_iff_getElem?.1 hu;have hlt:=(List.getElem?_eq_some_iff.1 hj).1;obtain⟨y,e1,e2⟩:=All2.get hzr (i:=j) (x:=(ratD 0)[j]'(by rw[hzl]at hlt;exact hlt)) (List.getElem?_eq_getElem _);rw[hj]at e1;injection e1 with e1;subst e1
  have key:∀d∈ratD 0,plainD d=true∧oneA (.d d)=true:=fun d hd=>by
   rw[ratD_0]at hd;simp only[List.mem_cons,List.not_mem_nil,or_false]at hd;rcases hd with rfl|rfl|rfl<;>exact⟨rfl,rfl⟩
  obtain⟨k1,k2⟩:=key _ (List.getElem_mem (l:=ratD 0) (n:=j) (by rw[hzl]at hlt;exact hlt));exact⟨oneA_cell1 e2 k2,plainD_u32 e2 k1⟩
 have hcl:n*3≤(vs++sp).length:=by rw[List.length_append];omega
 have htk:∀j,j≤n*3→(vs++sp).take j=(vs.take (n*3)).take j:=fun j hj=>by rw[List.take_take,Nat.min_eq_left hj,List.take_append_of_le_length (by omega)]
 refine cM (del_raw (cur:=vs++sp) hz hi hb q5 m1 hcl (fun u hu=>by rw[htk _ (lR_ _)]at hu;exact m4 u (List.mem_of_mem_take (List.mem_of_mem_take hu))) (fun u hu=>(hz1 u hu).1) (by rw[←Array.length_toList,zc1,hzl])) ?_;rintro e w' ⟨rfl,p2,p3,p4,p5,p6,p7⟩;rw[zc1]at p2;obtain⟨vs',hvs⟩:∃vs',vs'=(vs.take (n*3)).take (i*3)++(vs.take (n*3)).drop ((i+1)*3)++z.cells.toList++vs.drop (n*3):=⟨_,rfl⟩;have p2':w'.heap[b]? =some (.cells (vs'++sp).toArray 30 (0,0)):=by
  rw[p2,hvs,htk (i*3) (by omega),htk (n*3) (lR_ _),List.take_take (i:=n*3),Nat.min_self,List.drop_append_of_le_length (by omega)];simp
 clear p2;have hrl:(tQ (l.eraseIdx i)++[ratD 0]++rows.drop n).length=rows.length:=by
  simp[tQ_len,List.length_eraseIdx,hn];rw[if_pos (by omega)];omega
 have hrk:∀row∈tQ (l.eraseIdx i)++[ratD 0]++rows.drop n,row.length=3:=fun row hrow=>by
  rcases List.mem_append.1 hrow with h3|h3
  ·rcases List.mem_append.1 h3 with h4|h4
   ·exact tQ_rows _ _ h4
   ·rw[List.mem_singleton]at h4;subst h4;rfl
  ·exact m2 row (List.mem_of_mem_drop h3)
 have hrf:All2 (RdD M w) (tQ (l.eraseIdx i)++[ratD 0]++rows.drop n).flatten vs':=by
  rw[List.flatten_append,List.flatten_append,tQ_del l i (by omega),hvs,hfd];refine All2.app (All2.app (All2.app (All2.take _ hrd) (All2.drop _ hrd)) ?_) (All2.drop _ m3);simpa using hzr
 have hu:∀x∈vs'++sp,∀q:Int,x≠ .int .u32 q:=fun x hx=>by
  have hold:x∈vs++sp→∀q:Int,x≠ .int .u32 q:=fun hm q e1=>by
   obtain⟨j,hj⟩:=List.mem_iff_getElem?.1 hm;refine hr.u32 b j q (hMb j) ?_;rw[←e1];simp only[World.cell?,m1];simpa using hj
  rcases List.mem_append.1 hx with h3|h3
  ·rw[hvs]at h3;rcases List.mem_append.1 h3 with h4|h4
   ·rcases List.mem_append.1 h4 with h6|h6
    ·rcases List.mem_append.1 h6 with h7|h7
     ·exact hold (List.mem_append_left _ (List.mem_of_mem_take (List.mem_of_mem_take h7)))
     ·exact hold (List.mem_append_left _ (List.mem_of_mem_take (List.mem_of_mem_drop h7)))
    ·exact(hz1 x (by rw[zc1];exact h6)).2
   ·exact hold (List.mem_append_left _ (List.mem_of_mem_drop h4))
  ·exact hold (List.mem_append_right _ h3)
 have ho1:∀v∈vs',v.oneCell'=true:=fun v hv=>by
  rw[hvs]at hv;rcases List.mem_append.1 hv with h4|h4
  ·rcases List.mem_append.1 h4 with h6|h6
   ·rcases List.mem_append.1 h6 with h7|h7
    ·exact m4 v (List.mem_of_mem_take (List.mem_of_mem_take h7))
    ·exact m4 v (List.mem_of_mem_take (List.mem_of_mem_drop h7))
   ·exact(hz1 v (by rw[zc1];exact h6)).1
  ·exact m4 v (List.mem_of_mem_drop h4)
 have hal:=(List.getElem?_eq_some_iff.1 har).1;obtain⟨r1,r2⟩:=set_tt (w':=w') (o':=o) (ar':=ar.set a (tQ (l.eraseIdx i)++[ratD 0]++rows.drop n)) hr hkey
  ⟨rfl,rfl,rfl,lR_ _,by simp,fun x hx=>set_len har hrl⟩ hib p3 p5 p6 p7 p4 (fun j q h6=>by
   simp only[World.cell?,p2']at h6;have h7:(vs'++sp)[j]? =some (.int .u32 q):=by simpa using h6
   exact hu _ (mG_ h7) q rfl) fun st=>by
  refine⟨hd2,ps2,y1,by simpa using y2,y3,?_,fun x bx rx hx hrx=> ?_⟩
  ·rcases y4 with y4|⟨g2,c,os,sp2,e2,e3,e4,e5,e6,e7⟩
   ·exact .inl y4
   ·have hne:g2≠b:=fun e=>e5 (e▸mG_ hps);exact .inr ⟨g2,c,os,sp2,e2,e3,e4,e5,by rw[p3 g2 hne];exact e6,All2.imp (fun _ _=>RdA.stp st) e7⟩
  ·by_cases hxa:x=a
   ·subst hxa;rw[hps]at hx;injection hx with hx;subst hx;rw[List.getElem?_set,if_pos rfl,if_pos hal]at hrx;injection hrx with hrx;subst hrx;exact⟨vs',sp,p2',hrk,All2.imp (fun _ _=>RdD.fx st.fx) hrf,ho1⟩
   ·rw[List.getElem?_set,if_neg (Ne.symm hxa)]at hrx;obtain⟨vs2,sp2,k1,k2,k3,k4⟩:=y5 x bx rx hx hrx
    have hne:bx≠b:=fun e=>hxa (by
     subst e;exact(List.getElem?_inj (List.getElem?_eq_some_iff.1 hx).1 y3).1 (hx.trans hps.symm))
    exact⟨vs2,sp2,by rw[p3 bx hne];exact k1,k2,All2.imp (fun _ _=>RdD.fx st.fx) k3,k4⟩
 have eH:look [ttH 0 o (ar.set a (tQ (l.eraseIdx i)++[ratD 0]++rows.drop n))]=over [(0,.tt 36 30 3 o (ar.set a (tQ (l.eraseIdx i)++[ratD 0]++rows.drop n)))] (look [ttH 0 o ar]):=by
  exact over_ttH
 refine⟨_,γ,M,rfl,by rw[eH];exact r1,?_,by rw[eH];exact r2⟩;rw[eH];refine⟨by rw[over_same];rfl,⟨b,cap,by rw[q1];exact rowT_at q3,rfl,by omega,fun h=>by cases h⟩,fun f0 f1 k1 o1 ar1 h6=> ?_⟩;rw[over_same]at h6;injection h6 with h6;injection h6 with t1 t2 t3 t4 t5;subst t5;refine⟨by simpa using hal,?_⟩;rw[set_len har hrl,getD_at har];omega
theorem u_is:Tryz.prog.underlying 37=some (.slice 3):=by kernel_rfl
def DelI (cur zz:List Value)(i n b cap:Nat)(et:TypeId)(w:World)(e:Ending)(w':World):Prop:=e= .returned (.slice (some ⟨b,0,none⟩) (n-1) cap)∧
 w'.heap[b]? =some (.cells (cur.take i++(cur.take n).drop (i+1)++zz++cur.drop n).toArray et (0,0))∧(∀g,g≠b→w'.heap[g]? =w.heap[g]?)∧w'.heap.size=w.heap.size∧w'.os=w.os∧w'.tape=w.tape∧w'.output=w.output
theorem deli_raw {b i n cap:Nat}{cur:List Value}{w:World}{z:Value}(hz:∀w,(zeroValue 3).run Tryz.prog w= .ok z w)(hi:i<n)(hn:n≤2000)(hnc:n≤cap)(hg:w.heap[b]? =some (.cells cur.toArray 3 (0,0)))(hcl:n≤cur.length)
  (h1:∀u∈cur.take n,u.oneCell'=true) (h2:∀u∈(Builtin.zeroCells z.cells 1).toList,u.oneCell'=true) (hz3:(Builtin.zeroCells z.cells 1).size=1):
  Calls Tryz.prog 68 #[.slice (some ⟨b,0,none⟩) n cap,.int .i64 (i:Nat),.int .i64 ((i+1:Nat):Int)] w fun e w'=>DelI cur (Builtin.zeroCells z.cells 1).toList i n b cap 3 w e w':=by
 obtain⟨m,rfl⟩:∃m,n=m+1:=⟨n-1,by omega⟩;obtain⟨ti,z',hti,hzz,_,hsz,hby,hzs,hzu⟩:=appOk_ok (P:=Tryz.prog) (e:=3) (k:=1) (by kernel_rfl);obtain⟨news,hnews⟩:∃news,news=(cur.take (m+1)).drop (i+1):=⟨_,rfl⟩;have hnl:news.length=m-i:=by rw[hnews,List.length_drop,List.length_take];omega
 obtain⟨tl,htl⟩:∃tl:Addr,tl=if cap=i+1 then⟨b,0,none⟩else⟨b,i+1,none⟩:=⟨_,rfl⟩
 have hsrc:∀j u,news[j]? =some u→w.drew.cell? (tl.add j)=some u:=fun j u hj=>by
  have hjl:=(List.getElem?_eq_some_iff.1 hj).1;rw[htl,if_neg (by omega)];rw[hnews,List.getElem?_drop,List.getElem?_take]at hj;split at hj
  ·rw[Addr.add_lit];show w.cell? _=_;simp[World.cell?,hg,hj]
  ·cases hj
 have hn1:∀u∈news,u.oneCell'=true:=fun u hu=>by rw[hnews]at hu;exact h1 u (List.mem_of_mem_drop hu)
 obtain⟨W1,hap,g1,o1⟩:∃W1:World,(∀ty,(Builtin.append_ #[37,37] ty #[.slice (some ⟨b,0,none⟩) i cap,.slice (some tl) (m-i) (cap-(i+1))]).run Tryz.prog w.drew= .ok (.slice (some ⟨b,0,none⟩) m cap) W1)∧
   Hid (W1.heap[b]? =some (.cells (cur.take i++news++cur.drop (i+news.length)).toArray 3 (0,0)))∧Hid ((∀g,g≠b→W1.heap[g]? =w.heap[g]?)∧W1.heap.size=w.heap.size∧W1.os=w.os∧W1.tape=w.tape∧W1.output=w.output):=
  ⟨w.drew.setRow b (cur.take i++news++cur.drop (i+news.length)).toArray,fun ty=>(by have:=run_appRoomK (P:=Tryz.prog) w.drew 37 ty 3 ti 1 u_is hti hsz b i cap (m-i) (cap-(i+1)) tl news cur 3 hg (by rw[Nat.mul_one];exact hnl) hsrc hn1 (by omega) (by rw[hnl];omega);rwa [show i+(m-i)=m by omega,Nat.mul_one]at this),
   (show _=_ by simpa using setRow_heap w.drew b _ _ _ _ hg),(show _∧_ from⟨fun g hne=>setRow_other w.drew b g _ hne,by simp[World.setRow],rfl,rfl,rfl⟩)⟩
 clear hsrc;have hw1:IntKind.i64.wrap ((i:Int)+1)=((i+1:Nat):Int):=by rw[wr64 (by omega) (by omega)];omega
 have c1:i+1≤m+1:=by omega
 have c5:i≤m:=by omega
 have c6:((i+1:Nat):Int)=(i:Int)+1:=by omega
 have c2:i≤cap:=by omega
 have c3:(if cap=i+1 then(some ⟨b,0,none⟩:Option Addr)else some ⟨b,i+1,none⟩)=some tl:=by rw[htl];split<;>rfl
 have c4:i+1≤cap:=by omega
 have c7:m≤cap:=by omega
 have c10:(0:Int)≤(i:Int)+1:=by omega
 have c8:¬(cap=m):=by omega
 have c9:m+1≤cap:=hnc
 obtain⟨W2,hcle,g2,o2⟩:∃W2:World,(∀ty,(Builtin.clear_ #[37] ty #[.slice (some ⟨b,m,none⟩) 1 (cap-m)]).run Tryz.prog W1= .ok (.tuple #[]) W2)∧
   Hid (W2.heap[b]? =some (.cells ((cur.take i++news++cur.drop (i+news.length)).take m++(Builtin.zeroCells z.cells 1).toList++(cur.take i++news++cur.drop (i+news.length)).drop (m+(Builtin.zeroCells z.cells 1).size)).toArray 3 (0,0)))∧Hid ((∀g,g≠b→W2.heap[g]? =w.heap[g]?)∧W2.heap.size=w.heap.size∧W2.os=w.os∧W2.tape=w.tape∧W2.output=w.output):=by
  obtain⟨k1,k2,k3,k4,k5⟩:=o1.out
  exact⟨_,fun ty=>run_clearK (P:=Tryz.prog) W1 37 ty 3 z 1 u_is hz b m 1 (cap-m) (by decide) _ 3 g1.out h2 (by simp;omega),(show _=_ by simpa using setRow_heap W1 b _ _ _ _ g1.out),
   (show _∧_ from⟨fun g hne=>(setRow_other W1 b g _ hne).trans (k1 g hne),by simpa [World.setRow]using k2,k3,k4,k5⟩)⟩
 clear hz;have hAl:(cur.take i++news).length=m:=by rw[List.length_append,List.length_take,hnl,Nat.min_eq_left (by omega)];omega
 have e1:(cur.take i++news++cur.drop (i+news.length)).take m=cur.take i++news:=(tk_app hAl).1;have e2:(cur.take i++news++cur.drop (i+news.length)).drop (m+(Builtin.zeroCells z.cells 1).size)=cur.drop (m+1):=by
  rw[←List.drop_drop,(tk_app hAl).2,List.drop_drop,hnl,hz3]
  congr 1
  omega
 have g3:Hid (W2.heap[b]? =some (.cells (cur.take i++(cur.take (m+1)).drop (i+1)++(Builtin.zeroCells z.cells 1).toList++cur.drop (m+1)).toArray 3 (0,0))):=by
  have:=g2.out;rw[e1,e2,hnews]at this;exact this
 clear e1 e2 hAl hnews hnl g1 g2;clear h1 h2 hz3;generalize (Builtin.zeroCells z.cells 1).toList=zz at *
 go_enter Tryz.func68,Tryz.ntmps68
 go_wp2_with fail
 go_region_law (refine step_appK rfl (.tmp 22) (.tmp 25) _ rfl _ _ (by simp[Act.eval,Act.put]) (by simp[Act.eval,Act.put];exact htl.symm) _ _ hap ?_)
 go_wp2
 all_goals (go_ret;unfold DelI;exact⟨rfl,g3.out,o2.out⟩)
theorem ly_deleteI {l:List Nat}{i:Nat}(hi:i<l.length)(hb:l.length≤2000):
  LX Tryz.prog 68 [.a (.th 0 l.length),vl (.int .i64 (i:Nat)),vl (.int .i64 ((i+1:Nat):Int))] [inH' 0 l] fun v H=>v= .a (.th 1 (l.length-1))∧H=[(0,.gone),inH' 1 (l.eraseIdx i)]:=by
 refine⟨_,_,⟨rfl,rfl⟩,fun γ M w rs hr ha=> ?_⟩
 match rs,ha with
 |[v0,v1,v2],⟨a0,a1,a2,_⟩=>
 obtain rfl:v1= .int .i64 (i:Nat):=lit_inv a1;obtain rfl:v2= .int .i64 ((i+1:Nat):Int):=lit_inv a2;have hkey:look [inH' 0 l] 0=some (inH' 0 l).2:=rfl;have hent:=hr.ent 0 _ hkey;have a0:RdA γ (look [inH' 0 l]) M w (.th 0 l.length) v0:=a0;obtain⟨g,c,os,sp,ps,y1,y2,y3,y4,y5,y6⟩:=outer hent (n:=l.length) in_len hi;obtain⟨_,_,hz⟩:=a0;have hv:v0= .slice (some ⟨g,0,none⟩) l.length c:=by
  rw[(hz _ _ _ _ _ hkey).2 in_len,y1];rfl
 subst hv;have hol:os.length=l.length:=by rw[←y6.len,List.length_map,in_len]
 have hib:ib (γ 0) g:=by rw[y1];exact ib_tt.2 (.inl rfl)
 have hMg:∀j,M g j:=fun j=>hr.own 0 g j (by unfold Owns;rw[hkey];exact hib)
 have hval:∀(j:Nat) (u:Value),os[j]? =some u→u=Value.int .i64 (gn l j:Nat):=fun j u hj=>by
  have hjl:=(List.getElem?_eq_some_iff.1 hj).1;obtain⟨y,e1,e2⟩:=All2.get y6 (i:=j) (x:= .d (.lit (.int .i64 (gn l j:Nat)))) (by rw[List.getElem?_map,in_at (by omega)];rfl);rw[hj]at e1;injection e1 with e1;subst e1;exact lit_inv e2
 have h1:∀u∈(os++sp).take l.length,u.oneCell'=true:=fun u hu=>by
  rw[List.take_append_of_le_length (by omega)]at hu;obtain⟨j,hj⟩:=List.mem_iff_getElem?.1 (List.mem_of_mem_take hu);rw[hval j u hj];rfl
 have hz0:∀w,(zeroValue 3).run Tryz.prog w= .ok (.int .i64 0) w:=fun w=>by
  have:(Tryz.prog.info? 3).bind (·.zero)=some (Value.int .i64 0):=by kernel_rfl
  obtain⟨t,e1,e2⟩:=Option.bind_eq_some_iff.1 this;simp[zeroValue,typeInfo,e1,e2]
 have hzc:(Builtin.zeroCells (Value.int .i64 0).cells 1).toList=[.int .i64 0]:=by rw[zc1];rfl
 refine cM (deli_raw (cur:=os++sp) hz0 hi hb y2 y5 (by simp;omega) h1 (fun u hu=>by rw[hzc,List.mem_singleton]at hu;subst hu;rfl) (by rw[←Array.length_toList,hzc];rfl)) ?_;rintro e w' ⟨rfl,p2,p3,p4,p5,p6,p7⟩;rw[hzc]at p2;obtain⟨os',hos'⟩:∃os',os'=os.take i++os.drop (i+1):=⟨_,rfl⟩;have p2':w'.heap[g]? =some (.cells (os'++(.int .i64 0::sp)).toArray 3 (0,0)):=by
  rw[p2,hos',List.take_append_of_le_length (by omega),List.take_append_of_le_length (by omega),List.take_of_length_le (show os.length≤l.length by omega),←hol,(tk_app (A:=os) rfl).2];simp
 clear p2;have ho':All2 (RdA γ (look [inH' 0 l]) M w) ((l.eraseIdx i).map fun x=>A.d (.lit (.int .i64 (x:Nat)))) os':=by
  have e1:All2 (RdA γ (look [inH' 0 l]) M w) (l.map fun x=>A.d (.lit (.int .i64 (x:Nat)))) os:=by
   have:=y6;rw[List.map_map]at this;exact this
  rw[List.eraseIdx_eq_take_drop_succ,List.map_append,List.map_take,List.map_drop,hos'];exact All2.app (All2.take _ e1) (All2.drop _ e1)
 have hcell:∀b j,b≠g→w'.cell? ⟨b,j,none⟩=w.cell? ⟨b,j,none⟩:=fun b j hne=>World.cell?_of_block (a:=⟨b,j,none⟩) (p3 b hne);have hfx:∀b j v,Fx M w b j v→Fx M w' b j v:=fun b j v k=>⟨k.1,by rw[hcell b j fun e=>k.1 (e▸hMg j)];exact k.2⟩;have hel:(l.eraseIdx i).length=l.length-1:=by rw[List.length_eraseIdx,if_pos hi]
 have hos'l:os'.length=l.length-1:=by rw[←ho'.len,List.length_map,hel]
 let γ':Gh:=fun k=>if k=1 then ttV (.slice (some ⟨g,0,none⟩) (l.length-1) c) []else γ k
 have h0:look [(0,Ent.gone),inH' 1 (l.eraseIdx i)] 0=some .gone:=rfl;have h1':look [(0,Ent.gone),inH' 1 (l.eraseIdx i)] 1=some (inH' 1 (l.eraseIdx i)).2:=rfl;have hk:∀k,k≠0→k≠1→look [(0,Ent.gone),inH' 1 (l.eraseIdx i)] k=none:=fun k a b=>by simp only[look];rw[if_neg (Ne.symm a),if_neg (Ne.symm b)]
 have hib':∀b,ib (γ' 1) b→b=g:=fun b q=>by
  rcases ib_tt.1 (show ib (ttV (.slice (some ⟨g,0,none⟩) (l.length-1) c) []) b from q)with q|q
  ·simp[blk]at q;exact q.symm
  ·cases q
 have hlive:∀k,live (look [(0,Ent.gone),inH' 1 (l.eraseIdx i)] k)=true→k=1:=fun k q=>by
  by_cases a:k=1
  ·exact a
  ·by_cases b:k=0
   ·subst b;rw[h0]at q;cases q
   ·rw[hk k b a]at q;cases q
 have hown:∀key b j,Owns γ' (look [(0,Ent.gone),inH' 1 (l.eraseIdx i)]) key b j→b=g:=fun key b j q=>by
  obtain⟨q1,q2⟩:=owns_live q;obtain rfl:=hlive key q1;exact hib' b q2
 have hog:∀j,Owns γ (look [inH' 0 l]) 0 g j:=fun j=>by unfold Owns;rw[hkey];exact hib
 have st:Stp γ (look [inH' 0 l]) M w γ' (look [(0,Ent.gone),inH' 1 (l.eraseIdx i)]) M w':=
  ⟨p5,p6,p7,by omega,hfx,fun b _ hno=>p3 b fun e=>hno 0 0 (e▸hog 0),fun b j q _=>q,fun key b j q _=>⟨0,by rw[hown key b j q];exact hog j⟩,fun key e he=>by
   have:key=0:=by
    by_cases a:key=0
    ·exact a
    ·simp only[look]at he;rw[if_neg (Ne.symm a)]at he;cases he
   subst this;exact⟨.gone,h0,by cases e<;>trivial,.inl (if_neg (by decide))⟩⟩
 refine⟨_,γ',M,rfl,⟨fun key e he=> ?_,fun key b j q=>by rw[hown key b j q];exact hMg j,fun k1 k2 b q1 q2 _ _=>(hlive _ q1).trans (hlive _ q2).symm,fun b j z hm=> ?_,fun b j hm=>by rw[p4];exact hr.dom b j hm,hr.glb.fx hfx⟩,?_,st⟩
 ·by_cases a:key=1
  ·subst a;rw[h1']at he;injection he with he;subst he;refine⟨.slice (some ⟨g,0,none⟩) (l.length-1) c,[],if_pos rfl,rfl,List.nodup_nil,.inr ⟨g,c,os',.int .i64 0::sp,by rw[in_len,hel],by rw[in_len,hel];omega,by rw[in_len,hel,List.length_cons];omega,by simp,p2',?_⟩,fun a b rows hx=>by simp at hx⟩;rw[List.map_map];refine All2.imp (fun x v q=> ?_) ho';exact RdA.stp st q
  ·by_cases b:key=0
   ·subst b;rw[h0]at he;injection he with he;subst he;trivial
   ·rw[hk key b a]at he;cases he
 ·by_cases hbg:b=g
  ·subst hbg;intro q;simp only[World.cell?,p2']at q;have q':(os'++(.int .i64 0::sp))[j]? =some (.int .u32 z):=by simpa using q
   have hold:(Value.int .u32 z)∈os++sp→False:=fun hm=>by
    obtain⟨j',hj'⟩:=List.mem_iff_getElem?.1 hm;refine hr.u32 b j' z (hMg j') ?_;simp only[World.cell?,y5];simpa using hj'
   rcases List.mem_append.1 (mG_ q')with q1|q1
   ·rw[hos']at q1;rcases List.mem_append.1 q1 with q2|q2
    ·exact hold (List.mem_append_left _ (List.mem_of_mem_take q2))
    ·exact hold (List.mem_append_left _ (List.mem_of_mem_drop q2))
   ·rcases List.mem_cons.1 q1 with q2|q2
    ·injection q2 with q2 _;cases q2
    ·exact hold (List.mem_append_right _ q2)
  ·rw[hcell b j hbg];exact hr.u32 b j z hm
 ·refine⟨by rw[h1'];rfl,⟨_,_,rfl⟩,fun e0 e k o ar he=> ?_⟩;rw[h1']at he;injection he with he;injection he with t1 t2 t3 t4 t5;subst t4;exact⟨by rw[in_len,hel];exact lR_ _,fun _=>rfl⟩
def wsB (T:Tb):Nat→Option Nat
 |0=>none
 |r+1=>if ¬gn T.B r<T.n∧gq (T.r r) T.N.length<0∧(∀b,wsB T r=some b→gq (T.r r) T.N.length<gq (T.r b) T.N.length)then some r else wsB T r
theorem wsB_none {T:Tb}:∀{k:Nat},wsB T k=none→∀r,r<k→¬gn T.B r<T.n→0≤gq (T.r r) T.N.length
 |0,_,r,hr,_=>by omega
 |k+1,h,r,hr,hf=>by
  rw[wsB]at h;split at h
  ·cases h
  ·rename_i hc;rcases Nat.lt_or_ge r k with h1|h1
   ·exact wsB_none h r h1 hf
   ·have e:r=k:=by omega
    subst e;refine Rat.not_lt.1 fun h2=>hc ⟨hf,h2,fun b hb=> ?_⟩;rw[h]at hb;cases hb
theorem wsB_some {T:Tb}:∀{k w:Nat},wsB T k=some w→w<k∧¬gn T.B w<T.n∧gq (T.r w) T.N.length<0∧∀r,r<k→¬gn T.B r<T.n→gq (T.r w) T.N.length≤gq (T.r r) T.N.length
 |0,w,h=>by cases h
 |k+1,w,h=>by
  rw[wsB]at h;split at h
  ·rename_i hc;injection h with h;subst h;obtain⟨h1,h2,h3⟩:=hc;refine⟨by omega,h1,h2,fun r hr hf=> ?_⟩;rcases Nat.lt_or_ge r k with h4|h4
   ·cases hb:wsB T k with
    |none=>have:=wsB_none hb r h4 hf;grind
    |some b=>
     have h5:=h3 b hb;have h6:=(wsB_some hb).2.2.2 r h4 hf;grind
   ·rw[show r=k by omega];exact Rat.le_refl
  ·rename_i hc;obtain⟨h1,h2,h3,h4⟩:=wsB_some h;refine⟨by omega,h2,h3,fun r hr hf=> ?_⟩;rcases Nat.lt_or_ge r k with h5|h5
   ·exact h4 r h5 hf
   ·have e2:r=k:=by omega
    subst e2;refine Rat.not_lt.1 fun h6=>hc ⟨hf,by grind,fun b hb=> ?_⟩;rw[h]at hb;injection hb with hb;subst hb;exact h6
theorem wsB_wst {T:Tb}{w:Nat}(h:wsB T T.B.length=some w):Wst T w:=by
 obtain⟨h1,h2,h3,h4⟩:=wsB_some h;exact⟨h1,h2,h3,h4⟩
theorem duW_at {T:Tb}{l:List Rat}(hn:T.N.Nodup):∀{j:Nat},j≤T.N.length→∀k,k<T.m→gq (duW T l j) k=smR (fun i=>if gn T.N i=T.n+k then gq l i else 0) j
 |0,_,k,hk=>by rw[duW,gq_rep,smR]
 |j+1,hj,k,hk=>by
  have ih:=duW_at hn (j:=j) (l:=l) (by omega) k hk;rw[smR,duW];split
  ·rename_i hc;rw[gq_set (by rw[duW_len];exact hc.2)]
   by_cases h1:k=gn T.N j-T.n
   ·rw[if_pos h1,if_pos (by omega),smR_zero fun i hi=>if_neg fun e=> ?_]
    ·grind
    ·have:=gn_inj hn (i:=i) (j:=j) (by omega) (by omega) (by omega);omega
   ·rw[if_neg h1,if_neg (by omega),ih];grind
  ·rename_i hc;rw[if_neg (fun e=>hc ⟨by omega,by omega⟩),ih];grind
theorem duW_eq {T:Tb}{l:List Rat}(hn:T.N.Nodup):duW T l T.N.length=T.du l:=by
 refine gq_ext (by rw[duW_len];simp[Tb.du]) fun k hk=> ?_;rw[duW_len]at hk;rw[duW_at hn (lR_ _) k hk,du_at hk]
theorem ptW_at {T:Tb}(hn:T.B.Nodup):∀{j:Nat},j≤T.B.length→(∀r,r<j→∀x,gn T.B r=x→x<T.n→gq (ptW T j) x=gq (T.r r) T.N.length)∧∀x,x<T.n→(∀r,r<j→gn T.B r≠x)→gq (ptW T j) x=0
 |0,_=>⟨fun r hr=>by omega,fun x hx _=>by rw[ptW,gq_rep]⟩
 |j+1,hj=>by
  obtain⟨i1,i2⟩:=ptW_at hn (j:=j) (by omega);rw[ptW];split
  ·rename_i hc;refine⟨fun r hr x hx hxn=> ?_,fun x hx hno=> ?_⟩
   ·rw[gq_set (by rw[ptW_len];exact hc)]
    by_cases h1:x=gn T.B j
    ·have:r=j:=gn_inj hn (by omega) (by omega) (by omega);rw[if_pos h1,this]
    ·rw[if_neg h1];exact i1 r (by rcases Nat.lt_or_ge r j with h|h;exact h;exact absurd (by rw[←hx,show r=j by omega]) h1) x hx hxn
   ·rw[gq_set (by rw[ptW_len];exact hc),if_neg fun e=>hno j (by omega) e.symm];exact i2 x hx fun r hr=>hno r (by omega)
  ·rename_i hc;refine⟨fun r hr x hx hxn=> ?_,fun x hx hno=>i2 x hx fun r hr=>hno r (by omega)⟩;have:r≠j:=fun e=>hc (by rw[←e,hx];exact hxn);exact i1 r (by omega) x hx hxn
theorem run_ndB {T0 T:Tb}(h:Run T0 T):T.B.Nodup:=by
 have:=h.s.w'.ndB;exact(List.nodup_append.1 (show(T.B++[T.z]).Nodup from this)).1
theorem ptW_eq {T0 T:Tb}(h:Run T0 T)(hv:∀x,x<T.n→x∈T.B∨x∈T.N):ptW T T.B.length=ptL T.n (bz T.D):=by
 obtain⟨i1,i2⟩:=ptW_at (run_ndB h) (lR_ _);refine gq_ext (by rw[ptW_len];simp[ptL]) fun x hx=> ?_;rw[ptW_len]at hx;rw[ptL_at hx]
 by_cases hb:x∈T.B
 ·obtain⟨i,hi,rfl⟩:=gn_of_mem hb;have e1:=as0_B (D:=T.D) (i:=i) h.s.w' (by rw[Tb.D_len];omega);rw[Tb.D_B hi]at e1;rw[i1 i hi _ rfl hx];show _=T.D.as (fun _=>0) (gn T.B i);rw[e1];show _=gq (T.D.row i) T.N.length;rw[Tb.D_row (by rw[h.fl,←h.bl];exact hi)]
 ·have hN:x∈T.N:=(hv x hx).resolve_left hb;rw[i2 x hx fun r hr e=>hb (by rw[←e];exact gn_mem hr)];exact(Dk.as_N (D:=T.D) (y:=fun _=>0) hN).symm
structure GOk (L:Nat→List Rat)(k:Nat)(O:List Rat)(X:Ar):Prop where
 len:X.ix.length=k
 rw:∀i,i<k→∃q,X.ix[i]? =some q∧At X q (L i)
 ob:At X X.ob O
 nd:(X.ix.map (·.1)++[X.ob.1]).Nodup
theorem MOk.g {T:Tb}{X:Ar}(h:MOk T X):GOk T.r T.B.length T.O X:=⟨h.len,h.rw,h.ob,h.nd⟩
theorem GOk.il {L:Nat→List Rat}{k:Nat}{O:List Rat}{X:Ar}(h:GOk L k O X):(oI X.ix).length=k:=by rw[List.length_map,h.len]
theorem GOk.m {T:Tb}{X:Ar}{L:Nat→List Rat}{k:Nat}{O:List Rat}(h:GOk L k O X)(hk:T.B.length=k)(hL:∀i,i<k→L i=T.r i)(hO:O=T.O):MOk T X:=by
 subst hk hO;exact⟨h.len,fun i hi=>by rw[←hL i hi];exact h.rw i hi,h.ob,h.nd⟩
theorem At.app {X:Ar}{q:Nat×Nat×Bool}{l:List Rat}(h:At X q l)(ix:List (Nat×Nat×Bool))(ob:Nat×Nat×Bool)(R:List (List D)):At ⟨ix,ob,X.ar++[R]⟩ q l:=by
 have hlt:=h.lt;obtain⟨h1,rows,h2,h3⟩:=h;exact⟨h1,rows,(List.getElem?_append_left hlt).trans h2,h3⟩
theorem At.upd {X:Ar}{q:Nat×Nat×Bool}{l:List Rat}(h:At X q l)(ix:List (Nat×Nat×Bool))(ob:Nat×Nat×Bool){a:Nat}(hne:a≠q.1)(R:List (List D)):At ⟨ix,ob,X.ar.set a R⟩ q l:=by
 obtain⟨h1,rows,h2,h3⟩:=h;exact⟨h1,rows,by show(X.ar.set a R)[q.1]? =_;rw[List.getElem?_set,if_neg hne];exact h2,h3⟩
theorem at_new {X:Ar}{ix:List (Nat×Nat×Bool)}{ob:Nat×Nat×Bool}{l:List Rat}{f:Bool}:At ⟨ix,ob,X.ar++[tQ l]⟩ (X.ar.length,l.length,f) l:=⟨rfl,tQ l,ar_at,rw_tQ l⟩
theorem at_upd {X:Ar}{ix:List (Nat×Nat×Bool)}{ob:Nat×Nat×Bool}{l:List Rat}{a:Nat}{f:Bool}{R:List (List D)}(ha:a<X.ar.length)(h:Rw' R l):At ⟨ix,ob,X.ar.set a R⟩ (a,l.length,f) l:=⟨rfl,R,by show(X.ar.set a R)[a]? =_;rw[List.getElem?_set,if_pos rfl,if_pos ha],h⟩
section
variable {L:Nat→List Rat} {k:Nat} {O:List Rat} {X:Ar}
theorem GOk.lt (h:GOk L k O X){x:Nat}(hx:x∈X.ix.map (·.1)++[X.ob.1]):x<X.ar.length:=by
 rcases List.mem_append.1 hx with h1|h1
 ·obtain⟨q,hq,rfl⟩:=List.mem_map.1 h1;obtain⟨j,hj⟩:=List.mem_iff_getElem?.1 hq;have hl:=(List.getElem?_eq_some_iff.1 hj).1;obtain⟨q',h2,h3⟩:=h.rw j (by rw[←h.len];exact hl);rw[hj]at h2;injection h2 with h2;subst h2;exact h3.lt
 ·rw[List.mem_singleton]at h1;subst h1;exact h.ob.lt
theorem GOk.push (h:GOk L k O X){i m:Nat}(hi:i<k){l:List Rat}(hm:l.length=m)(f:Bool):GOk (fun j=>if j=i then l else L j) k O ⟨X.ix.set i (X.ar.length,m,f),X.ob,X.ar++[tQ l]⟩:=by
 subst hm;refine⟨by simpa using h.len,fun j hj=> ?_,h.ob.app _ _ _,?_⟩
 ·by_cases e:j=i
  ·subst e;rw[if_pos rfl];exact⟨_,by show(X.ix.set j _)[j]? =_;rw[List.getElem?_set,if_pos rfl,if_pos (by rw[h.len];exact hj)],at_new⟩
  ·rw[if_neg e];obtain⟨q,h1,h2⟩:=h.rw j hj;exact⟨q,by show(X.ix.set i _)[j]? =_;rw[List.getElem?_set,if_neg (Ne.symm e)];exact h1,h2.app _ _ _⟩
 ·show((X.ix.set i (X.ar.length,l.length,f)).map (·.1)++[X.ob.1]).Nodup;rw[List.map_set,←List.set_append_left _ _ (by rw[List.length_map,h.len];exact hi)];exact nodup_set' h.nd fun hm=>Nat.lt_irrefl _ (h.lt hm)
theorem GOk.pushO (h:GOk L k O X){m:Nat}{l:List Rat}(hm:l.length=m)(f:Bool):GOk L k l ⟨X.ix,(X.ar.length,m,f),X.ar++[tQ l]⟩:=by
 subst hm;refine⟨h.len,fun j hj=> ?_,at_new,?_⟩
 ·obtain⟨q,h1,h2⟩:=h.rw j hj;exact⟨q,h1,h2.app _ _ _⟩
 ·obtain⟨h1,h2,h3⟩:=List.nodup_append.1 h.nd;refine List.nodup_append.2 ⟨h1,by simp,fun x hx y hy=> ?_⟩;rw[List.mem_singleton]at hy;subst hy;exact Nat.ne_of_lt (h.lt (List.mem_append_left _ hx))
theorem GOk.ne (h:GOk L k O X){i j:Nat}{q q':Nat×Nat×Bool}(hi:X.ix[i]? =some q)(hj:X.ix[j]? =some q')(hne:i≠j):q.1≠q'.1:=fun e=>by
 have hn:=(List.nodup_append.1 h.nd).1;obtain⟨l1,e1⟩:=List.getElem?_eq_some_iff.1 hi;obtain⟨l2,e2⟩:=List.getElem?_eq_some_iff.1 hj;refine hne ((List.getElem_inj (i:=i) (j:=j) (h₀:=by simpa using l1) (h₁:=by simpa using l2) hn).1 ?_);rw[List.getElem_map,List.getElem_map,e1,e2,e]
theorem GOk.neo (h:GOk L k O X){i:Nat}{q:Nat×Nat×Bool}(hi:X.ix[i]? =some q):q.1≠X.ob.1:=
 (List.nodup_append.1 h.nd).2.2 q.1 (List.mem_map.2 ⟨q,mG_ hi,rfl⟩) X.ob.1 (by simp)
theorem GOk.upd (h:GOk L k O X){i:Nat}{q:Nat×Nat×Bool}(hi:X.ix[i]? =some q){l:List Rat}{R:List (List D)}(hR:Rw' R l){m:Nat}(hm:l.length=m)(f:Bool):GOk (fun j=>if j=i then l else L j) k O ⟨X.ix.set i (q.1,m,f),X.ob,X.ar.set q.1 R⟩:=by
 subst hm;have hil:=(List.getElem?_eq_some_iff.1 hi).1;have hq:q.1<X.ar.length:=h.lt (List.mem_append_left _ (List.mem_map.2 ⟨q,mG_ hi,rfl⟩));refine⟨by simpa using h.len,fun j hj=> ?_,h.ob.upd _ _ (h.neo hi) _,?_⟩
 ·by_cases e:j=i
  ·subst e;rw[if_pos rfl];exact⟨_,by show(X.ix.set j _)[j]? =_;rw[List.getElem?_set,if_pos rfl,if_pos hil],at_upd hq hR⟩
  ·rw[if_neg e];obtain⟨q',h1,h2⟩:=h.rw j hj;exact⟨q',by show(X.ix.set i _)[j]? =_;rw[List.getElem?_set,if_neg (Ne.symm e)];exact h1,h2.upd _ _ (h.ne hi h1 (Ne.symm e)) _⟩
 ·show((X.ix.set i (q.1,l.length,f)).map (·.1)++[X.ob.1]).Nodup;have e1:(X.ix.set i (q.1,l.length,f)).map (·.1)=X.ix.map (·.1):=by
   rw[List.map_set];have e2:(X.ix.map (·.1))[i]? =some q.1:=by rw[List.getElem?_map,hi];rfl
   obtain⟨l1,e3⟩:=List.getElem?_eq_some_iff.1 e2;show(X.ix.map (·.1)).set i q.1=_;rw[←e3];exact List.set_getElem_self _
  rw[e1];exact h.nd
theorem GOk.updO (h:GOk L k O X){l:List Rat}{R:List (List D)}(hR:Rw' R l){m:Nat}(hm:l.length=m)(f:Bool):GOk L k l ⟨X.ix,(X.ob.1,m,f),X.ar.set X.ob.1 R⟩:=by
 subst hm;refine⟨h.len,fun j hj=> ?_,at_upd (h.lt (by simp)) hR,h.nd⟩;obtain⟨q,h1,h2⟩:=h.rw j hj;exact⟨q,h1,h2.upd _ _ (Ne.symm (h.neo h1)) _⟩
end
theorem ly_freeM {n m p bl nl fl x:Nat}{B N:List Nat}{o:List (Sum (Nat×Nat×Bool) D)}{ar:List (List (List D))}{q:Nat×Nat×Bool}:
  LX Tryz.prog 26 [.a (.ptr 0 0),vl (.int .i64 (x:Nat))] [(0,.box 67 (tbA n m 0 bl nl fl (.row 3 q.1 q.2.1 q.2.2) p)),inH' 1 B,inH' 2 N,ttH 3 o ar]
   fun v H=>v=vl (.bool (decide ((x:Int)<(n:Nat))))∧H=[(0,.box 67 (tbA n m 0 bl nl fl (.row 3 q.1 q.2.1 q.2.2) p)),inH' 1 B,inH' 2 N,ttH 3 o ar]:=by
 refine LX_run (m:=4) (n0:=4) mix Tryz.func26 rfl rfl rfl rfl ?_;conv=>whnf
 refine bs (fun h=> ?_) (fun h=> ?_)
 ·conv=>whnf
  rw[h];exact⟨_,_,⟨rfl,rfl⟩,vR_ _,rfl,⟨⟨_,rfl,wke_refl _,rfl⟩,⟨_,rfl,wke_refl _,rfl⟩,⟨_,rfl,wke_refl _,rfl⟩,⟨_,rfl,wke_refl _,rfl⟩,trivial⟩,rfl⟩
 ·conv=>whnf
  rw[h];exact⟨_,_,⟨rfl,rfl⟩,vR_ _,rfl,⟨⟨_,rfl,wke_refl _,rfl⟩,⟨_,rfl,wke_refl _,rfl⟩,⟨_,rfl,wke_refl _,rfl⟩,⟨_,rfl,wke_refl _,rfl⟩,trivial⟩,rfl⟩
theorem GOk.congr {L L':Nat→List Rat}{k:Nat}{O:List Rat}{X:Ar}(h:GOk L k O X)(e:∀i,i<k→L i=L' i):GOk L' k O X:=⟨h.len,fun i hi=>by rw[←e i hi];exact h.rw i hi,h.ob,h.nd⟩
theorem LX.ren {P:Program}{F:FuncId}{args:List V}{H0 H1 H2:List (Nat×Ent)}{v0:V}(ks:List Nat)(m:Nat)(hc:LX P F args H0 fun v H=>v=v0∧H=H1)(hn:ks.Nodup)(hl:lendKF ks (look H1) 0 ks=some H2)(hm:m≤ks.length)(h0:∀p∈H0,p.1<m)(hk:∀i,i<m→ks.getD i 0=i)(hv:∀key∈keysV v0,key∈ks):
  LX P F args H0 fun v H=>v=renV (fun k=>ks.idxOf k) v0∧H=H2:=by
 obtain⟨_,_,⟨rfl,rfl⟩,hc⟩:=hc;refine⟨_,_,⟨rfl,rfl⟩,fun γ M w rs hr ha=>cM (hc γ M w rs hr ha) ?_⟩;rintro e w' ⟨r,γ',M',rfl,k1,k2,k3⟩;obtain⟨q1,q2⟩:=lendKF_ok hl;refine⟨r,fun i=>γ' (ks.getD i 0),M',rfl,rel_lendK k1 hn hl,RdV.ren k2 fun key hkey=>same_lendK hl (hv key hkey),⟨k3.os,k3.tape,k3.output,k3.size,k3.fx,k3.other,k3.keep,fun key b i ho hb=>k3.new _ b i (owns_lendK hl ho) hb,fun key e he=> ?_⟩⟩;have hlt:=h0 _ (look_mem he);have e1:=hk key hlt;obtain⟨e',y1,y2,y3⟩:=k3.key key e he;obtain⟨x,x',z1,z2,z3⟩:=q1 key (by simp only at hlt;omega);rw[e1,y1]at z1;injection z1 with z1;subst z1;rw[Nat.zero_add]at z3;refine⟨x',z3,?_,?_⟩
 ·cases e'<;>simp only[lendK]at z2
  case box t cs=>
   split at z2
   ·injection z2 with z2;subst z2;cases e<;>exact y2
   ·cases z2
  all_goals injection z2 with z2;subst z2;exact y2
 ·simp only[e1]
  cases e'<;>simp only[lendK]at z2
  case box t cs=>
   split at z2
   ·injection z2 with z2;subst z2;cases e<;>exact y3
   ·cases z2
  all_goals injection z2 with z2;subst z2;exact y3
abbrev tH9 (T:Tb)(X:Ar):List (Nat×Ent):=tH 0 T X++[(4,.box 61 [.ptr 0 0])]
theorem wsB_step {T:Tb}{r:Nat}:(gn T.B r<T.n→wsB T (r+1)=wsB T r)∧(0≤gq (T.r r) T.N.length→wsB T (r+1)=wsB T r):=by
 refine⟨fun h=> ?_,fun h=> ?_⟩
 ·rw[wsB,if_neg fun k=>k.1 h]
 ·rw[wsB,if_neg fun k=>by have:=k.2.1;grind]
theorem ok_ratV {q:Rat}:okV [] (ratV q):=by
 intro x hx;rcases List.mem_cons.1 hx with e|hx
 ·rw[e];trivial
 rcases List.mem_cons.1 hx with e|hx
 ·rw[e];trivial
 rcases List.mem_cons.1 hx with e|hx
 ·rw[e];trivial
 ·cases hx
theorem cmp_ltd {a b:Rat}:decide (cmpQ a b<0)=decide (a<b):=by
 have h:=cmpQ_ge (a:=a) (b:=b)
 by_cases e:a<b
 ·rw[decide_eq_true e];exact decide_eq_true (Int.not_le.1 fun q=>Rat.not_le.2 e (h.1 q))
 ·rw[decide_eq_false e];exact decide_eq_false (by have:=h.2 (Rat.not_lt.1 e);omega)
structure FeX (T:Tb)(w k:Nat)(U:Tb):Prop where
 hw:wsB T T.B.length=some w
 ax:TOk T.ax
 it:itT (vioL T.a) (T.ax.pv w T.N.length) k=some U
 nx:nxt (vioL T.a) U=none
 ok:∀j,j≤k→∀V,itT (vioL T.a) (T.ax.pv w T.N.length) j=some V→TOk V∧V.p≤65536∧(T.a∈V.B∨T.a∈V.N)∧V.N.length=T.N.length+1
 out:T.a∈U.B→¬0<gq (U.r (U.B.idxOf T.a)) U.N.length→∃e,nzS ((U.r (U.B.idxOf T.a)).take U.N.length)=some e∧TOk (U.pv (U.B.idxOf T.a) e)∧T.a∈(U.pv (U.B.idxOf T.a) e).N
abbrev tHm (T:Tb)(N:List Nat)(X:Ar):List (Nat×Ent):=
 [(0,.box 67 (tbA T.n T.m 0 T.B.length N.length T.B.length (.row 3 X.ob.1 X.ob.2.1 X.ob.2.2) T.p)),inH' 1 T.B,inH' 2 N,ttH 3 (oI X.ix) X.ar,(4,.box 61 [.ptr 0 0]),(5,.box 3 [.d (.lit (.int .i64 (T.a:Nat)))])]
abbrev insR (T:Tb)(i j:Nat):List Rat:=if j<i then insC (T.r j) T.N.length (T.ac j)else T.r j
theorem gq_take {l:List Rat}{n j:Nat}(h:j<n):gq (l.take n) j=gq l j:=by
 rw[gq,gq,List.getD_eq_getElem?_getD,List.getD_eq_getElem?_getD,List.getElem?_take,if_pos h]
theorem Rw'.take {rows:List (List D)}{l:List Rat}(h:Rw' rows l)(n:Nat):Rw' rows (l.take n):=by
 have h1:=h.1;have h2:=h.2;refine⟨?_,by rw[List.length_take];omega⟩;rw[List.length_take,tQ,List.map_take,←tQ,←h1,List.take_take]
abbrev tHk (T:Tb)(X:Ar)(kn:Nat):List (Nat×Ent):=
 [(0,.box 67 [.d (.lit (.int .i64 (T.n:Nat))),.d (.lit (.int .i64 (T.m:Nat))),.th 1 T.B.length,.th kn T.N.length,.th 3 T.B.length,.row 3 X.ob.1 X.ob.2.1 X.ob.2.2,.d (.lit (.int .i64 (T.p:Nat)))]),inH' 1 T.B,(2,.gone),ttH 3 (oI X.ix) X.ar,inH' kn T.N]
abbrev okT:V:= .tup [.s (.d (.lit (.slice none 0 0))),.s (.d (.lit (.bool true)))]
abbrev delR (V:Tb)(c i j:Nat):List Rat:=if j<i then(V.r j).eraseIdx c else V.r j
def FeV (T U V:Tb):Prop:=(T.a∉U.B∧V=U)∨∃e,T.a∈U.B∧¬0<gq (U.r (U.B.idxOf T.a)) U.N.length∧nzS ((U.r (U.B.idxOf T.a)).take U.N.length)=some e∧V=U.pv (U.B.idxOf T.a) e
def FeP (kn:Tb→Tb→Nat)(T:Tb)(X:Ar)(v:V)(H:List (Nat×Ent)):Prop:=
 (wsB T T.B.length=none∧v=okT∧H=tH 0 T X)∨
 (∃w k U X',FeX T w k U∧T.a∈U.B∧0<gq (U.r (U.B.idxOf T.a)) U.N.length∧MOk U X'∧v= .tup [.s (.d (.sl 3 (tQ (duW U (U.r (U.B.idxOf T.a)) U.N.length)))),.s (.d (.lit (.bool true)))]∧H=tH 0 U X')∨
 (∃w k U V X',FeX T w k U∧FeV T U V∧MOk (V.er (V.N.idxOf T.a)) X'∧v=okT∧H=tHk (V.er (V.N.idxOf T.a)) X' (kn T U))
theorem rw_app (l:List Rat)(R:List (List D)):Rw' (tQ l++R) l:=by
 have:=tQ_len l;exact⟨by rw[←this];simp,by rw[List.length_append,tQ_len];omega⟩
theorem ly_feas0 {T:Tb}{X:Ar}(k:TOk T)(h:MOk T X)(fl:Fl X)(hf:∀w,wsB T T.B.length=some w→∃kk U,FeX T w kk U):LX Tryz.prog 24 [.a (.ptr 0 0)] (tH 0 T X) fun v H=>FeP (fun T U=>if T.a∈U.B then 42 else 38) T X v H:=by
 have hbl:=k.bl;have hnl:=k.nl;refine LX_run (m:=4) (n0:=4) mix Tryz.func24 rfl rfl rfl rfl ?_;conv=>whnf
 refine .mk Nat (fun i=>⟨[(25,vl (.int .i64 (i:Nat))),(24,vl (.int .i64 (T.B.length:Nat))),(23,.a (.th 1 T.B.length)),(4,vl (.int .i64 (bI (wsB T i)))),(3,vl (.bool false)),(2,vl (.slice none 0 0)),(1,.a (.ptr 4 0))],tH9 T X,5⟩) (fun i=>i≤T.B.length) (fun i=>T.B.length-i) 0
  Wk.go (zL_ _) fun i hi=> ?_
 conv=>whnf
 refine bs (fun h1=> ?_) (fun h1=> ?_)
 ·conv=>whnf
  have h1':i<T.B.length:=by have:=of_decide_eq_true h1;omega
  have hs:=(k.fq i h1' T.N.length (lR_ _)).sz (by omega);refine .mk i in_len rfl h1' ?_;conv=>whnf
  refine .dat (.lit (.int .i64 (gn T.B i:Nat))) in_len (in_at h1') ?_;conv=>whnf
  refine .lE [0,1,2,3] [0,1,2,3] (LX.rd ly_free ⟨fr_T k h,fr_i,trivial⟩ trivial rfl) ?_;conv=>whnf
  refine bs (fun h2=> ?_) (fun h2=> ?_)
  ·conv=>whnf
   have h2':gn T.B i<T.n:=by have:=of_decide_eq_true h2;omega
   refine .mk (by kernel_rfl) ?_;conv=>whnf
   exact⟨i+1,by simp only[wsB_step.1 h2'];exact Wk.go,h1',by omega⟩
  ·conv=>whnf
   have h2':¬gn T.B i<T.n:=fun k=>by have:=of_decide_eq_false h2;omega
   refine .lE [0,1,2,3] [0,1,2,3] (LX.rd (ly_const k h1') ⟨fr_T k h,fr_i,trivial⟩ ok_ratV rfl) ?_;conv=>whnf
   refine .c (lx_rsign (.c hs)) ?_;conv=>whnf
   rw[sg_lt];refine bs (fun h3=> ?_) (fun h3=> ?_)
   ·conv=>whnf
    have h3':=of_decide_eq_true h3
    cases hb:wsB T i with
    |none=>
     have e:wsB T (i+1)=some i:=by rw[wsB,if_pos ⟨h2',h3',fun b k=>by rw[hb]at k;cases k⟩]
     conv=>whnf
     refine .mk (by kernel_rfl) ?_;conv=>whnf
     exact⟨i+1,by simp only[e];exact Wk.go,h1',by omega⟩
    |some b=>
     have hbl:=(wsB_some hb).1;have hsb:=(k.fq b (by omega) T.N.length (lR_ _)).sz (by omega);conv=>whnf
     refine .lE [0,1,2,3] [0,1,2,3] (LX.rd (ly_const k h1') ⟨fr_T k h,fr_i,trivial⟩ ok_ratV rfl) ?_;conv=>whnf
     refine .lE [0,1,2,3] [0,1,2,3] (LX.rd (ly_const (i:=b) k (by omega)) ⟨fr_T k h,fr_i,trivial⟩ ok_ratV rfl) ?_;conv=>whnf
     refine .c (lx_rcmp (.c hs) (.c hsb)) ?_;conv=>whnf
     rw[cmp_ltd];refine bs (fun h4=> ?_) (fun h4=> ?_)
     ·conv=>whnf
      have h4':=of_decide_eq_true h4;have e:wsB T (i+1)=some i:=by rw[wsB,if_pos ⟨h2',h3',fun b' k=>by rw[hb]at k;injection k with k;subst k;exact h4'⟩]
      refine .mk (by kernel_rfl) ?_;conv=>whnf
      exact⟨i+1,by simp only[e];exact Wk.go,h1',by omega⟩
     ·conv=>whnf
      have h4':=of_decide_eq_false h4;have e:wsB T (i+1)=some b:=by rw[wsB,if_neg fun k=>h4' (k.2.2 b hb),hb]
      refine .mk (by kernel_rfl) ?_;conv=>whnf
      exact⟨i+1,by simp only[e];exact Wk.go,h1',by omega⟩
   ·conv=>whnf
    have h3':=Rat.not_lt.1 (of_decide_eq_false h3);refine .mk (by kernel_rfl) ?_;conv=>whnf
    exact⟨i+1,by simp only[wsB_step.2 h3'];exact Wk.go,h1',by omega⟩
 ·conv=>whnf
  have h1':i=T.B.length:=by have:=of_decide_eq_false h1;omega
  subst h1'
  cases hb:wsB T T.B.length with
  |none=>
   conv=>whnf
   exact .mk _ (tH 0 T X) (.inl ⟨hb,rfl,rfl⟩) (vR_ _) rfl ⟨⟨_,rfl,wke_refl _,rfl⟩,⟨_,rfl,wke_refl _,rfl⟩,⟨_,rfl,wke_refl _,rfl⟩,⟨_,rfl,wke_refl _,rfl⟩,trivial⟩ rfl
  |some w=>
   obtain⟨kk,U,f⟩:=hf w hb;have hw:=(wsB_some hb).1;have hwa:IntKind.i64.wrap ((T.n:Int)+(T.m:Int))=((T.a:Nat):Int):=by have:=k.n;have:=k.m;rw[wr64 (by omega) (by omega)];simp only[Tb.a];omega
   conv=>whnf
   rw[hwa];refine .mk (by kernel_rfl) ?_;conv=>whnf
   refine .mk ((T.N++[T.a]).map fun x=> .inr (.lit (.int .i64 (x:Nat)))) in_len (by omega) (by rw[List.map_append];rfl) ?_;conv=>whnf
   refine .mk (by kernel_rfl) ?_;conv=>whnf
   refine .mk (Nat×Ar) (fun(i,X)=>⟨[(88,vl (.int .i64 (i:Nat))),(87,vl (.int .i64 (T.B.length:Nat))),(86,.a (.th 1 T.B.length)),(8,vl (.int .i64 (T.N.length:Nat))),(7,.a (.ptr 5 0)),(4,vl (.int .i64 (w:Nat))),(3,vl (.bool false)),(2,vl (.slice none 0 0)),(1,.a (.ptr 4 0))],tHm T (T.N++[T.a]) X,8⟩) (fun b=>b.1≤T.B.length∧GOk (insR T b.1) T.B.length T.O b.2∧(∀j q,b.1≤j→b.2.ix[j]? =some q→q.2.2=true)∧b.2.ob.2.2=true) (fun b=>T.B.length-b.1) (0,X)
    (by simp only[tHm,List.length_append,List.length_singleton];exact Wk.go) ⟨zL_ _,h.g.congr fun i hi=>(if_neg (Nat.not_lt_zero i)).symm,fun j q _ hq=>fl.1 q (mG_ hq),fl.2⟩ fun⟨i,X⟩ hi=> ?_
   obtain⟨hi,hG,hfl,hob⟩:=hi;simp only at hi hG hfl hob;conv=>whnf
   refine bs (fun h2=> ?_) (fun h2=> ?_)
   ·conv=>whnf
    have h2':i<T.B.length:=by have:=of_decide_eq_true h2;omega
    obtain⟨⟨a,m,f⟩,hq,hm,rows,hrows,hR⟩:=hG.rw i h2';have hf:f=true:=hfl i _ (lR_ _) hq;subst hf;have eL:insR T i i=T.r i:=if_neg (Nat.lt_irrefl i);rw[eL]at hm hR;have hm':m=T.N.length+1:=Eq.trans hm (k.rl i h2');subst hm';have ins:∀c,LX Tryz.prog 63 [.a (.row 0 a (T.N.length+1) true),vl (.int .i64 (T.N.length:Nat)),.a (.d (.sl 3 [ratD c]))] [ttH 0 (oI X.ix) X.ar] fun v H=>v= .a (.row 0 X.ar.length (T.N.length+1+1) false)∧H=[ttH 0 (oI X.ix) (X.ar++[tQ (insC (T.r i) T.N.length c)])]:=fun c=>ly_insert hrows hR (k.rl i h2') (by omega) (by omega)
    have nxt:∀c,T.ac i=c→GOk (insR T (i+1)) T.B.length T.O ⟨X.ix.set i (X.ar.length,T.N.length+1+1,false),X.ob,X.ar++[tQ (insC (T.r i) T.N.length c)]⟩:=fun c hc=>by
     refine(hG.push h2' (l:=insC (T.r i) T.N.length c) (by rw[insC_len (by rw[k.rl i h2'];omega),k.rl i h2']) false).congr fun j hj=> ?_;simp only[insR]
     by_cases e:j=i
     ·subst e;rw[if_pos rfl,if_pos (Nat.lt_succ_self j),hc]
     ·rw[if_neg e]
      by_cases e2:j<i
      ·rw[if_pos e2,if_pos (by omega)]
      ·rw[if_neg e2,if_neg (by omega)]
    have nfl:∀j q R,i+1≤j→(X.ix.set i R)[j]? =some q→q.2.2=true:=fun j q R hj hq=>hfl j q (by omega) (by rwa [List.getElem?_set,if_neg (by omega)]at hq);refine .mk i in_len rfl h2' ?_;conv=>whnf
    refine .dat (.lit (.int .i64 (gn T.B i:Nat))) in_len (in_at h2') ?_;conv=>whnf
    refine .lE [0,1,2,3] [0,1,2,3] (ly_freeM (q:=X.ob)) ?_;conv=>whnf
    refine bs (fun h3=> ?_) (fun h3=> ?_)
    ·conv=>whnf
     have h3':gn T.B i<T.n:=by have:=of_decide_eq_true h3;omega
     have hc:T.ac i=0:=if_pos h3';refine .mk i hG.il rfl h2' ?_;conv=>whnf
     refine .row a (T.N.length+1) true hG.il (oI_at hq) ?_;conv=>whnf
     refine .lE [3] [] ((by have:=ins 0;rw[ratD_0]at this;exact this)) ?_;conv=>whnf
     refine .mk i hG.il rfl h2' ?_;conv=>whnf
     refine .mk (oI (X.ix.set i (X.ar.length,T.N.length+1+1,false))) hG.il h2' (by rw[oI,List.map_set]) ?_;conv=>whnf
     refine .mk (by kernel_rfl) ?_;conv=>whnf
     exact⟨(i+1,⟨X.ix.set i (X.ar.length,T.N.length+1+1,false),X.ob,X.ar++[tQ (insC (T.r i) T.N.length 0)]⟩),Wk.go,⟨h2',nxt 0 hc,fun j q hj hq=>nfl j q _ hj hq,hob⟩,by simp only;omega⟩
    ·conv=>whnf
     have h3':¬gn T.B i<T.n:=fun k=>by have:=of_decide_eq_false h3;omega
     have hc:T.ac i=1:=if_neg h3';refine .c (lx_rof (z:=1) (by decide) (by decide)) ?_;conv=>whnf
     refine .mk i hG.il rfl h2' ?_;conv=>whnf
     refine .row a (T.N.length+1) true hG.il (oI_at hq) ?_;conv=>whnf
     refine .lE [3] [] (ins 1) ?_;conv=>whnf
     refine .mk i hG.il rfl h2' ?_;conv=>whnf
     refine .mk (oI (X.ix.set i (X.ar.length,T.N.length+1+1,false))) hG.il h2' (by rw[oI,List.map_set]) ?_;conv=>whnf
     refine .mk (by kernel_rfl) ?_;conv=>whnf
     exact⟨(i+1,⟨X.ix.set i (X.ar.length,T.N.length+1+1,false),X.ob,X.ar++[tQ (insC (T.r i) T.N.length 1)]⟩),Wk.go,⟨h2',nxt 1 hc,fun j q hj hq=>nfl j q _ hj hq,hob⟩,by simp only;omega⟩
   ·conv=>whnf
    have h2':i=T.B.length:=by have:=of_decide_eq_false h2;omega
    subst h2';obtain⟨ix,⟨oa,om,fo⟩,A0⟩:=X;simp only at hob;subst hob;have hom:om=T.N.length+1:=hG.ob.1.trans k.ol;subst hom;obtain⟨_,rows,hrows,hR⟩:=id hG.ob;have hM:MOk T.ax ⟨ix,(A0.length,T.N.length+1+1,false),A0++[tQ (insC T.O T.N.length 0)]⟩:=by
     refine(hG.pushO (l:=insC T.O T.N.length 0) (by rw[insC_len (by rw[k.ol];omega),k.ol]) false).m rfl (fun j hj=> ?_) rfl;rw[Tb.ax_r (by rw[k.fl];exact hj)];exact if_pos hj
    have hfw:gq (T.ax.r w) T.N.length≠0:=by
     rw[Tb.ax_r (by rw[k.fl];exact hw),insC_at (by rw[k.rl w hw];omega),if_neg (Nat.lt_irrefl _),if_pos rfl];have:T.ac w=1:=if_neg (wsB_some hb).2.1;rw[this];decide
    have hp:=ly_pivot f.ax hM (r:=w) (e:=T.N.length) hw (by simp[Tb.ax]) hfw;refine .lE [3] [] ((by have:=ly_insert (o:=oI ix) (c:=0) hrows hR k.ol (show T.N.length<T.N.length+1 by omega) (by omega);rw[ratD_0]at this;exact this)) ?_;conv=>whnf
    refine .mk (by kernel_rfl) ?_;conv=>whnf
    have it:=f.it;have ok:=f.ok;generalize T.ax.pv w T.N.length=T2 at hp it ok;obtain⟨k2,hp2,ha2,hN2⟩:=ok 0 (zL_ _) T2 rfl;refine .lD [0,1,2,3] [] _ hp ?_;rintro _ _ ⟨rfl,X2,hX2,_,rfl⟩;refine⟨rfl,(fun k hk=>by cases hk),?_⟩;conv=>whnf
    have hnl2:=k2.nl;have hw2:IntKind.i64.wrap ((T2.N.length:Int)+1)=((T2.N.length+1:Nat):Int):=by rw[wr64 (by omega) (by omega)];omega
    refine .mk (T2.N.length+1) X2.ar.length (X2.ar++[tQ (zR T2.N.length)]) hw2 hw2 (by omega) rfl (by rw[←tq0e]) ?_;conv=>whnf
    have hX3:MOk T2 ⟨X2.ix,X2.ob,X2.ar++[tQ (zR T2.N.length)]⟩:=⟨hX2.len,fun i hi=>let ⟨q,h1,h2⟩:=hX2.rw i hi;⟨q,h1,h2.app _ _ _⟩,hX2.ob.app _ _ _,hX2.nd⟩;have hm:=ly_min1 (u:=X2.ar.length) it f.nx (fun j hj V hV=>by obtain⟨q1,q2,q3,q4⟩:=ok j hj V hV;exact⟨q1,q2,q3,q4.trans hN2.symm⟩) hX3 ar_at (fun hm=>Nat.lt_irrefl _ (hX2.g.lt (List.mem_append_left _ hm))) (fun e=>by have:=hX2.g.lt (x:=X2.ob.1) (by simp);simp only at e;omega);refine .lD [0,1,2,3,4,5,14] [] _ hm ?_;rintro _ _ ⟨rfl,X4,hX4,hkp,rfl⟩;refine⟨rfl,(fun k hk=>by cases hk),?_⟩;obtain⟨hu,_,_⟩:=hkp.1 X2.ar.length _ ar_at (fun hm=>Nat.lt_irrefl _ (hX2.g.lt (List.mem_append_left _ hm))) (fun e=>by have:=hX2.g.lt (x:=X2.ob.1) (by simp);simp only at e;omega);obtain⟨kU,hpU,haU,hNU⟩:=ok kk (lR_ _) U it;have hnlU:=kU.nl;have hblU:=kU.bl;conv=>whnf
    have hwl:IntKind.i64.wrap (((U.N.length+1:Nat):Int)-1)=(U.N.length:Nat):=by rw[wr64 (by omega) (by omega)];omega
    by_cases ha:T.a∈U.B
    case' pos=>
     obtain⟨⟨qa,qm,qf⟩,hq,hA⟩:=hX4.rw (U.B.idxOf T.a) (List.idxOf_lt_length_of_mem ha);have hil:=List.idxOf_lt_length_of_mem ha;have hqm:qm=U.N.length+1:=hA.1.trans (kU.rl _ hil);subst hqm;obtain⟨_,rows2,hr2,hR2⟩:=id hA;refine .lE [0,1,2,3,4,5,14] [0,1,2,3,4,5,14] (ly_vioA (u:=X2.ar.length) (nl:=T2.N.length) kU hX4 ha hq) ?_;conv=>whnf
     have hbt:=kU.fq _ hil;refine .mk U.N.length hwl (Nat.lt_succ_self _) ?_;conv=>whnf
     refine .mk rows2 U.N.length 0 (ratD (gq (U.r (U.B.idxOf T.a)) U.N.length)) hr2 rfl (hR2.at (by rw[kU.rl _ hil];omega)) ?_;conv=>whnf
     refine .c (lx_rsign (.c ((hbt U.N.length (lR_ _)).sz (by omega)))) ?_;conv=>whnf
     rw[sg_gt];refine bs (fun h4=> ?_) (fun h4=> ?_)
     ·conv=>whnf
      have h4':=of_decide_eq_true h4;refine .lE [0,1,2,3] [0,1,2,3] (LX.frzT (H:=tH 0 U X4) (ly_dual kU (kU.rl _ hil)) ⟨fr_T kU hX4,fr_R kU hX4 hq,trivial⟩ (pl_tQ _) (by have:=kU.m;omega)) ?_;conv=>whnf
      exact .mk _ (tH 0 U X4) (.inr (.inl ⟨w,kk,U,X4,f,ha,h4',hX4,rfl,rfl⟩)) (vR_ _) rfl ⟨⟨_,rfl,wke_refl _,rfl⟩,⟨_,rfl,wke_refl _,rfl⟩,⟨_,rfl,wke_refl _,rfl⟩,⟨_,rfl,wke_refl _,rfl⟩,trivial⟩ rfl
     conv=>whnf
     have h4':=of_decide_eq_false h4;obtain⟨e,he,kV,haV⟩:=f.out ha h4';obtain⟨he1,he2⟩:=nz_some he;have het:e<U.N.length:=by rw[List.length_take]at he1;omega
     rw[gq_take het]at he2;refine .lE [0,1,2,3] [0,1,2,3] (LX.rd (ly_index (x:=T.a) (by omega)) ⟨fr_B kU,fr_i,trivial⟩ trivial rfl) ?_;conv=>whnf
     refine .mk (by kernel_rfl) ?_;conv=>whnf
     rw[ix_some ha];conv=>whnf
     refine .mk (U.B.idxOf T.a) hX4.il rfl hil ?_;conv=>whnf
     refine .row qa (U.N.length+1) qf hX4.il (oI_at hq) ?_;conv=>whnf
     refine .mk U.N.length rfl (by omega) ?_;conv=>whnf
     refine .lE [3] [3] (ly_idxf (o:=oI X4.ix) (l:=(U.r (U.B.idxOf T.a)).take U.N.length) hr2 (hR2.take _) (by rw[List.length_take,kU.rl _ hil];simp) (by omega) (fun j hj=>by rw[gq_take (by omega)];exact hbt j (by omega))) ?_;conv=>whnf
     refine .mk (by kernel_rfl) ?_;conv=>whnf
     rw[he];conv=>whnf
     have hp5:=ly_pivot kU hX4 hil het he2;have hFe:FeV T U (U.pv (U.B.idxOf T.a) e):= .inr ⟨e,ha,h4',he,rfl⟩;generalize U.pv (U.B.idxOf T.a) e=V at hp5 kV haV hFe;refine .lD [0,1,2,3] [] _ hp5 ?_;rintro _ _ ⟨rfl,X5,hX5,_,rfl⟩;refine⟨rfl,(fun k hk=>by cases hk),?_⟩;conv=>whnf
     let K:Nat:=42
     have hK:K=if T.a∈U.B then 42 else 38:=(if_pos ha).symm
    case' neg=>
     have haV:T.a∈U.N:=haU.resolve_left ha;have kV:=kU;have hX5:=hX4;have hUN:U.N.length=T2.N.length:=hNU.trans hN2.symm;refine .lE [0,1,2,3,4,5,14] [0,1,2,3,4,5,14] (ly_vioB (u:=X2.ar.length) kU hUN hX4 ha haV (by rw[hUN];exact hu)) ?_;conv=>whnf
     rw[hUN]at hwl;have h0:gq (untL U T.a) T2.N.length=0:=by
      have h5:=List.idxOf_lt_length_of_mem haV;unfold untL;rw[gq_set (by simp;omega),if_neg (by omega),gq_rep]
     refine .mk T2.N.length hwl (Nat.lt_succ_self _) ?_;conv=>whnf
     refine .mk T2.N.length 0 (ratD (gq (untL U T.a) T2.N.length)) rfl (tQ_at (by rw[untL_len];omega)) ?_;conv=>whnf
     refine .c (lx_rsign (.c ((bt_unt U T.a _).sz (by omega)))) ?_;conv=>whnf
     rw[sg_gt];refine bF (decide_eq_false (by rw[h0];decide)) ?_;conv=>whnf
     refine .lE [0,1,2,3] [0,1,2,3] (LX.rd (T:=U) (X:=X4) (ly_index (l:=U.B) (x:=T.a) (by omega)) ⟨fr_B kU,fr_i,trivial⟩ trivial rfl) ?_;conv=>whnf
     refine .mk (by kernel_rfl) ?_;conv=>whnf
     rw[show ixS U.B T.a=none from if_neg ha];conv=>whnf
     let K:Nat:=38
     generalize hVU:U=V at kV haV hX5 ⊢;generalize X4=X5 at hX5 ⊢;have hFe:FeV T U V:= .inl ⟨ha,hVU.symm⟩;have hK:K=if T.a∈U.B then 42 else 38:=(if_neg ha).symm
    all_goals
     have hVn:=kV.nl;have hVb:=kV.bl;have hci:=List.idxOf_lt_length_of_mem haV;have hwc:IntKind.i64.wrap (bI (some (V.N.idxOf T.a))+1)=((V.N.idxOf T.a+1:Nat):Int):=by simp only[bI];rw[wr64 (by omega) (by omega)];omega
     have hwc2:IntKind.i64.wrap (((V.N.idxOf T.a:Nat):Int)+1)=((V.N.idxOf T.a+1:Nat):Int):=hwc;refine .lE [0,1,2,3] [0,1,2,3] (LX.rd (T:=V) (X:=X5) (ly_index (l:=V.N) (x:=T.a) (by omega)) ⟨fr_N kV,fr_i,trivial⟩ trivial rfl) ?_;conv=>whnf
     refine .mk (by kernel_rfl) ?_;conv=>whnf
     rw[ix_some haV];conv=>whnf
     rw[hwc];refine .lE [2] [] (ly_deleteI hci (by omega)) ?_;conv=>whnf
     refine .mk (by kernel_rfl) ?_;conv=>whnf
     refine .mk (Nat×Ar) (fun(i,X)=>⟨[(209,vl (.int .i64 (i:Nat))),(208,vl (.int .i64 (V.B.length:Nat))),(8,vl (.int .i64 (V.N.idxOf T.a:Nat))),(3,vl (.bool false)),(2,vl (.slice none 0 0)),(1,.a (.ptr 4 0))],(4,.box 61 [.ptr 0 0])::tHk ⟨V.n,V.m,V.B,V.N.eraseIdx (V.N.idxOf T.a),V.F,V.O,V.p⟩ X K,60⟩) (fun b=>b.1≤V.B.length∧GOk (delR V (V.N.idxOf T.a) b.1) V.B.length V.O b.2) (fun b=>V.B.length-b.1) (0,X5)
      (by simp only[tHk,List.length_eraseIdx,if_pos hci];exact Wk.go) ⟨zL_ _,hX5.g.congr fun i hi=>(if_neg (Nat.not_lt_zero i)).symm⟩ fun⟨i,X⟩ hi=> ?_
     obtain⟨hi,hG⟩:=hi;simp only at hi hG;conv=>whnf
     refine bs (fun h7=> ?_) (fun h7=> ?_)
     ·conv=>whnf
      have h7':i<V.B.length:=by have:=of_decide_eq_true h7;omega
      obtain⟨⟨a,m,f⟩,hq,hm,rows,hrows,hR⟩:=hG.rw i h7';have eL:delR V (V.N.idxOf T.a) i i=V.r i:=if_neg (Nat.lt_irrefl i);rw[eL]at hm hR;have hm':m=V.N.length+1:=Eq.trans hm (kV.rl i h7');subst hm';refine .mk i hG.il rfl h7' ?_;conv=>whnf
      refine .row a (V.N.length+1) f hG.il (oI_at hq) ?_;conv=>whnf
      rw[hwc2];refine .lE [3] [] (ly_delete (o:=oI X.ix) hrows hR (kV.rl i h7') (Nat.succ_lt_succ hci) (by omega)) ?_;conv=>whnf
      refine .mk i hG.il rfl h7' ?_;conv=>whnf
      refine .mk (oI (X.ix.set i (a,V.N.length+1-1,false))) hG.il h7' (by rw[oI,List.map_set]) ?_;conv=>whnf
      refine .mk (by kernel_rfl) ?_;conv=>whnf
      refine⟨(i+1,⟨X.ix.set i (a,V.N.length+1-1,false),X.ob,X.ar.set a (tQ ((V.r i).eraseIdx (V.N.idxOf T.a))++[ratD 0]++rows.drop (V.N.length+1))⟩),Wk.go,⟨h7',(hG.upd hq (l:=(V.r i).eraseIdx (V.N.idxOf T.a)) (by rw[List.append_assoc];exact rw_app _ _) (by rw[List.length_eraseIdx,if_pos (by rw[kV.rl i h7'];omega),kV.rl i h7']) false).congr fun j hj=> ?_⟩,by simp only;omega⟩;simp only[delR]
      by_cases e:j=i
      ·subst e;rw[if_pos rfl,if_pos (Nat.lt_succ_self j)]
      ·rw[if_neg e]
       by_cases e2:j<i
       ·rw[if_pos e2,if_pos (by omega)]
       ·rw[if_neg e2,if_neg (by omega)]
     ·conv=>whnf
      have h7':i=V.B.length:=by have:=of_decide_eq_false h7;omega
      subst h7';obtain⟨ix,⟨oa,om,fo⟩,A0⟩:=X;have hom:om=V.N.length+1:=hG.ob.1.trans kV.ol;subst hom;obtain⟨_,rows,hrows,hR⟩:=id hG.ob;rw[hwc2];refine .lE [3] [] (ly_delete (o:=oI ix) (n:=V.N.length+1) hrows hR kV.ol (Nat.succ_lt_succ hci) (by omega)) ?_;conv=>whnf
      refine .mk (by kernel_rfl) ?_;conv=>whnf
      have hM:MOk (V.er (V.N.idxOf T.a)) ⟨ix,(oa,V.N.length+1-1,false),A0.set oa (tQ (V.O.eraseIdx (V.N.idxOf T.a))++[ratD 0]++rows.drop (V.N.length+1))⟩:=by
       refine(hG.updO (l:=V.O.eraseIdx (V.N.idxOf T.a)) (by rw[List.append_assoc];exact rw_app _ _) (by rw[List.length_eraseIdx,if_pos (by rw[kV.ol];omega),kV.ol]) false).m rfl (fun j hj=> ?_) rfl;rw[Tb.er_r (by rw[kV.fl];exact hj)];exact if_pos hj
      exact .mk _ (tHk (V.er (V.N.idxOf T.a)) ⟨ix,(oa,V.N.length+1-1,false),A0.set oa (tQ (V.O.eraseIdx (V.N.idxOf T.a))++[ratD 0]++rows.drop (V.N.length+1))⟩ K) (.inr (.inr ⟨w,kk,U,V,_,f,hFe,hM,rfl,congrArg (tHk _ _) hK⟩)) (vR_ _) rfl
       ⟨⟨_,rfl,wke_refl _,rfl⟩,⟨_,rfl,wke_refl _,rfl⟩,⟨_,rfl,wke_refl _,rfl⟩,⟨_,rfl,wke_refl _,rfl⟩,⟨_,rfl,wke_refl _,rfl⟩,trivial⟩ rfl
theorem ly_feas {T:Tb}{X:Ar}(k:TOk T)(h:MOk T X)(fl:Fl X)(hf:∀w,wsB T T.B.length=some w→∃kk U,FeX T w kk U):LX Tryz.prog 24 [.a (.ptr 0 0)] (tH 0 T X) fun v H=>FeP (fun _ _=>4) T X v H:=by
 obtain⟨v,H,hP,hc⟩:=ly_feas0 k h fl hf;rcases hP with⟨q1,q2,q3⟩|⟨w,kk,U,X',q1,q2,q3,q4,q5,q6⟩|⟨w,kk,U,V,X',q1,q2,q3,q4,q5⟩
 ·exact⟨v,H,.inl ⟨q1,q2,q3⟩,hc⟩
 ·exact⟨v,H,.inr (.inl ⟨w,kk,U,X',q1,q2,q3,q4,q5,q6⟩),hc⟩
 ·subst q4 q5
  have key:∀K,K=42∨K=38→LC Tryz.prog 24 [.a (.ptr 0 0)] (tH 0 T X) okT (tHk (V.er (V.N.idxOf T.a)) X' K)→LX Tryz.prog 24 [.a (.ptr 0 0)] (tH 0 T X) fun v H=>v=okT∧H=tHk (V.er (V.N.idxOf T.a)) X' 4:=fun K hK hc=>by
   rcases hK with rfl|rfl
   ·exact LX.ren [0,1,2,3,42] 4 ⟨_,_,⟨rfl,rfl⟩,hc⟩ (by decide) rfl (by decide) tH_lt (by decide) (fun key hk=>by cases hk)
   ·exact LX.ren [0,1,2,3,38] 4 ⟨_,_,⟨rfl,rfl⟩,hc⟩ (by decide) rfl (by decide) tH_lt (by decide) (fun key hk=>by cases hk)
  have hd:(if T.a∈U.B then 42 else 38)=42∨(if T.a∈U.B then 42 else 38)=38:=by
   split
   ·exact .inl rfl
   ·exact .inr rfl
  obtain⟨v,H,⟨rfl,rfl⟩,hc'⟩:=key _ hd hc;exact⟨_,_,.inr (.inr ⟨w,kk,U,V,X',q1,q2,q3,rfl,rfl⟩),hc'⟩
structure Smp (p:Pg):Prop where
 ok:p.Ok 5
 n1:1≤p.n
 n3:p.n≤3
 m7:p.rows.length≤7
section
variable {p:Pg} {T0 T U V:Tb}
theorem all_tok (h:Run T0 T)(hn:T.n≤1000)(hm:T.m≤1000)(hN:T.N.length≤1000)(ha:T.D.All 100000)(hx:∀x,x∈T.B∨x∈T.N→x≤10000)(hp:T.p≤1000000):TOk T:=by
 have hFB:T.F.length=T.B.length:=by rw[h.fl,h.bl]
 refine⟨hn,hm,by rw[h.bl,←h.m];exact hm,hN,hFB,fun i hi=>h.rl hi,h.ol,fun x hx'=>hx x (.inl hx'),fun x hx'=>hx x (.inr hx'),fun i hi j hj=> ?_,fun j hj=> ?_,hp⟩
 ·have:=ha i (by rw[Tb.D_len];omega) j hj;rw[Tb.D_row (by omega)]at this;exact this.mono (by omega)
 ·have:=ha T.B.length (by rw[Tb.D_len];omega) j hj;rw[←hFB,Tb.D_obj]at this;exact this.mono (by omega)
theorem run_N (h:Run p.T0 T):T.N.length=p.n:=by
 have:=h.s.l;rw[show T.N.length=T.D.N.length from rfl,this];exact T0_Nl
theorem all_le {D:Dk}{k l:Nat}(h:D.All k)(hl:k≤l):D.All l:=fun i hi j hj=>(h i hi j hj).mono hl
theorem run_all (s:Smp p)(h:Run p.T0 T):T.D.All 341:=
 all_le (h.s.symm.all (T0_all s.ok)) (bb_mono (m:=3) 5 (by show T.N.length≤3;rw[run_N h];exact s.n3))
theorem run_nz (h:Run T0 T):T.z∉T.B∧T.z∉T.N:=by
 have:=h.s.w'.nd;have h2:((T.B++[T.z])++T.N).Nodup:=this;obtain⟨h3,h4,h5⟩:=List.nodup_append.1 h2;exact⟨fun hm=>(List.nodup_append.1 h3).2.2 _ hm _ (by simp) rfl,fun hm=>h5 T.z (by simp) T.z hm rfl⟩
theorem frV_iff (h:Run T0 T){x:Nat}(hx:x∈T.B∨x∈T.N):frV T x↔x<T.n:=by
 obtain⟨h1,h2⟩:=run_nz h;refine⟨fun k=>k.elim id fun e=> ?_,.inl⟩;subst e;exact hx.elim (fun q=>absurd q h1) fun q=>absurd q h2
theorem run_tok (s:Smp p)(h:Run p.T0 T)(hp:T.p≤1000000):TOk T:=by
 have h1:=s.n3;have h2:=s.m7;have hn:=tb_n h;have hm:=tb_m h;exact all_tok h (by omega) (by omega) (by rw[run_N h];omega) (all_le (run_all s h) (by omega)) (fun x hx=>by have:=(tb_vr h).v x hx;omega) hp
theorem ax_all (s:Smp p)(h:Run p.T0 T):T.ax.D.All 341:=by
 have ha:=run_all s h;have hFB:T.F.length=T.B.length:=by rw[h.fl,h.bl]
 have ins:∀(l:List Rat) (c:Rat),l.length=T.N.length+1→(∀j,j≤T.N.length→Bt 341 (gq l j))→Bt 341 c→∀j,j≤T.N.length+1→Bt 341 (gq (insC l T.N.length c) j):=fun l c hl hb hc j hj=>by
  rw[insC_at (by omega)];split
  ·exact hb j (by omega)
  ·split
   ·exact hc
   ·exact hb (j-1) (by omega)
 intro i hi j hj;have hj':j≤T.N.length+1:=by have:j≤(T.N++[T.a]).length:=hj;simpa using this
 rw[Tb.D_len]at hi;have hi':i<T.B.length+1:=hi
 by_cases h1:i<T.B.length
 ·rw[Tb.D_row (by simp[Tb.ax,hFB];exact h1),Tb.ax_r (by omega)];refine ins _ _ (h.rl h1) (fun j hj=> ?_) ?_ j hj'
  ·have:=ha i (by rw[Tb.D_len];omega) j hj
   rwa [Tb.D_row (by omega)]at this
  ·show Bt 341 (if gn T.B i<T.n then 0 else 1);split
   ·exact bt0 _
   ·exact bt1 _
 ·have e1:i=T.ax.F.length:=by simp[Tb.ax];omega
  rw[e1,Tb.D_obj];refine ins _ _ h.ol (fun j hj=> ?_) (bt0 _) j hj';have:=ha T.B.length (by rw[Tb.D_len];omega) j hj
  rwa [←hFB,Tb.D_obj]at this
theorem ax_N (q:Run T.ax U):U.N.length=T.N.length+1:=by
 have:=q.s.l;rw[show U.N.length=U.D.N.length from rfl,this];show(T.N++[T.a]).length=_;simp
theorem ax_mem (h:Run p.T0 T)(q:Run T.ax U){x:Nat}(hx:x∈U.B∨x∈U.N):x≤T.a:=by
 obtain⟨z1,z2⟩:=run_nz q;have hz:U.z=T.z:=by show U.n+U.m+1=_;rw[q.n,q.m];rfl
 have hne:x≠T.z:=fun e=>by
  rw[←hz]at e;subst e;exact hx.elim z1 z2
 have h1:x∈T.ax.D.B∨x∈T.ax.D.N:=q.s.mem.1 (hx.elim (fun k=> .inl (List.mem_append_left _ k)) .inr);have h2:x∈T.B++[T.z]∨x∈T.N++[T.a]:=h1;have hv:=(tb_vr h).v;rcases h2 with h3|h3
 ·rcases List.mem_append.1 h3 with h4|h4
  ·have:=hv x (.inl h4);show x≤T.n+T.m;omega
  ·exact absurd (List.mem_singleton.1 h4) hne
 ·rcases List.mem_append.1 h3 with h4|h4
  ·have:=hv x (.inr h4);show x≤T.n+T.m;omega
  ·rw[List.mem_singleton]at h4;exact Nat.le_of_eq h4
theorem run_tok2 (s:Smp p)(h:Run p.T0 T)(q:Run T.ax U)(hp:U.p≤1000000):TOk U:=by
 have h1:=s.n3;have h2:=s.m7;have hn:=tb_n h;have hm:=tb_m h;have h3:U.n=T.n:=q.n;have h4:U.m=T.m:=q.m;have hN:=ax_N q;have hN2:=run_N h;refine all_tok q (by omega) (by omega) (by omega) (all_le (q.s.symm.all (ax_all s h)) (tL_ (bb_mono (m:=4) 341 (by show U.N.length≤4;omega)) (by decide))) (fun x hx=> ?_) hp;have h5:x≤T.n+T.m:=ax_mem h q hx;omega
theorem it_rn {L:Tb→List Rat}{z:Nat}(hr:Run T0 T)(hf:Fs (frV T) T.D)(hz:Zc T T.N.length)(hs:∀U k V,Kp T0 T U k→nxt L U=some V→Bs z U V):∀k U,itT L T k=some U→Rn z T U k∧Kp T0 T U k:=by
 intro k
 induction k with
 |zero=>intro U h;injection h with h;subst h;exact⟨Rn.refl z T,(Rn.refl z T).keep hr hf hz⟩
 |succ k ih=>
  intro U h;rw[itT]at h;obtain⟨V,h1,h2⟩:=Option.bind_eq_some_iff.1 h;obtain⟨q1,q2⟩:=ih V h1;have:=q1.step (hs V k U q2 h2);exact⟨this,this.keep hr hf hz⟩
theorem bs1 (q:Run T.ax U)(h:nxt (vioL T.a) U=some V):Bs T.a U V:=by
 by_cases ha:T.a∈U.B
 ·have hil:=List.idxOf_lt_length_of_mem ha;have hg:gn U.B (U.B.idxOf T.a)=T.a:=by
   rw[gn,List.getD_eq_getElem?_getD,List.getElem?_eq_getElem hil];exact List.getElem_idxOf hil
  exact nxt_bs (rz:=U.B.idxOf T.a) h q (by rw[Tb.D_len];omega) (by rw[Tb.D_B hil];exact hg) (by rw[Tb.D_row (by rw[q.fl,←q.bl];exact hil)];exact(if_pos ha).symm)
   (fun j hj=>frV_iff q (.inr (gn_mem hj))) (fun i hi=>frV_iff q (.inl (gn_mem hi)))
 ·rw[untL_none ha]at h;cases h
theorem bs2 (q:Run T0 U)(h:nxt Tb.O U=some V):Bs U.z U V:=
 nxt_bs (rz:=U.B.length) h q (by rw[Tb.D_len];omega) Tb.D_z (by rw[show U.B.length=U.F.length by rw[q.fl,q.bl],Tb.D_obj]) (fun j hj=>frV_iff q (.inr (gn_mem hj))) (fun i hi=>frV_iff q (.inl (gn_mem hi)))
theorem gn_idx {l:List Nat}{x:Nat}(h:x∈l):gn l (l.idxOf x)=x:=by
 have hil:=List.idxOf_lt_length_of_mem h;rw[gn,List.getD_eq_getElem?_getD,List.getElem?_eq_getElem hil];exact List.getElem_idxOf hil
structure P1 (p:Pg)(T:Tb)(w:Nat):Prop where
 s:Smp p
 h:Run p.T0 T
 z:Zc T T.N.length
 p:T.p≤10
 w:wsB T T.B.length=some w
theorem P1.it {w:Nat}(h:P1 p T w):∀k U,itT (vioL T.a) (T.ax.pv w T.N.length) k=some U→Rn T.a (T.ax.pv w T.N.length) U k∧Kp T.ax (T.ax.pv w T.N.length) U k:=by
 obtain⟨a1,a2,a3⟩:=ax_start h.h (tb_vr h.h) h.z (wsB_wst h.w);exact it_rn a1 a2 a3 fun U k V q hn=>bs1 q.run hn
theorem P1.a_mem {w:Nat}(h:P1 p T w)(q:Run T.ax U):T.a∈U.B∨T.a∈U.N:=by
 have h1:T.a∈T.ax.D.N:=by show T.a∈T.N++[T.a];simp
 rcases q.s.mem.2 (.inr h1)with h2|h2
 ·rcases List.mem_append.1 (show T.a∈U.B++[U.z]from h2)with h3|h3
  ·exact .inl h3
  ·rw[List.mem_singleton]at h3;have:U.z=T.a+1:=by show U.n+U.m+1=_;rw[q.n,q.m];rfl
   omega
 ·exact .inr h2
theorem P1.ex {w:Nat}(h:P1 p T w):∃k U,FeX T w k U:=by
 obtain⟨a1,a2,a3⟩:=ax_start h.h (tb_vr h.h) h.z (wsB_wst h.w);have h1:=h.s.n3;have h2:=h.s.m7;have hn:=tb_n h.h;have hm:=tb_m h.h
 obtain⟨k,U,e1,e2,_,e3⟩:=phase_ends (T0:=T) (L:=vioL T.a) (z:=T.a) (n:=12) (fun k U V q1 q2=>bs1 (h.it k U q1).2.run q2) a1.s.w' a2 fun x hx=>by
  have hz:(T.ax.pv w T.N.length).z=T.a+1:=rfl;have ha:T.a=T.n+T.m:=rfl;rcases List.mem_append.1 hx with hx|hx
  ·rcases List.mem_append.1 (show x∈(T.ax.pv w T.N.length).B++[(T.ax.pv w T.N.length).z]from hx)with hx|hx
   ·have:=ax_mem h.h a1 (.inl hx);omega
   ·rw[List.mem_singleton]at hx;omega
  ·have:=ax_mem h.h a1 (.inr hx);omega
 have rax:=ax_run h.h (tb_vr h.h)
 have hp:∀j V,j≤k→itT (vioL T.a) (T.ax.pv w T.N.length) j=some V→V.p≤5000:=fun j V hj hV=>by
  have:=(h.it j V hV).2.p;have e5:(T.ax.pv w T.N.length).p=T.p+1:=rfl;have:=h.p;omega
 refine⟨k,U,h.w,run_tok2 h.s h.h rax (by have:=h.p;show T.p≤_;omega),e1,e2,fun j hj V hV=> ?_,fun ha hc=> ?_⟩
 ·have hk:=(h.it j V hV).2;have h5:=hp j V hj hV;exact⟨run_tok2 h.s h.h hk.run (by omega),by omega,h.a_mem hk.run,ax_N hk.run⟩
 ·have hk:=(h.it k U e1).2;have h5:=hp k U (lR_ _) e1;have hil:=List.idxOf_lt_length_of_mem ha;obtain⟨e,he,hq⟩:=aux_col h.h (tb_vr h.h) hk.run hil (gn_idx ha);have hl:=hk.run.rl hil;obtain⟨e',he'⟩:=nz_ex (l:=(U.r (U.B.idxOf T.a)).take U.N.length) (e:=e) (by rw[List.length_take];omega) (by rw[gq_take he];exact hq);obtain⟨g1,g2⟩:=nz_some he';have g3:e'<U.N.length:=by rw[List.length_take]at g1;omega
  rw[gq_take g3]at g2;refine⟨e',he',run_tok2 h.s h.h (hk.run.pv (by rw[←hk.run.bl];exact hil) g3 g2) (by simp only[Tb.pv];omega),?_⟩;show T.a∈U.N.set e' (gn U.B (U.B.idxOf T.a));rw[gn_idx ha];exact List.mem_iff_getElem?.2 ⟨e',by rw[List.getElem?_set,if_pos rfl,if_pos g3]⟩
end
theorem ryW_at {T:Tb}{e:Nat}{c:Rat}(hn:T.B.Nodup):∀{j:Nat},j≤T.B.length→(∀r,r<j→∀x,gn T.B r=x→x<T.n→gq (ryW T e c j) x=c*gq (T.r r) e)∧∀x,x<T.n→(∀r,r<j→gn T.B r≠x)→gq (ryW T e c j) x=gq (ryW T e c 0) x
 |0,_=>⟨fun r hr=>by omega,fun x hx _=>rfl⟩
 |j+1,hj=>by
  obtain⟨i1,i2⟩:=ryW_at (e:=e) (c:=c) hn (j:=j) (by omega);have e1:ryW T e c (j+1)=if gn T.B j<T.n then(ryW T e c j).set (gn T.B j) (c*gq (T.r j) e)else ryW T e c j:=by rw[ryW]
  rw[e1];split
  ·rename_i hc;refine⟨fun r hr x hx hxn=> ?_,fun x hx hno=> ?_⟩
   ·rw[gq_set (by rw[ryW_len];exact hc)]
    by_cases h1:x=gn T.B j
    ·have:r=j:=gn_inj hn (by omega) (by omega) (by omega);rw[if_pos h1,this]
    ·rw[if_neg h1];exact i1 r (by rcases Nat.lt_or_ge r j with h|h;exact h;exact absurd (by rw[←hx,show r=j by omega]) h1) x hx hxn
   ·rw[gq_set (by rw[ryW_len];exact hc),if_neg fun e=>hno j (by omega) e.symm];exact i2 x hx fun r hr=>hno r (by omega)
  ·rename_i hc;refine⟨fun r hr x hx hxn=> ?_,fun x hx hno=>i2 x hx fun r hr=>hno r (by omega)⟩;have:r≠j:=fun e=>hc (by rw[←e,hx];exact hxn);exact i1 r (by omega) x hx hxn
theorem ryW_eq {T0 T:Tb}{e:Nat}{c:Rat}(h:Run T0 T)(he:e<T.N.length)(hv:∀x,x<T.n→x∈T.B∨x∈T.N):ryW T e c T.B.length=ptL T.n fun x=>c*T.di e x:=by
 obtain⟨i1,i2⟩:=ryW_at (e:=e) (c:=c) (run_ndB h) (lR_ _);refine gq_ext (by rw[ryW_len];simp[ptL]) fun x hx=> ?_;rw[ryW_len]at hx;rw[ptL_at hx]
 by_cases hb:x∈T.B
 ·obtain⟨i,hi,rfl⟩:=gn_of_mem hb;rw[i1 i hi _ rfl hx,di_B h he hi]
 ·have hN:x∈T.N:=(hv x hx).resolve_left hb;rw[i2 x hx fun r hr e=>hb (by rw[←e];exact gn_mem hr)];obtain⟨j,hj,rfl⟩:=gn_of_mem hN;rw[di_N h he hj,ryW];have hnd:T.N.Nodup:=h.s.w'.ndN
  by_cases h1:j=e
  ·subst h1;rw[if_pos hx,if_pos rfl,gq_set (by simpa using hx),if_pos rfl];grind
  ·rw[if_neg h1];have h2:gn T.N j≠gn T.N e:=fun q=>h1 (gn_inj hnd hj he q);split
   ·rename_i h3;rw[gq_set (by simpa using h3),if_neg h2,gq_rep];grind
   ·rw[gq_rep];grind
section
variable {p:Pg} {T U V:Tb} {w k:Nat}
theorem P1.few (h:P1 p T w)(f:FeX T w k U):U.p≤5000:=by
 obtain⟨a1,a2,a3⟩:=ax_start h.h (tb_vr h.h) h.z (wsB_wst h.w);have h1:=h.s.n3;have h2:=h.s.m7;have hn:=tb_n h.h;have hm:=tb_m h.h;obtain⟨q1,q2⟩:=h.it k U f.it
 have:=q1.few (n:=12) a1.s.w' a2 fun x hx=>by
  have hz:(T.ax.pv w T.N.length).z=T.a+1:=rfl;have ha:T.a=T.n+T.m:=rfl;rcases List.mem_append.1 hx with hx|hx
  ·rcases List.mem_append.1 (show x∈(T.ax.pv w T.N.length).B++[(T.ax.pv w T.N.length).z]from hx)with hx|hx
   ·have:=ax_mem h.h a1 (.inl hx);omega
   ·rw[List.mem_singleton]at hx;omega
  ·have:=ax_mem h.h a1 (.inr hx);omega
 have e5:(T.ax.pv w T.N.length).p=T.p+1:=rfl;have e6:=q2.p;have:=h.p;omega
theorem P1.inf (h:P1 p T w)(f:FeX T w k U)(ha:T.a∈U.B)(hc:0<gq (U.r (U.B.idxOf T.a)) U.N.length):SolOk p 2 0 [] (duW U (U.r (U.B.idxOf T.a)) U.N.length) []:=by
 have hk:=(h.it k U f.it).2;have hil:=List.idxOf_lt_length_of_mem ha;have hn:U.n=T.n:=hk.run.n;rw[duW_eq hk.run.s.w'.ndN];refine sol_inf h.s.ok h.h hk.run hn hk.run.m hk.zc hil (gn_idx ha) hc fun e he hf=> ?_;have hx:=f.nx;have hv:vioL T.a U=U.r (U.B.idxOf T.a):=if_pos ha;unfold nxt at hx;rw[hv]at hx
 cases h1:enB U (U.r (U.B.idxOf T.a)) U.N.length with
 |none=>exact enB_none h1 e he hf
 |some e1=>
  exfalso;rw[h1]at hx;simp only at hx;obtain⟨g1,g2,g3,_⟩:=enB_some h1
  cases h2:leB U e1 U.B.length with
  |none=>
   have:=leB_none h2 _ hil (by rw[gn_idx ha,hn];show ¬T.n+T.m<T.n;omega);grind
  |some r=>rw[h2]at hx;cases hx
theorem P1.fin (h:P1 p T w)(f:FeX T w k U)(hv:FeV T U V):Run p.T0 (V.er (V.N.idxOf T.a))∧Fs (frV (V.er (V.N.idxOf T.a))) (V.er (V.N.idxOf T.a)).D∧Zc (V.er (V.N.idxOf T.a)) (V.er (V.N.idxOf T.a)).N.length∧(V.er (V.N.idxOf T.a)).p≤6000:=by
 have hk:=(h.it k U f.it).2;have hp:=h.few f;have hn:U.n=T.n:=hk.run.n;have hfr:Fs (frV U) U.D:=by rw[hk.fr];exact hk.fs
 have key:Run T.ax V∧Fs (frV V) V.D∧Zc V V.N.length∧T.a∈V.N∧V.p≤6000:=by
  rcases hv with⟨ha,rfl⟩|⟨e,ha,hc,he,rfl⟩
  ·exact⟨hk.run,hfr,hk.zc,(h.a_mem hk.run).resolve_left ha,by omega⟩
  ·have hil:=List.idxOf_lt_length_of_mem ha;obtain⟨g1,g2⟩:=nz_some he;have g3:e<U.N.length:=by rw[List.length_take]at g1;omega
   rw[gq_take g3]at g2;have hrf:¬gn U.B (U.B.idxOf T.a)<U.n:=by rw[gn_idx ha,hn];show ¬T.n+T.m<T.n;omega
   have h0:gq (U.r (U.B.idxOf T.a)) U.N.length=0:=by
    have h5:=hfr (U.B.idxOf T.a) (by rw[Tb.D_len];omega) (by rw[Tb.D_B hil];exact fun q=>hrf ((frV_iff hk.run (.inl (gn_mem hil))).1 q));have h6:0≤gq (U.D.row (U.B.idxOf T.a)) U.N.length:=h5;rw[Tb.D_row (by rw[hk.run.fl,←hk.run.bl];exact hil)]at h6;grind
   obtain⟨b1,b2,b3⟩:=aux_out hk.run hfr hk.zc hil hrf h0 g3 g2;refine⟨b1,b2,b3,?_,by simp only[Tb.pv];omega⟩;show T.a∈U.N.set e (gn U.B (U.B.idxOf T.a));rw[gn_idx ha];exact List.mem_iff_getElem?.2 ⟨e,by rw[List.getElem?_set,if_pos rfl,if_pos g3]⟩
 obtain⟨b1,b2,b3,b4,b5⟩:=key;obtain⟨c1,c2,c3⟩:=er_ok h.h (tb_vr h.h) b1 b1.n b1.m b2 b3 (List.idxOf_lt_length_of_mem b4) (gn_idx b4) fun x hx e=>T0_free hx (e.trans (by show T.n+T.m=p.n+p.rows.length;rw[tb_n h.h,tb_m h.h]));exact⟨c1,c2,c3,b5⟩
structure P2 (p:Pg)(T:Tb):Prop where
 s:Smp p
 h:Run p.T0 T
 f:Fs (frV T) T.D
 z:Zc T T.N.length
 p:T.p≤20000
def Hz (T:Tb):Prop:=∀e,e<T.N.length→gn T.N e<T.n→gq T.O e=0
theorem fs_of (h:Run p.T0 T)(hw:wsB T T.B.length=none):Fs (frV T) T.D:=fun i hi hf=>by
 rw[Tb.D_len]at hi;have h1:i<T.B.length:=by
  rcases Nat.lt_or_ge i T.B.length with h1|h1
  ·exact h1
  ·exact absurd (by rw[show i=T.B.length by omega,Tb.D_z];exact .inr rfl) hf
 rw[Tb.D_B h1]at hf;show 0≤gq (T.D.row i) T.N.length;rw[Tb.D_row (by rw[h.fl,←h.bl];exact h1)];exact wsB_none hw i h1 fun q=>hf (.inl q)
theorem P2.pt (h:P2 p T):ptW T T.B.length=ptL p.n (bz T.D):=by
 rw[ptW_eq h.h fun x hx=>tb_mem h.h (by rw[tb_n h.h]at hx;omega),tb_n h.h]
theorem P2.ry (h:P2 p T){e:Nat}{c:Rat}(he:e<T.N.length):ryW T e c T.B.length=ptL p.n fun x=>c*T.di e x:=by
 rw[ryW_eq h.h he fun x hx=>tb_mem h.h (by rw[tb_n h.h]at hx;omega),tb_n h.h]
theorem P2.tok (h:P2 p T):TOk T:=run_tok h.s h.h (by have:=h.p;omega)
theorem P2.unbF (h:P2 p T){e:Nat}{c:Rat}(he:e<T.N.length)(hf:gn T.N e<T.n)(ho:c*gq T.O e<0):SolOk p 3 0 (ptW T T.B.length) [] (ryW T e c T.B.length):=by
 rw[h.pt,h.ry he];exact sol_unb h.s.ok h.h h.f he (fun i hi hif=>by rw[h.z e he he hf i hi hif,Rat.mul_zero];exact Rat.le_refl) (fun q=>absurd hf q) ho
theorem P2.unb (h:P2 p T){e:Nat}(he:enB T T.O T.N.length=some e)(hl:leB T e T.B.length=none):SolOk p 3 0 (ptW T T.B.length) [] (ryW T e ((1:Int):Rat) T.B.length):=by
 obtain⟨g1,g2,g3,_⟩:=enB_some he;have e1:((1:Int):Rat)=1:=rfl;rw[h.pt,h.ry g1,e1];exact sol_unb h.s.ok h.h h.f g1 (fun i hi hif=>by have:=leB_none hl i hi hif;grind) (fun _=>by decide) (by grind)
theorem P2.opt (h:P2 p T)(hz:Hz T)(he:enB T T.O T.N.length=none):SolOk p 1 (gq T.O T.N.length) (ptW T T.B.length) (duW T T.O T.N.length) []:=by
 rw[h.pt,duW_eq h.h.s.w'.ndN];exact sol_opt h.s.ok h.h h.f hz fun e he' hf=>enB_none he e he' hf
theorem hz_nxt {T0:Tb}(q:Run T0 U)(hc:Zc U U.N.length)(hz:Hz U)(h:nxt Tb.O U=some V):Hz V:=by
 obtain⟨e,r,he,hr,rfl⟩:=nxt_some h;obtain⟨e1,e2,e3,_⟩:=enB_some he;obtain⟨r1,r2,r3,_⟩:=leB_some hr;intro j hj hf;have hN:gn (U.pv r e).N j=if j=e then gn U.B r else gn U.N j:=gn_set e1
 have hj':j<U.N.length:=by simpa [Tb.pv]using hj
 by_cases hje:j=e
 ·rw[hN,if_pos hje]at hf;exact absurd hf r2
 ·rw[hN,if_neg hje]at hf;have h0:=hz j hj' hf;have h1:=hc j hj' hj' hf r r1 r2;show gq (sbL U.O e (pvL (U.r r) e)) j=0;have hl:=q.rl r1;rw[sbL_at (by rw[q.ol];omega),if_neg hje,h0,pvL_at (by omega),if_neg hje,h1,Rat.div_def];grind
theorem P2.ex (h:P2 p T)(h6:T.p≤6000)(hz:Hz T):∃k U,itT Tb.O T k=some U∧nxt Tb.O U=none∧(∀j,j≤k→∀V,itT Tb.O T j=some V→TOk V∧V.p≤65536)∧P2 p U∧Hz U:=by
 have h1:=h.s.n3;have h2:=h.s.m7;have hn:=tb_n h.h;have hm:=tb_m h.h;have hzz:∀{U:Tb},Run p.T0 U→U.z=T.z:=fun q=>by show _+_+1=_+_+1;rw[q.n,q.m,h.h.n,h.h.m]
 have it:=it_rn (L:=Tb.O) (z:=T.z) h.h h.f h.z fun U k V q hn=>by rw[←hzz q.run];exact bs2 q.run hn
 obtain⟨k,U,e1,e2,_,e3⟩:=phase_ends (T0:=T) (L:=Tb.O) (z:=T.z) (n:=12) (fun k U V q1 q2=>by have:=(it k U q1).2.run;rw[←hzz this];exact bs2 this q2) h.h.s.w' h.f fun x hx=>by
  have hz:T.z=T.n+T.m+1:=rfl;have hv:=(tb_vr h.h).v;rcases List.mem_append.1 hx with hx|hx
  ·rcases List.mem_append.1 (show x∈T.B++[T.z]from hx)with hx|hx
   ·have:=hv x (.inl hx);omega
   ·rw[List.mem_singleton]at hx;omega
  ·have:=hv x (.inr hx);omega
 have hp:∀j V,j≤k→itT Tb.O T j=some V→TOk V∧V.p≤65536:=fun j V hj hV=>by
  have hk:=(it j V hV).2;have h5:=hk.p;have:=h.p;exact⟨run_tok h.s hk.run (by omega),by omega⟩
 have hzs:∀j V,itT Tb.O T j=some V→Hz V:=by
  intro j
  induction j with
  |zero=>intro V hV;injection hV with hV;subst hV;exact hz
  |succ j ih=>
   intro V hV;rw[itT]at hV;obtain⟨W,q1,q2⟩:=Option.bind_eq_some_iff.1 hV;have hk:=(it j W q1).2;exact hz_nxt hk.run hk.zc (ih W q1) q2
 have hk:=(it k U e1).2;exact⟨k,U,e1,e2,fun j hj V hV=>hp j V hj hV,⟨h.s,hk.run,by rw[hk.fr];exact hk.fs,hk.zc,by have:=hk.p;omega⟩,hzs k U e1⟩
end
theorem Pg.Ok.af {p:Pg}{k:Nat}(h:p.Ok k)(hk:k≤3000000000)(hn:p.n≤1000):(∀f∈p.rows,AfOk f p.n)∧AfOk p.obj p.n:=
 ⟨fun f hf=>(h.rows f hf).ok hk (Int.natCast_nonneg _) (by omega),h.obj.ok hk (Int.natCast_nonneg _) (by omega)⟩
theorem ly_pvalid {p:Pg}{k:Nat}(ok:p.Ok k)(hk:k≤3000000000)(hn:p.n≤1000)(hm:p.rows.length≤1000):LV Tryz.prog 21 [.agg p.A] (vl (.bool true)):=by
 obtain⟨a1,a2⟩:=ok.af hk hn;have hlm:(List.map Af.D p.rows).length=p.rows.length:=List.length_map _;refine LX_run (m:=0) (n0:=0) mix Tryz.func21 rfl rfl rfl rfl ?_;conv=>whnf
 refine bF (decide_eq_false (by omega)) ?_;conv=>whnf
 refine bF (decide_eq_false (by rw[hlm];omega)) ?_;conv=>whnf
 refine .c (lx_lvalid a2) ?_;conv=>whnf
 refine .mk Nat (fun i=>⟨[(30,vl (.int .i64 (i:Nat))),(29,vl (.int .i64 ((List.map Af.D p.rows).length:Nat))),(28,.a (.d (afsD p.rows))),(1,.a (.ptr 0 0))],[(0,.box 34 p.A)],1⟩) (fun i=>i≤p.rows.length) (fun i=>p.rows.length-i) 0
  Wk.go (zL_ _) fun i hi=> ?_
 conv=>whnf
 refine bs (fun h1=> ?_) (fun h1=> ?_)
 ·conv=>whnf
  have h1':i<p.rows.length:=by have:=of_decide_eq_true h1;omega
  obtain⟨f,hf⟩:=at_some h1';refine .mk (i) (Af.D f) (rfl) (at_map hf) ?_;conv=>whnf
  refine .c (lx_lvalid (a1 f (mG_ hf))) ?_;conv=>whnf
  exact⟨i+1,Wk.go,h1',by omega⟩
 ·conv=>whnf
  exact .q ⟨rfl,rfl⟩
theorem ly_cloneIn {l:List Nat}(hl:l.length≤1000000):LX Tryz.prog 33 [.a (.d (.sl 1 (tI l)))] [] fun v H=>v= .a (.own 0 1 (tI l))∧H=[(0,.arr 3 1 (tI l).length)]:=by
 cases l with
 |cons x l=>exact ly_cloneI hl
 |nil=>
  refine clone_nil (k:=1) (e:=3) ?_ fun a cap=> ?_
  ·intro cap;refine LX_run (m:=0) (n0:=0) mix Tryz.func33 rfl rfl rfl rfl ?_;conv=>whnf
   exact⟨_,_,⟨rfl,rfl⟩,vR_ _,rfl,trivial,rfl⟩
  ·refine LX_run (m:=0) (n0:=0) mix Tryz.func33 rfl rfl rfl rfl ?_;conv=>whnf
   refine .own ?_;conv=>whnf
   refine .mk [] rfl rfl (by decide) ?_;conv=>whnf
   exact⟨_,_,⟨rfl,rfl⟩,vR_ _,rfl,⟨⟨_,rfl,wke_refl _,rfl⟩,trivial⟩,rfl⟩
theorem LX.lp {P:Program}{F:FuncId}{args:List V}{R:V→Prop}(h:LX P F args [] fun v H=>H=[]∧(keysV v).isEmpty=true∧R v):LP P F args R:=by
 obtain⟨v,H,⟨rfl,h1,h2⟩,hc⟩:=h;exact⟨v,h2,h1,v,[],⟨rfl,rfl⟩,hc⟩
def solD (st:Int)(val:Rat)(pt du ray:List Rat)(bs:List Nat)(pv:Nat):List D:= .lit (.int .i64 st)::(ratD val++[.sl 3 (tQ pt),.sl 3 (tQ du),.sl 3 (tQ ray),.sl 1 (tI bs),.lit (.int .i64 (pv:Nat))])
structure SolB (val:Rat)(pt du ray:List Rat)(bs:List Nat):Prop where
 v:Bt 2000000 val
 p:∀j,Bt 2000000 (gq pt j)
 d:∀j,Bt 2000000 (gq du j)
 r:∀j,Bt 2000000 (gq ray j)
 pl:pt.length≤1000
 dl:du.length≤1000
 rl:ray.length≤1000
 bl:bs.length≤1000
theorem bt_set {k i:Nat}{l:List Rat}{q:Rat}(h:∀j,Bt k (gq l j))(hq:Bt k q):∀j,Bt k (gq (l.set i q) j):=fun j=>by
 by_cases hi:i<l.length
 ·rw[gq_set hi];split
  ·exact hq
  ·exact h j
 ·rw[List.set_eq_of_length_le (by omega)];exact h j
theorem bt_rep {k n:Nat}:∀j,Bt k (gq (List.replicate n (0:Rat)) j):=fun j=>by rw[gq_rep];exact bt0 _
theorem bt_nil {k:Nat}:∀j,Bt k (gq [] j):=fun j=>by
 have:gq [] j=0:=by simp[gq]
 rw[this];exact bt0 _
theorem bt_ptW {T:Tb}(k:TOk T):∀i,i≤T.B.length→∀j,Bt 2000000 (gq (ptW T i) j)
 |0,_=>bt_rep
 |i+1,h=>by
  rw[ptW];split
  ·exact bt_set (bt_ptW k i (by omega)) ((k.fq i (by omega) _ (lR_ _)).mono (by omega))
  ·exact bt_ptW k i (by omega)
theorem bt_duW {T:Tb}{l:List Rat}(h:∀j,j≤T.N.length→Bt 1000000 (gq l j)):∀i,i≤T.N.length→∀j,Bt 2000000 (gq (duW T l i) j)
 |0,_=>bt_rep
 |i+1,hi=>by
  rw[duW];split
  ·exact bt_set (bt_duW h i (by omega)) ((h i (by omega)).mono (by omega))
  ·exact bt_duW h i (by omega)
theorem bt_ryW {T:Tb}(k:TOk T){e:Nat}(he:e≤T.N.length){c:Rat}(hc:Bt 1000000 c):∀i,i≤T.B.length→∀j,Bt 2000000 (gq (ryW T e c i) j)
 |0,_=>by
  rw[ryW];split
  ·exact bt_set bt_rep (hc.mono (by omega))
  ·exact bt_rep
 |i+1,hi=>by
  rw[ryW];split
  ·exact bt_set (bt_ryW k he hc i (by omega)) ((hc.mul (k.fq i (by omega) e he)).mono (by omega))
  ·exact bt_ryW k he hc i (by omega)
theorem sg_neg (q:Rat)(h:q≠0):IntKind.i64.wrap (0-q.num.sign)= -q.num.sign∧ -9223372036854775808≤ -q.num.sign∧ -q.num.sign<9223372036854775808∧Bt 1000000 ((-q.num.sign:Int):Rat)∧((-q.num.sign:Int):Rat)*q<0:=by
 have h0:q<0∨0<q:=by
  by_cases h1:q<0
  ·exact .inl h1
  ·exact .inr (by grind)
 rcases h0 with h1|h1
 ·have e:q.num.sign= -1:=by have:=of_decide_eq_true (sg_lt.trans (decide_eq_true h1));have:=Int.sign_trichotomy q.num;omega
  rw[e];exact⟨by decide,by decide,by decide,(bt1 _:Bt 1000000 1),by have:((-(-1:Int):Int):Rat)=1:=rfl;rw[this];grind⟩
 ·have e:q.num.sign=1:=by have:=of_decide_eq_true (sg_gt.trans (decide_eq_true h1));have:=Int.sign_trichotomy q.num;omega
  rw[e];exact⟨by decide,by decide,by decide,(bt1 1000000).neg,by have:((-(1:Int):Int):Rat)= -1:=rfl;rw[this];grind⟩
abbrev tHs (T:Tb)(X:Ar)(K:Nat):List (Nat×Ent):=
 [(1,.box 39 [.d (.lit (.int .i64 0)),.d (.lit (.bool false)),.d (.nat 0),.d (.nat 0),.d (.lit (.slice none 0 0)),.d (.lit (.slice none 0 0)),.d (.lit (.slice none 0 0)),.d (.lit (.slice none 0 0)),.d (.lit (.int .i64 0))]),(6,.box 61 [.ptr 2 0]),
   (2,.box 67 [.d (.lit (.int .i64 (T.n:Nat))),.d (.lit (.int .i64 (T.m:Nat))),.th 3 T.B.length,.th K T.N.length,.th 5 T.B.length,.row 5 X.ob.1 X.ob.2.1 X.ob.2.2,.d (.lit (.int .i64 (T.p:Nat)))]),inH' 3 T.B,ttH 5 (oI X.ix) X.ar,inH' K T.N]
theorem ly_solve {p:Pg}(s:Smp p):LP Tryz.prog 6 [.agg p.A] fun v=>∃st val pt du ray bs pv,SolOk p st val pt du ray∧SolB val pt du ray bs∧v= .tup [.g ((solD st val pt du ray bs pv).map A.d),.s (.d (.lit (.int .i64 0)))]:=by
 have hn:=s.n3;have hm:=s.m7;have hlm:(List.map Af.D p.rows).length=p.rows.length:=List.length_map _;refine LX.lp ?_;refine LX_run (m:=0) (n0:=0) mix Tryz.func6 rfl rfl rfl rfl ?_;conv=>whnf
 refine .c (ly_pvalid s.ok (by omega) (by omega) (by omega)) ?_;conv=>whnf
 have hset:LX Tryz.prog 22 [.agg p.A] [] fun v H=>v= .a (.ptr 0 0)∧H=tH 0 p.T0 (X0 p):=
  LX.ren [1,2,3,4] 0 (ly_setup s.ok (by omega) (by omega) (by omega)) (by decide) rfl (by decide) (fun p hp=>by cases hp) (fun i h=>absurd h (Nat.not_lt_zero i)) (fun key hk=>by rw[List.mem_singleton.1 hk];decide)
 have hN0:p.T0.N.length=p.n:=T0_Nl;have hR:∀e,e≤p.T0.N.length→RlI p.T0 p.T0 e (p.T0.rls e):=fun e he=>rls_ok T0_run e he;have hp0:p.T0.p=0:=rfl;have r1:=hR p.T0.N.length (lR_ _)
 have htok:∀e,e≤p.T0.N.length→TOk (p.T0.rls e)∧(p.T0.rls e).N.length=p.T0.N.length∧(p.T0.rls e).n=p.T0.n:=fun e he=>by
  have q:=hR e he;exact⟨run_tok s q.run (by have:=q.p;omega),q.len,q.run.n⟩
 have k1:=(htok _ (lR_ _)).1;have hp1:(p.T0.rls p.T0.N.length).p≤10:=by have:=r1.p;omega
 have z1:Zc (p.T0.rls p.T0.N.length) (p.T0.rls p.T0.N.length).N.length:=by rw[r1.len];exact r1.zc
 have hrel:=ly_release (T:=p.T0) (fun h=>by have h5:=s.n1;rw[h]at hN0;simp at hN0;omega) htok (X0_ok p);have u1:=r1.run;generalize p.T0.rls p.T0.N.length=T1 at hrel k1 hp1 z1 u1;refine .lE [] [] (hset) ?_;conv=>whnf
 refine .lD [2,3,4,5] [] _ hrel ?_;rintro _ _ ⟨rfl,X1,hX1,hkp,rfl⟩;refine⟨rfl,(fun k hk=>by cases hk),?_⟩;conv=>whnf
 have fl0:Fl (X0 p):=⟨fun q hq=>by
  obtain⟨j,_,rfl⟩:=List.mem_map.1 hq;rfl,rfl⟩
 refine .lD [2,3,4,5] [] _ (ly_feas k1 hX1 (hkp.2 fl0) fun w hw=>(P1.mk s u1 z1 hp1 hw).ex) ?_;rintro v H1 (⟨hw,rfl,rfl⟩|⟨w,k,U,X2,f,ha,hc,hX2,rfl,rfl⟩|⟨w,k,U,V,X2,f,hv,hX2,rfl,rfl⟩)
 case' inr.inl=>
  have q1:=P1.mk s u1 z1 hp1 f.hw;have hsol:=q1.inf f ha hc;have hdl:=duW_len U (U.r (U.B.idxOf T1.a)) U.N.length;have kU:=(f.ok k (lR_ _) U f.it).1;have hdb:=bt_duW (T:=U) (fun j hj=>kU.fq _ (List.idxOf_lt_length_of_mem ha) j hj) _ (lR_ _);have hmU:=kU.m;generalize duW U (U.r (U.B.idxOf T1.a)) U.N.length=du at hsol hdl hdb;obtain⟨x,xs,rfl⟩:∃x xs,du=x::xs:=by
   cases du with
   |nil=>
    have:U.B.length=U.m:=(q1.it k U f.it).2.run.bl.trans (q1.it k U f.it).2.run.m.symm;have:=List.idxOf_lt_length_of_mem ha;simp at hdl;omega
   |cons x xs=>exact⟨x,xs,rfl⟩
  rw[show tQ (x::xs)=ratD x::tQ xs from rfl];refine⟨rfl,(fun k hk=>by cases hk),?_⟩;conv=>whnf
  exact .mk (.tup [.g ((solD 2 0 [] (x::xs) [] [] U.p).map A.d),.s (.d (.lit (.int .i64 0)))]) [] ⟨rfl,rfl,2,0,[],x::xs,[],[],U.p,hsol,⟨bt0 _,bt_nil,hdb,bt_nil,by simp,by omega,by simp,by simp⟩,rfl⟩ (by rw[solD,ratD_0];exact vR_ _) rfl trivial rfl
 case' inl=>
  have p2:P2 p T1:=⟨s,u1,fs_of u1 hw,z1,by omega⟩;have h6:T1.p≤6000:=by omega
  refine⟨rfl,(fun k hk=>by cases hk),?_⟩;conv=>whnf
  let K:Nat:=4
  generalize T1=T at p2 hX1 h6 ⊢;generalize X1=X at hX1 ⊢;have hX:MOk T X:=hX1
 case' inr.inr=>
  have q1:=P1.mk s u1 z1 hp1 f.hw;obtain⟨g1,g2,g3,g4⟩:=q1.fin f hv;have p2:P2 p (V.er (V.N.idxOf T1.a)):=⟨s,g1,g2,g3,by omega⟩;have h6:=g4;refine⟨rfl,(fun k hk=>by cases hk),?_⟩;conv=>whnf
  let K:Nat:=11
  generalize V.er (V.N.idxOf T1.a)=T at p2 hX2 h6 ⊢;generalize X2=X at hX2 ⊢;have hX:MOk T X:=hX2
 all_goals
  have kT:=p2.tok;have hnl:=kT.nl;have hbl:=kT.bl;have hom:X.ob.2.1=T.N.length+1:=hX.ob.1.trans kT.ol;obtain⟨_,rows,hrows,hR⟩:=id hX.ob;refine .mk Nat (fun i=>⟨[(40,vl (.int .i64 (i:Nat))),(39,vl (.int .i64 (T.N.length:Nat))),(38,.a (.th K T.N.length)),(4,.a (.ptr 6 0)),(3,vl (.int .i64 0)),(2,.a (.ptr 1 0))],tHs T X K,30⟩) (fun i=>i≤T.N.length∧∀e,e<i→gn T.N e<T.n→gq T.O e=0) (fun i=>T.N.length-i) 0
   Wk.go ⟨zL_ _,fun e he=>by omega⟩ fun i hi=> ?_
  obtain⟨hi,hz⟩:=hi;conv=>whnf
  refine bs (fun h1=> ?_) (fun h1=> ?_)
  ·conv=>whnf
   have h1':i<T.N.length:=by have:=of_decide_eq_true h1;omega
   have hs:=(kT.oq i (by omega)).sz (by omega);refine .mk i in_len rfl h1' ?_;conv=>whnf
   refine .dat (.lit (.int .i64 (gn T.N i:Nat))) in_len (in_at h1') ?_;conv=>whnf
   refine .mk i rfl (by omega) ?_;conv=>whnf
   refine .mk rows i 0 (ratD (gq T.O i)) hrows rfl (hR.at (by rw[kT.ol];omega)) ?_;conv=>whnf
   refine .c (lx_rsign (.c hs)) ?_;conv=>whnf
   refine .lE [2,3,K,5] [2,3,K,5] (LX.rd ly_free ⟨fr_T kT hX,fr_i,trivial⟩ trivial rfl) ?_;conv=>whnf
   refine bs (fun h2=> ?_) (fun h2=> ?_)
   ·conv=>whnf
    have h2':gn T.N i<T.n:=by have:=of_decide_eq_true h2;omega
    rw[sg_ne0];refine bs (fun h3=> ?_) (fun h3=> ?_)
    ·conv=>whnf
     have h3':=of_decide_eq_true h3;obtain⟨e1,e2,e3,e4⟩:=sg_neg (gq T.O i) h3';refine .lE [2,3,K,5] [2,3,K,5] (LX.frzT (H:=tH 0 T X) (ly_point kT) ⟨fr_T kT hX,trivial⟩ (pl_tQ _) (by have:=kT.n;omega)) ?_;conv=>whnf
     rw[e1];refine .c (lx_rof (z:= -(gq T.O i).num.sign) e2 e3) ?_;conv=>whnf
     refine .lE [2,3,K,5] [2,3,K,5] (LX.frzT (H:=tH 0 T X) (ly_ray (c:=((-(gq T.O i).num.sign:Int):Rat)) kT h1' e4.1) ⟨fr_T kT hX,fr_i,fr_q,trivial⟩ (pl_tQ _) (by have:=kT.n;omega)) ?_;conv=>whnf
     refine .mk (by kernel_rfl) ?_;conv=>whnf
     exact .mk (.tup [.g ((solD 3 0 (ptW T T.B.length) [] (ryW T i ((-(gq T.O i).num.sign:Int):Rat) T.B.length) [] T.p).map A.d),.s (.d (.lit (.int .i64 0)))]) [] ⟨rfl,rfl,3,0,_,[],_,[],T.p,p2.unbF h1' h2' e4.2,⟨bt0 _,bt_ptW kT _ (lR_ _),bt_nil,bt_ryW kT (by omega) e4.1 _ (lR_ _),by rw[ptW_len];exact kT.n,by simp,by rw[ryW_len];exact kT.n,by simp⟩,rfl⟩ (by rw[solD,ratD_0];exact vR_ _) rfl trivial rfl
    ·conv=>whnf
     have h3':gq T.O i=0:=by have:=of_decide_eq_false h3;exact Classical.not_not.1 this
     refine⟨i+1,Wk.go,⟨h1',fun e he hf=> ?_⟩,by omega⟩;rcases Nat.lt_or_ge e i with h5|h5
     ·exact hz e h5 hf
     ·rw[show e=i by omega];exact h3'
   ·conv=>whnf
    have h2':¬gn T.N i<T.n:=fun k=>by have:=of_decide_eq_false h2;omega
    refine⟨i+1,Wk.go,⟨h1',fun e he hf=> ?_⟩,by omega⟩;rcases Nat.lt_or_ge e i with h5|h5
    ·exact hz e h5 hf
    ·rw[show e=i by omega]at hf;exact absurd hf h2'
  ·conv=>whnf
   have h1':i=T.N.length:=by have:=of_decide_eq_false h1;omega
   subst h1';obtain⟨k,U,e1,e2,e3,p3,hzU⟩:=p2.ex h6 hz;have kU:=p3.tok;have hnlU:=kU.nl;have hnU:=kU.n;have hblU:=kU.bl;refine .lD [2,3,K,5,6] [] _ (ly_min2 e1 e2 e3 hX) ?_;rintro _ _ ⟨rfl,X5,hX5,rfl⟩;refine⟨rfl,(fun k hk=>by cases hk),?_⟩;conv=>whnf
   cases he:enB U U.O U.N.length with
   |some e=>
    have he1:=(enB_some he).1;have hl:leB U e U.B.length=none:=by
     cases hl:leB U e U.B.length with
     |none=>rfl
     |some r=>unfold nxt at e2;rw[he]at e2;simp only at e2;rw[hl]at e2;cases e2
    conv=>whnf
    refine .lE [2,3,K,5] [2,3,K,5] (LX.frzT (H:=tH 0 U X5) (ly_point kU) ⟨fr_T kU hX5,trivial⟩ (pl_tQ _) (by omega)) ?_;conv=>whnf
    refine .c (lx_rof (z:=1) (by decide) (by decide)) ?_;conv=>whnf
    refine .lE [2,3,K,5] [2,3,K,5] (LX.frzT (H:=tH 0 U X5) (ly_ray (c:=((1:Int):Rat)) kU he1 (bt1 _)) ⟨fr_T kU hX5,fr_i,fr_q,trivial⟩ (pl_tQ _) (by omega)) ?_;conv=>whnf
    refine .mk (by kernel_rfl) ?_;conv=>whnf
    exact .mk (.tup [.g ((solD 3 0 (ptW U U.B.length) [] (ryW U e ((1:Int):Rat) U.B.length) [] U.p).map A.d),.s (.d (.lit (.int .i64 0)))]) [] ⟨rfl,rfl,3,0,_,[],_,[],U.p,p3.unb he hl,⟨bt0 _,bt_ptW kU _ (lR_ _),bt_nil,bt_ryW kU (by omega) (bt1 _) _ (lR_ _),by rw[ptW_len];exact hnU,by simp,by rw[ryW_len];exact hnU,by simp⟩,rfl⟩ (by rw[solD,ratD_0];exact vR_ _) rfl trivial rfl
   |none=>
    have hom5:X5.ob.2.1=U.N.length+1:=hX5.ob.1.trans kU.ol;obtain⟨_,rows5,hrows5,hR5⟩:=id hX5.ob;conv=>whnf
    refine .mk U.N.length rfl (by omega) ?_;conv=>whnf
    refine .mk rows5 U.N.length 0 (ratD (gq U.O U.N.length)) hrows5 rfl (hR5.at (by rw[kU.ol];omega)) ?_;conv=>whnf
    refine .lE [2,3,K,5] [2,3,K,5] (LX.frzT (H:=tH 0 U X5) (ly_point kU) ⟨fr_T kU hX5,trivial⟩ (pl_tQ _) (by omega)) ?_;conv=>whnf
    refine .lE [2,3,K,5] [2,3,K,5] (LX.frzT (H:=tH 0 U X5) (ly_dual kU kU.ol) ⟨fr_T kU hX5,fr_O kU hX5,trivial⟩ (pl_tQ _) (by have:=kU.m;omega)) ?_;conv=>whnf
    refine .lE [2,3,K,5] [2,3,K,5] (LX.frzA (H:=tH 0 U X5) 4 (ly_cloneIn (l:=U.B) (by omega)) ⟨fr_B kU,trivial⟩ tH_lt ⟨⟨_,rfl⟩,pl_tI _⟩ (fun p hp=>by rw[List.mem_singleton]at hp;subst hp;trivial)) ?_;conv=>whnf
    refine .mk (by kernel_rfl) ?_;conv=>whnf
    exact .mk (.tup [.g ((solD 1 (gq U.O U.N.length) (ptW U U.B.length) (duW U U.O U.N.length) [] U.B U.p).map A.d),.s (.d (.lit (.int .i64 0)))]) [] ⟨rfl,rfl,1,_,_,_,[],U.B,U.p,p3.opt hzU he,⟨(kU.oq _ (lR_ _)).mono (by omega),bt_ptW kU _ (lR_ _),bt_duW kU.oq _ (lR_ _),bt_nil,by rw[ptW_len];exact hnU,by rw[duW_len];exact kU.m,by simp,hblU⟩,rfl⟩
     (WkV.tup ⟨⟨aR_ _,aR_ _,aR_ _,aR_ _,aR_ _,aR_ _,aR_ _,WkA.own,aR_ _,trivial⟩,aR_ _,trivial⟩) rfl trivial rfl
theorem lx_cloneTm {l:List Tm}(hl:l.length≤1000000):LX Tryz.prog 92 [.a (.d (.sl 4 (l.map Tm.D)))] [] fun v H=>v= .a (.own 0 4 (l.map Tm.D))∧H=[(0,.arr 79 4 (l.map Tm.D).length)]:=by
 cases l with
 |cons x xs=>
  refine LX_run (m:=0) (n0:=0) mix Tryz.func92 rfl rfl rfl rfl ?_;conv=>whnf
  refine .own ?_;conv=>whnf
  refine .mk ((x::xs).map Tm.D) rfl rfl (by simp at hl ⊢;omega) ?_;conv=>whnf
  exact⟨_,_,⟨rfl,rfl⟩,vR_ _,rfl,⟨⟨_,rfl,wke_refl _,rfl⟩,trivial⟩,rfl⟩
 |nil=>
  refine clone_nil (k:=4) (e:=79) ?_ fun a cap=> ?_
  ·intro cap;refine LX_run (m:=0) (n0:=0) mix Tryz.func92 rfl rfl rfl rfl ?_;conv=>whnf
   exact⟨_,_,⟨rfl,rfl⟩,vR_ _,rfl,trivial,rfl⟩
  ·refine LX_run (m:=0) (n0:=0) mix Tryz.func92 rfl rfl rfl rfl ?_;conv=>whnf
   refine .own ?_;conv=>whnf
   refine .mk [] rfl rfl (by decide) ?_;conv=>whnf
   exact⟨_,_,⟨rfl,rfl⟩,vR_ _,rfl,⟨⟨_,rfl,wke_refl _,rfl⟩,trivial⟩,rfl⟩
theorem ly_cloneQn {l:List Rat}(hl:l.length≤1000000):LX Tryz.prog 52 [.a (.d (.sl 3 (tQ l)))] [] fun v H=>v= .a (.own 0 3 (tQ l))∧H=[(0,.arr 30 3 (tQ l).length)]:=by
 cases l with
 |cons x xs=>
  refine LX_run (m:=0) (n0:=0) mix Tryz.func52 rfl rfl rfl rfl ?_;conv=>whnf
  refine .own ?_;conv=>whnf
  refine .mk (tQ (x::xs)) rfl rfl (by rw[tQ_len];omega) ?_;conv=>whnf
  exact⟨_,_,⟨rfl,rfl⟩,vR_ _,rfl,⟨⟨_,rfl,wke_refl _,rfl⟩,trivial⟩,rfl⟩
 |nil=>
  refine clone_nil (k:=3) (e:=30) ?_ fun a cap=> ?_
  ·intro cap;refine LX_run (m:=0) (n0:=0) mix Tryz.func52 rfl rfl rfl rfl ?_;conv=>whnf
   exact⟨_,_,⟨rfl,rfl⟩,vR_ _,rfl,trivial,rfl⟩
  ·refine LX_run (m:=0) (n0:=0) mix Tryz.func52 rfl rfl rfl rfl ?_;conv=>whnf
   refine .own ?_;conv=>whnf
   refine .mk [] rfl rfl (by decide) ?_;conv=>whnf
   exact⟨_,_,⟨rfl,rfl⟩,vR_ _,rfl,⟨⟨_,rfl,wke_refl _,rfl⟩,trivial⟩,rfl⟩
theorem ly_dup {f:Af}(hl:f.ts.length≤1000000):LV Tryz.prog 51 [.agg f.A] (.agg f.A):=by
 refine LX_run (m:=0) (n0:=0) mix Tryz.func51 rfl rfl rfl rfl ?_;conv=>whnf
 refine .l [] (lx_cloneTm hl) ?_;conv=>whnf
 exact .mk (.agg f.A) [] ⟨rfl,rfl⟩ (WkV.agg ⟨WkA.own,aR_ _,aR_ _,aR_ _,trivial⟩) rfl trivial rfl
abbrev pg0 (n:Nat)(f:Af):List A:= .d (.lit (.int .i64 (n:Nat))):: .d (.lit (.slice none 0 0))::f.A
theorem ly_copied {n:Nat}{f:Af}(hl:f.ts.length≤1000000):LV Tryz.prog 50 [.agg (pg0 n f)] (.agg (pg0 n f)):=by
 refine LX_run (m:=0) (n0:=0) mix Tryz.func50 rfl rfl rfl rfl ?_;conv=>whnf
 refine .c (ly_dup hl) ?_;conv=>whnf
 refine .mk (by kernel_rfl) ?_;conv=>whnf
 refine .mk Unit (fun _=>⟨[(15,vl (.int .i64 0)),(14,vl (.int .i64 0)),(3,.a (.ptr 2 0)),(2,.a (.ptr 1 0))],[(2,.box 34 (pg0 n f)),(1,.box 34 [.d (.lit (.int .i64 0)),.d (.lit (.slice none 0 0)),.d (.lit (.slice none 0 0)),.d (.lit (.bool false)),.d (.nat 0),.d (.nat 0)])],3⟩) (fun _=>True) (fun _=>0) () Wk.go trivial fun _ _=> ?_;conv=>whnf
 exact .q ⟨rfl,rfl⟩
theorem ly_pvalid0 {n:Nat}{f:Af}(ha:AfOk f n)(hn:n≤1000):LV Tryz.prog 21 [.agg (pg0 n f)] (vl (.bool true)):=by
 refine LX_run (m:=0) (n0:=0) mix Tryz.func21 rfl rfl rfl rfl ?_;conv=>whnf
 refine bF (decide_eq_false (by omega)) ?_;conv=>whnf
 refine .c (lx_lvalid ha) ?_;conv=>whnf
 refine .mk Unit (fun _=>⟨[(30,vl (.int .i64 0)),(29,vl (.int .i64 0))],[],1⟩) (fun _=>True) (fun _=>0) () Wk.go trivial fun _ _=> ?_;conv=>whnf
 exact .q ⟨rfl,rfl⟩
abbrev svA (n:Nat)(rw:A)(f:Af):List A:= .d (.lit (.int .i64 (n:Nat)))::rw::(f.A++[.d (.lit (.bool false)),.d (.lit (.int .i64 0)),.d (.lit (.bool false)),.d (.nat 0),.d (.nat 0),.d (.sl 3 []),.d (.sl 3 []),.d (.sl 3 []),.d (.sl 1 []),.d (.lit (.int .i64 0)),.d (.lit (.int .i64 0))])
abbrev svH (n:Nat)(rows:List Af)(f:Af):List (Nat×Ent):=[(0,.box 94 (svA n (.own 1 4 (rows.map Af.D)) f)),(1,.arr 32 4 rows.length)]
theorem ly_wnew {n:Nat}{f:Af}(ha:AfOk f n)(hn:n≤1000)(hl:f.ts.length≤1000000):LX Tryz.prog 10 [.agg (pg0 n f)] [] fun v H=>v= .tup [.s (.ptr 0 0),.s (.d (.lit (.int .i64 0)))]∧H=[(0,.box 94 (svA n (.d (.lit (.slice none 0 0))) f))]:=by
 refine LX.ren [1] 0 (v0:= .tup [.s (.ptr 1 0),.s (.d (.lit (.int .i64 0)))]) (H1:=[(1,.box 94 (svA n (.d (.lit (.slice none 0 0))) f))]) ?_ (by decide) rfl (by decide) (fun p hp=>by cases hp) (fun i h=>absurd h (Nat.not_lt_zero i)) (fun key hk=>by rw[List.mem_singleton.1 hk];decide);refine LX_run (m:=0) (n0:=0) mix Tryz.func10 rfl rfl rfl rfl ?_;conv=>whnf
 refine .c (ly_pvalid0 ha hn) ?_;conv=>whnf
 refine .c (ly_copied hl) ?_;conv=>whnf
 exact .mk _ [(1,.box 94 (svA n (.d (.lit (.slice none 0 0))) f))] ⟨rfl,rfl⟩ (vR_ _) rfl ⟨⟨_,rfl,wke_refl _,rfl⟩,trivial⟩ rfl
theorem ly_wadd {n:Nat}{rows:List Af}{f g:Af}(ha:AfOk g n)(hn:n≤1000)(hl:g.ts.length≤1000000)(hr:rows.length≤1000):LX Tryz.prog 11 [.a (.ptr 0 0),.agg g.A] (svH n rows f) fun v H=>v=vl (.int .i64 0)∧H=svH n (rows++[g]) f:=by
 have hlm:(List.map Af.D rows).length=rows.length:=List.length_map _;refine LX_run (m:=2) (n0:=2) mix Tryz.func11 rfl rfl rfl rfl ?_;conv=>whnf
 refine .c (lx_lvalid ha) ?_;conv=>whnf
 refine .mk (by kernel_rfl) ?_;conv=>whnf
 refine bF (decide_eq_false (by rw[hlm];omega)) ?_;conv=>whnf
 refine .c (ly_dup hl) ?_;conv=>whnf
 refine .mk ((rows++[g]).map Af.D) hlm.symm (by rw[List.map_append];rfl) (by simp;omega) ?_;conv=>whnf
 refine .mk (by kernel_rfl) ?_;conv=>whnf
 exact .mk _ (svH n (rows++[g]) f) ⟨rfl,rfl⟩ (vR_ _) rfl ⟨⟨_,rfl,wke_refl _,rfl⟩,⟨_,by rw[←List.length_map (f:=Af.D)];rfl,wke_refl _,rfl⟩,trivial⟩ rfl
theorem ly_wsolve {p:Pg}(s:Smp p):LX Tryz.prog 12 [.a (.ptr 0 0)] (svH p.n p.rows p.obj) fun v H=>(∃st val pt du ray bs pv,SolOk p st val pt du ray∧SolB val pt du ray bs∧v= .tup [.g ((solD st val pt du ray bs pv).map A.d),.s (.d (.lit (.int .i64 0)))])∧H=[(0,.gone),(1,.gone)]:=by
 refine LX_run (m:=2) (n0:=2) mix Tryz.func12 rfl rfl rfl rfl ?_;conv=>whnf
 refine .d (ly_solve s) ?_;rintro _ ⟨st,val,pt,du,ray,bs,pv,hs,hb,rfl⟩;conv=>whnf
 have h1:=hb.pl;have h2:=hb.dl;have h3:=hb.rl;have h4:=hb.bl;refine .l [] (ly_cloneQn (l:=pt) (by omega)) ?_;conv=>whnf
 refine .l [] (ly_cloneQn (l:=du) (by omega)) ?_;conv=>whnf
 refine .l [] (ly_cloneQn (l:=ray) (by omega)) ?_;conv=>whnf
 refine .l [] (ly_cloneIn (l:=bs) (by omega)) ?_;conv=>whnf
 refine .mk (by kernel_rfl) ?_;conv=>whnf
 refine .mk (by kernel_rfl) ?_;conv=>whnf
 exact .mk (.tup [.g ((solD st val pt du ray bs pv).map A.d),.s (.d (.lit (.int .i64 0)))]) [(0,.gone),(1,.gone)] ⟨⟨st,val,pt,du,ray,bs,pv,hs,hb,rfl⟩,rfl⟩
  (WkV.tup ⟨⟨aR_ _,aR_ _,aR_ _,aR_ _,WkA.own,WkA.own,WkA.own,WkA.own,aR_ _,trivial⟩,aR_ _,trivial⟩) rfl ⟨⟨_,rfl,trivial,rfl⟩,⟨_,rfl,trivial,rfl⟩,trivial⟩ rfl
def evW (f:Af)(x:List Rat)(i:Nat):Rat:=f.c+lsum (vz (gq x)) (f.ts.take i)
theorem evW_succ {f:Af}{x:List Rat}{i:Nat}{t:Tm}(h:f.ts[i]? =some t):evW f x (i+1)=evW f x i+t.q*gq x t.v.toNat:=by
 unfold evW;rw[take_snoc h,lsum_app];show _+(_+(t.q*vz (gq x) t.v+0))=_;show _+(_+(t.q*gq x t.v.toNat+0))=_;grind
theorem evW_end {f:Af}{x:List Rat}:evW f x f.ts.length=ph 1 (vz (gq x)) f:=by
 unfold evW ph;rw[List.take_length];grind
theorem evW_bt {f:Af}{x:List Rat}{k:Nat}{n:Int}(h:FB k n f)(hx:∀j,Bt 2000000 (gq x j)):∀i,i≤f.ts.length→Bt (k+i*(k+2000000+1)) (evW f x i)
 |0,_=>by
  have:evW f x 0=f.c:=by unfold evW;rw[List.take_zero];show f.c+0=_;grind
  rw[this];exact h.c.mono (by omega)
 |i+1,hi=>by
  obtain⟨t,ht⟩:=at_some (show i<f.ts.length by omega);rw[evW_succ ht];have h1:=evW_bt h hx i (by omega);exact(h1.add ((h.tm t (mG_ ht)).2.2.2.mul (hx _))).mono (by rw[Nat.add_mul];omega)
theorem pl_eval {f:Af}{x:List Rat}{k n:Nat}(h:FB k n f)(hk:k≤100)(hn:n≤100)(hl:x.length=n)(hx:∀j,Bt 2000000 (gq x j)):
  LV Tryz.prog 91 [.agg f.A,.a (.d (.sl 3 (tQ x)))] (.tup [.g (can (ph 1 (vz (gq x)) f)).A,.s (.d (.lit (.int .i64 0)))]):=by
 have hlen:=h.ts.len (by omega)
 have hb:∀i,i≤f.ts.length→Sz (evW f x i):=fun i hi=>by
  have h2:i≤1000:=by omega
  have h3:i*(k+2000000+1)≤1000*(k+2000000+1):=Nat.mul_le_mul_right _ h2;exact(evW_bt h hx i hi).sz (by omega)
 refine LX_run (m:=0) (n0:=0) mix Tryz.func91 rfl rfl rfl rfl ?_;conv=>whnf
 refine .mk Nat (fun i=>⟨[(14,vl (.int .i64 (i:Nat))),(13,vl (.int .i64 ((f.ts.map Tm.D).length:Nat))),(12,.a (.d (.sl 4 (f.ts.map Tm.D)))),(6,.a (.ptr 2 0)),(5,vl (.int .i64 0)),(4,.a (.ptr 1 0)),(1,.a (.d (.sl 3 (tQ x))))],
  [(2,.box 30 (can (evW f x i)).A),(1,.box 30 [.d (.lit (.bool false)),.d (.nat 0),.d (.nat 0)])],3⟩) (fun i=>i≤f.ts.length) (fun i=>f.ts.length-i) 0
  (by have e:evW f x 0=f.c:=by unfold evW;rw[List.take_zero];show f.c+0=_;grind
      rw[e];exact Wk.go) (zL_ _) fun i hi=> ?_
 conv=>whnf
 refine bs (fun h1=> ?_) (fun h1=> ?_)
 ·conv=>whnf
  have h1':i<f.ts.length:=by have:=of_decide_eq_true h1;rw[List.length_map]at this;omega
  obtain⟨t,ht⟩:=at_some h1';obtain⟨t1,t2,t3,t4⟩:=h.tm t (mG_ ht);have hvl:t.v.toNat<x.length:=by omega
  refine .mk (i) (Tm.D t) (rfl) (at_map ht) ?_;conv=>whnf
  refine bF (decide_eq_false (by omega)) ?_;conv=>whnf
  refine bF (decide_eq_false (by rw[tQ_len];omega)) ?_;conv=>whnf
  refine .mk (t.v.toNat) (ratD (gq x t.v.toNat)) ((by omega)) (tQ_at hvl) ?_;conv=>whnf
  refine .c (lx_rmul (.c (t4.sz (by omega))) (.c ((hx t.v.toNat).sz (by omega)))) ?_;conv=>whnf
  refine .c (lx_radd (.c (hb i hi)) (.c ((t4.mul (hx t.v.toNat)).sz (by omega)))) ?_;conv=>whnf
  refine .mk (by kernel_rfl) ?_;conv=>whnf
  exact⟨i+1,by simp only[evW_succ ht];exact Wk.go,h1',by omega⟩
 ·conv=>whnf
  have h1':i=f.ts.length:=by have:=of_decide_eq_false h1;rw[List.length_map]at this;omega
  subst h1';refine .c (lx_rcanon (.c (hb _ hi))) ?_;conv=>whnf
  rw[evW_end];exact .q ⟨rfl,rfl⟩
theorem ph_sz {f:Af}{x:List Rat}{k n:Nat}(h:FB k n f)(hk:k≤100)(hn:n≤100)(hx:∀j,Bt 2000000 (gq x j)):Sz (ph 1 (vz (gq x)) f):=by
 have hlen:=h.ts.len (by omega);rw[←evW_end];have h3:f.ts.length*(k+2000000+1)≤1000*(k+2000000+1):=Nat.mul_le_mul_right _ (by omega);exact(evW_bt h hx _ (lR_ _)).sz (by omega)
theorem at_row' {p:Pg}{i:Nat}(h:i<p.rows.length):p.rows[i]? =some (p.row i):=by
 rw[Pg.row,List.getD_eq_getElem?_getD,List.getElem?_eq_getElem h];rfl
theorem ly_feasible {p:Pg}{x:List Rat}{k:Nat}(ok:p.Ok k)(hk:k≤100)(hn:p.n≤100)(hm:p.rows.length≤1000)(hl:x.length=p.n)(hx:∀j,Bt 2000000 (gq x j))(hf:∀i,i<p.rows.length→0≤ph 1 (vz (gq x)) (p.row i)):
  LV Tryz.prog 129 [.agg p.A,.a (.d (.sl 3 (tQ x)))] (vl (.bool true)):=by
 have hlm:(List.map Af.D p.rows).length=p.rows.length:=List.length_map _;refine LX_run (m:=0) (n0:=0) mix Tryz.func129 rfl rfl rfl rfl ?_;conv=>whnf
 refine .c (ly_pvalid ok (by omega) (by omega) hm) ?_;conv=>whnf
 refine bF ((by rw[tQ_len,hl];simp)) ?_;conv=>whnf
 refine .mk Nat (fun i=>⟨[(22,vl (.int .i64 (i:Nat))),(21,vl (.int .i64 ((List.map Af.D p.rows).length:Nat))),(20,.a (.d (afsD p.rows))),(1,.a (.d (.sl 3 (tQ x))))],[],1⟩) (fun i=>i≤p.rows.length) (fun i=>p.rows.length-i) 0
  Wk.go (zL_ _) fun i hi=> ?_
 conv=>whnf
 refine bs (fun h1=> ?_) (fun h1=> ?_)
 ·conv=>whnf
  have h1':i<p.rows.length:=by have:=of_decide_eq_true h1;omega
  have hr:=row_ok ok h1';refine .mk (i) (Af.D (p.row i)) (rfl) (at_map (at_row' h1')) ?_;conv=>whnf
  refine .c (pl_eval hr hk hn hl hx) ?_;conv=>whnf
  refine .c (lx_rsign (.c (ph_sz hr hk hn hx))) ?_;conv=>whnf
  rw[sg_lt];refine bF (decide_eq_false (Rat.not_lt.2 (hf i h1'))) ?_;conv=>whnf
  exact⟨i+1,Wk.go,h1',by omega⟩
 ·conv=>whnf
  exact .q ⟨rfl,rfl⟩
theorem ly_value {p:Pg}{x:List Rat}{k:Nat}(ok:p.Ok k)(hk:k≤100)(hn:p.n≤100)(hm:p.rows.length≤1000)(hl:x.length=p.n)(hx:∀j,Bt 2000000 (gq x j)):
  LV Tryz.prog 86 [.agg p.A,.a (.d (.sl 3 (tQ x)))] (.tup [.g (can (ph 1 (vz (gq x)) p.obj)).A,.s (.d (.lit (.int .i64 0)))]):=by
 refine LX_run (m:=0) (n0:=0) mix Tryz.func86 rfl rfl rfl rfl ?_;conv=>whnf
 refine .c (ly_pvalid ok (by omega) (by omega) hm) ?_;conv=>whnf
 refine bF ((by rw[tQ_len,hl];simp)) ?_;conv=>whnf
 refine .c (pl_eval ok.obj hk hn hl hx) ?_;conv=>whnf
 exact .q ⟨rfl,rfl⟩
theorem ly_canonical {x:List Rat}(hl:x.length≤1000)(hx:∀j,Bt 2000000 (gq x j)):LV Tryz.prog 89 [.a (.d (.sl 3 (tQ x)))] (vl (.bool true)):=by
 refine LX_run (m:=0) (n0:=0) mix Tryz.func89 rfl rfl rfl rfl ?_;conv=>whnf
 refine .mk Nat (fun i=>⟨[(7,vl (.int .i64 (i:Nat))),(6,vl (.int .i64 ((tQ x).length:Nat))),(5,.a (.d (.sl 3 (tQ x))))],[],1⟩) (fun i=>i≤x.length) (fun i=>x.length-i) 0
  Wk.go (zL_ _) fun i hi=> ?_
 conv=>whnf
 refine bs (fun h1=> ?_) (fun h1=> ?_)
 ·conv=>whnf
  have h1':i<x.length:=by have:=of_decide_eq_true h1;rw[tQ_len]at this;omega
  refine .mk (i) (ratD (gq x i)) (rfl) (tQ_at h1') ?_;conv=>whnf
  refine .c (lx_okc ((hx i).sz (by omega))) ?_;conv=>whnf
  exact⟨i+1,Wk.go,h1',by omega⟩
 ·conv=>whnf
  exact .q ⟨rfl,rfl⟩
theorem ly_dfeas {p:Pg}{x:List Rat}{k:Nat}(ok:p.Ok k)(hk:k≤100)(hn:p.n≤100)(hm:p.rows.length≤1000)(hl:x.length=p.n)(hx:∀j,Bt 2000000 (gq x j))(hf:∀i,i<p.rows.length→0≤ph 1 (vz (gq x)) (p.row i)):
  LV Tryz.prog 85 [.agg p.A,.a (.d (.sl 3 (tQ x)))] (vl (.bool true)):=by
 refine LX_run (m:=0) (n0:=0) mix Tryz.func85 rfl rfl rfl rfl ?_;conv=>whnf
 refine .c (ly_canonical (by omega) hx) ?_;conv=>whnf
 refine .c (ly_feasible ok hk hn hm hl hx hf) ?_;conv=>whnf
 exact .q ⟨rfl,rfl⟩
def cmS (p:Pg)(du:List Rat):Nat→Af
 |0=>numS 0
 |i+1=>addS (cmS p du i) (scaleS (p.row i) (gq du i))
section
variable {p:Pg} {du:List Rat} {k:Nat}
theorem cmS_ph (u:Nat→Rat):∀i,ph 1 (vz u) (cmS p du i)=smR (fun i=>gq du i*ph 1 (vz u) (p.row i)) i
 |0=>by rw[cmS,ph_num,smR];grind
 |i+1=>by rw[cmS,ph_add,ph_scale,cmS_ph u i,smR];grind
theorem cmS_fb (ok:p.Ok k)(hk:k≤100)(hd:∀j,Bt 2000000 (gq du j)):∀i,i≤p.rows.length→FB (i*2000200) p.n (cmS p du i)
 |0,_=>FB.num (bt0 _)
 |i+1,h=>((cmS_fb ok hk hd i (by omega)).add ((row_ok ok (by omega)).scale (hd i))).up (by omega) (Int.le_refl _)
theorem ts_nil {n:Nat}{ts:List Tm}(h:TsOk n 0 ts)(h0:∀u:Nat→Rat,lsum (vz u) ts=0):ts=[]:=by
 cases ts with
 |nil=>rfl
 |cons t ts=>
  exfalso;obtain⟨c1,c2,c3,c4⟩:=h.cof_mem t (by simp);have:=h0 (one1 t.v.toNat)
  rw[lsum_cof h (Int.le_refl _),smR_single (e:=t.v.toNat) (by omega) fun j _ hj=>by
   have:one1 t.v.toNat j=0:=if_neg hj;rw[this,Rat.mul_zero]]at this
  have e:one1 t.v.toNat t.v.toNat=1:=if_pos rfl;rw[e,Rat.mul_one,show((t.v.toNat:Nat):Int)=t.v by omega,c1]at this;exact c4 this
theorem fm_const {n:Nat}{f:Af}{c:Rat}(h:TsOk n 0 f.ts)(h0:∀u:Nat→Rat,ph 1 (vz u) f=c):f.ts=[]∧f.c=c:=by
 have e1:f.c=c:=by
  have:=h0 fun _=>0;unfold ph at this;rw[show(vz fun _=>0)=fun _=>(0:Rat)from rfl,lsum_zero]at this;grind
 refine⟨ts_nil h fun u=> ?_,e1⟩;have:=h0 u;unfold ph at this;rw[e1]at this;grind
end
theorem ly_comb1 {n:Nat}{f g:Af}{c:Rat}{k l m:Nat}(h:FB k n f)(h':FB l n g)(hc:Bt m c)(hn:n≤100)(hk:k+l+m+2≤1000000000):
  LX Tryz.prog 130 [.agg g.A,ratV c,.a (.ptr 0 0)] [(0,.box 32 f.A)] fun v H=>v= .tup []∧H=[(0,.box 32 (addS f (scaleS g c)).A)]:=by
 refine LX_run (m:=1) (n0:=1) mix Tryz.func130 rfl rfl rfl rfl ?_;conv=>whnf
 refine .c (pl_scale h' hc (by omega) (by omega) (by omega)) ?_;conv=>whnf
 refine .c (pl_add h (h'.scale hc) (by omega) (by omega) (by omega)) ?_;conv=>whnf
 refine .mk (by kernel_rfl) ?_;conv=>whnf
 exact .mk _ [(0,.box 32 (addS f (scaleS g c)).A)] ⟨rfl,rfl⟩ (vR_ _) rfl ⟨⟨_,rfl,wke_refl _,rfl⟩,trivial⟩ rfl
theorem cm_le {i k:Nat}(hi:i≤100)(hk:k≤100):i*2000200+k+2000000+2≤1000000000:=by
 omega
theorem lim0:(limbs 0).length=0:=by simp[limbs]
theorem num0_A:All2 WkA [.d (.lit (.slice none 0 0)),.d (.lit (.bool false)),.d (.nat 0),.d (.nat 0)] (numS 0).A:=⟨WkA.nil,rat0_A⟩
theorem ly_combine {p:Pg}{du:List Rat}{k:Nat}(ok:p.Ok k)(hk:k≤100)(hn:p.n≤100)(hm:p.rows.length≤100)(hl:du.length=p.rows.length)(hd:∀j,Bt 2000000 (gq du j))(h0:∀i,i<p.rows.length→0≤gq du i):
  LV Tryz.prog 88 [.agg p.A,.a (.d (.sl 3 (tQ du)))] (.tup [.g (cmS p du p.rows.length).A,.s (.d (.lit (.bool true)))]):=by
 have hlm:(List.map Af.D p.rows).length=p.rows.length:=List.length_map _;refine LX_run (m:=0) (n0:=0) mix Tryz.func88 rfl rfl rfl rfl ?_;conv=>whnf
 refine .c (ly_pvalid ok (by omega) (by omega) (by omega)) ?_;conv=>whnf
 refine bF ((by rw[tQ_len,hlm,hl];simp)) ?_;conv=>whnf
 refine .mk Nat (fun i=>⟨[(25,vl (.int .i64 (i:Nat))),(24,vl (.int .i64 ((tQ du).length:Nat))),(23,.a (.d (.sl 3 (tQ du)))),(7,.a (.fn (.func 130) [] [.ptr 2 0])),(6,.a (.ptr 2 0)),(5,vl (.bool false)),(4,.a (.ptr 1 0)),(2,.a (.ptr 0 0))],
  [(2,.box 32 (cmS p du i).A),(1,.box 32 [.d (.lit (.slice none 0 0)),.d (.lit (.bool false)),.d (.nat 0),.d (.nat 0)]),(0,.box 34 p.A)],3⟩) (fun i=>i≤p.rows.length) (fun i=>p.rows.length-i) 0
  (Wk.go (h2:=⟨⟨_,rfl,⟨_,rfl,num0_A⟩,rfl⟩,⟨_,rfl,wke_refl _,rfl⟩,⟨_,rfl,wke_refl _,rfl⟩,trivial⟩)) (zL_ _) fun i hi=> ?_
 conv=>whnf
 refine bs (fun h1=> ?_) (fun h1=> ?_)
 ·conv=>whnf
  have h1':i<p.rows.length:=by have:=of_decide_eq_true h1;rw[tQ_len]at this;omega
  have hr:=row_ok ok h1';have hc:=cmS_fb ok hk hd i hi;refine .mk (i) (ratD (gq du i)) (rfl) (tQ_at (by omega)) ?_;conv=>whnf
  refine .c (lx_okc ((hd i).sz (by omega))) ?_;conv=>whnf
  refine bF (decide_eq_false (Rat.not_lt.2 (h0 i h1'))) ?_;conv=>whnf
  refine .mk (i) (Af.D (p.row i)) (rfl) (at_map (at_row' h1')) ?_;conv=>whnf
  have h5:=cm_le (i:=i) (k:=k) (by omega) hk;refine .l [2] (ly_comb1 (n:=p.n) hc hr (hd i) hn h5) ?_;conv=>whnf
  refine .mk (by kernel_rfl) ?_;conv=>whnf
  exact⟨i+1,Wk.go,h1',by omega⟩
 ·conv=>whnf
  have h1':i=p.rows.length:=by have:=of_decide_eq_false h1;rw[tQ_len]at this;omega
  subst h1';exact .q ⟨rfl,rfl⟩
section
variable {p:Pg} {st:Int} {val:Rat} {pt du ray:List Rat} {ba:List Nat} {pv:Nat}
theorem ly_bound (s:Smp p)(h:SolOk p 1 val pt du ray)(hb:SolB val pt du ray ba):LV Tryz.prog 87 [.agg p.A,.a (.d (.sl 3 (tQ du)))] (.tup [.g (can val).A,.s (.d (.lit (.bool true)))]):=by
 obtain⟨o1,o2,o3,o4,o5,o6,o7⟩:=h.opt rfl;have hn:=s.n3;have hm:=s.m7;have hc:=cmS_fb s.ok (by omega) hb.d p.rows.length (lR_ _);obtain⟨e1,e2⟩:=fm_const (f:=subS p.obj (cmS p du p.rows.length)) (c:=val) (s.ok.obj.sub hc).ts fun u=>by rw[ph_sub,o7 u,cmS_ph];grind
 refine LX_run (m:=0) (n0:=0) mix Tryz.func87 rfl rfl rfl rfl ?_;conv=>whnf
 refine .c (ly_combine s.ok (by omega) (by omega) (by omega) o5 hb.d o6) ?_;conv=>whnf
 refine .c (pl_sub s.ok.obj hc (by omega) (by omega) (by omega)) ?_;conv=>whnf
 rw[e2];refine bF ((by rw[e1];rfl)) ?_;conv=>whnf
 exact .q ⟨rfl,rfl⟩
theorem zero_A:List.map A.d (solD st 0 pt du ray ba pv)= .d (.lit (.int .i64 st)):: .d (.lit (.bool false)):: .d (.nat 0):: .d (.nat 0)::[.d (.sl 3 (tQ pt)),.d (.sl 3 (tQ du)),.d (.sl 3 (tQ ray)),.d (.sl 1 (tI ba)),.d (.lit (.int .i64 (pv:Nat)))]:=by
 rw[solD,ratD_0];rfl
theorem ly_dzero0 {z:List Nat}(hz:z.length=0):LV Tryz.prog 45 [.agg (.d (.lit (.int .i64 st)):: .d (.lit (.bool false)):: .d (.lm z):: .d (.lm z)::[.d (.sl 3 (tQ pt)),.d (.sl 3 (tQ du)),.d (.sl 3 (tQ ray)),.d (.sl 1 (tI ba)),.d (.lit (.int .i64 (pv:Nat)))])] (vl (.bool true)):=by
 refine LX_run (m:=0) (n0:=0) mix Tryz.func45 rfl rfl rfl rfl ?_;conv=>whnf
 refine bT ((by rw[hz];rfl)) ?_;conv=>whnf
 refine bT ((by rw[hz];rfl)) ?_;conv=>whnf
 exact .q ⟨rfl,rfl⟩
theorem ly_dzero:LV Tryz.prog 45 [.agg ((solD st 0 pt du ray ba pv).map A.d)] (vl (.bool true)):=by
 rw[zero_A];exact ly_dzero0 lim0
theorem ly_optimal (s:Smp p)(h:SolOk p 1 val pt du ray)(hb:SolB val pt du ray ba):LV Tryz.prog 43 [.agg p.A,.agg ((solD 1 val pt du ray ba pv).map A.d)] (vl (.bool true)):=by
 obtain⟨o1,o2,o3,o4,o5,o6,o7⟩:=h.opt rfl;have hn:=s.n3;have hm:=s.m7;refine LX_run (m:=0) (n0:=0) mix Tryz.func43 rfl rfl rfl rfl ?_;conv=>whnf
 refine .c (ly_dfeas s.ok (by omega) (by omega) (by omega) o1 hb.p o2) ?_;conv=>whnf
 refine .c (lx_okc (hb.v.sz (by omega))) ?_;conv=>whnf
 refine bF (decide_eq_false (by rw[o4];decide)) ?_;conv=>whnf
 refine .c (ly_value s.ok (by omega) (by omega) (by omega) o1 hb.p) ?_;conv=>whnf
 rw[o3];refine .c (ly_bound s h hb) ?_;conv=>whnf
 have hv:=hb.v.sz (k:=2000000) (by omega);refine .c (lx_rcmp (.c hv) (.c hv)) ?_;conv=>whnf
 refine bT ((by rw[cmp_eq];exact decide_eq_true rfl)) ?_;conv=>whnf
 refine .c (lx_rcmp (.c hv) (.c hv)) ?_;conv=>whnf
 refine bT ((by rw[cmp_eq];exact decide_eq_true rfl)) ?_;conv=>whnf
 exact .q ⟨rfl,rfl⟩
theorem ly_infeasible (s:Smp p)(h:SolOk p 2 val pt du ray)(hb:SolB val pt du ray ba):LV Tryz.prog 46 [.agg p.A,.a (.d (.sl 3 (tQ du)))] (vl (.bool true)):=by
 obtain⟨o1,o2,o3,o4,o5,c,o6,o7⟩:=h.inf rfl;have hn:=s.n3;have hm:=s.m7;have hc:=cmS_fb s.ok (by omega) hb.d p.rows.length (lR_ _);obtain⟨e1,e2⟩:=fm_const (f:=cmS p du p.rows.length) (c:=c) hc.ts fun u=>by rw[cmS_ph];exact o7 u
 refine LX_run (m:=0) (n0:=0) mix Tryz.func46 rfl rfl rfl rfl ?_;conv=>whnf
 refine .c (ly_combine s.ok (by omega) (by omega) (by omega) o4 hb.d o5) ?_;conv=>whnf
 refine bT ((by rw[e1];rfl)) ?_;conv=>whnf
 refine .c (lx_rsign (.c (hc.c.sz (by omega)))) ?_;conv=>whnf
 rw[sg_lt,e2];refine bT (decide_eq_true o6) ?_;conv=>whnf
 exact .q ⟨rfl,rfl⟩
theorem ly_unb1 {f:Af}{k n:Nat}(h:FB k n f)(hk:k≤100)(hn:n≤100)(hl:ray.length=n)(hx:∀j,Bt 2000000 (gq ray j)):
  LX Tryz.prog 90 [.agg f.A,.a (.ptr 0 0)] [(0,.box 36 [.d (.sl 3 (tQ ray))])] fun v H=>v=vl (.int .i64 (lsum (vz (gq ray)) f.ts).num.sign)∧H=[(0,.box 36 [.d (.sl 3 (tQ ray))])]:=by
 have h':FB k n ⟨f.ts,0⟩:=⟨h.ts,h.co,bt0 _⟩;have e:ph 1 (vz (gq ray)) ⟨f.ts,0⟩=lsum (vz (gq ray)) f.ts:=by unfold ph;grind
 have hs:=ph_sz h' hk hn hx;rw[e]at hs;refine LX_run (m:=1) (n0:=1) mix Tryz.func90 rfl rfl rfl rfl ?_;conv=>whnf
 refine Cn.as (pl_eval h' hk hn hl hx) rfl ⟨WkV.agg ⟨aR_ _,rat0_A⟩,vR_ _,trivial⟩ rfl rfl ?_;conv=>whnf
 rw[e];refine .c (lx_rsign (.c hs)) ?_;conv=>whnf
 exact⟨_,_,⟨rfl,rfl⟩,vR_ _,rfl,⟨⟨_,rfl,wke_refl _,rfl⟩,trivial⟩,rfl⟩
theorem ly_unbounded (s:Smp p)(h:SolOk p 3 val pt du ray)(hb:SolB val pt du ray ba):LV Tryz.prog 48 [.agg p.A,.a (.d (.sl 3 (tQ pt))),.a (.d (.sl 3 (tQ ray)))] (vl (.bool true)):=by
 obtain⟨o1,o2,o3,o4,o5,o6,o7⟩:=h.unb rfl;have hn:=s.n3;have hm:=s.m7;have hlm:(List.map Af.D p.rows).length=p.rows.length:=List.length_map _;refine LX_run (m:=0) (n0:=0) mix Tryz.func48 rfl rfl rfl rfl ?_;conv=>whnf
 refine .c (ly_dfeas s.ok (by omega) (by omega) (by omega) o3 hb.p o4) ?_;conv=>whnf
 refine bF ((by rw[tQ_len,o5];simp)) ?_;conv=>whnf
 refine .c (ly_canonical (by omega) hb.r) ?_;conv=>whnf
 refine .mk Nat (fun i=>⟨[(30,vl (.int .i64 (i:Nat))),(29,vl (.int .i64 ((List.map Af.D p.rows).length:Nat))),(28,.a (.d (afsD p.rows))),(7,.a (.fn (.func 90) [] [.ptr 1 0])),(3,.a (.ptr 0 0))],
  [(0,.box 34 p.A),(1,.box 36 [.d (.sl 3 (tQ ray))])],2⟩) (fun i=>i≤p.rows.length) (fun i=>p.rows.length-i) 0
  Wk.go (zL_ _) fun i hi=> ?_
 conv=>whnf
 refine bs (fun h1=> ?_) (fun h1=> ?_)
 ·conv=>whnf
  have h1':i<p.rows.length:=by have:=of_decide_eq_true h1;omega
  refine .mk (i) (Af.D (p.row i)) (rfl) (at_map (at_row' h1')) ?_;conv=>whnf
  refine .l [1] (ly_unb1 (row_ok s.ok h1') (by omega) (by omega) o5 hb.r) ?_;conv=>whnf
  rw[sg_lt];refine bF (decide_eq_false (Rat.not_lt.2 (o6 i h1'))) ?_;conv=>whnf
  exact⟨i+1,Wk.go,h1',by omega⟩
 ·conv=>whnf
  refine .l [1] (ly_unb1 s.ok.obj (by omega) (by omega) o5 hb.r) ?_;conv=>whnf
  rw[sg_lt];refine bT (decide_eq_true o7) ?_;conv=>whnf
  exact .q ⟨rfl,rfl⟩
abbrev ckH (p:Pg)(st:Int)(val:Rat)(pt du ray:List Rat)(ba:List Nat)(pv:Nat):List (Nat×Ent):=[(0,.box 34 p.A),(1,.box 39 ((solD st val pt du ray ba pv).map A.d))]
theorem ly_check1 (s:Smp p)(h:SolOk p 1 val pt du ray)(hb:SolB val pt du ray ba):LX Tryz.prog 42 [.a (.ptr 0 0),.a (.ptr 1 0)] (ckH p 1 val pt du ray ba pv) fun v H=>v=vl (.bool true)∧H=ckH p 1 val pt du ray ba pv:=by
 refine LX_run (m:=2) (n0:=2) mix Tryz.func42 rfl rfl rfl rfl ?_;conv=>whnf
 refine .c (ly_optimal s h hb) ?_;conv=>whnf
 exact⟨_,_,⟨rfl,rfl⟩,vR_ _,rfl,⟨⟨_,rfl,wke_refl _,rfl⟩,⟨_,rfl,wke_refl _,rfl⟩,trivial⟩,rfl⟩
theorem ly_check2 (s:Smp p)(h:SolOk p 2 val pt du ray)(hb:SolB val pt du ray ba):LX Tryz.prog 44 [.a (.ptr 1 0),.a (.ptr 0 0)] (ckH p 2 val pt du ray ba pv) fun v H=>v=vl (.bool true)∧H=ckH p 2 val pt du ray ba pv:=by
 obtain⟨rfl,rfl,rfl,_⟩:=h.inf rfl;refine LX_run (m:=2) (n0:=2) mix Tryz.func44 rfl rfl rfl rfl ?_;conv=>whnf
 refine .c (ly_dzero) ?_;conv=>whnf
 refine .c (ly_infeasible s h hb) ?_;conv=>whnf
 exact⟨_,_,⟨rfl,rfl⟩,vR_ _,rfl,⟨⟨_,rfl,wke_refl _,rfl⟩,⟨_,rfl,wke_refl _,rfl⟩,trivial⟩,rfl⟩
theorem ly_check3 (s:Smp p)(h:SolOk p 3 val pt du ray)(hb:SolB val pt du ray ba):LX Tryz.prog 47 [.a (.ptr 1 0),.a (.ptr 0 0)] (ckH p 3 val pt du ray ba pv) fun v H=>v=vl (.bool true)∧H=ckH p 3 val pt du ray ba pv:=by
 obtain⟨rfl,rfl,_⟩:=h.unb rfl;refine LX_run (m:=2) (n0:=2) mix Tryz.func47 rfl rfl rfl rfl ?_;conv=>whnf
 refine .c (ly_dzero) ?_;conv=>whnf
 refine .c (ly_unbounded s h hb) ?_;conv=>whnf
 exact⟨_,_,⟨rfl,rfl⟩,vR_ _,rfl,⟨⟨_,rfl,wke_refl _,rfl⟩,⟨_,rfl,wke_refl _,rfl⟩,trivial⟩,rfl⟩
theorem ly_check (s:Smp p)(h:SolOk p st val pt du ray)(hb:SolB val pt du ray ba):LV Tryz.prog 8 [.agg p.A,.agg ((solD st val pt du ray ba pv).map A.d)] (vl (.bool true)):=by
 rcases h.kind with rfl|rfl|rfl
 ·refine LX_run (m:=0) (n0:=0) mix Tryz.func8 rfl rfl rfl rfl ?_;conv=>whnf
  refine .l [0,1] (ly_check1 s h hb) ?_;conv=>whnf
  exact .q ⟨rfl,rfl⟩
 ·refine LX_run (m:=0) (n0:=0) mix Tryz.func8 rfl rfl rfl rfl ?_;conv=>whnf
  refine .l [0,1] (ly_check2 s h hb) ?_;conv=>whnf
  exact .q ⟨rfl,rfl⟩
 ·refine LX_run (m:=0) (n0:=0) mix Tryz.func8 rfl rfl rfl rfl ?_;conv=>whnf
  refine .l [0,1] (ly_check3 s h hb) ?_;conv=>whnf
  exact .q ⟨rfl,rfl⟩
end
open Go.Lib (decDigits)
def dval (l:List UInt8):Nat:=l.foldl (fun a d=>a*10+(d.toNat-48)) 0
theorem dval_app (a b:List UInt8):dval (a++b)=dval a*10^b.length+dval b:=by
 have key:∀(b:List UInt8) (m:Nat),b.foldl (fun a d=>a*10+(d.toNat-48)) m=m*10^b.length+b.foldl (fun a d=>a*10+(d.toNat-48)) 0:=by
  intro b
  induction b with
  |nil=>intro m;simp
  |cons d b ih=>intro m;rw[List.foldl_cons,List.foldl_cons,ih,ih (0*10+_),List.length_cons,Nat.pow_succ];simp only[Nat.zero_mul,Nat.zero_add,Nat.add_mul,Nat.mul_assoc,Nat.mul_comm 10];omega
 unfold dval;rw[List.foldl_append];exact key b _
abbrev dig (d:UInt8):Prop:=48≤d.toNat∧d.toNat≤57
theorem dig_of {u:Nat}(h:u<10):dig (UInt8.ofNat (48+u))∧(UInt8.ofNat (48+u)).toNat-48=u:=by
 have:(UInt8.ofNat (48+u)).toNat=48+u:=by rw[UInt8.toNat_ofNat'];omega
 rw[dig,this];omega
theorem dd_ok (u:Nat):dval (decDigits u)=u∧(∀d∈decDigits u,dig d)∧1≤(decDigits u).length:=by
 induction u using Nat.strongRecOn with
 |_ u ih=>
  rw[decDigits];split
  ·rename_i h;obtain⟨h1,h2⟩:=dig_of h;refine⟨?_,fun d hd=> ?_,lR_ _⟩
   ·show 0*10+((UInt8.ofNat (48+u)).toNat-48)=u;omega
   ·rw[List.mem_singleton.1 hd];exact h1
  ·rename_i h;obtain⟨k1,k2,k3⟩:=ih (u/10) (by omega);obtain⟨h1,h2⟩:=dig_of (show u % 10<10 by omega);refine⟨?_,fun d hd=> ?_,by simp⟩
   ·rw[dval_app,k1];show u/10*10^1+(0*10+((UInt8.ofNat (48+u % 10)).toNat-48))=u;omega
   ·rcases List.mem_append.1 hd with hd|hd
    ·exact k2 d hd
    ·rw[List.mem_singleton.1 hd];exact h1
theorem dd_len {u:Nat}:∀{k:Nat},u<10^(k+1)→(decDigits u).length≤k+1:=by
 induction u using Nat.strongRecOn with
 |_ u ih=>
  intro k h;rw[decDigits];split
  ·simp
  ·rename_i h1
   cases k with
   |zero=>simp at h;omega
   |succ k=>
    have:=ih (u/10) (by omega) (k:=k) (by rw[Nat.pow_succ]at h;omega);simp only[List.length_append,List.length_singleton];omega
def chk (n:Nat):List (List UInt8):=
 if h:n<1000000000 then(if n=0 then []else [decDigits n])
 else(List.replicate (9-(decDigits (n % 1000000000)).length) 48++decDigits (n % 1000000000))::chk (n/1000000000)
def dcS (n:Nat):List UInt8:=if n=0 then [48]else(chk n).reverse.flatten
theorem dval_zeros (l:List UInt8):∀k,dval (List.replicate k 48++l)=dval l
 |0=>by simp
 |k+1=>by
  rw[List.replicate_succ,List.cons_append];show(List.replicate k 48++l).foldl _ (0*10+((48:UInt8).toNat-48))=_;exact dval_zeros l k
theorem chk_ok (n:Nat):dval (chk n).reverse.flatten=n∧(∀d∈(chk n).reverse.flatten,dig d)∧(n≠0→1≤(chk n).reverse.flatten.length):=by
 induction n using Nat.strongRecOn with
 |_ n ih=>
  rw[chk];split
  ·rename_i h;split
   ·rename_i h0;subst h0;exact⟨rfl,fun d hd=>(by cases hd),fun h=>absurd rfl h⟩
   ·obtain⟨h1,h2,h3⟩:=dd_ok n;simp only[List.reverse_singleton,List.flatten_cons,List.flatten_nil,List.append_nil];exact⟨h1,h2,fun _=>h3⟩
  ·rename_i h;obtain⟨k1,k2,k3⟩:=ih (n/1000000000) (by omega);obtain⟨h1,h2,h3⟩:=dd_ok (n % 1000000000);have hl:=dd_len (u:=n % 1000000000) (k:=8) (by omega);have e:(List.replicate (9-(decDigits (n % 1000000000)).length) (48:UInt8)++decDigits (n % 1000000000)).length=9:=by simp;omega
   simp only[List.reverse_cons,List.flatten_append,List.flatten_cons,List.flatten_nil,List.append_nil];refine⟨?_,fun d hd=> ?_,fun _=>by rw[List.length_append,e];omega⟩
   ·rw[dval_app,k1,e,dval_zeros,h1];omega
   ·rcases List.mem_append.1 hd with hd|hd
    ·exact k2 d hd
    ·rcases List.mem_append.1 hd with hd|hd
     ·rw[List.eq_of_mem_replicate hd];decide
     ·exact h2 d hd
theorem dcS_ok (n:Nat):dval (dcS n)=n∧(∀d∈dcS n,dig d)∧1≤(dcS n).length:=by
 unfold dcS;split
 ·rename_i h;subst h;exact⟨rfl,fun d hd=>by rw[List.mem_singleton.1 hd];decide,lR_ _⟩
 ·rename_i h;obtain⟨h1,h2,h3⟩:=chk_ok n;exact⟨h1,h2,h3 h⟩
def szT (q:Rat):List UInt8:=dcS q.num.natAbs++if q.den=1 then []else 47::dcS q.den
def tmT (t:Tm):List UInt8:=(if szT t.q=[49]then []else szT t.q++[42])++120::decDigits t.v.toNat
def ptT (f:Af):List (Bool×List UInt8):=f.ts.map (fun t=>(decide (t.q<0),tmT t))++if f.c≠0∨f.ts=[]then [(decide (f.c<0),szT f.c)]else []
def sgT (first neg:Bool):List UInt8:=if first then(if neg then [45]else [])else [32,if neg then 45 else 43,32]
def tlT (l:List (Bool×List UInt8)):List UInt8:=l.flatMap fun p=>sgT false p.1++p.2
def rdT:List (Bool×List UInt8)→List UInt8
 |[]=>[]
 |p::l=>sgT true p.1++p.2++tlT l
def txt (f:Af):List UInt8:=rdT (ptT f)
theorem cutB (c:UInt8):∀{a a' b b':List UInt8},c∉a→c∉a'→(b=[]∨∃r,b=c::r)→(b'=[]∨∃r,b'=c::r)→a++b=a'++b'→a=a'∧b=b'
 |[],[],b,b',_,_,_,_,h=>⟨rfl,h⟩
 |x::a,y::a',b,b',h1,h2,h3,h4,h=>by
  simp only[List.cons_append,List.cons.injEq]at h;obtain⟨k1,k2⟩:=cutB c (fun k=>h1 (List.mem_cons_of_mem _ k)) (fun k=>h2 (List.mem_cons_of_mem _ k)) h3 h4 h.2;exact⟨by rw[h.1,k1],k2⟩
 |[],y::a',b,b',_,h2,h3,_,h=>by
  exfalso;rcases h3 with rfl|⟨r,rfl⟩
  ·simp at h
  ·simp only[List.nil_append,List.cons_append,List.cons.injEq]at h;exact h2 (by rw[h.1];exact List.mem_cons_self)
 |x::a,[],b,b',h1,_,_,h4,h=>by
  exfalso;rcases h4 with rfl|⟨r,rfl⟩
  ·simp at h
  ·simp only[List.nil_append,List.cons_append,List.cons.injEq]at h;exact h1 (by rw[←h.1];exact List.mem_cons_self)
theorem dig_ne {c:UInt8}(hc:c.toNat<48∨57<c.toNat){l:List UInt8}(h:∀d∈l,dig d):c∉l:=fun k=>by have:=h c k;unfold dig at this;omega
theorem dcS_inj {a b:Nat}(h:dcS a=dcS b):a=b:=by rw[←(dcS_ok a).1,←(dcS_ok b).1,h]
theorem szT_ch {q:Rat}:∀d∈szT q,dig d∨d=47:=fun d hd=>by
 unfold szT at hd;rcases List.mem_append.1 hd with hd|hd
 ·exact .inl ((dcS_ok _).2.1 d hd)
 ·split at hd
  ·cases hd
  ·rcases List.mem_cons.1 hd with rfl|hd
   ·exact .inr rfl
   ·exact .inl ((dcS_ok _).2.1 d hd)
theorem szT_ne {c:UInt8}(hc:(c.toNat<48∨57<c.toNat)∧c≠47){q:Rat}:c∉szT q:=fun k=>by
 rcases szT_ch c k with h|h
 ·unfold dig at h;omega
 ·exact hc.2 h
theorem szT_head {q:Rat}:∃d r,szT q=d::r∧dig d:=by
 obtain⟨_,h2,h3⟩:=dcS_ok q.num.natAbs;unfold szT
 cases hd:dcS q.num.natAbs with
 |nil=>rw[hd]at h3;simp at h3
 |cons d r=>exact⟨d,_,rfl,h2 d (by rw[hd];exact List.mem_cons_self)⟩
theorem rat_eq {p q:Rat}(h1:p.num.natAbs=q.num.natAbs)(h2:p.den=q.den)(h3:decide (p<0)=decide (q<0)):p=q:=by
 have e:∀r:Rat,r<0↔r.num<0:=fun r=>by rw[←Rat.not_le,←Rat.num_nonneg];omega
 have h4:p.num<0↔q.num<0:=by rw[←e,←e];simpa using h3
 exact Rat.ext (by omega) h2
theorem szT_inj {p q:Rat}(h:szT p=szT q):p.num.natAbs=q.num.natAbs∧p.den=q.den:=by
 unfold szT at h;have n1:=dig_ne (c:=47) (by decide) (dcS_ok p.num.natAbs).2.1;have n2:=dig_ne (c:=47) (by decide) (dcS_ok q.num.natAbs).2.1;obtain⟨h1,h2⟩:=cutB 47 n1 n2 (by split<;>simp) (by split<;>simp) h;refine⟨dcS_inj h1,?_⟩;split at h2<;>split at h2
 ·omega
 ·cases h2
 ·cases h2
 ·exact dcS_inj (by simpa using h2)
theorem tmT_inj {s t:Tm}(hs:0≤s.v)(ht:0≤t.v)(h:tmT s=tmT t)(hn:decide (s.q<0)=decide (t.q<0)):s=t:=by
 unfold tmT at h
 have n:∀t:Tm,(120:UInt8)∉(if szT t.q=[49]then []else szT t.q++[42]):=fun t=>by
  split
  ·simp
  ·rw[List.mem_append];rintro(h|h)
   ·exact szT_ne (by decide) h
   ·simp at h
 obtain⟨h1,h2⟩:=cutB 120 (n s) (n t) (.inr ⟨_,rfl⟩) (.inr ⟨_,rfl⟩) h;have hv:s.v=t.v:=by
  have h3:decDigits s.v.toNat=decDigits t.v.toNat:=by simpa using h2
  have h4:=congrArg dval h3;rw[(dd_ok _).1,(dd_ok _).1]at h4;omega
 have hq:szT s.q=szT t.q:=by
  split at h1<;>split at h1
  ·simp_all
  ·simp at h1
  ·simp at h1
  ·simpa using h1
 obtain⟨k1,k2⟩:=szT_inj hq;have:=rat_eq k1 k2 hn
 cases s;cases t;simp_all
theorem tmT_ch {t:Tm}:(32:UInt8)∉tmT t∧∃d r,tmT t=d::r∧d≠45:=by
 unfold tmT;have h1:=dig_ne (c:=32) (by decide) (dd_ok t.v.toNat).2.1;obtain⟨d,r,e,hd⟩:=szT_head (q:=t.q);refine⟨fun h=> ?_,?_⟩
 ·rcases List.mem_append.1 h with h|h
  ·split at h
   ·cases h
   ·rcases List.mem_append.1 h with h|h
    ·exact szT_ne (by decide) h
    ·simp at h
  ·rcases List.mem_cons.1 h with h|h
   ·simp at h
   ·exact h1 h
 ·split
  ·exact⟨120,_,rfl,by decide⟩
  ·rw[e];exact⟨d,_,rfl,fun h=>by rw[h]at hd;exact absurd hd (by decide)⟩
structure PtOkT (p:Bool×List UInt8):Prop where
 sp:(32:UInt8)∉p.2
 hd:∃d r,p.2=d::r∧d≠45
theorem ptT_ok {f:Af}:∀p∈ptT f,PtOkT p:=fun p hp=>by
 unfold ptT at hp;rcases List.mem_append.1 hp with hp|hp
 ·obtain⟨t,_,rfl⟩:=List.mem_map.1 hp;exact⟨tmT_ch.1,tmT_ch.2⟩
 ·split at hp
  ·rw[List.mem_singleton.1 hp];obtain⟨d,r,e,hd⟩:=szT_head (q:=f.c);exact⟨szT_ne (by decide),d,r,e,fun h=>by rw[h]at hd;exact absurd hd (by decide)⟩
  ·cases hp
theorem tlT_inj:∀{l m:List (Bool×List UInt8)},(∀p∈l,PtOkT p)→(∀p∈m,PtOkT p)→tlT l=tlT m→l=m
 |[],[],_,_,_=>rfl
 |[],q::m,_,_,h=>by simp[tlT,sgT]at h
 |p::l,[],_,_,h=>by simp[tlT,sgT]at h
 |p::l,q::m,hl,hm,h=>by
  have st:∀l:List (Bool×List UInt8),tlT l=[]∨∃r,tlT l=32::r:=fun l=>by
   cases l with
   |nil=>exact .inl rfl
   |cons p l=>exact .inr ⟨_,rfl⟩
  have h':(32:UInt8)::(if p.1 then 45 else 43)::32::(p.2++tlT l)=32::(if q.1 then 45 else 43)::32::(q.2++tlT m):=by
   simpa [tlT,sgT]using h
  simp only[List.cons.injEq,true_and]at h';obtain⟨h1,h2⟩:=cutB 32 (hl p List.mem_cons_self).sp (hm q List.mem_cons_self).sp (st l) (st m) h'.2;have h3:p.1=q.1:=by
   have:=h'.1
   cases hp:p.1<;>cases hq:q.1<;>simp_all
  rw[tlT_inj (fun x hx=>hl x (List.mem_cons_of_mem _ hx)) (fun x hx=>hm x (List.mem_cons_of_mem _ hx)) h2,Prod.ext h3 h1]
theorem rdT_inj:∀{l m:List (Bool×List UInt8)},(∀p∈l,PtOkT p)→(∀p∈m,PtOkT p)→rdT l=rdT m→l=m:=by
 intro l m hl hm h
 have ne:∀{p:Bool×List UInt8} {l},PtOkT p→rdT (p::l)≠[]:=fun {p l} hp h=>by
  obtain⟨d,r,e,_⟩:=hp.hd;simp[rdT,e]at h
 cases l with
 |nil=>cases m with
  |nil=>rfl
  |cons q m=>exact absurd h.symm (ne (hm q List.mem_cons_self))
 |cons p l=>cases m with
  |nil=>exact absurd h (ne (hl p List.mem_cons_self))
  |cons q m=>
   have hp:=hl p List.mem_cons_self;have hq:=hm q List.mem_cons_self
   have st:∀l:List (Bool×List UInt8),tlT l=[]∨∃r,tlT l=32::r:=fun l=>by
    cases l with
    |nil=>exact .inl rfl
    |cons p l=>exact .inr ⟨_,rfl⟩
   have go:p.1=q.1→p.2++tlT l=q.2++tlT m→p::l=q::m:=fun e h=>by
    obtain⟨h1,h2⟩:=cutB 32 hp.sp hq.sp (st l) (st m) h;rw[tlT_inj (fun x hx=>hl x (List.mem_cons_of_mem _ hx)) (fun x hx=>hm x (List.mem_cons_of_mem _ hx)) h2,Prod.ext e h1]
   obtain⟨d,r,e,hd⟩:=hp.hd;obtain⟨d',r',e',hd'⟩:=hq.hd;simp only[rdT,sgT,if_true,List.append_assoc]at h
   cases h1:p.1<;>cases h2:q.1<;>rw[h1,h2]at h
   ·exact go (by rw[h1,h2]) (by simpa using h)
   ·rw[e]at h;simp at h;exact absurd h.1 hd
   ·rw[e']at h;simp at h;exact absurd h.1.symm hd'
   ·exact go (by rw[h1,h2]) (by simpa using h)
theorem tm_ne_c {t:Tm}{q:Rat}:tmT t≠szT q:=fun h=>by
 have:(120:UInt8)∈szT q:=by rw[←h];unfold tmT;simp
 exact szT_ne (by decide) this
theorem txt_inj {f g:Af}(hf:∀t∈f.ts,0≤t.v)(hg:∀t∈g.ts,0≤t.v)(h:txt f=txt g):f=g:=by
 have h1:=rdT_inj ptT_ok ptT_ok h;unfold ptT at h1
 have key:∀(l m:List Tm) (a b:List (Bool×List UInt8)),(∀t∈l,0≤t.v)→(∀t∈m,0≤t.v)→(∀p∈a,∃q:Rat,p.2=szT q)→(∀p∈b,∃q:Rat,p.2=szT q)→
   l.map (fun t=>(decide (t.q<0),tmT t))++a=m.map (fun t=>(decide (t.q<0),tmT t))++b→l=m∧a=b:=by
  intro l
  induction l with
  |nil=>
   intro m a b _ _ ha _ h
   cases m with
   |nil=>exact⟨rfl,h⟩
   |cons t m=>
    exfalso;simp only[List.map_nil,List.nil_append,List.map_cons,List.cons_append]at h;obtain⟨q,hq⟩:=ha _ (by rw[h];exact List.mem_cons_self);exact tm_ne_c hq
  |cons s l ih=>
   intro m a b hl hm ha hb h
   cases m with
   |nil=>
    exfalso;simp only[List.map_nil,List.nil_append,List.map_cons,List.cons_append]at h;obtain⟨q,hq⟩:=hb _ (by rw[←h];exact List.mem_cons_self);exact tm_ne_c hq
   |cons t m=>
    simp only[List.map_cons,List.cons_append,List.cons.injEq,Prod.mk.injEq]at h;obtain⟨k1,k2⟩:=ih m a b (fun x hx=>hl x (List.mem_cons_of_mem _ hx)) (fun x hx=>hm x (List.mem_cons_of_mem _ hx)) ha hb h.2;exact⟨by rw[tmT_inj (hl s List.mem_cons_self) (hm t List.mem_cons_self) h.1.2 h.1.1,k1],k2⟩
 have cs:∀f:Af,∀p∈(if f.c≠0∨f.ts=[]then [(decide (f.c<0),szT f.c)]else []),∃q:Rat,p.2=szT q:=fun f p hp=>by
  split at hp
  ·rw[List.mem_singleton.1 hp];exact⟨_,rfl⟩
  ·cases hp
 obtain⟨e1,e2⟩:=key _ _ _ _ hf hg (cs f) (cs g) h1;have e3:f.c=g.c:=by
  split at e2<;>split at e2
  ·simp only[List.cons.injEq,Prod.mk.injEq,and_true]at e2;obtain⟨k1,k2⟩:=szT_inj e2.2;exact rat_eq k1 k2 e2.1
  ·cases e2
  ·cases e2
  ·rename_i a b;have a':f.c=0:=Classical.byContradiction fun h=>a (.inl h);have b':g.c=0:=Classical.byContradiction fun h=>b (.inl h);rw[a',b']
 cases f;cases g;simp_all
open Go.Shelf
def Z:Go.Shelf.Ren:=⟨fun|99=>222|105=>205|129=>237|156=>207|165=>223|166=>159|169=>162|170=>158|171=>160|206=>243|212=>221|240=>189|241=>244|243=>190|246=>203|263=>241|264=>242|276=>202|277=>248|283=>216|284=>217|285=>218|286=>219|317=>236|318=>238|319=>239|320=>240|337=>245|338=>247|n=>n,fun|0=>0|2=>2|3=>3|4=>4|5=>5|9=>9|20=>20|31=>261|37=>22|46=>192|51=>150|53=>156|70=>213|72=>215|75=>218|76=>219|80=>224|109=>276|127=>249|146=>290|148=>292|164=>258|171=>271|173=>274|212=>287|213=>288|232=>295|233=>296|n=>n,fun|17=>0|18=>1|19=>2|n=>n⟩
def Z2:Go.Shelf.Ren:=⟨fun|17=>206|n=>n,fun|0=>0|3=>3|4=>4|9=>9|24=>261|n=>n,fun|n=>n⟩
theorem L105:Go.Proofs.Lays.n105 Tryz.prog Z:={
 mixed:=by kernel_rfl
 f99:=Tryz.func222.trans (congrArg some (by kernel_rfl))
 f105:=Tryz.func205.trans (congrArg some (by kernel_rfl))
 f165:=Tryz.func223.trans (congrArg some (by kernel_rfl))
 f166:=Tryz.func159.trans (congrArg some (by kernel_rfl))
 f169:=Tryz.func162.trans (congrArg some (by kernel_rfl))
 f170:=Tryz.func158.trans (congrArg some (by kernel_rfl))
 f206:=Tryz.func243.trans (congrArg some (by kernel_rfl))
 f212:=Tryz.func221.trans (congrArg some (by kernel_rfl))
 f240:=Tryz.func189.trans (congrArg some (by kernel_rfl))
 f241:=Tryz.func244.trans (congrArg some (by kernel_rfl))
 f263:=Tryz.func241.trans (congrArg some (by kernel_rfl))
 f264:=Tryz.func242.trans (congrArg some (by kernel_rfl))
 f276:=Tryz.func202.trans (congrArg some (by kernel_rfl))
 f277:=Tryz.func248.trans (congrArg some (by kernel_rfl))
 t0:=Tryz.underlying0
 a0:=Tryz.isAgg0
 z0:=Tryz.sizeOf0
 v0:=Tryz.zeroValue0
 t3:=Tryz.underlying3
 a3:=Tryz.isAgg3
 z3:=Tryz.sizeOf3
 v3:=Tryz.zeroValue3
 t4:=Tryz.underlying4
 a4:=Tryz.isAgg4
 z4:=Tryz.sizeOf4
 v4:=Tryz.zeroValue4
 t5:=Tryz.underlying5
 a5:=Tryz.isAgg5
 z5:=Tryz.sizeOf5
 v5:=Tryz.zeroValue5
 t9:=Tryz.underlying9
 a9:=Tryz.isAgg9
 z9:=Tryz.sizeOf9
 v9:=Tryz.zeroValue9
 t20:=Tryz.underlying20
 a20:=Tryz.isAgg20
 z20:=Tryz.sizeOf20
 v20:=Tryz.zeroValue20
 t37:=Tryz.underlying22
 a37:=Tryz.isAgg22
 z37:=Tryz.sizeOf22
 v37:=Tryz.zeroValue22
 t46:=Tryz.underlying192
 a46:=Tryz.isAgg192
 z46:=Tryz.sizeOf192
 v46:=Tryz.zeroValue192
 t51:=Tryz.underlying150
 a51:=Tryz.isAgg150
 z51:=Tryz.sizeOf150
 v51:=Tryz.zeroValue150
 t53:=Tryz.underlying156
 a53:=Tryz.isAgg156
 z53:=Tryz.sizeOf156
 v53:=Tryz.zeroValue156
 t70:=Tryz.underlying213
 a70:=Tryz.isAgg213
 z70:=Tryz.sizeOf213
 v70:=Tryz.zeroValue213
 t72:=Tryz.underlying215
 a72:=Tryz.isAgg215
 z72:=Tryz.sizeOf215
 v72:=Tryz.zeroValue215
 t75:=Tryz.underlying218
 a75:=Tryz.isAgg218
 z75:=Tryz.sizeOf218
 v75:=Tryz.zeroValue218
 t76:=Tryz.underlying219
 a76:=Tryz.isAgg219
 z76:=Tryz.sizeOf219
 v76:=Tryz.zeroValue219
 t109:=Tryz.underlying276
 a109:=Tryz.isAgg276
 z109:=Tryz.sizeOf276
 v109:=Tryz.zeroValue276
 t127:=Tryz.underlying249
 a127:=Tryz.isAgg249
 z127:=Tryz.sizeOf249
 v127:=Tryz.zeroValue249
 t146:=Tryz.underlying290
 a146:=Tryz.isAgg290
 z146:=Tryz.sizeOf290
 v146:=Tryz.zeroValue290
 t148:=Tryz.underlying292
 a148:=Tryz.isAgg292
 z148:=Tryz.sizeOf292
 v148:=Tryz.zeroValue292
 t164:=Tryz.underlying258
 a164:=Tryz.isAgg258
 z164:=Tryz.sizeOf258
 v164:=Tryz.zeroValue258}
theorem L156:Go.Proofs.Lays.n156 Tryz.prog Z:={
 mixed:=by kernel_rfl
 f156:=Tryz.func207.trans (congrArg some (by kernel_rfl))
 f165:=Tryz.func223.trans (congrArg some (by kernel_rfl))
 f166:=Tryz.func159.trans (congrArg some (by kernel_rfl))
 f169:=Tryz.func162.trans (congrArg some (by kernel_rfl))
 f240:=Tryz.func189.trans (congrArg some (by kernel_rfl))
 f241:=Tryz.func244.trans (congrArg some (by kernel_rfl))
 f276:=Tryz.func202.trans (congrArg some (by kernel_rfl))
 f277:=Tryz.func248.trans (congrArg some (by kernel_rfl))
 t0:=Tryz.underlying0
 a0:=Tryz.isAgg0
 z0:=Tryz.sizeOf0
 v0:=Tryz.zeroValue0
 t3:=Tryz.underlying3
 a3:=Tryz.isAgg3
 z3:=Tryz.sizeOf3
 v3:=Tryz.zeroValue3
 t4:=Tryz.underlying4
 a4:=Tryz.isAgg4
 z4:=Tryz.sizeOf4
 v4:=Tryz.zeroValue4
 t9:=Tryz.underlying9
 a9:=Tryz.isAgg9
 z9:=Tryz.sizeOf9
 v9:=Tryz.zeroValue9
 t20:=Tryz.underlying20
 a20:=Tryz.isAgg20
 z20:=Tryz.sizeOf20
 v20:=Tryz.zeroValue20
 t31:=Tryz.underlying261
 a31:=Tryz.isAgg261
 z31:=Tryz.sizeOf261
 v31:=Tryz.zeroValue261
 t37:=Tryz.underlying22
 a37:=Tryz.isAgg22
 z37:=Tryz.sizeOf22
 v37:=Tryz.zeroValue22
 t70:=Tryz.underlying213
 a70:=Tryz.isAgg213
 z70:=Tryz.sizeOf213
 v70:=Tryz.zeroValue213
 t72:=Tryz.underlying215
 a72:=Tryz.isAgg215
 z72:=Tryz.sizeOf215
 v72:=Tryz.zeroValue215
 t75:=Tryz.underlying218
 a75:=Tryz.isAgg218
 z75:=Tryz.sizeOf218
 v75:=Tryz.zeroValue218
 t76:=Tryz.underlying219
 a76:=Tryz.isAgg219
 z76:=Tryz.sizeOf219
 v76:=Tryz.zeroValue219
 t127:=Tryz.underlying249
 a127:=Tryz.isAgg249
 z127:=Tryz.sizeOf249
 v127:=Tryz.zeroValue249
 t164:=Tryz.underlying258
 a164:=Tryz.isAgg258
 z164:=Tryz.sizeOf258
 v164:=Tryz.zeroValue258}
theorem L171:Go.Proofs.Lays.n171 Tryz.prog Z:={
 mixed:=by kernel_rfl
 f129:=Tryz.func237.trans (congrArg some (by kernel_rfl))
 f171:=Tryz.func160.trans (congrArg some (by kernel_rfl))
 f243:=Tryz.func190.trans (congrArg some (by kernel_rfl))
 f246:=Tryz.func203.trans (congrArg some (by kernel_rfl))
 f283:=Tryz.func216.trans (congrArg some (by kernel_rfl))
 f284:=Tryz.func217.trans (congrArg some (by kernel_rfl))
 f285:=Tryz.func218.trans (congrArg some (by kernel_rfl))
 f286:=Tryz.func219.trans (congrArg some (by kernel_rfl))
 f317:=Tryz.func236.trans (congrArg some (by kernel_rfl))
 f318:=Tryz.func238.trans (congrArg some (by kernel_rfl))
 f319:=Tryz.func239.trans (congrArg some (by kernel_rfl))
 f320:=Tryz.func240.trans (congrArg some (by kernel_rfl))
 f337:=Tryz.func245.trans (congrArg some (by kernel_rfl))
 f338:=Tryz.func247.trans (congrArg some (by kernel_rfl))
 t0:=Tryz.underlying0
 a0:=Tryz.isAgg0
 z0:=Tryz.sizeOf0
 v0:=Tryz.zeroValue0
 t2:=Tryz.underlying2
 a2:=Tryz.isAgg2
 z2:=Tryz.sizeOf2
 v2:=Tryz.zeroValue2
 t3:=Tryz.underlying3
 a3:=Tryz.isAgg3
 z3:=Tryz.sizeOf3
 v3:=Tryz.zeroValue3
 t4:=Tryz.underlying4
 a4:=Tryz.isAgg4
 z4:=Tryz.sizeOf4
 v4:=Tryz.zeroValue4
 t5:=Tryz.underlying5
 a5:=Tryz.isAgg5
 z5:=Tryz.sizeOf5
 v5:=Tryz.zeroValue5
 t9:=Tryz.underlying9
 a9:=Tryz.isAgg9
 z9:=Tryz.sizeOf9
 v9:=Tryz.zeroValue9
 t20:=Tryz.underlying20
 a20:=Tryz.isAgg20
 z20:=Tryz.sizeOf20
 v20:=Tryz.zeroValue20
 t37:=Tryz.underlying22
 a37:=Tryz.isAgg22
 z37:=Tryz.sizeOf22
 v37:=Tryz.zeroValue22
 t46:=Tryz.underlying192
 a46:=Tryz.isAgg192
 z46:=Tryz.sizeOf192
 v46:=Tryz.zeroValue192
 t51:=Tryz.underlying150
 a51:=Tryz.isAgg150
 z51:=Tryz.sizeOf150
 v51:=Tryz.zeroValue150
 t53:=Tryz.underlying156
 a53:=Tryz.isAgg156
 z53:=Tryz.sizeOf156
 v53:=Tryz.zeroValue156
 t171:=Tryz.underlying271
 a171:=Tryz.isAgg271
 z171:=Tryz.sizeOf271
 v171:=Tryz.zeroValue271
 t173:=Tryz.underlying274
 a173:=Tryz.isAgg274
 z173:=Tryz.sizeOf274
 v173:=Tryz.zeroValue274
 t212:=Tryz.underlying287
 a212:=Tryz.isAgg287
 z212:=Tryz.sizeOf287
 v212:=Tryz.zeroValue287
 t213:=Tryz.underlying288
 a213:=Tryz.isAgg288
 z213:=Tryz.sizeOf288
 t232:=Tryz.underlying295
 a232:=Tryz.isAgg295
 z232:=Tryz.sizeOf295
 v232:=Tryz.zeroValue295
 t233:=Tryz.underlying296
 a233:=Tryz.isAgg296
 z233:=Tryz.sizeOf296
 v233:=Tryz.zeroValue296
 g17:=by kernel_rfl
 g18:=by kernel_rfl
 g19:=by kernel_rfl}
theorem LRev:Go.Proofs.Lays2.n17 Tryz.prog Z2:={
 mixed:=by kernel_rfl
 f17:=Tryz.func206.trans (congrArg some (by kernel_rfl))
 t0:=Tryz.underlying0
 a0:=Tryz.isAgg0
 z0:=Tryz.sizeOf0
 v0:=Tryz.zeroValue0
 t3:=Tryz.underlying3
 a3:=Tryz.isAgg3
 z3:=Tryz.sizeOf3
 v3:=Tryz.zeroValue3
 t4:=Tryz.underlying4
 a4:=Tryz.isAgg4
 z4:=Tryz.sizeOf4
 v4:=Tryz.zeroValue4
 t9:=Tryz.underlying9
 a9:=Tryz.isAgg9
 z9:=Tryz.sizeOf9
 v9:=Tryz.zeroValue9
 t24:=Tryz.underlying261
 a24:=Tryz.isAgg261
 z24:=Tryz.sizeOf261
 v24:=Tryz.zeroValue261}
theorem L166:Go.Proofs.Lays.n166 Tryz.prog Z:=by
 obtain⟨⟩:=L156;constructor<;>assumption
theorem L170:Go.Proofs.Lays.n170 Tryz.prog Z:=by
 obtain⟨⟩:=L105;constructor<;>assumption
theorem L169:Go.Proofs.Lays.n169 Tryz.prog Z:=by
 obtain⟨⟩:=L156;constructor<;>assumption
theorem L285:Go.Proofs.Lays.n285 Tryz.prog Z:=by
 obtain⟨⟩:=L171;constructor<;>assumption
theorem L283:Go.Proofs.Lays.n283 Tryz.prog Z:=by
 obtain⟨⟩:=L171;constructor<;>assumption
theorem L129:Go.Proofs.Lays.n129 Tryz.prog Z:=by
 obtain⟨⟩:=L171;constructor<;>assumption
theorem L317:Go.Proofs.Lays.n317 Tryz.prog Z:=by
 obtain⟨⟩:=L171;constructor<;>assumption
theorem L318:Go.Proofs.Lays.n318 Tryz.prog Z:=by
 obtain⟨⟩:=L171;constructor<;>assumption
theorem LEx:Go.Proofs.Builder.Extra Tryz.prog Z:={
 sizeBuilder:=by kernel_rfl
 liesBuilder:=by kernel_rfl
 t5:=Tryz.underlying5
 a5:=Tryz.isAgg5
 z5:=Tryz.sizeOf5
 v5:=Tryz.zeroValue5
 infoByte:=by kernel_rfl
 cellsByte:=by kernel_rfl
 sizeByte:=by kernel_rfl
 neB5:=by decide}
open Go.Sort
theorem lv_ofG {P:Program}{F:FuncId}{args:List V}{v:V}(hc:∀(γ:Gh) (M:MS) (w:World) (rs:List Value),Glb M w→All2 (RdV γ (look []) M w) args rs→Calls P F rs.toArray w (Ret w fun w' r=>OV w' v r)):LV P F args v:=by
 refine⟨_,_,⟨rfl,rfl⟩,fun γ M w rs hr ha=>cM (hc γ M w rs hr.glb ha) ?_⟩;rintro e w' ⟨r,rfl,h1,h2⟩;obtain⟨k1,k2⟩:=rel_below hr h2 fun k=>rfl;exact⟨r,γ,M,rfl,k1,OV.rd k1.u32 h1,k2⟩
theorem fx_belowB {M:MS}{w w':World}(h:Below w.heap.size w w'):∀b i v,Fx M w b i v→Fx M w' b i v:=fun b i v k=>
 ⟨k.1,by rw[World.cell?_of_block (w:=w) (a:=⟨b,i,none⟩) (h.block b (World.block_lt_of_cell? _ _ k.2))];exact k.2⟩
theorem sh_len64 (x:Int)(w:World)(h0:0≤x)(h1:x≤18446744073709551615):Calls Tryz.prog 237 #[.int .u64 x] w fun e w'=>e= .returned (.int .i64 (Lib.bitLen x.toNat))∧w'=w:=Any.bits_Len64 L129 x w h0 h1
theorem sh_log10 (x:Nat)(h:x≤64)(w:World):Calls Tryz.prog 236 #[.int .i64 x] w fun e w'=>e= .returned (.int .i64 (Lib.l10 x))∧w'=w:=Any.internal_strconv_log10Pow2 L317 x h w
theorem sh_bool2 (b:Bool)(w:World):Calls Tryz.prog 238 #[.bool b] w fun e w'=>e= .returned (.int .i64 (if b then 1 else 0))∧w'=w:=Any.internal_strconv_bool2_int L318 b w
theorem sh_small (i:Nat)(h:i<100)(w:World):Calls Tryz.prog 216 #[.int .i64 i] w fun e w'=>e= .returned (.string ⟨(Lib.decDigits i).toArray⟩)∧w'=w:=Any.internal_strconv_small L283 i h w
theorem sh_base10 (blk off cap:Nat)(u:Nat)(d:Array UInt8)(w:World)(hH:Holds (fun(b:UInt8)=>Value.int .u8 (b.toNat:Int)) w blk off d)(hu:u<10^d.size)(hu64:u<18446744073709551616)(hsz:d.size<4611686018427387904):
  Calls Tryz.prog 218 #[.slice (some ⟨blk,off,none⟩) d.size cap,.int .u64 u] w fun e w'=>
   e= .returned (.tuple #[])∧∃(n v':Nat) (dk:Array UInt8),w'=(putRow (fun(b:UInt8)=>Value.int .u8 (b.toNat:Int)) w blk off dk).drewN n∧Lib.FmtInv d.size u 0 v' dk:=Any.internal_strconv_formatBase10 L285 blk off cap u d w hH hu hu64 hsz
theorem p10_row {q:Nat}(h:q<20):∃row,GT 0=some row∧row[q]? =some (.lit (.int .u64 ((10^q:Nat):Int))):=by
 refine⟨_,rfl,?_⟩;refine at_map (f:=fun z=>D.lit (.int .u64 z)) ?_;have key:∀q:Fin 20,([1,10,100,1000,10000,100000,1000000,10000000,100000000,1000000000,10000000000,100000000000,1000000000000,10000000000000,100000000000000,1000000000000000,10000000000000000,100000000000000000,1000000000000000000,10000000000000000000]:List Int)[q.val]? =some ((10^q.val:Nat):Int):=by decide
 exact key ⟨q,h⟩
theorem sh_numD {u:Nat}(h1:1≤u)(h2:u<18446744073709551616){M:MS}{w:World}(hG:Glb M w):
  Calls Tryz.prog 217 #[.int .u64 u] w fun e w'=>e= .returned (.int .i64 (Lib.nDigits u))∧w'=w:=by
 obtain⟨hnd,h19⟩:=Lib.numDigits_eq u h1 h2;have hL:Lib.bitLen u≤64:=Lib.bitLen_le u 64 (lR_ _) h2;have hcell:w.cell? ⟨0,Lib.l10 (Lib.bitLen u),none⟩=some (.int .u64 ((10^Lib.l10 (Lib.bitLen u):Nat):Int)):=by
  obtain⟨row,hr,hq⟩:=p10_row (show Lib.l10 (Lib.bitLen u)<20 by omega);obtain⟨v,hv,hd⟩:=hG 0 row hr _ _ hq;rw[lit_inv hd]at hv;exact hv.2
 have hto:((u:Int)).toNat=u:=by omega
 generalize hq:Lib.l10 (Lib.bitLen u)=q at hnd h19 hcell;generalize hT:10^q=T at hnd hcell;have h20:q<20:=by omega
 have Hnd:=lH hnd;clear hnd hG
 go_enter Tryz.func217,Tryz.ntmps217
 go_wp2_with (first
  |(go_at_call 237;refine(sh_len64 _ _ (by omega) (by omega)).mono ?_;rintro e w' ⟨rfl,rfl⟩)
  |(go_at_call 236;refine(sh_log10 _ (by first|exact hL|(rw[hto];exact hL)) _).mono ?_;rintro e w' ⟨rfl,rfl⟩)
  |(go_at_call 238;refine(sh_bool2 _ _).mono ?_;rintro e w' ⟨rfl,rfl⟩))
 all_goals go_ret
 all_goals (
  refine⟨?_,rfl⟩;have hnd:=Hnd.out
  congr 2
  split at hnd<;>simp_all<;>omega)
theorem sh_fuint {u:Nat}(hu64:u<18446744073709551616){M:MS}{w:World}(hG:Glb M w):
  Calls Tryz.prog 220 #[.int .u64 u,.int .i64 10] w fun e w'=>e= .returned (.string ⟨(Lib.decDigits u).toArray⟩)∧Below w.heap.size w w':=by
 by_cases hs:u<100
 ·go_enter Tryz.func220,Tryz.ntmps220
  go_wp2_with (go_at_call 216;refine(sh_small u hs _).mono ?_;rintro e w' ⟨rfl,rfl⟩)
  go_ret
  exact⟨rfl,bR_ _ _⟩
 ·have hu1:1≤u:=by omega
  have hnd20:Lib.nDigits u≤20:=by have:=Lib.numDigits_eq u hu1 hu64;split at this<;>omega
  have hal:Tryz.prog.arrayLen 271=24:=by simp[Program.arrayLen,Tryz.underlying271]
  have hsl1:∀W,(Instr.sliceAt 271 (.pointer (some ⟨w.heap.size,0,none⟩)) none (some (.int .i64 (Lib.nDigits u:Int))) none).run Tryz.prog W= .ok (.slice (some ⟨w.heap.size,0,none⟩) (Lib.nDigits u) 24) W:=fun W=>by
   rw[run_sliceAt_array_h W 271 ⟨w.heap.size,0,none⟩ (by simp[Program.arrayLen,Program.elem,Tryz.underlying271]) .i64 (Lib.nDigits u:Int) (by omega) (by rw[hal];omega)];go_simp
  have hH0:=Lib.holds_zero0 w 271 (Lib.nDigits u) (by omega);have hfmt:=sh_base10 w.heap.size 0 24 u (Array.replicate (Lib.nDigits u) 0) (w.alloc (.cells Lib.zeros24 271)) hH0 (by rw[Array.size_replicate];exact Lib.lt_pow_nDigits u) hu64 (by rw[Array.size_replicate];omega);rw[Array.size_replicate]at hfmt;have HH0:=lH hH0;clear hH0 hal;have hG1:Glb M (w.alloc (.cells Lib.zeros24 271)):=hG.fx (fx_belowB ((bR_ _ w).alloc (lR_ _) _))
  go_enter Tryz.func220,Tryz.ntmps220
  go_wp2_with (go_at_call 217;refine(sh_numD hu1 hu64 hG1).mono ?_;rintro e w' ⟨rfl,rfl⟩)
  go_at_call 218
  refine hfmt.mono ?_;rintro e w' ⟨rfl,k,v',dk,rfl,hF⟩;have hcv:(convert 22 9 (.slice (some ⟨w.heap.size,0,none⟩) (Lib.nDigits u) 24)).run Tryz.prog ((putRow (fun(b:UInt8)=>Value.int .u8 (b.toNat:Int)) (w.alloc (.cells Lib.zeros24 271)) w.heap.size 0 dk).drewN k)= .ok (.string ⟨(Lib.decDigits u).toArray⟩) ((putRow (fun(b:UInt8)=>Value.int .u8 (b.toNat:Int)) (w.alloc (.cells Lib.zeros24 271)) w.heap.size 0 dk).drewN k):=by
   have h:=run_convert_bytes_back (P:=Tryz.prog) ((putRow (fun(b:UInt8)=>Value.int .u8 (b.toNat:Int)) (w.alloc (.cells Lib.zeros24 271)) w.heap.size 0 dk).drewN k) 22 9 5 ⟨w.heap.size,0,none⟩ 24 (Lib.decDigits u) Tryz.underlying22 Tryz.underlying5 Tryz.underlying9 (fun j hj=>by
    rw[Lib.row_is_numeral hF j hj,Lib.add_plain,World.cell?_drewN];exact cell?_putRow (fun(b:UInt8)=>Value.int .u8 (b.toNat:Int)) _ w.heap.size 0 _ dk HH0.out (by rw[hF.size,Array.size_replicate]) j (by rw[hF.size];rw[Lib.decDigits_length]at hj;exact hj))
   rw[Lib.decDigits_length]at h;exact h
  go_wp2
  go_ret
  obtain⟨os,eo⟩:=Lib.fin_at w (.cells Lib.zeros24 271) dk k 0;refine⟨rfl,?_⟩;rw[eo];exact Lib.below_grow _ _ (lR_ _) _ _
open Go.Lib (decDigits)
theorem sh_repeat (s:ByteArray)(c:Nat)(w:World)(hc:c≤9223372036854775807)(hlen:s.size*c≤140737488355328):
  Calls Tryz.prog 205 #[.string s,.int .i64 c] w fun e w'=>e= .returned (.string ⟨(Lib.repeatL s.data.toList c).toArray⟩)∧Below w.heap.size w w':=Any.strings_Repeat L105 LEx s c w hc hlen
theorem sh_join (bk o c:Nat)(xs:List ByteArray)(sep:ByteArray)(w:World)(hcells:∀(j:Nat) x,xs[j]? =some x→w.cell? ⟨bk,o+j,none⟩=some (.string x))(hbk:bk<w.heap.size)(hN:xs.length≤140737488355328)(hcap:xs.length≤c)(hlen:(Lib.join (xs.map (·.data.toList)) sep.data.toList).length≤140737488355328):
  Calls Tryz.prog 207 #[.slice (some ⟨bk,o,none⟩) xs.length c,.string sep] w fun e w'=>e= .returned (.string ⟨(Lib.join (xs.map (·.data.toList)) sep.data.toList).toArray⟩)∧Below w.heap.size w w':=Any.strings_Join L156 LEx bk o c xs sep w hcells hbk hN hcap hlen
theorem sh_reverse (blk off cap:Nat)(zs:List (List UInt8))(w:World)(hH:Holds encStr w blk off zs.toArray)(hsz:zs.length≤9223372036854775807):
  Calls Tryz.prog 206 #[.slice (some ⟨blk,off,none⟩) zs.length cap] w fun e w'=>e= .returned (.tuple #[])∧∃n,w'=putRow encStr (Sort.ahead w n) blk off zs.reverse.toArray:=Any.slices_Reverse_string LRev blk off cap zs w hH hsz
theorem sh_fmt {u:Nat}(hu64:u<18446744073709551616){M:MS}{w:World}(hG:Glb M w):
  Calls Tryz.prog 204 #[.int .u64 u,.int .i64 10] w fun e w'=>e= .returned (.string ⟨(Lib.decDigits u).toArray⟩)∧Below w.heap.size w w':=by
 go_enter Tryz.func204,Tryz.ntmps204
 go_wp2_with (go_at_call 220;refine(sh_fuint hu64 hG).mono ?_;rintro e w' ⟨rfl,hb⟩)
 go_ret
 exact⟨rfl,hb⟩
theorem chk_small {n:Nat}(h:n<1000000000):chk n=if n=0 then []else [decDigits n]:=by rw[chk,dif_pos h]
theorem chk_big {n:Nat}(h:¬n<1000000000):chk n=(List.replicate (9-(decDigits (n % 1000000000)).length) 48++decDigits (n % 1000000000))::chk (n/1000000000):=by rw[chk,dif_neg h]
theorem chk_step {n:Nat}(h:n≠0):chk n=(if n/1000000000=0 then decDigits (n % 1000000000)else List.replicate (9-(decDigits (n % 1000000000)).length) 48++decDigits (n % 1000000000))::chk (n/1000000000):=by
 by_cases hs:n<1000000000
 ·rw[chk_small hs,if_neg h,if_pos (Nat.div_eq_of_lt hs),Nat.mod_eq_of_lt hs,Nat.div_eq_of_lt hs,chk_small (by decide),if_pos rfl]
 ·rw[chk_big hs,if_neg (by omega)]
theorem chk_len {k:Nat}:∀{n:Nat},n<1000000000^k→(chk n).length≤k:=by
 induction k with
 |zero=>intro n h;rw[show n=0 by simpa using h,chk_small (by decide)];simp
 |succ k ih=>
  intro n h
  by_cases h0:n=0
  ·rw[h0,chk_small (by decide)];simp
  ·rw[chk_step h0,List.length_cons];have:=ih (n:=n/1000000000) (Nat.div_lt_of_lt_mul (by rw[Nat.pow_succ,Nat.mul_comm]at h;exact h));omega
theorem chk_flat {n:Nat}:∀l∈chk n,l.length≤9:=by
 induction n using Nat.strongRecOn with
 |_ n ih=>
  intro l hl
  by_cases h0:n=0
  ·rw[h0,chk_small (by decide)]at hl;simp at hl
  ·rw[chk_step h0]at hl;have hd:=dd_len (u:=n % 1000000000) (k:=8) (by omega);rcases List.mem_cons.1 hl with rfl|hl
   ·split
    ·exact hd
    ·rw[List.length_append,List.length_replicate];omega
   ·exact ih _ (Nat.div_lt_self (by omega) (by decide)) l hl
theorem flat_le {l:List (List UInt8)}(h:∀x∈l,x.length≤9):l.flatten.length≤9*l.length:=by
 induction l with
 |nil=>simp
 |cons x l ih=>
  rw[List.flatten_cons,List.length_append,List.length_cons];have:=h x List.mem_cons_self;have:=ih fun y hy=>h y (List.mem_cons_of_mem _ hy);omega
theorem chk_sz {n L:Nat}(h:sz n≤L):(chk n).length≤2*L:=by
 refine chk_len (Nat.lt_of_lt_of_le (lt_pow_sz n) (tL_ (Nat.pow_le_pow_right (by decide) h) ?_));rw[Nat.pow_mul];exact Nat.pow_le_pow_left (by decide) _
theorem join_nil (l:List (List UInt8)):Lib.join l []=l.flatten:=by
 unfold Lib.join
 induction l with
 |nil=>rfl
 |cons x l ih=>
  cases l with
  |nil=>simp[List.intercalate]
  |cons y l=>
   simp only[List.intercalate,List.intersperse]at ih ⊢;simp only[List.flatten_cons,List.nil_append]at ih ⊢;rw[ih]
theorem rep48 (c:Nat):Lib.repeatL [48] c=List.replicate c 48:=by
 induction c with
 |zero=>rfl
 |succ c ih=>rw[Lib.repeatL,ih];rfl
theorem sh_rep0 (c:Nat)(w:World)(hc:c≤9):Calls Tryz.prog 205 #[.string ⟨#[48]⟩,.int .i64 c] w fun e w'=>e= .returned (.string ⟨(List.replicate c (48:UInt8)).toArray⟩)∧Below w.heap.size w w':=by
 have:=sh_repeat ⟨#[48]⟩ c w (by omega) (by show 1*c≤_;omega)
 rwa [show(⟨#[48]⟩:ByteArray).data.toList=[48]from rfl,rep48]at this
theorem ba_app (a b:Array UInt8):((⟨a⟩:ByteArray)++⟨b⟩)=⟨a++b⟩:=by
 refine ByteArray.ext ?_;rw[ByteArray.data_append]
theorem ba_rep (k:Nat)(l:List UInt8):Value.string ((⟨Array.replicate k 48⟩:ByteArray)++⟨l.toArray⟩)=encStr (List.replicate k 48++l):=by
 rw[ba_app];show Value.string _=Value.string _
 congr 2
 simp
def lenV:Value→Nat
 | .slice _ n _=>n
 |_=>0
theorem i_str:(Tryz.prog.info? 9).map (fun i=>(i.zero,i.size,i.bytes))=some (some (.string ⟨#[]⟩),1,16):=by kernel_rfl
theorem u_strs:Tryz.prog.underlying 261=some (.slice 9):=by kernel_rfl
theorem below_ahead {B:Nat}{a w:World}(h:RowKit.Below B a w)(n:Nat):RowKit.Below B a (Sort.ahead w n):=⟨h.os,h.tape,h.output,h.size,h.block⟩
theorem below_putRow {α:Type}[Inhabited α]{enc:α→Value}{B:Nat}{a w:World}(h:RowKit.Below B a w){blk off:Nat}{d:Array α}(hb:B≤blk):RowKit.Below B a (putRow enc w blk off d):=by
 refine⟨h.os,h.tape,h.output,?_,fun k hk=> ?_⟩
 ·show a.heap.size≤(w.heap.modify blk _).size;rw[Array.size_modify];exact h.size
 ·show(w.heap.modify blk _)[k]? =_;rw[Array.getElem?_modify,if_neg (by omega)];exact h.block k hk
theorem row_below {w w':World}{base:Nat}{e:TypeId}{k n:Nat}{v:Value}{xs:List Value}(h:w.ownsRow base e k v n xs)(hb:RowKit.Below w.heap.size w w'):w'.ownsRow base e k v n xs:=by
 obtain⟨h1,⟨hv,hn⟩|⟨g,cap,cur,hv,hbg,hh,r⟩⟩:=h
 ·exact⟨h1,.inl ⟨hv,hn⟩⟩
 ·exact⟨h1,.inr ⟨g,cap,cur,hv,hbg,(hb.block g (lt_of_block hh)).trans hh,r⟩⟩
def NoU (w:World)(v:Value):Prop:=∀g,v.ownBlock=some g→∀j z,w.cell? ⟨g,j,none⟩≠some (.int .u32 z)
theorem NoU.below {w w':World}{v:Value}(h:NoU w v)(hb:RowKit.Below w.heap.size w w')(hl:∀g,v.ownBlock=some g→g<w.heap.size):NoU w' v:=fun g hg j z=>by
 rw[World.cell?_of_block (w:=w) (a:=⟨g,j,none⟩) (hb.block g (hl g hg))];exact h g hg j z
theorem sl_noU {w w':World}{v u:Value}{xs:List Nat}(h:Sl w v xs)(hu:NoU w u)(hg:w.grownBy w' u.ownBlock):Sl w' v xs:=by
 obtain⟨ad,n,cap,rfl,h1,h2,h3,h4,h5⟩:=h;refine⟨ad,n,cap,rfl,h1,h2,h3,h4,fun h0=> ?_⟩;obtain⟨b,off,e,hlt,hc⟩:=h5 h0;refine⟨b,off,e,Nat.lt_of_lt_of_le hlt hg.size,fun i hi=> ?_⟩;rw[World.cell?_of_block (w:=w) (a:=⟨b,off+i,none⟩) (hg.block b hlt fun e'=>hu b e'.symm _ _ (hc i hi))];exact hc i hi
theorem wp_app_str {P:Program}{w:World}{ops:Array Oper}{rest:List Oper}{o:Oper}{a:Act}{Q:Exit→Act→World→Prop}(hgd:o.guard=none)(s x:Operand)(t:TypeId)
  (ho:o.op= .call {callee:= .builtin .append,args:= #[s,x],argTypes:= #[t,t]})
  (base:Nat) (e:TypeId) (i:TypeInfo) (ht:P.underlying t=some (.slice e)) (hi:P.info? e=some i) (hz:i.zero=some (.string ⟨#[]⟩)) (hsize:i.size=1) (hby:i.bytes=16)
  (v:Value) (n:Nat) (xs:List Value) (hs:a.eval s=v) (hown:w.ownsRow base e 1 v n xs) (hno:NoU w v)
  (ab ao:Nat) (c:Nat) (l:ByteArray) (hx:a.eval x= .slice (some ⟨ab,ao,none⟩) 1 c) (hnew:w.cell? ⟨ab,ao,none⟩=some (.string l))
  (hn:n≤1000000000000) (hbase:base≤w.heap.size)
  (h:∀v' w',w'.ownsRow base e 1 v' (n+1) (xs++[.string l])→w.grownBy w' v.ownBlock→NoU w' v'→wpList P ops Q rest (a.put o.dst v') w'):wpList P ops Q (o::rest) a w:=by
 obtain⟨ad,had⟩:∃ad:Addr,ad=⟨ab,ao,none⟩:=⟨_,rfl⟩;rw[←had]at hx hnew
 have hnews:∀j u,[Value.string l][j]? =some u→w.cell? (ad.add j)=some u:=fun j u hj=>by
  rcases j with _|j
  ·simp at hj;subst hj;subst had;exact hnew
  ·simp at hj
 have h1:∀u∈[Value.string l],u.oneCell'=true:=fun u hu=>by rw[List.mem_singleton.1 hu];rfl
 have hmax:n+1≤maxLen:=by unfold maxLen;omega
 obtain⟨v',w',hr,h2,h3,_⟩:=run_append_own (P:=P) w base t o.type e i _ 1 16 ht hi hz hsize hby rfl (by decide) v n xs hown ad 1 c [.string l] rfl hnews h1 hmax (by omega) hbase;refine wpList_plain hgd fun _ hK=> ?_;unfold Oper.wp execOp;simp only[ho,resolve,invoke,builtin,Sem.run_bind,Sem.run_pure,Result.andThen_ok,List.map_toArray,List.map_cons,List.map_nil,hs,hx,hr];refine hK _ _ (h v' w' h2 h3 ?_)
 have hzu:∀(k m:Nat) x,(Builtin.zeroCells (Value.string ⟨#[]⟩).cells k)[m]? =some x→∀q:Int,x≠ .int .u32 q:=fun k m x hx=>zeroCells_u32 (by decide) (fun x hx q e=>by
  rw[show(Value.string ⟨#[]⟩).cells= #[.string ⟨#[]⟩]from rfl]at hx;simp at hx;rw[hx]at e;cases e) m x hx
 have new:∀(cs:Array Value),(∀(m:Nat) x,cs[m]? =some x→∀q:Int,x≠ .int .u32 q)→∀(n c:Nat) (w0:World),w0.heap.size=w.heap.size→NoU (w0.alloc (.cells cs e)) (.slice (some ⟨w.heap.size,0,none⟩) n c):=fun cs hc n c w0 hw g hg j z hcell=>by
  simp only[Value.ownBlock,Option.some.injEq]at hg;subst hg;rw[←hw,World.cell?_alloc_new]at hcell;exact hc _ _ hcell z rfl
 have strs:∀(m:Nat) x,(#[Value.string l]:Array Value)[m]? =some x→∀q:Int,x≠ .int .u32 q:=fun m x hx q e=>by
  rcases m with _|m
  ·simp at hx;rw[←hx]at e;cases e
  ·simp at hx
 rcases hown.2 with⟨rfl,rfl⟩|⟨g,cap,cur,rfl,hbg,hg,hnc,hcm,hcs,htake⟩
 ·have hx0:xs=[]:=List.eq_nil_of_length_eq_zero (by simpa using hown.1);subst hx0;have hr':=run_append_nil (P:=P) w t o.type e i _ ht hi hz ad 1 c [.string l] (by rw[hsize];rfl) hnews (by decide) (by omega) (by omega);have:=hr.symm.trans hr';injection this with e1 e2;subst e1 e2;refine new _ (fun m x hx=> ?_) _ _ _ rfl;rw[Array.getElem?_append]at hx;split at hx
  ·exact strs m x hx
  ·exact hzu _ _ x hx
 ·have hcur:∀(m:Nat) x,cur[m]? =some x→∀q:Int,x≠ .int .u32 q:=fun m x hx q e=>by
   refine hno g rfl m q ?_;simp only[World.cell?,hg];rw[←e];exact hx
  have hxs:∀(m:Nat) x,xs[m]? =some x→∀q:Int,x≠ .int .u32 q:=fun m x hx=>by
   rw[←htake,List.getElem?_take]at hx;split at hx
   ·exact hcur m x (by simpa using hx)
   ·cases hx
  by_cases hroom:n+1≤cap
  ·have hr':=run_append_room (P:=P) w t o.type e i ht hi g n cap cur hg ad 1 c [.string l] (by rw[hsize];rfl) hnews h1 hroom (by rw[hsize,hcs];simp;omega);have:=hr.symm.trans hr';injection this with e1 e2;subst e1 e2;intro g' hg' j z hcell;simp only[Value.ownBlock,Option.some.injEq]at hg';subst hg';simp only[World.cell?,setRow_heap w g cur _ e _ hg,List.getElem?_toArray]at hcell
   have hc':∀x∈cur.toList,∀q:Int,x≠ .int .u32 q:=fun x hx=>by
    obtain⟨m,hm⟩:=List.getElem?_of_mem hx;exact hcur m x (by simpa using hm)
   rcases List.mem_append.1 (mG_ hcell)with h5|h5
   ·rcases List.mem_append.1 h5 with h5|h5
    ·exact hc' _ (List.mem_of_mem_take h5) z rfl
    ·simp at h5
   ·exact hc' _ (List.mem_of_mem_drop h5) z rfl
  ·have holds:∀j u,xs[j]? =some u→w.cell? ((⟨g,0,none⟩:Addr).add j)=some u:=hown.cells (g:=g) rfl;have hr':=run_append_grow (P:=P) w t o.type e i _ ht hi hz ⟨g,0,none⟩ n cap xs (by rw[hsize];exact hown.1) holds ad 1 c [.string l] (by rw[hsize];rfl) hnews (by omega) (by omega) (growslice_fits (by omega) (by rw[hby];omega));have:=hr.symm.trans hr';injection this with e1 e2;subst e1 e2;refine new _ (fun m x hx=> ?_) _ _ _ rfl;rw[Array.getElem?_append]at hx;split at hx
   ·rw[Array.getElem?_append]at hx;split at hx
    ·exact hxs m x (by simpa using hx)
    ·exact strs _ x (by simpa using hx)
   ·exact hzu _ _ x hx
theorem row_lenV {w:World}{base:Nat}{e:TypeId}{k n:Nat}{v:Value}{xs:List Value}(h:w.ownsRow base e k v n xs):lenV v=n:=by
 obtain⟨h1,⟨hv,hn⟩|⟨g,cap,cur,hv,r⟩⟩:=h
 ·rw[hv,hn];rfl
 ·rw[hv];rfl
def DcI (n0 L:Nat)(w wr:World)(nv pv:Value):Prop:=∃(m:Nat) (done:List (List UInt8)),chk n0=done++chk m∧Can m L wr nv∧wr.ownsRow w.heap.size 9 1 pv done.length (done.map encStr)∧NoU wr pv∧RowKit.Below w.heap.size w wr
theorem sh_decimal {n0 L:Nat}{v:Value}{M:MS}{w:World}(hG:Glb M w)(hn:Can n0 L w v)(hL:L≤100000000):
  Calls Tryz.prog 191 #[v] w fun e w'=>e= .returned (.string ⟨(dcS n0).toArray⟩)∧RowKit.Below w.heap.size w w':=by
 obtain⟨ad,len,cap,rfl,hlen,hrest⟩:=hn.1
 by_cases h0:n0=0
 ·have:len=0:=by rw[←hlen,h0,limbs_zero];rfl
  subst this
  go_enter Tryz.func191,Tryz.ntmps191
  go_wp2
  go_ret
  exact⟨by rw[dcS,if_pos h0];rfl,RowKit.Below.refl _ _⟩
 ·have hp:0<len:=by rw[←hlen];exact sz_pos (by omega)
  obtain⟨i0,hi,hz0,hz1,hz2⟩:=info_parts i_str;have hcl:=chk_sz hn.2;have hc1:1≤(chk n0).length:=by rw[chk_step h0];simp
  go_enter Tryz.func191,Tryz.ntmps191
  go_wp2_with (go_at_call 119;refine(of_can (x:=1000000000) (by decide)).mono ?_;rintro e w1 ⟨bv,rfl,hbn,hb1⟩)
  go_loopw [0,4] (fun nv pv wr=>DcI n0 L w1 wr nv pv) (fun nv pv _=>(chk n0).length-lenV pv)
  case atStart=>exact⟨n0,[],rfl,hn.below hb1,World.ownsRow_nil _ _ _ _,(fun g hg=>by cases hg),RowKit.Below.refl _ _⟩
  case round=>
   obtain⟨m,done,hch,hm,hrow,hno,hB1⟩:=hrel;have hB:RowKit.Below w.heap.size w wr:=hb1.trans (hB1.mono hb1.size);have hln:=row_lenV hrow;obtain⟨a2,l2,c2,rfl,hl2,hr2⟩:=hm.1
   by_cases hm0:m=0
   ·subst hm0;obtain rfl:l2=0:=by rw[←hl2,limbs_zero];rfl
    rw[show chk 0=[] by rw[chk_small (by decide),if_pos rfl],List.append_nil]at hch;obtain⟨_,⟨_,hd0⟩|⟨g,cap,cur,rfl,hbg,hg,hnc,hcm,hcs,htk⟩⟩:=hrow
    ·rw[hch]at hc1;omega
    have hgl:=lt_of_block hg
    have hH:Holds encStr wr g 0 done.toArray:=fun j hj=>by
     have hj':j<done.length:=by simpa using hj
     have e1:cur[j]? =some (encStr (done[j]'hj')):=by
      have h5:(cur.toList.take (done.length*1))[j]? =cur[j]?:=by
       rw[List.getElem?_take,if_pos (by rw[Nat.mul_one];exact hj')];simp
      rw[←h5,htk,List.getElem?_map,List.getElem?_eq_getElem hj'];rfl
     refine⟨?_,?_⟩
     ·simp only[World.cell?,hg,Nat.zero_add];rw[e1,getElem!_pos _ j hj];simp
     ·simp[World.frozen?,hg]
    have hdn:done.length≤2*L:=by rw[hch]at hcl;exact hcl
    have hj2:=sh_reverse g 0 cap done wr hH (by omega);have hres:Lib.join ((done.reverse.map fun l=>(⟨l.toArray⟩:ByteArray)).map (·.data.toList)) []=done.reverse.flatten:=by
     rw[List.map_map,join_nil]
     congr 1
     exact(List.map_congr_left fun l _=>rfl).trans (List.map_id _)
    have hj3:∀nd,Calls Tryz.prog 207 #[.slice (some ⟨g,0,none⟩) done.length cap,.string ⟨#[]⟩] (putRow encStr (Sort.ahead wr nd) g 0 done.reverse.toArray) fun e w'=>e= .returned (.string ⟨(dcS n0).toArray⟩)∧RowKit.Below (putRow encStr (Sort.ahead wr nd) g 0 done.reverse.toArray).heap.size (putRow encStr (Sort.ahead wr nd) g 0 done.reverse.toArray) w':=fun nd=>by
     have:=sh_join g 0 cap (done.reverse.map fun l=>(⟨l.toArray⟩:ByteArray)) ⟨#[]⟩ (putRow encStr (Sort.ahead wr nd) g 0 done.reverse.toArray) (fun j x hx=>by
      rw[List.getElem?_map]at hx;obtain⟨l,hl,rfl⟩:=Option.map_eq_some_iff.1 hx;have hj:j<done.reverse.toArray.size:=by simpa using at_lt hl
      rw[cell?_putRow encStr (Sort.ahead wr nd) g 0 done.toArray done.reverse.toArray hH (by simp) j hj];have e2:done.reverse.toArray[j]! =l:=by
       rw[getElem!_pos _ j hj];have:=List.getElem?_eq_some_iff.1 hl;obtain⟨h6,h7⟩:=this;simpa using h7
      rw[e2])
      (by show g<(putRow encStr (Sort.ahead wr nd) g 0 done.reverse.toArray).heap.size;show g<((Sort.ahead wr nd).heap.modify g _).size;rw[Array.size_modify];exact hgl) (by simp;omega) (by simp;omega)
      (by rw[hres];have:=flat_le (l:=done.reverse) (fun x hx=>chk_flat (n:=n0) x (by rw[hch];exact List.mem_reverse.1 hx));rw[List.length_reverse]at this;omega)
     rw[List.length_map,List.length_reverse,show(⟨#[]⟩:ByteArray).data.toList=[]from rfl,hres]at this;rw[dcS,if_neg h0,hch];exact this
    go_wp2_with (first
     |(go_at_call 206;refine hj2.mono ?_;rintro e w2 ⟨rfl,nd,rfl⟩)
     |(go_at_call 207;refine(hj3 nd).mono ?_;rintro e w3 ⟨rfl,hb3⟩))
    go_ret
    refine⟨rfl,?_⟩;have hb2:RowKit.Below w.heap.size w (putRow encStr (Sort.ahead wr nd) g 0 done.reverse.toArray):=below_putRow (below_ahead hB nd) (tL_ hb1.size hbg);exact hb2.trans (hb3.mono hb2.size)
   ·have hl20:0<l2:=by rw[←hl2];exact sz_pos (by omega)
    have hbn':Can 1000000000 2 wr bv:=hbn.below hB1;have hmod:m % 1000000000<18446744073709551616:=by omega
    have hst:=chk_step hm0;have hdl:(done++chk m).length=(chk n0).length:=by rw[hch]
    rw[List.length_append,hst,List.length_cons]at hdl;have hd9:=dd_len (u:=m % 1000000000) (k:=8) (by omega)
    by_cases hq0:m/1000000000=0
    ·rw[if_pos hq0]at hst
     go_wp2_with (first
      |(go_at_call 155;refine(divmod_pos (by decide) hm.is (hbn'.is) (by omega)).mono ?_;rintro e w2 ⟨_,rfl,⟨qv,rv,rfl,hq,hr⟩,hb2⟩;obtain⟨aq,lq,cq,rfl,hlq,_⟩:=hq.1;obtain rfl:lq=0:=by rw[←hlq,hq0,limbs_zero];rfl)
      |(go_at_call 180;refine(uint_can hmod hr).mono ?_;rintro e w3 ⟨_,rfl,rfl,hb3⟩;have hB3:RowKit.Below w.heap.size w w3:=hB.trans ((hb2.trans (hb3.mono hb2.size)).mono hB.size))
      |(go_at_call 204;refine(sh_fmt hmod (hG.fx (fx_belowB hB3))).mono ?_;rintro e w4 ⟨rfl,hb4⟩;have hb24:RowKit.Below wr.heap.size wr w4:=hb2.trans ((hb3.trans (hb4.mono hb3.size)).mono hb2.size);have hB4:RowKit.Below w1.heap.size w1 w4:=hB1.trans (hb24.mono hB1.size);have hrow4:=row_below hrow hb24;have hno4:=hno.below hb24 fun g hg=>(hrow.lt g hg).2)
      |(at_builtin;refine wp_app_str rfl _ _ 261 rfl w1.heap.size 9 i0 u_strs hi hz0 hz1 hz2 _ _ _ rfl (hrow4.alloc _) (hno4.below ((RowKit.Below.refl _ _).alloc (lR_ _) _) fun g hg=>(hrow4.lt g hg).2) w4.heap.size 0 1 ⟨(decDigits (m % 1000000000)).toArray⟩ rfl (cell_one_new _ _ _ 0 _ rfl) (by omega) (by have:=hB4.size;simp;omega) ?_;intro v' w5 hown' hgrow hno5))
     have hB5:RowKit.Below w1.heap.size w1 w5:=(hB4.alloc hB4.size _).grown hgrow (by have:=hB4.size;simp;omega) fun k e=>(hrow4.lt k e).1;have hq4:=(hq.below (hb3.trans (hb4.mono hb3.size))).below ((RowKit.Below.refl _ w4).alloc (lR_ _) (.cells #[encStr (decDigits (m % 1000000000))] 9));have hq5:Can (m/1000000000) L w5 (.slice aq 0 cq):=⟨sl_noU hq4.1 (hno4.below ((RowKit.Below.refl _ _).alloc (lR_ _) _) fun g hg=>(hrow4.lt g hg).2) hgrow,hq4.2⟩;have hln':=row_lenV hown';refine⟨⟨m/1000000000,done++[decDigits (m % 1000000000)],by rw[hch,hst,List.append_assoc];rfl,hq5,by rw[List.length_append,List.map_append];exact hown',hno5,hB5⟩,?_⟩;rw[hln',hln];omega
    ·rw[if_neg hq0]at hst;have e9:(9:Int)-((decDigits (m % 1000000000)).length:Int)=((9-(decDigits (m % 1000000000)).length:Nat):Int):=by omega
     go_wp2_with (first
      |(go_at_call 155;refine(divmod_pos (by decide) hm.is (hbn'.is) (by omega)).mono ?_;rintro e w2 ⟨_,rfl,⟨qv,rv,rfl,hq,hr⟩,hb2⟩;obtain⟨aq,lq,cq,rfl,hlq,_⟩:=hq.1;have hlq0:0<lq:=by rw[←hlq];exact sz_pos (by omega))
      |(go_at_call 180;refine(uint_can hmod hr).mono ?_;rintro e w3 ⟨_,rfl,rfl,hb3⟩;have hB3:RowKit.Below w.heap.size w w3:=hB.trans ((hb2.trans (hb3.mono hb2.size)).mono hB.size))
      |(go_at_call 204;refine(sh_fmt hmod (hG.fx (fx_belowB hB3))).mono ?_;rintro e w4 ⟨rfl,hb4⟩;have hb24:RowKit.Below wr.heap.size wr w4:=hb2.trans ((hb3.trans (hb4.mono hb3.size)).mono hb2.size);have hB4:RowKit.Below w1.heap.size w1 w4:=hB1.trans (hb24.mono hB1.size);have hrow4:=row_below hrow hb24;have hno4:=hno.below hb24 fun g hg=>(hrow.lt g hg).2)
      |(go_at_call 205;refine(sh_rep0 _ _ (by omega)).mono ?_;rintro e w5 ⟨rfl,hb5⟩;have hb25:RowKit.Below wr.heap.size wr w5:=hb24.trans (hb5.mono hb24.size);have hB5:RowKit.Below w1.heap.size w1 w5:=hB1.trans (hb25.mono hB1.size);have hrow5:=row_below hrow hb25;have hno5:=hno.below hb25 fun g hg=>(hrow.lt g hg).2)
      |(at_builtin;refine wp_app_str rfl _ _ 261 rfl w1.heap.size 9 i0 u_strs hi hz0 hz1 hz2 _ _ _ rfl (hrow5.alloc _) (hno5.below ((RowKit.Below.refl _ _).alloc (lR_ _) _) fun g hg=>(hrow5.lt g hg).2) w5.heap.size 0 1 _ rfl (cell_one_new _ _ _ 0 _ rfl) (by omega) (by have:=hB5.size;simp;omega) ?_;intro v' w6 hown' hgrow hno6))
     have hB6:RowKit.Below w1.heap.size w1 w6:=(hB5.alloc hB5.size _).grown hgrow (by have:=hB5.size;simp;omega) fun k e=>(hrow5.lt k e).1;have hq5:=(hq.below (hb3.trans ((hb4.trans (hb5.mono hb4.size)).mono hb3.size))).below ((RowKit.Below.refl _ w5).alloc (lR_ _) (.cells #[Value.string ((⟨Array.replicate (9-(decDigits (m % 1000000000)).length) 48⟩:ByteArray)++⟨(decDigits (m % 1000000000)).toArray⟩)] 9));have hq6:Can (m/1000000000) L w6 (.slice aq lq cq):=⟨sl_noU hq5.1 (hno5.below ((RowKit.Below.refl _ _).alloc (lR_ _) _) fun g hg=>(hrow5.lt g hg).2) hgrow,hq5.2⟩;have hln':=row_lenV hown';rw[ba_rep]at hown';refine⟨⟨m/1000000000,done++[List.replicate (9-(decDigits (m % 1000000000)).length) 48++decDigits (m % 1000000000)],by rw[hch,hst,List.append_assoc];rfl,hq6,by rw[List.length_append,List.map_append];exact hown',hno6,hB6⟩,?_⟩;rw[hln',hln];omega
open Go.Lib (decDigits)
abbrev strV (l:List UInt8):Value:= .string ⟨l.toArray⟩
theorem lx_decimal {n:Nat}(h:sz n≤100000000):LV Tryz.prog 191 [.a (.d (.nat n))] (vl (strV (dcS n))):=lv_ofG fun γ M w rs hG ha=>by
 obtain⟨r,rfl,hr⟩:=all2_1 ha;refine(sh_decimal hG ⟨rd_sl hr,h⟩ (lR_ _)).mono ?_;rintro e w' ⟨rfl,hb⟩;exact⟨_,rfl,rfl,hb⟩
theorem dcS_len {n L:Nat}(h:sz n≤L):(dcS n).length≤18*L+1:=by
 unfold dcS;split
 ·simp
 ·have h1:=chk_sz h;have h2:=flat_le (l:=(chk n).reverse) fun x hx=>chk_flat (n:=n) x (List.mem_reverse.1 hx);rw[List.length_reverse]at h2;omega
theorem str_size (l:List UInt8):(⟨l.toArray⟩:ByteArray).size=l.length:=by simp[ByteArray.size]
theorem str_app (a b:List UInt8):((⟨a.toArray⟩:ByteArray)++⟨b.toArray⟩)=⟨(a++b).toArray⟩:=by rw[ba_app];simp
theorem sz_q {q:Rat}{k:Nat}(h:Bt k q)(hk:k/32+1≤100000000):sz q.num.natAbs≤100000000∧sz (dn q)≤100000000:=by
 refine⟨tL_ (sz_pow2 h.1) hk,tL_ (sz_pow2 (k:=k) ?_) hk⟩;unfold dn;split
 ·exact zL_ _
 ·exact h.2
theorem lx_size {q:Rat}(h:Sz q):LV Tryz.prog 161 [.agg (can q).A] (vl (strV (szT q))):=by
 obtain⟨k1,k2⟩:=sz_q h (by decide);clear h;have l1:=dcS_len k1;have l2:=dcS_len k2;refine LX_run (m:=0) (n0:=0) mix Tryz.func161 rfl rfl rfl rfl ?_;conv=>whnf
 refine .c (lx_decimal k1) ?_;conv=>whnf
 refine bs (fun g0=> ?_) (fun g0=> ?_)
 ·have hd:dn q=q.den∧q.den≠1:=by
   have:(((limbs (dn q)).length:Nat):Int)>0:=of_decide_eq_true g0;unfold dn at this ⊢;split at this
   ·rw[limbs_zero]at this;simp at this
   ·rename_i h;rw[if_neg h];exact⟨rfl,h⟩
  conv=>whnf
  refine .c (lx_decimal k2) ?_;conv=>whnf
  refine .mk ⟨(47::dcS (dn q)).toArray⟩ (by rw[str_size];show 1+(⟨(dcS (dn q)).toArray⟩:ByteArray).size≤_;rw[str_size];omega) (str_app [47] (dcS (dn q))).symm ?_;conv=>whnf
  refine .mk ⟨(dcS q.num.natAbs++47::dcS (dn q)).toArray⟩ (by rw[str_size,str_size,List.length_cons];omega) (str_app _ _).symm ?_;conv=>whnf
  have e:dcS q.num.natAbs++47::dcS (dn q)=szT q:=by rw[szT,if_neg hd.2,hd.1]
  rw[e];exact .q ⟨rfl,rfl⟩
 ·have hd:q.den=1:=by
   have:=of_decide_eq_false g0;rcases Classical.em (q.den=1)with h|h
   ·exact h
   ·exfalso;apply this;have h5:=limbs_ne_nil (n:=dn q) (by unfold dn;rw[if_neg h];exact q.den_pos);have:0<(limbs (dn q)).length:=List.length_pos_iff.2 h5;show(((limbs (dn q)).length:Nat):Int)>0;omega
  conv=>whnf
  have e:dcS q.num.natAbs=szT q:=by rw[szT,if_pos hd,List.append_nil]
  rw[e];exact .q ⟨rfl,rfl⟩
end Go.Proofs.YthdoopaenanibaaGreatDoor.Lf
