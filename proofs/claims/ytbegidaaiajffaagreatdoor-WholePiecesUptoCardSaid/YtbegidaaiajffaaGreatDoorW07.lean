/- Texts LtL LtM LtO LtN LtP LtQ LtR LtS LtT LuA LuB LuC LuD LuE LuF LuG LuH LuI LuJ LuK LuL of this proof, in this order. -/
import Derived.Test.YtbegidaaiajffaaGreatDoorW06
import Derived.Laws.MakeOwn
import Derived.BigCall
import Derived.Test.YtbegidaaiajffaaGreatDoorRows
import Derived.Lib.LaidTab
import Derived.Lib.SmallJoins
import Derived.OpenShut
import Derived.ShutString
import Derived.ChangeOld
import Derived.ProofKit
import Derived.WalkKit
import Derived.LaidMore
import Derived.Deep.Slices
set_option linter.unusedVariables false
set_option linter.unusedSimpArgs false
set_option maxRecDepth 100000
set_option maxHeartbeats 4000000
namespace Go.Proofs.YtbegidaaiajffaaGreatDoor.Lf
open Go.RowKit Nt
theorem DS.rel0 {M:MS}{g n:Nat}{us os:List Af}{ms:List Bool}{W:World}(h:DS M g n us os ms W):Rel γ0 (look []) (MD M g) W:=
 ⟨fun key e he=>absurd he (by simp[look]),fun key b i ho=>by simp[Owns,look]at ho,fun k1 k2 b l1=>by simp[look,live]at l1,h.u32,fun b i hm=>h.domW hm,h.glb⟩
theorem DS.call {M:MS}{g n:Nat}{us os:List Af}{ms:List Bool}{W:World}(h:DS M g n us os ms W){F:FuncId}{args:List V}{v:V}(hc:LV Tryz.prog F args v){rs:List Value}(ha:All2 (RdV γ0 (look []) (MD M g) W) args rs)
  (hd:∀γ' h' M' W' r,(∀d v,RdD M' W' d v→RdD (MD M g) W' d v)→RdV γ' h' M' W' v r→RdV γ0 (look []) (MD M g) W' v r):
  Calls Tryz.prog F rs.toArray W fun e W'=>∃r,e= .returned r∧DS M g n us os ms W'∧Below W.heap.size W W'∧RdV γ0 (look []) (MD M g) W' v r:=by
 obtain⟨v',H',⟨rfl,rfl⟩,hc⟩:=hc;refine cM (hc γ0 (MD M g) W rs h.rel0 ha) ?_;rintro e W' ⟨r,γ',M',h1,h2,h3,h4⟩;have hb:Below W.heap.size W W':=⟨h4.os,h4.tape,h4.output,h4.size,fun k hk=>h4.other k hk fun key i ho=>by simp[Owns,look]at ho⟩;exact⟨r,h1,h.to hb,hb,hd γ' _ M' W' r (fun d v k=>RdD.fx (fun b i v q=>⟨fun hm=>q.1 (h4.keep b i hm fun key ho=>by simp[Owns,look]at ho),q.2⟩) k) h3⟩
theorem rep_at {M:MS}{g L n j:Nat}{us os us' os':List Af}{ms:List Bool}{W:World}{r:Value}(hL:LOk L)(hs:GS L n us os us' os')(hn':n≤24)(ho':os.length≤24)(hj:j<us'.length)(h:DS M g n us' os' ms W)
  (hr:RdV γ0 (look []) (MD M g) W (.agg (grA n us' os')) r):
  Calls Tryz.prog 67 #[r,.int .i64 (j:Nat),.agg #[.slice none 0 0,.bool false,.slice none 0 0,.slice none 0 0]] W fun e W'=>
   ∃u v,e= .returned (.agg [Value.int .i64 (n:Nat),u,v].toArray)∧DS M g n us' os' ms W'∧Below W.heap.size W W'∧RdD (MD M g) W' (afsD (repU n j (numS 0) us')) u∧RdD (MD M g) W' (afsD (os'.map (repF ((n+j:Nat):Int) (numS 0)))) v:=by
 have hz:RdV γ0 (look []) (MD M g) W (.agg (numS 0).A) (.agg #[.slice none 0 0,.bool false,.slice none 0 0,.slice none 0 0]):=by
  show RdV γ0 (look []) (MD M g) W (.agg (A.d _::(can 0).A)) _;rw[can0];exact⟨[_,_,_,_],rfl,nil_ok _,.lit _,nat0_ok,nat0_ok,trivial⟩
 refine cM (h.call (lx_repl (j:=j) hL hs hn' ho' hj num0_by) (rs:=[r,.int .i64 (j:Nat),.agg #[.slice none 0 0,.bool false,.slice none 0 0,.slice none 0 0]]) ⟨hr,.lit _,hz,trivial⟩ fun γ' h' M' W' r hd k=> ?_) ?_
 ·obtain⟨vs,rfl,k⟩:=k
  match vs,k with
  |[a,u,v],k=>exact⟨[a,u,v],rfl,hd _ _ k.1,hd _ _ k.2.1,hd _ _ k.2.2.1,trivial⟩
 ·rintro e W' ⟨r,rfl,h1,h2,vs,rfl,k⟩
  match vs,k with
  |[a,u,v],k=>
   obtain rfl:=lit_inv k.1;exact⟨u,v,rfl,h1,h2,k.2.1,k.2.2.1⟩
end Go.Proofs.YtbegidaaiajffaaGreatDoor.Lf
namespace Go.Proofs.YtbegidaaiajffaaGreatDoor.Lf
open Go.RowKit Nt
attribute [local go_sem] Oper.semAt_some
theorem made_bools (m:Nat):madeCells (Value.bool false).cells m=((List.replicate m false).map Value.bool).toArray:=by
 apply Array.ext
 ·simp[madeCells]
 ·intro i h1 h2;simp[madeCells,Value.cells,Nat.mod_one]
theorem mk_bools {m:Nat}(hm:m≤1000)(w:World):(Instr.makeSlice 118 (.int .i64 (m:Nat)) (.int .i64 (m:Nat))).run Tryz.prog w= .ok (.slice (some ⟨w.heap.size,0,none⟩) m m) (w.alloc (.cells ((List.replicate m false).map Value.bool).toArray 4)):=by
 obtain⟨i0,hi,hz0,hz1,hz2⟩:=info_parts (show(Tryz.prog.info? 4).map (fun i=>(i.zero,i.size,i.bytes))=some (some (.bool false),1,1) by kernel_rfl);have hr:=run_make (P:=Tryz.prog) w 118 4 i0 (.bool false) (by kernel_rfl) hi hz0 .i64 .i64 (m:Int) (m:Int) (by omega) (Int.le_refl _) (by rw[hz2];omega) (by omega);simp only[Int.toNat_natCast,hz1,Nat.mul_one]at hr;rw[hr,made_bools]
theorem rd_slice {k:Nat}{xs:List (List D)}{M:MS}{w:World}{v:Value}(h:RdD M w (.sl k xs) v):∃a c,v= .slice a xs.length c:=by
 cases h;exact⟨_,_,rfl⟩
theorem al1 {w W:World}{o:Obj}(h:w.alloc o=W):W.heap[w.heap.size]? =some o∧(∀i,i<w.heap.size→W.heap[i]? =w.heap[i]?)∧W.heap.size=w.heap.size+1∧Below w.heap.size w W:=by
 subst h;exact⟨World.alloc_heap_new w o,fun i hi=>Below.heap_alloc _ _ _ hi,World.size_alloc _ _,(bR_ _ w).alloc (lR_ _) _⟩
theorem al5 (w:World)(o0 o1 o2 o3 o4:Obj):∀W0,((((w.alloc o0).alloc o1).alloc o2).alloc o3).alloc o4=W0→
  W0.heap[w.heap.size]? =some o0∧W0.heap[w.heap.size+1]? =some o1∧W0.heap[w.heap.size+2]? =some o2∧W0.heap[w.heap.size+3]? =some o3∧W0.heap[w.heap.size+4]? =some o4∧Below w.heap.size w W0∧W0.heap.size=w.heap.size+5:=by
 intro W0 h;obtain⟨W1,h1⟩:∃W1,w.alloc o0=W1:=⟨_,rfl⟩;rw[h1]at h;obtain⟨W2,h2⟩:∃W2,W1.alloc o1=W2:=⟨_,rfl⟩;rw[h2]at h;obtain⟨W3,h3⟩:∃W3,W2.alloc o2=W3:=⟨_,rfl⟩;rw[h3]at h;obtain⟨W4,h4⟩:∃W4,W3.alloc o3=W4:=⟨_,rfl⟩;rw[h4]at h;obtain⟨a1,b1,s1,l1⟩:=al1 h1;obtain⟨a2,b2,s2,l2⟩:=al1 h2;obtain⟨a3,b3,s3,l3⟩:=al1 h3;obtain⟨a4,b4,s4,l4⟩:=al1 h4;obtain⟨a5,b5,s5,l5⟩:=al1 h;rw[s1]at a2;rw[s2,s1]at a3;rw[s3,s2,s1]at a4;rw[s4,s3,s2,s1]at a5;refine⟨?_,?_,?_,?_,a5,l1.trans ((l2.mono (by omega)).trans ((l3.mono (by omega)).trans ((l4.mono (by omega)).trans (l5.mono (by omega))))),by omega⟩
 ·rw[b5 _ (by omega),b4 _ (by omega),b3 _ (by omega),b2 _ (by omega)];exact a1
 ·rw[b5 _ (by omega),b4 _ (by omega),b3 _ (by omega)];exact a2
 ·rw[b5 _ (by omega),b4 _ (by omega)];exact a3
 ·rw[b5 _ (by omega)];exact a4
theorem no_u32 {w:World}{b i:Nat}{n:Int}{vs:List Value}{t:TypeId}(h:w.heap[b]? =some (.cells vs.toArray t (0,0)))(hv:∀v∈vs,∀n,v≠ .int .u32 n):w.cell? ⟨b,i,none⟩≠some (.int .u32 n):=fun e=>by
 simp[World.cell?,h]at e;exact hv _ (mG_ e) n rfl
theorem ds_init {g n:Nat}{us os:List Af}{M:MS}{w W0:World}{u v:Value}(hg:w.heap.size=g)(hG:Glb M w)(hu32:∀b i n,M b i→w.cell? ⟨b,i,none⟩≠some (.int .u32 n))(hdom:∀b i,M b i→b<w.heap.size)(ru:RdD M w (afsD us) u)(rv:RdD M w (afsD os) v){t:TypeId}{nu cu nv cv:Nat}{au av:Option Addr}(eu:u= .slice au nu cu)(ev:v= .slice av nv cv)
  (hW:((((w.alloc (.cells #[Value.int .i64 (n:Nat),u,v] 36)).alloc (.cells #[Value.int .i64 0,.slice none 0 0,.slice none 0 0] 36)).alloc (.cells ((List.replicate us.length false).map Value.bool).toArray 4)).alloc (.cells #[Value.slice (some ⟨g+2,0,none⟩) us.length us.length] 118)).alloc (.cells #[cloV g] t)=W0):
  DS M g n us os (List.replicate us.length false) W0∧Below g w W0∧(∀d x,RdD M w d x→RdD (MD M g) W0 d x)∧W0.heap.size=g+5:=by
 obtain⟨h0,h1,h2,h3,h4,hb,hs⟩:=al5 w _ _ _ _ _ W0 hW;rw[hg]at h0 h1 h2 h3 h4 hb hs
 have fx:∀b i v,Fx M w b i v→Fx (MD M g) W0 b i v:=fun b i v k=>by
  have hl:=World.block_lt_of_cell? _ _ k.2;simp only at hl;exact⟨fun hm=>hm.elim k.1 fun hm=>by have:=hm.1;omega,by rw[World.cell?_of_block (w:=w) (a:=⟨b,i,none⟩) (hb.block b (by omega))];exact k.2⟩
 refine⟨⟨⟨u,v,h0,RdD.fx fx ru,RdD.fx fx rv⟩,h1,⟨[],by rw[List.append_nil];exact h2⟩,⟨us.length,Nat.le_of_eq List.length_replicate,by rw[List.length_replicate];exact h3⟩,⟨t,h4⟩,fun b i hm=>by have:=hdom b i hm;omega,fun b i k hm=> ?_,hG.fx fx⟩,hb,fun d x k=>RdD.fx fx k,hs⟩;rcases hm with hm|⟨m1,m2⟩
 ·have hl:=hdom b i hm;rw[World.cell?_of_block (w:=w) (a:=⟨b,i,none⟩) (hb.block b (by omega))];exact hu32 b i k hm
 obtain rfl|rfl|rfl|rfl|rfl:b=g∨b=g+1∨b=g+2∨b=g+3∨b=g+4:=by omega
 ·exact no_u32 (vs:=[_,_,_]) h0 (by simp[eu,ev])
 ·exact no_u32 (vs:=[_,_,_]) h1 (by simp)
 ·refine no_u32 h2 fun v hv n e=> ?_;obtain⟨b,_,rfl⟩:=List.mem_map.1 hv
  cases e
 ·exact no_u32 (vs:=[_]) h3 (by simp)
 ·exact no_u32 (vs:=[_]) h4 (by simp[cloV])
theorem bwd_at {ad:Option Addr}{m c n:Nat}{w:World}:CallsIn Fence.wide n Tryz.prog 71 #[.slice ad m c] w fun e w'=>
  e= .returned (.func (.func 126) #[] #[.pointer (some ⟨w.heap.size,0,none⟩)])∧∃t,w'=w.alloc (.cells #[.slice ad m c] t):=by
 refine callsIn_of_wp Tryz.func71 rfl trivial ?_ rfl;simp only[Tryz.ntmps71,List.size_toArray,List.length_cons,List.length_nil,Nat.reduceAdd,Nat.reduceSub,Array.replicate_succ,Array.replicate_zero,List.push_toArray,List.append_toArray,List.nil_append,List.cons_append]
 gi_wp2_with fail
 exact bodyPost_ret (results_tmp rfl _ _ _) rfl ⟨rfl,_,rfl⟩
theorem bwdb_at {ad:Option Addr}{m c n:Nat}{w:World}:CallsIn Fence.wide n Tryz.prog 72 #[.slice ad m c] w fun e w'=>
  e= .returned (.func (.func 127) #[] #[.pointer (some ⟨w.heap.size,0,none⟩)])∧w'=w.alloc (.cells #[.slice ad m c] 118):=by
 refine callsIn_of_wp Tryz.func72 rfl trivial ?_ rfl;simp only[Tryz.ntmps72,List.size_toArray,List.length_cons,List.length_nil,Nat.reduceAdd,Nat.reduceSub,Array.replicate_succ,Array.replicate_zero,List.push_toArray,List.append_toArray,List.nil_append,List.cons_append]
 gi_wp2_with fail
 exact bodyPost_ret (results_tmp rfl _ _ _) rfl ⟨rfl,rfl⟩
theorem af_shape {M:MS}{w:World}{f:Af}{v0 v1 v2 v3:Value}(h:All2 (RdD M w) f.D [v0,v1,v2,v3]):∃a0 n0 q0 b1 a2 n2 q2 a3 n3 q3,v0= .slice a0 n0 q0∧v1= .bool b1∧v2= .slice a2 n2 q2∧v3= .slice a3 n3 q3:=by
 obtain⟨h0,h1,h2,h3,_⟩:=h
 have lm:∀{x v},RdD M w (.lm x) v→∃a n c,v= .slice a n c:=fun h=>by
  cases h with
  |lm _ _ h _=>obtain⟨ad,l,c,e,_⟩:=h;exact⟨_,_,_,e⟩
 obtain⟨a0,q0,rfl⟩:=rd_slice h0;obtain rfl:=lit_inv h1;obtain⟨a2,n2,q2,rfl⟩:=lm h2;obtain⟨a3,n3,q3,rfl⟩:=lm h3;exact⟨a0,_,q0,_,a2,n2,q2,a3,n3,q3,rfl,rfl,rfl,rfl⟩
end Go.Proofs.YtbegidaaiajffaaGreatDoor.Lf
namespace Go.Proofs.YtbegidaaiajffaaGreatDoor.Lf
open Go.RowKit Nt
def roundPost (B:Nat)(Kp:World→World→Prop)(I:World→Prop)(W:World):Exit→Act→World→Prop
 | .normal,_,W'=>KeepsFrom B W W'∧Kp W W'∧I W'
 |_,_,_=>False
def SeqAt (F:Fence)(n:Nat)(P:Program)(gf:Nat)(lb:Array Value)(args:Nat→Array Value)(Kp:World→World→Prop)(m:Nat)(w:World):Prop:=
 ∀(l:Nat) (J:Nat→World→Prop) (W:World),Below w.heap.size w W→
  (∀k W1,k<m→J k W1→YieldAt F (n-1) P l (args k) W1 fun e W'=>e= .returned (.bool true)∧J (k+1) W'∧Kp W1 W')→J 0 W→
  CallsIn F n P gf (#[.func (.yield l) #[] #[]]++lb) W fun e W'=>(∃v,e= .returned v)∧J m W'
theorem range_in {F:Fence}{n:Nat}{P:Program}{g:Operand}{ps:Array Tmp}{assign body:Code}{Q:Exit→Act→World→Prop}{a:Act}{w:World}
  (hro:F.round=none) (h1:1≤n) {gf:Nat} {lb:Array Value} (hg:a.eval g= .func (.func gf) #[] lb) (hFg:F.fn gf) (eg:∀args w,(callFunc gf args).run P w= .ok (.enter gf args) w)
  {args:Nat→Array Value} {Kp:World→World→Prop} {m:Nat} (hseq:SeqAt F (n-1) P gf lb args Kp m w)
  (hKt:∀{A B C:World},Kp A B→Kp B C→Kp A C) (hKb:∀(W:World) (l:Nat) (o o':Obj),w.heap.size≤l→W.heap[l]? =some o→o.isCells=false→Kp W (W.putObj l o')) (hps:∀k,(args k).size=ps.size)
  (I:Nat→World→Prop) (hI:OwnFrom w.heap.size I) (h0:I 0 w) (Ax:Nat→Act→World→Prop) (hAx:∀k a',OwnFrom w.heap.size (fun(_:Unit) W=>Ax k a' W))
  (hassign:∀(l k:Nat) (W:World) (K:Act→World→Prop),k<m→I k W→(∀a' W',KeepsFrom w.heap.size W W'→Kp W W'→I k W'→Ax k a' W'→K a' W')→
   assign.wpIn (F.inRound l) (n-1-1) P (Exit.then K (fun _ _ _=>False)) {tmps:=(ps.zip (args k)).foldl (fun t (p,v)=>t.setIfInBounds p v) a.tmps,defers:=[]} W)
  (hbody:∀(l k:Nat) (a':Act) (W:World),k<m→I k W→Ax k a' W→body.wpIn (F.inRound l) (n-1-1) P (roundPost w.heap.size Kp (I (k+1)) W) a' W)
  (hdone:∀(D:Nat) (W:World),w.heap.size≤D→I m W→W.heap[D]? =some (.deferred (some []))→Q .normal {a with defers:={target:= .collected D,args:= #[]}::a.defers} W):
  (Code.rangeFunc g ps assign body).wpIn F n P Q a w:=by
 refine wpIn_rangeFunc fun fn hfn=> ?_;rw[hro]
 let R:LoopState→Option Code→Loop:=fun st pe=>{state:=st,pending:=pe,fn,tmps:=a.tmps,params:=ps,assign,body,defers:=w.heap.size}
 obtain⟨W1,hW1⟩:∃W1,(w.alloc (.deferred (some []))).alloc (.loop (R .ready none))=W1:=⟨_,rfl⟩;obtain⟨b1,q0,q1,i1⟩:Below w.heap.size w W1∧W1.heap[w.heap.size]? =some (.deferred (some []))∧W1.heap[w.heap.size+1]? =some (.loop (R .ready none))∧I 0 W1:=by
  rw[←hW1];have q:=World.alloc_heap_new (w.alloc (.deferred (some []))) (.loop (R .ready none));rw[World.size_alloc]at q;exact⟨((bR_ _ w).alloc (lR_ _) _).alloc (by simp) _,(Below.heap_alloc _ _ _ (by simp)).trans (World.alloc_heap_new w _),q,hI.alloc _ (hI.alloc _ h0)⟩
 refine⟨w.heap.size+1,[{target:= .collected w.heap.size,args:= #[]}],W1,{target:= .fn (.func gf) lb,args:= #[.func (.yield (w.heap.size+1)) #[] #[]]},W1,gf,
  #[.func (.yield (w.heap.size+1)) #[] #[]]++lb,W1,by rw[←hW1];exact run_enterLoop_outer _ _ _ _ _,?_,?_,?_,fun _=>h1,?_⟩
 ·simp only[resolve,hg];simp[go_sem]
 ·intro f' hf';simp[Target.leads]at hf';subst hf';exact hFg
 ·simp[invoke,go_sem,eg]
 ·refine(hseq (w.heap.size+1) (fun k W=>I k W∧W.heap[w.heap.size+1]? =some (.loop (R .ready none))∧W.heap[w.heap.size]? =some (.deferred (some []))) W1 b1 ?_ ⟨i1,q1,q0⟩).mono ?_
  ·rintro k W hk ⟨hi,hl,hd⟩;refine⟨fn,_,assign,body,run_yield (P:=P) (args:=args k) hl (hps k),roundIn_of_wpIn hfn (hassign _ k W _ hk hi ?_)⟩;intro a' Wa hka hpa hia hax;have hl':=hka.same _ _ (by omega) hl rfl;have hd':=hka.same _ _ (lR_ _) hd rfl;have hlt:w.heap.size+1<Wa.heap.size:=(Array.getElem?_eq_some_iff.1 hl').1;refine⟨_,run_beginRound hl' rfl,?_⟩;have hl2:(Wa.putObj (w.heap.size+1) (.loop (R .busy none))).heap[w.heap.size+1]? =some (.loop (R .busy none)):=World.putObj_heap_same hlt;have hd2:(Wa.putObj (w.heap.size+1) (.loop (R .busy none))).heap[w.heap.size]? =some (.deferred (some [])):=(World.putObj_heap_other (by omega)).trans hd';have hp2:Kp Wa (Wa.putObj (w.heap.size+1) (.loop (R .busy none))):=hKb _ _ _ _ (by omega) hl' rfl;refine wpIn_mono (hbody _ k a' _ hk (hI.putObj _ hia (by omega) hl' rfl) ((hAx k a').putObj (s:=()) _ hax (by omega) hl' rfl)) ?_;rintro e a3 W3 hp
   cases e with
   |normal=>
    obtain⟨hk3,hp3,hi3⟩:=hp;have hl3:=hk3.same _ _ (by omega) hl2 rfl;have hd3:=hk3.same _ _ (lR_ _) hd2 rfl;exact⟨_,_,run_endRound (P:=P) none hl3,rfl,⟨hI.putObj _ hi3 (by omega) hl3 rfl,World.putObj_heap_same (Array.getElem?_eq_some_iff.1 hl3).1,(World.putObj_heap_other (by omega)).trans hd3⟩,hKt hpa (hKt (hKt hp2 hp3) (hKb _ _ _ _ (by omega) hl3 rfl))⟩
   |ret=>exact hp.elim
   |exit id=>exact hp.elim
   |goto t=>exact hp.elim
   |panic ch=>exact hp.elim
   |outgrown=>exact hp.elim
  ·rintro e W2 ⟨⟨v,rfl⟩,hi,hl,hd⟩;exact⟨none,_,run_endLoop (P:=P) hl (by simp[R]),hdone _ _ (lR_ _) (hI.putObj _ hi (by omega) hl rfl) ((World.putObj_heap_other (by omega)).trans hd)⟩
theorem cell_below {w W:World}(h:Below w.heap.size w W):∀b i v,w.cell? ⟨b,i,none⟩=some v→W.cell? ⟨b,i,none⟩=some v:=fun b i v k=>by
 rw[World.cell?_of_block (w:=w) (a:=⟨b,i,none⟩) (h.block b (World.block_lt_of_cell? _ _ k))];exact k
theorem seqA {n:Nat}(hn:1≤n){gb:Nat}{ad:Option Addr}{tb o m cap:Nat}(hm:m≤1000){vs:Nat→Nat→Value}{w:World}(h:StA gb ad tb o m cap vs w):
  SeqAt Fence.wide n Tryz.prog 126 #[.pointer (some ⟨gb,0,none⟩)] (fun k=>encA vs (m-1-k)) (KpA gb ad tb o m cap vs) m w:=fun l J W hb hY h0=>
 backA_in n hn l gb ad tb o m cap hm vs J hY W (h.on (cell_below hb)) h0
theorem StB.on' {gb tb o m cap:Nat}{vs:Nat→Bool}{W W':World}(h:StB gb tb o m cap vs W)(k:∀b i v,W.cell? ⟨b,i,none⟩=some v→W'.cell? ⟨b,i,none⟩=some v):StB gb tb o m cap vs W':=⟨k _ _ _ h.1,fun j hj=>k _ _ _ (h.2 j hj)⟩
theorem seqB {n:Nat}(hn:1≤n){gb tb o m cap:Nat}(hm:m≤1000){vs:Nat→Bool}{w:World}(h:StB gb tb o m cap vs w):
  SeqAt Fence.wide n Tryz.prog 127 #[.pointer (some ⟨gb,0,none⟩)] (fun k=>encB vs (m-1-k)) (KpB gb tb o m cap vs) m w:=fun l J W hb hY h0=>
 backB_in n hn l gb tb o m cap hm vs J hY W (h.on' (cell_below hb)) h0
theorem cell_put {W:World}{l:Nat}{o o':Obj}(hl:W.heap[l]? =some o)(hc:o.isCells=false):∀b i v,W.cell? ⟨b,i,none⟩=some v→(W.putObj l o').cell? ⟨b,i,none⟩=some v:=fun b i v k=>by
 rw[World.cell?_of_block (w:=W) (a:=⟨b,i,none⟩)]
 ·exact k
 ·exact World.putObj_heap_other fun e=>by
   have e':b=l:=e;subst e';have:=cells_of_cell k hl;rw[hc]at this
   cases this
theorem kpA_b {gb:Nat}{ad:Option Addr}{tb o m cap:Nat}{vs:Nat→Nat→Value}(W:World)(l:Nat)(o1 o':Obj)(hl:W.heap[l]? =some o1)(hc:o1.isCells=false):KpA gb ad tb o m cap vs W (W.putObj l o'):=fun h=>h.on (cell_put hl hc)
theorem kpB_b {gb tb o m cap:Nat}{vs:Nat→Bool}(W:World)(l:Nat)(o1 o':Obj)(hl:W.heap[l]? =some o1)(hc:o1.isCells=false):KpB gb tb o m cap vs W (W.putObj l o'):=fun h=>h.on' (cell_put hl hc)
theorem kpA_kd {g gb:Nat}{ad:Option Addr}{tb o m cap:Nat}{vs:Nat→Nat→Value}{W W':World}(h:Kd g W W')(h1:¬Own5 g gb)(h2:0<m→¬Own5 g tb):KpA gb ad tb o m cap vs W W':=fun k=>
 ⟨h.cell h1 k.1,k.2.1,fun j hj i hi=>h.cell (h2 (by omega)) (k.2.2 j hj i hi)⟩
theorem sta_of {M:MS}{g gb m c:Nat}{us:List Af}{a:Option Addr}{w:World}(h:RdD (MD M g) w (afsD us) (.slice a m c))(hb:w.cell? ⟨gb,0,none⟩=some (.slice a m c)):
  ∃tb o vs,StA gb a tb o m c vs w∧(0<m→¬Own5 g tb)∧∀j f,us[j]? =some f→All2 (RdD (MD M g) w) f.D [vs j 0,vs j 1,vs j 2,vs j 3]:=by
 generalize hx:Value.slice a m c=x at h
 cases h with
 |sl k' ys ad cap vs hc hl h0 hk' h1 hr=>
  injection hx with e1 e2 e3;subst e1 e2 e3
  have rd:∀j f,us[j]? =some f→All2 (RdD (MD M g) w) f.D [vs j 0,vs j 1,vs j 2,vs j 3]:=fun j f hf=>
   ⟨hr j _ 0 _ (at_map hf) rfl,hr j _ 1 _ (at_map hf) rfl,hr j _ 2 _ (at_map hf) rfl,hr j _ 3 _ (at_map hf) rfl,trivial⟩
  rcases eP_ (us.map Af.D).length with h2|h2
  ·exact⟨0,0,vs,⟨hb,fun h=>by omega,fun j hj=>by omega⟩,fun h=>by omega,rd⟩
  ·obtain⟨b,o,rfl,hf⟩:=h0 h2;refine⟨b,o,vs,⟨hb,fun _=>rfl,fun j hj i hi=> ?_⟩,fun _=> ?_,rd⟩
   ·obtain⟨f,hff⟩:=at_some (l:=us) (i:=j) (by rw[List.length_map]at hj;exact hj);have hD:f.D.length=4:=rfl;obtain⟨d,hd⟩:=at_some (l:=f.D) (i:=i) (by rw[hD];exact hi);exact(hf j _ i d (at_map hff) hd).2
   ·obtain⟨f,hff⟩:=at_some (l:=us) (i:=0) (by rw[List.length_map]at h2;exact h2);exact fun ho=>(hf 0 _ 0 _ (at_map hff) rfl).1 (.inr ho)
theorem range_box {F:Fence}{n:Nat}{P:Program}{g:Operand}{ps:Array Tmp}{assign body:Code}{Q:Exit→Act→World→Prop}{a:Act}{w:World}
  (hro:F.round=none) (h1:1≤n) {gf:Nat} {lb:Array Value} (hg:a.eval g= .func (.func gf) #[] lb) (hFg:F.fn gf) (eg:∀args w,(callFunc gf args).run P w= .ok (.enter gf args) w)
  {args:Nat→Array Value} {Kp:World→World→Prop} {m:Nat} (hseq:SeqAt F (n-1) P gf lb args Kp m w)
  (hKt:∀{A B C:World},Kp A B→Kp B C→Kp A C) (hKb:∀(W:World) (l:Nat) (o o':Obj),W.heap[l]? =some o→o.isCells=false→Kp W (W.putObj l o')) (hps:∀k,(args k).size=ps.size)
  (I:Nat→World→Prop) (hI:OwnFrom w.heap.size I) (h0:I 0 w) (Ab:Nat→Nat→World→Prop) (hAb:∀k b,OwnFrom w.heap.size (fun(_:Unit) W=>Ab k b W)) (a2:Nat→Nat→Act)
  (hassign:∀(l k:Nat) (W:World) (K:Act→World→Prop),k<m→I k W→(∀b W',KeepsFrom w.heap.size W W'→Kp W W'→I k W'→Ab k b W'→K (a2 k b) W')→
   assign.wpIn (F.inRound l) (n-1-1) P (Exit.then K (fun _ _ _=>False)) {tmps:=(ps.zip (args k)).foldl (fun t (p,v)=>t.setIfInBounds p v) a.tmps,defers:=[]} W)
  (hbody:∀(l k b:Nat) (W:World),k<m→I k W→Ab k b W→body.wpIn (F.inRound l) (n-1-1) P (roundPost w.heap.size Kp (I (k+1)) W) (a2 k b) W)
  (hdone:∀(D:Nat) (W:World),w.heap.size≤D→I m W→W.heap[D]? =some (.deferred (some []))→Q .normal {a with defers:={target:= .collected D,args:= #[]}::a.defers} W):
  (Code.rangeFunc g ps assign body).wpIn F n P Q a w:=
 range_in hro h1 hg hFg eg hseq hKt (fun W l o o' _=>hKb W l o o') hps I hI h0 (fun k a' W=>∃b,a'=a2 k b∧Ab k b W) (fun k a' s X Y row hs hb hr=>by obtain⟨b,e,h⟩:=hs;exact⟨b,e,hAb k b () X Y row h hb hr⟩)
  (fun l k W K hk hi hK=>hassign l k W K hk hi fun b W' q1 q2 q3 q4=>hK _ W' q1 q2 q3 ⟨b,rfl,q4⟩) (fun l k a' W hk hi hx=>by obtain⟨b,rfl,hb⟩:=hx;exact hbody l k b W hk hi hb) hdone
theorem KpA.trans {gb:Nat}{ad:Option Addr}{tb o m cap:Nat}{vs:Nat→Nat→Value}{A B C:World}(h:KpA gb ad tb o m cap vs A B)(k:KpA gb ad tb o m cap vs B C):KpA gb ad tb o m cap vs A C:=fun q=>k (h q)
theorem KpB.trans {gb tb o m cap:Nat}{vs:Nat→Bool}{A B C:World}(h:KpB gb tb o m cap vs A B)(k:KpB gb tb o m cap vs B C):KpB gb tb o m cap vs A C:=fun q=>k (h q)
theorem range_flat {F:Fence}{n:Nat}{P:Program}{g:Operand}{ps:Array Tmp}{assign body:Code}{Q:Exit→Act→World→Prop}{a:Act}{w:World}
  (hro:F.round=none) (h1:1≤n) {gf:Nat} {lb:Array Value} (hg:a.eval g= .func (.func gf) #[] lb) (hFg:F.fn gf) (eg:∀args w,(callFunc gf args).run P w= .ok (.enter gf args) w)
  {args:Nat→Array Value} {Kp:World→World→Prop} {m:Nat} (hseq:SeqAt F (n-1) P gf lb args Kp m w)
  (hKt:∀{A B C:World},Kp A B→Kp B C→Kp A C) (hKb:∀(W:World) (l:Nat) (o o':Obj),W.heap[l]? =some o→o.isCells=false→Kp W (W.putObj l o')) (hps:∀k,(args k).size=ps.size)
  (I:Nat→World→Prop) (hI:OwnFrom w.heap.size I) (h0:I 0 w) (hKr:∀W,Kp W W) (a1:Nat→Act)
  (hassign:∀(l k:Nat) (W:World) (K:Act→World→Prop),K (a1 k) W→
   assign.wpIn (F.inRound l) (n-1-1) P (Exit.then K (fun _ _ _=>False)) {tmps:=(ps.zip (args k)).foldl (fun t (p,v)=>t.setIfInBounds p v) a.tmps,defers:=[]} W)
  (hbody:∀(l k:Nat) (W:World),k<m→I k W→body.wpIn (F.inRound l) (n-1-1) P (roundPost w.heap.size Kp (I (k+1)) W) (a1 k) W)
  (hdone:∀(D:Nat) (W:World),w.heap.size≤D→I m W→W.heap[D]? =some (.deferred (some []))→Q .normal {a with defers:={target:= .collected D,args:= #[]}::a.defers} W):
  (Code.rangeFunc g ps assign body).wpIn F n P Q a w:=
 range_in hro h1 hg hFg eg hseq hKt (fun W l o o' _=>hKb W l o o') hps I hI h0 (fun k a' W=>a'=a1 k) (fun k a' s X Y row hs hb hr=>hs)
  (fun l k W K hk hi hK=>hassign l k W K (hK _ W (KeepsFrom.refl _ _) (hKr W) hi rfl)) (fun l k a' W hk hi hx=>by subst hx;exact hbody l k W hk hi) hdone
theorem set_heap {W:World}{b i:Nat}{v:Value}{cs:Array Value}{t:TypeId}(h:W.heap[b]? =some (.cells cs t (0,0))):(W.setCell ⟨b,i,none⟩ v).heap[b]? =some (.cells (cs.setIfInBounds i v) t (0,0)):=by
 have hl:=(Array.getElem?_eq_some_iff.1 h).1;have he:=(Array.getElem?_eq_some_iff.1 h).2;simp[World.setCell,Array.getElem?_modify,h]
theorem set3 {W:World}{b:Nat}{a0 a1 a2 x0 x1 x2:Value}{t:TypeId}(h:W.heap[b]? =some (.cells [a0,a1,a2].toArray t (0,0))):
  (((W.setCell ⟨b,0,none⟩ x0).setCell ⟨b,1,none⟩ x1).setCell ⟨b,2,none⟩ x2).heap[b]? =some (.cells [x0,x1,x2].toArray t (0,0)):=by
 have h1:=set_heap (i:=0) (v:=x0) h;have h2:=set_heap (i:=1) (v:=x1) h1;have h3:=set_heap (i:=2) (v:=x2) h2;exact h3
theorem set3_other {W:World}{b k:Nat}{x0 x1 x2:Value}(hk:k≠b):(((W.setCell ⟨b,0,none⟩ x0).setCell ⟨b,1,none⟩ x1).setCell ⟨b,2,none⟩ x2).heap[k]? =W.heap[k]?:=by
 rw[Below.heap_setCell _ _ _ k hk,Below.heap_setCell _ _ _ k hk,Below.heap_setCell _ _ _ k hk]
theorem kd_set3 {g b:Nat}{W:World}{x0 x1 x2:Value}(hb:Own5 g b):Kd g W (((W.setCell ⟨b,0,none⟩ x0).setCell ⟨b,1,none⟩ x1).setCell ⟨b,2,none⟩ x2):=
 ⟨rfl,rfl,rfl,by simp[World.setCell],fun k hk hm=>set3_other fun e=>hm (by rw[e];exact hb)⟩
theorem DS.put {M:MS}{g n:Nat}{us os us2 os2:List Af}{ms:List Bool}{W:World}(h:DS M g n us os ms W){au av:Option Addr}{nu cu nv cv:Nat}(ru:RdD (MD M g) W (afsD us2) (.slice au nu cu))(rv:RdD (MD M g) W (afsD os2) (.slice av nv cv)):
  DS M g n us2 os2 ms (((W.setCell ⟨g,0,none⟩ (.int .i64 (n:Nat))).setCell ⟨g,1,none⟩ (.slice au nu cu)).setCell ⟨g,2,none⟩ (.slice av nv cv)):=by
 have hk:Kd g W (((W.setCell ⟨g,0,none⟩ (.int .i64 (n:Nat))).setCell ⟨g,1,none⟩ (.slice au nu cu)).setCell ⟨g,2,none⟩ (.slice av nv cv)):=kd_set3 ⟨lR_ _,by omega⟩;obtain⟨⟨u,v,h0,_,_⟩,h1,⟨sp,h2⟩,⟨c,hc,h3⟩,⟨t4,h4⟩,hd,h5,h6⟩:=h;have g0:=set3 (x0:= .int .i64 (n:Nat)) (x1:= .slice au nu cu) (x2:= .slice av nv cv) h0;refine⟨⟨_,_,g0,RdD.fx hk.fx ru,RdD.fx hk.fx rv⟩,(set3_other (by omega)).trans h1,⟨sp,(set3_other (by omega)).trans h2⟩,⟨c,hc,(set3_other (by omega)).trans h3⟩,⟨t4,(set3_other (by omega)).trans h4⟩,hd,fun b i k hm=> ?_,h6.fx hk.fx⟩
 by_cases hb:b=g
 ·subst hb;exact no_u32 (vs:=[_,_,_]) g0 (by simp)
 ·rw[World.cell?_of_block (w:=W) (a:=⟨b,i,none⟩) (set3_other hb)];exact h5 b i k hm
end Go.Proofs.YtbegidaaiajffaaGreatDoor.Lf
namespace Go.Proofs.YtbegidaaiajffaaGreatDoor.Lf
open Go.RowKit Nt
attribute [local go_sem] Oper.semAt_some
def mkP (n:Nat)(us:List Af)(ms0:List Bool)(m:Nat):Nat→List Bool
 |0=>ms0
 |k+1=>if(mkP n us ms0 m k).getD (m-1-k) false=true then mkF n (mkP n us ms0 m k) (us.getD (m-1-k) z0)else mkP n us ms0 m k
theorem mkP_len {n:Nat}{us:List Af}{ms0:List Bool}{m:Nat}:∀k,(mkP n us ms0 m k).length=ms0.length
 |0=>rfl
 |k+1=>by
  rw[mkP];split
  ·rw[mkF_len,mkP_len k]
  ·exact mkP_len k
theorem mkP_eq {n:Nat}{us:List Af}{ms0:List Bool}{m:Nat}:∀k,k≤m→mkB n us (m-k) (mkP n us ms0 m k)=mkB n us m ms0
 |0,_=>rfl
 |k+1,h=>by
  have e:=mkP_eq (n:=n) (us:=us) (ms0:=ms0) (m:=m) k (Nat.le_of_succ_le h);rw[show m-k=(m-(k+1))+1 by omega,mkB]at e;rw[mkP,show m-1-k=m-(k+1) by omega];exact e
theorem mkP_all {n:Nat}{us:List Af}{ms0:List Bool}{m:Nat}:mkP n us ms0 m m=mkB n us m ms0:=by
 have:=mkP_eq (n:=n) (us:=us) (ms0:=ms0) (m:=m) m (lR_ _)
 rwa [Nat.sub_self]at this
def mgB (ms:List Bool)(j:Nat):Bool:=ms.getD j false
theorem stb_of {M:MS}{g n c gb m:Nat}{us os:List Af}{ms:List Bool}{W:World}(h:DS M g n us os ms W)(hm:ms.length=m)(hb:W.cell? ⟨gb,0,none⟩=some (.slice (some ⟨g+1+1,0,none⟩) m c)):StB gb (g+1+1) 0 m c (mgB ms) W:=by
 refine⟨hb,fun j hj=> ?_⟩;obtain⟨sp,d2⟩:=h.g2;obtain⟨b0,hb0⟩:=at_some (l:=ms) (i:=j) (by omega);show W.cell? ⟨g+1+1,0+j,none⟩=some (.bool (ms.getD j false));rw[getD_of hb0,Nat.zero_add];simp only[World.cell?,d2,List.getElem?_toArray];rw[List.getElem?_append_left (by rw[List.length_map];omega)];exact at_map hb0
theorem kpB_ds {M:MS}{g n c gb m:Nat}{us os:List Af}{ms:List Bool}{W W':World}(h:DS M g n us os ms W')(hm:ms.length=m)(hk:Kd g W W')(hg:¬Own5 g gb):KpB gb (g+1+1) 0 m c (mgB ms) W W':=fun q=>stb_of h hm (hk.cell hg q.1)
theorem results_cellg {fn:Func}{t:Nat}(h:fn.results=⟨[.cell t 36]⟩){tmps:Array Value}{w:World}{b:Nat}{x0 x1 x2:Value}{tt:TypeId}(ht:tmps.getD t undef= .pointer (some ⟨b,0,none⟩))(hc:w.heap[b]? =some (.cells [x0,x1,x2].toArray tt (0,0))):
  (results fn tmps).run Tryz.prog w= .ok (.agg [x0,x1,x2].toArray) w:=by
 refine results_run (a:={tmps:=tmps,defers:=[]}) [.cell t 36] [.agg [x0,x1,x2].toArray] h rfl (Nat.le_of_ble_eq_true rfl) fun i x r hx hr=> ?_;rcases i with _|i
 ·simp at hx hr;subst hx hr;refine⟨_,ht,?_⟩
  exact loadVar_run (ag:=true) (s:=3) (by kernel_rfl) (by kernel_rfl) (fun h=>by cases h) (vs:=[x0,x1,x2]) rfl fun j u hj=>by
   simp only[World.cell?,hc,Nat.zero_add,List.getElem?_toArray];exact hj
 ·simp at hx
theorem fin_below {g D1 D2:Nat}{w W0 W9:World}{o o':Obj}(hg:w.heap.size=g)(h0:Below g w W0)(hk:Kd g W0 W9)(h1:g≤D1)(h2:g≤D2):Below g w ((W9.putObj D2 o).putObj D1 o'):=by
 subst hg;have hs:=h0.size;have hb:Below w.heap.size w W9:=⟨hk.os.trans h0.os,hk.tape.trans h0.tape,hk.output.trans h0.output,tL_ h0.size hk.size,fun b hb=>(hk.other b (by omega) fun ho=>by have:=ho.1;omega).trans (h0.block b hb)⟩;have z:∀{A:World} {D:Nat} (o:Obj),Below w.heap.size w A→w.heap.size≤D→Below w.heap.size w (A.putObj D o):=fun o h1 h2=>h1.grown (grownBy_putObj' _ _ _) h1.size fun k e=>by injection e with e;omega
 exact z _ (z _ hb h2) h1
theorem dead_in {L n:Nat}{us os:List Af}(hL:LOk L)(h:Gk L n us os)(hn':n≤24)(ho':os.length≤24){M:MS}(w:World)(hG:Glb M w)(hu32:∀b i n,M b i→w.cell? ⟨b,i,none⟩≠some (.int .u32 n))(hdom:∀b i,M b i→b<w.heap.size)(u v:Value)(ru:RdD M w (afsD us) u)(rv:RdD M w (afsD os) v):
  CallsIn Fence.wide 9 Tryz.prog 36 #[.agg #[.int .i64 (n:Nat),u,v]] w fun e W'=>∃u' v',e= .returned (.agg #[.int .i64 (n:Nat),u',v'])∧Below w.heap.size w W'∧RdD M W' (afsD (deaS n us os).1) u'∧RdD M W' (afsD (deaS n us os).2) v':=by
 have hu:=h.u;have hmk:∀w,(Instr.makeSlice 118 (.int .i64 (us.length:Nat)) (.int .i64 (us.length:Nat))).run Tryz.prog w= .ok (.slice (some ⟨w.heap.size,0,none⟩) us.length us.length) (w.alloc (.cells ((List.replicate us.length false).map Value.bool).toArray 4)):=mk_bools (by omega);obtain⟨ua,uc,eu⟩:=rd_slice ru;obtain⟨va,vc,ev⟩:=rd_slice rv;rw[List.length_map]at eu ev;subst eu ev;obtain⟨g,hg⟩:∃g,w.heap.size=g:=⟨_,rfl⟩;rw[hg];refine callsIn_of_wp_marks Tryz.func36 rfl trivial ?_ rfl;simp only[Tryz.ntmps36,List.size_toArray,List.length_cons,List.length_nil,Nat.reduceAdd,Nat.reduceSub,Array.replicate_succ,Array.replicate_zero,List.push_toArray,List.append_toArray,List.nil_append,List.cons_append];generalize hbs:((List.replicate us.length false).map Value.bool).toArray=bs0 at *
 gi_wp2_with fail
 obtain⟨W0,hW0⟩:∃W0,((((w.alloc (.cells #[Value.int .i64 (n:Nat),.slice ua us.length uc,.slice va os.length vc] 36)).alloc (.cells #[Value.int .i64 0,.slice none 0 0,.slice none 0 0] 36)).alloc (.cells bs0 4)).alloc (.cells #[Value.slice (some ⟨g+1+1,0,none⟩) us.length us.length] 118)).alloc
  (.cells #[.func (.func 70) #[] #[.pointer (some ⟨g,0,none⟩),.pointer (some ⟨g+1+1+1,0,none⟩)]] 119)=W0:=⟨_,rfl⟩
 rw[hW0];rw[←hbs]at hW0;obtain⟨hD0,hB0,rd0,hs0⟩:=ds_init hg hG hu32 hdom ru rv rfl rfl hW0;clear hW0 hbs hmk bs0;have rvD:=rd0 _ _ rv;have ruD:=rd0 _ _ ru
 gi_loopw [19] (fun i wr=>∃k,k≤os.length∧i= .int .i64 (k:Nat)∧DS M g n us os ((os.take k).foldl (mkF n) (List.replicate us.length false)) wr∧Kd g W0 wr) (fun i _=>os.length-(intOf i).toNat)
 case atStart=>exact⟨0,zL_ _,rfl,hD0,Kd.refl⟩
 case round=>
  obtain⟨k,hk,rfl,hDr,hKr⟩:=hrel
  by_cases hlt:k<os.length
  ·obtain⟨f,hf⟩:=at_some hlt;obtain⟨b,o,v0,v1,v2,v3,rfl,c0,c1,c2,c3,rf⟩:=af_cells (RdD.fx hKr.fx rvD) hf;obtain⟨a0,n0,q0,b1,a2,n2,q2,a3,n3,q3,rfl,rfl,rfl,rfl⟩:=af_shape rf
   replace c0:=c0.2
   replace c1:=c1.2
   replace c2:=c2.2
   replace c3:=c3.2
   obtain⟨W1,hW1⟩:∃W1,wr.alloc (.cells #[Value.slice a0 n0 q0,.bool b1,.slice a2 n2 q2,.slice a3 n3 q3] 79)=W1:=⟨_,rfl⟩;obtain⟨hx1,_,hsz1,hB1⟩:=al1 hW1;have hD1:=hDr.to hB1;obtain⟨t4,d4⟩:=hD1.g4;have e4:W1.cell? ⟨g+1+1+1+1,0,none⟩=some (.func (.func 70) #[] #[.pointer (some ⟨g,0,none⟩),.pointer (some ⟨g+1+1+1,0,none⟩)]):=by simp only[World.cell?,d4];rfl
   have x0:W1.cell? ⟨wr.heap.size,0,none⟩=some (Value.slice a0 n0 q0):=by simp only[World.cell?,hx1];rfl
   have x1:W1.cell? ⟨wr.heap.size,1,none⟩=some (Value.bool b1):=by simp only[World.cell?,hx1];rfl
   have x2:W1.cell? ⟨wr.heap.size,2,none⟩=some (Value.slice a2 n2 q2):=by simp only[World.cell?,hx1];rfl
   have x3:W1.cell? ⟨wr.heap.size,3,none⟩=some (Value.slice a3 n3 q3):=by simp only[World.cell?,hx1];rfl
   have rf1:=af_rd (All2.imp (fun x y k=>RdD.fx (Kd.of (g:=g) hB1).fx k) rf);clear d4 hx1
   gi_wp2_with (rw[hW1])
   have hlen:((os.take k).foldl (mkF n) (List.replicate us.length false)).length=us.length:=by rw[os_len,List.length_replicate]
   refine⟨trivial,(callsIn_wide.2 (de1_at hD1 hn' (by rw[hlen];omega) (by rw[hlen];exact(h.of f (mG_ hf)).ts) rf1)).mono ?_⟩;rintro e W2 ⟨⟨r,rfl⟩,hD2,hK2⟩;have hfin:DS M g n us os ((os.take (k+1)).foldl (mkF n) (List.replicate us.length false)) W2∧Kd g W0 W2:=⟨by rw[take_snoc hf,List.foldl_append];exact hD2,hKr.trans ((Kd.of hB1).trans hK2)⟩;clear hD2
   gi_wp2_with fail
   exact⟨⟨k+1,hlt,by go_num,hfin⟩,by simp only[intOf];omega⟩
  ·have hkm:k=os.length:=by omega
   subst hkm;rw[List.take_length]at hDr
   change DS M g n us os (mkO n us.length os) wr at hDr
   obtain⟨u1,u2,d0,ru1,ru2⟩:=hDr.g0;obtain⟨a1,c1,e1⟩:=rd_slice ru1;rw[List.length_map]at e1;subst e1;have x1:wr.cell? ⟨g,1,none⟩=some (.slice a1 us.length c1):=by simp only[World.cell?,d0];rfl
   clear d0
   gi_wp2_with fail
   refine⟨trivial,bwd_at.mono ?_⟩;rintro e W5 ⟨rfl,tB,hW5⟩;obtain⟨hx5,_,hsz5,hB5⟩:=al1 hW5.symm;have hD5:=hDr.to hB5;have hgs:=hDr.size;have k5:W5.cell? ⟨wr.heap.size,0,none⟩=some (.slice a1 us.length c1):=by simp only[World.cell?,hx5];rfl
   obtain⟨tb,o,vs,hst,htb,hrows⟩:=sta_of (RdD.fx (Kd.of (g:=g) hB5).fx ru1) k5;have hK05:Kd g W0 W5:=hKr.trans (Kd.of hB5);generalize hgb:wr.heap.size=gb at *
   clear hW5 hx5 ru1 ru2
   gi_wp2_with fail
   refine range_box rfl (by decide) (gf:=126) (lb:= #[.pointer (some ⟨gb,0,none⟩)]) rfl trivial (enters_of Tryz.func126 (by kernel_rfl) rfl)
    (seqA (by decide) (by omega) hst) KpA.trans kpA_b (fun _=>rfl)
    (fun k W=>DS M g n us os (mkP n us (mkO n us.length os) us.length k) W∧Kd g W5 W)
    (fun k X Y row hs hb hr=>⟨hs.1.grown hb (fun r e=>⟨by have:=hD5.size;have:=(hr r e).1;omega,(hr r e).2⟩),hs.2.grown hb hr (lR_ _)⟩)
    ⟨hD5,Kd.refl⟩
    (fun k b W=>g+5≤b∧W.cell? ⟨b,0,none⟩=some (vs (us.length-1-k) 0)∧W.cell? ⟨b,1,none⟩=some (vs (us.length-1-k) 1)∧W.cell? ⟨b,2,none⟩=some (vs (us.length-1-k) 2)∧W.cell? ⟨b,3,none⟩=some (vs (us.length-1-k) 3))
    (fun k b s X Y row hs hb hr=>⟨hs.1,gr_cell hb (fun r e=>(hr r e).2) hs.2.1,gr_cell hb (fun r e=>(hr r e).2) hs.2.2.1,gr_cell hb (fun r e=>(hr r e).2) hs.2.2.2.1,gr_cell hb (fun r e=>(hr r e).2) hs.2.2.2.2⟩)
    ?a2 ?assign2 ?body2 ?done2
   case assign2=>
    rintro l k W K hk ⟨hDk,hKk⟩ hK;obtain⟨f,hf⟩:=at_some (l:=us) (i:=us.length-1-k) (by omega);obtain⟨a0,n0,q0,b1,a2,n2,q2,a3,n3,q3,e0,e1,e2,e3⟩:=af_shape (hrows _ f hf);obtain⟨b,hb⟩:∃b,W.heap.size=b:=⟨_,rfl⟩;obtain⟨W',hW'⟩:∃W',W.alloc (.cells #[Value.slice a0 n0 q0,.bool b1,.slice a2 n2 q2,.slice a3 n3 q3] 79)=W':=⟨_,rfl⟩;obtain⟨hx',_,hsz',hB'⟩:=al1 hW';have hgk:=hDk.size;have hgB:=hD5.size;have p1:KeepsFrom W5.heap.size W W':=(Kd.of (g:=g) hB').keeps (by omega);have p2:KpA gb a1 tb o us.length c1 vs W W':=kpA_kd (g:=g) (Kd.of hB') (fun hm=>by have:=hm.2;omega) htb;have p3:=hDk.to hB';have p4:=hKk.trans (Kd.of (g:=g) hB');have p5:g+5≤b∧W'.cell? ⟨b,0,none⟩=some (vs (us.length-1-k) 0)∧W'.cell? ⟨b,1,none⟩=some (vs (us.length-1-k) 1)∧W'.cell? ⟨b,2,none⟩=some (vs (us.length-1-k) 2)∧W'.cell? ⟨b,3,none⟩=some (vs (us.length-1-k) 3):=by
     rw[hb]at hx';rw[e0,e1,e2,e3];refine⟨by omega,?_,?_,?_,?_⟩<;>(simp only[World.cell?,hx'];rfl)
    dsimp only[encA]
    rw[e0,e1,e2,e3];clear hx' hsz'
    gi_wp2_with (rw[hW'])
    rw[←e0,←e1,←e2,←e3];exact hK b W' p1 p2 ⟨p3,p4⟩ p5
   case body2=>
    rintro l k b W hk ⟨hDk,hKk⟩ ⟨hb,x0,x1,x2,x3⟩;have eP:mkP n us (mkO n us.length os) us.length (k+1)=if(mkP n us (mkO n us.length os) us.length k).getD (us.length-1-k) false=true then mkF n (mkP n us (mkO n us.length os) us.length k) (us.getD (us.length-1-k) z0)else mkP n us (mkO n us.length os) us.length k:=rfl
    have hPl:(mkP n us (mkO n us.length os) us.length k).length=us.length:=by rw[mkP_len,mkO,os_len,List.length_replicate]
    obtain⟨f,hf⟩:=at_some (l:=us) (i:=us.length-1-k) (by omega);have rf0:=hrows _ f hf;rw[getD_of hf]at eP;obtain⟨a0,n0,q0,b1,a2,n2,q2,a3,n3,q3,e0,e1,e2,e3⟩:=af_shape rf0;rw[e0,e1,e2,e3]at rf0;rw[e0]at x0;rw[e1]at x1;rw[e2]at x2;rw[e3]at x3;have rf1:=af_rd (All2.imp (fun x y q=>RdD.fx hKk.fx q) rf0);have hgB:=hD5.size;obtain⟨c,hc,d3⟩:=hDk.g3;obtain⟨sp,d2⟩:=hDk.g2;obtain⟨t4,d4⟩:=hDk.g4;rw[hPl]at d3 hc;have y3:W.cell? ⟨g+1+1+1,0,none⟩=some (.slice (some ⟨g+1+1,0,none⟩) us.length c):=by simp only[World.cell?,d3];rfl
    have y4:W.cell? ⟨g+1+1+1+1,0,none⟩=some (.func (.func 70) #[] #[.pointer (some ⟨g,0,none⟩),.pointer (some ⟨g+1+1+1,0,none⟩)]):=by simp only[World.cell?,d4];rfl
    have y2:W.cell? ⟨g+1+1,us.length-1-k,none⟩=some (.bool ((mkP n us (mkO n us.length os) us.length k).getD (us.length-1-k) false)):=by
     obtain⟨b0,hb0⟩:=at_some (l:=mkP n us (mkO n us.length os) us.length k) (i:=us.length-1-k) (by omega);rw[getD_of hb0];simp only[World.cell?,d2,List.getElem?_toArray];rw[List.getElem?_append_left (by rw[List.length_map];omega)];exact at_map hb0
    clear d2 d3 d4 sp;generalize mkP n us (mkO n us.length os) us.length (k+1)=P1 at *
    generalize mkP n us (mkO n us.length os) us.length k=P0 at *
    have hjl:us.length-1-k<us.length:=by omega
    generalize us.length-1-k=j at *
    cases hbv:P0.getD j false with
    |true=>
     rw[hbv]at y2 eP;rw[if_pos rfl]at eP;subst eP
     gi_wp2_with fail
     refine⟨trivial,CallsIn.inRound l ((callsIn_wide.2 (de1_at hDk hn' (by rw[hPl];omega) (by rw[hPl];exact TsOk.up (by omega) (h.ts j f hf)) rf1)).mono ?_)⟩;rintro e W3 ⟨⟨r,rfl⟩,hD3,hK3⟩;have p1:KeepsFrom W5.heap.size W W3:=hK3.keeps (by omega);have p2:KpA gb a1 tb o us.length c1 vs W W3:=kpA_kd hK3 (fun hm=>by have:=hm.2;omega) htb;have p3:Kd g W5 W3:=hKk.trans hK3;clear hDk x0 x1 x2 x3 y2 y3 y4
     gi_wp2_with fail
     exact⟨p1,p2,hD3,p3⟩
    |false=>
     rw[hbv]at y2 eP;rw[if_neg (by decide)]at eP;subst eP
     gi_wp2_with fail
     exact⟨KeepsFrom.refl _ _,fun q=>q,hDk,hKk⟩
   case done2=>
    rintro D1 W6 hlD1 ⟨hD6,hK6⟩ hD1;rw[mkP_all]at hD6
    change DS M g n us os (deaM n us os) W6 at hD6
    have hgs6:=hD6.size;have hPl:(deaM n us os).length=us.length:=(deaM_ok h.ts).len;obtain⟨c,hc,d3⟩:=hD6.g3;rw[hPl]at d3 hc;have y3:W6.cell? ⟨g+1+1+1,0,none⟩=some (.slice (some ⟨g+1+1,0,none⟩) us.length c):=by simp only[World.cell?,d3];rfl
    clear d3 x1 k5 hst
    gi_wp2_with fail
    refine⟨trivial,bwdb_at.mono ?_⟩;rintro e W7 ⟨rfl,hW7⟩;obtain⟨hx7,_,hsz7,hB7⟩:=al1 hW7.symm;have hD7:=hD6.to hB7;have hst7:=stb_of hD7 hPl (gb:=W6.heap.size) (c:=c) (by simp only[World.cell?,hx7];rfl);have hK07:Kd g W0 W7:=hK05.trans (hK6.trans (Kd.of hB7));generalize hgb7:W6.heap.size=gb7 at *
    clear hW7 hx7;generalize hms:deaM n us os=ms at *
    gi_wp2_with fail
    refine range_flat rfl (by decide) (gf:=127) (lb:= #[.pointer (some ⟨gb7,0,none⟩)]) rfl trivial (enters_of Tryz.func127 (by kernel_rfl) rfl)
     (seqB (by decide) (by omega) hst7) KpB.trans kpB_b (fun _=>rfl)
     (fun k W=>∃us' os',DeI L n us os ms (us.length-k) us' os'∧deB n ms (us.length-k) us' os'=deB n ms us.length us os∧DS M g n us' os' ms W∧Kd g W7 W)
     (fun k X Y row hs hb hr=>by obtain⟨us',os',i1,i2,i3,i4⟩:=hs;exact⟨us',os',i1,i2,i3.grown hb (fun r e=>⟨by have:=hD7.size;have:=(hr r e).1;omega,(hr r e).2⟩),i4.grown hb hr (lR_ _)⟩)
     ⟨us,os,by rw[←hms];exact dea0 h (deaM_ok h.ts),rfl,hD7,Kd.refl⟩ (fun _ q=>q)
     ?a3 ?assign3 ?body3 ?done3
    case assign3=>
     intro l k W K hK;gi_wp2;exact hK
    case body3=>
     rintro l k W hk ⟨us',os',i1,i2,i3,i4⟩;have ej:us.length-k=(us.length-1-k)+1:=by omega
     rw[ej]at i1 i2;have hst:=deB_step hL (by rw[←hms];exact deaM_ok h.ts) i1;have hle:=i1.le;have hgs:=i1.gs;rw[deB]at i2;have ek:us.length-(k+1)=us.length-1-k:=by omega
     have hgB:=hD7.size
     have fin:∀{W':World} {us2 os2:List Af},KeepsFrom W7.heap.size W W'→KpB gb7 (g+1+1) 0 us.length c (mgB ms) W W'→DeI L n us os ms (us.length-1-k) us2 os2→deB n ms (us.length-1-k) us2 os2=deB n ms us.length us os→DS M g n us2 os2 ms W'→Kd g W7 W'→
       KeepsFrom W7.heap.size W W'∧KpB gb7 (g+1+1) 0 us.length c (mgB ms) W W'∧∃us2 os2,DeI L n us os ms (us.length-(k+1)) us2 os2∧deB n ms (us.length-(k+1)) us2 os2=deB n ms us.length us os∧DS M g n us2 os2 ms W'∧Kd g W7 W':=by
      intro W' us2 os2 q1 q2 q3 q4 q5 q6;rw[ek];exact⟨q1,q2,us2,os2,q3,q4,q5,q6⟩
     have hngb:¬Own5 g gb7:=fun hm=>by have:=hm.2;omega
     clear i1 ek ej;generalize us.length-1-k=j at *
     cases hbv:mgB ms j with
     |true=>
      rw[if_pos (show ms.getD j false=true from hbv)]at i2;have h1:=hst.1 hbv;clear hst
      gi_wp2_with fail
      exact fin (KeepsFrom.refl _ _) (fun q=>q) h1 i2 i3 i4
     |false=>
      rw[if_neg (by rw[show ms.getD j false=false from hbv];decide)]at i2;have h1:=hst.2 hbv;clear hst;obtain⟨u',v',d0,ru',rv'⟩:=i3.g0;obtain⟨au,cu,eu⟩:=rd_slice ru';obtain⟨av,cv,ev⟩:=rd_slice rv';rw[List.length_map]at eu ev;subst eu ev;have z0:W.cell? ⟨g,0,none⟩=some (.int .i64 (n:Nat)):=by simp only[World.cell?,d0];rfl
      have z1:W.cell? ⟨g,1,none⟩=some (.slice au us'.length cu):=by simp only[World.cell?,d0];rfl
      have z2:W.cell? ⟨g,2,none⟩=some (.slice av os'.length cv):=by simp only[World.cell?,d0];rfl
      have hr:RdV γ0 (look []) (MD M g) W (.agg (grA n us' os')) (.agg #[.int .i64 (n:Nat),.slice au us'.length cu,.slice av os'.length cv]):=⟨[_,_,_],rfl,.lit _,ru',rv',trivial⟩;clear d0
      gi_wp2_with fail
      refine⟨trivial,CallsIn.inRound l ((callsIn_wide.2 (rep_at (j:=j) hL hgs hn' ho' (by omega) i3 hr)).mono ?_)⟩;rintro e W3 ⟨u3,v3,rfl,hD3,hB3,ru3,rv3⟩;obtain⟨au3,cu3,eu3⟩:=rd_slice ru3;obtain⟨av3,cv3,ev3⟩:=rd_slice rv3;rw[List.length_map]at eu3 ev3;subst eu3 ev3;obtain⟨u4,v4,d4,_,_⟩:=hD3.g0;have w0:(W3.cell? ⟨g,0,none⟩).isSome=true:=by simp only[World.cell?,d4];rfl
      have w1:(W3.cell? ⟨g,1,none⟩).isSome=true:=by simp only[World.cell?,d4];rfl
      have w2:(W3.cell? ⟨g,2,none⟩).isSome=true:=by simp only[World.cell?,d4];rfl
      obtain⟨x0,w0⟩:=Option.isSome_iff_exists.1 w0;obtain⟨x1,w1⟩:=Option.isSome_iff_exists.1 w1;obtain⟨x2,w2⟩:=Option.isSome_iff_exists.1 w2;have f0:W3.frozen? ⟨g,0,none⟩=false:=by simp[World.frozen?,d4]
      have f1:W3.frozen? ⟨g,1,none⟩=false:=by simp[World.frozen?,d4]
      have f2:W3.frozen? ⟨g,2,none⟩=false:=by simp[World.frozen?,d4]
      clear d4 z0 z1 z2 hr;generalize repU n j (numS 0) us'=us2 at *
      generalize os'.map (repF ((n+j:Nat):Int) (numS 0))=os2 at *
      have hp:=hD3.put ru3 rv3;have hpk:=(Kd.of (g:=g) hB3).trans (kd_set3 (g:=g) (b:=g) (W:=W3) (x0:= .int .i64 (n:Nat)) (x1:= .slice au3 us2.length cu3) (x2:= .slice av3 os2.length cv3) ⟨lR_ _,by omega⟩);have fin2:=fin (hpk.keeps (by omega)) (kpB_ds hp hPl hpk hngb) h1 i2 hp (i4.trans hpk);clear hD3 ru3 rv3 hp hpk fin
      gi_wp2_with fail
      exact fin2
    case done3=>
     rintro D2 W8 hlD2 ⟨us',os',i1,i2,i3,i4⟩ hD2;rw[Nat.sub_self]at i1 i2;have eS:deaS n us os=(us',os'):=by rw[deaS,hms];exact i2.symm
     obtain⟨u8,v8,d0,ru8,rv8⟩:=i3.g0;obtain⟨au,cu,eu⟩:=rd_slice ru8;obtain⟨av,cv,ev⟩:=rd_slice rv8;rw[List.length_map]at eu ev;subst eu ev;have z0:W8.cell? ⟨g,0,none⟩=some (.int .i64 (n:Nat)):=by simp only[World.cell?,d0];rfl
     have z1:W8.cell? ⟨g,1,none⟩=some (.slice au us'.length cu):=by simp only[World.cell?,d0];rfl
     have z2:W8.cell? ⟨g,2,none⟩=some (.slice av os'.length cv):=by simp only[World.cell?,d0];rfl
     have d1:=i3.g1;have w0:W8.cell? ⟨g+1,0,none⟩=some (.int .i64 0):=by simp only[World.cell?,d1];rfl
     have w1:W8.cell? ⟨g+1,1,none⟩=some (.slice none 0 0):=by simp only[World.cell?,d1];rfl
     have w2:W8.cell? ⟨g+1,2,none⟩=some (.slice none 0 0):=by simp only[World.cell?,d1];rfl
     have f0:W8.frozen? ⟨g+1,0,none⟩=false:=by simp[World.frozen?,d1]
     have f1:W8.frozen? ⟨g+1,1,none⟩=false:=by simp[World.frozen?,d1]
     have f2:W8.frozen? ⟨g+1,2,none⟩=false:=by simp[World.frozen?,d1]
     have hend:=set3 (x0:= .int .i64 (n:Nat)) (x1:= .slice au us'.length cu) (x2:= .slice av os'.length cv) d1;have hk89:=kd_set3 (g:=g) (b:=g+1) (W:=W8) (x0:= .int .i64 (n:Nat)) (x1:= .slice au us'.length cu) (x2:= .slice av os'.length cv) ⟨by omega,by omega⟩;have hgB5:=hD5.size;have hgB7:=hD7.size;have lD1:=(Array.getElem?_eq_some_iff.1 hD1).1;have lD2:=(Array.getElem?_eq_some_iff.1 hD2).1;have n1:¬Own5 g D1:=fun h=>by have:=h.2;omega
     have n2:¬Own5 g D2:=fun h=>by have:=h.2;omega
     have lD17:D1<W7.heap.size:=by omega
     have t1:=(hk89.other D1 (Nat.lt_of_lt_of_le lD17 i4.size) n1).trans ((i4.other D1 lD17 n1).trans ((hB7.block D1 (by omega)).trans hD1));have t2:=(hk89.other D2 lD2 n2).trans hD2;have hK09:=(hK07.trans i4).trans hk89;clear d0 d1 i1 i2 hst7;have hfin:∃u' v',Value.agg [Value.int .i64 (n:Nat),.slice au us'.length cu,.slice av os'.length cv].toArray= .agg #[.int .i64 (n:Nat),u',v']∧RdD (MD M g) W8 (afsD (deaS n us os).1) u'∧RdD (MD M g) W8 (afsD (deaS n us os).2) v':=⟨_,_,rfl,by rw[eS];exact ru8,by rw[eS];exact rv8⟩
     gi_wp2_with fail
     refine⟨by simp,.inl ⟨D2,_,rfl,run_takeDeferred t2,by simp,.inl ⟨D1,_,rfl,run_takeDeferred ((World.putObj_heap_other (by omega)).trans t1),?_⟩⟩⟩;have hne1:g+1≠D1:=by omega
     have hne2:g+1≠D2:=by omega
     obtain⟨u',v',e1,e2,e3⟩:=hfin;refine⟨_,results_cellg rfl rfl ((World.putObj_heap_other hne1).trans ((World.putObj_heap_other hne2).trans hend)),u',v',by rw[←e1],?_,?_,?_⟩
     ·exact fin_below hg hB0 hK09 (by omega) (by omega)
     ·exact RdD.fx (fun b i v q=>⟨fun hm=>q.1 (.inl hm),cell_put ((World.putObj_heap_other (by omega)).trans t1) rfl _ _ _ (cell_put t2 rfl _ _ _ (hk89.cell (fun ho=>q.1 (.inr ho)) q.2))⟩) e2
     ·exact RdD.fx (fun b i v q=>⟨fun hm=>q.1 (.inl hm),cell_put ((World.putObj_heap_other (by omega)).trans t1) rfl _ _ _ (cell_put t2 rfl _ _ _ (hk89.cell (fun ho=>q.1 (.inr ho)) q.2))⟩) e3
theorem lx_dead {L n:Nat}{us os:List Af}(hL:LOk L)(h:Gk L n us os)(hn':n≤24)(ho':os.length≤24):
  LV Tryz.prog 36 [.agg (grA n us os)] (.agg (grA n (deaS n us os).1 (deaS n us os).2)):=by
 refine⟨_,_,⟨rfl,rfl⟩,fun γ M w rs hr ha=> ?_⟩;obtain⟨r,rfl⟩:∃r,rs=[r]:=List.length_eq_one_iff.1 ha.len.symm;obtain⟨vs,rfl,k⟩:=ha.1
 match vs,k with
 |[a,u,v],k=>
  obtain rfl:=lit_inv k.1;refine cM (callsIn_wide.1 (dead_in hL h hn' ho' w hr.glb hr.u32 hr.dom u v k.2.1 k.2.2.1)) ?_;rintro e w' ⟨u',v',rfl,hb,r1,r2⟩;obtain⟨k1,k2⟩:=rel_below hr hb fun k=>rfl;exact⟨_,γ,M,rfl,k1,⟨[_,_,_],rfl,.lit _,r1,r2,trivial⟩,k2⟩
end Go.Proofs.YtbegidaaiajffaaGreatDoor.Lf
namespace Go.Proofs.YtbegidaaiajffaaGreatDoor.Lf
open Go.RowKit Nt
def simS (n:Nat)(us os:List Af):List Af×List Af:=allS (fun us os=>thD (conS n 60 0) (dupS n 60 0) (deaS n) us os 3) 30 us os
theorem con_1 {L n:Nat}{us os us' os':List Af}(hL:LOk L)(hn':n≤24)(ho':os.length≤24)(q:GS L n us os us' os'):GS L n us os (conS n 60 0 us' os').1 (conS n 60 0 us' os').2∧(conS n 60 0 us' os').1.length≤us'.length∧LV Tryz.prog 34 [.agg (grA n us' os')] (.agg (grA n (conS n 60 0 us' os').1 (conS n 60 0 us' os').2)):=
 ⟨conS_gs hL 60 0 _ _ q,(conS_gs hL 60 0 _ _ (GS.refl q.gk)).ul,lx_constants hL q.gk hn' (by rw[q.ol];exact ho')⟩
theorem dup_1 {L n:Nat}{us os us' os':List Af}(hL:LOk L)(hn':n≤24)(ho':os.length≤24)(q:GS L n us os us' os'):GS L n us os (dupS n 60 0 us' os').1 (dupS n 60 0 us' os').2∧(dupS n 60 0 us' os').1.length≤us'.length∧LV Tryz.prog 35 [.agg (grA n us' os')] (.agg (grA n (dupS n 60 0 us' os').1 (dupS n 60 0 us' os').2)):=
 ⟨dupS_gs hL 60 0 _ _ q,(dupS_gs hL 60 0 _ _ (GS.refl q.gk)).ul,lx_dups hL q.gk hn' (by rw[q.ol];exact ho')⟩
theorem dea_1 {L n:Nat}{us os us' os':List Af}(hL:LOk L)(hn':n≤24)(ho':os.length≤24)(q:GS L n us os us' os'):GS L n us os (deaS n us' os').1 (deaS n us' os').2∧(deaS n us' os').1.length≤us'.length∧LV Tryz.prog 36 [.agg (grA n us' os')] (.agg (grA n (deaS n us' os').1 (deaS n us' os').2)):=
 ⟨q.trans (deaS_gs hL q.gk),(deaS_gs hL q.gk).ul,lx_dead hL q.gk hn' (by rw[q.ol];exact ho')⟩
theorem sim_gs {L n:Nat}{us os:List Af}(hL:LOk L)(h:Gk L n us os)(hn':n≤24)(ho':os.length≤24):GS L n us os (simS n us os).1 (simS n us os).2:=
 allS_gs (fun us' os' q=>(dea_1 hL hn' ho' (dup_1 hL hn' ho' (con_1 hL hn' ho' q).1).1).1) 30 us os (GS.refl h)
theorem lx_simp18 {L n:Nat}{us os:List Af}(hL:LOk L)(h:Gk L n us os)(hn:1≤n)(hn':n≤24)(ho:1≤os.length)(ho':os.length≤24):
  LV Tryz.prog 10 [.agg (grA n us os)] (.agg (grA n (simS n us os).1 (simS n us os).2)):=by
 have ca:=lx_all (D1:=conS n 60 0) (D2:=dupS n 60 0) (D3:=deaS n) h (fun _ _ q=>con_1 hL hn' ho' q) (fun _ _ q=>dup_1 hL hn' ho' q) (fun _ _ q=>dea_1 hL hn' ho' q)
 change LV _ _ _ (.agg (grA n (simS n us os).1 (simS n us os).2))at ca
 refine LX_run (m:=0) (n0:=0) mix Tryz.func10 rfl rfl rfl rfl ?_;conv=>whnf
 refine .l [] (lx_gcopied hL h hn hn' ho ho') ?_;conv=>whnf
 conv=>whnf
 refine Cn.as ca rfl ⟨vR_ _,WkV.of WkA.own,trivial⟩ rfl rfl ?_;conv=>whnf
 exact .q ⟨rfl,rfl⟩
theorem lx_tpoint {m:Mo}(h:MoOk m){raw:List Nat}(hr:RawOk raw):∃x:List Rat,(x.length=m.n∧∀v∈x,Lv m.L 1 v)∧LV Tryz.prog 7 [.agg m.A,.a (.d (bysD raw))] (.a (.d (rqsD x))):=by
 have hs:=h.sh 0 (zL_ _);have hn24:szS m.inp≤24:=hs.sz;have cs:=lx_zsize (s:=m.inp) hs.g;obtain⟨x,⟨h1,h2⟩,cp⟩:=lx_point hr (show szS m.inp≤1000 by omega);refine⟨x,⟨h1,fun v hv=>h.pt (h2 v hv)⟩,?_⟩;refine LX_run (m:=0) (n0:=0) mix Tryz.func7 rfl rfl rfl rfl ?_;conv=>whnf
 refine .c (cs) ?_;conv=>whnf
 refine .c (cp) ?_;conv=>whnf
 exact .q ⟨rfl,rfl⟩
def m18:Mo:=⟨[1],[.dense [((1:Int):Rat),((-1:Int):Rat)] [0,0],.relu,.dense [((1:Int):Rat),((1:Int):Rat)] [0]]⟩
theorem m18_out:m18.out [((-3:Int):Rat)]=[((3:Int):Rat)]:=by decide +kernel
theorem m18_ok:MoOk m18:=by
 refine⟨by decide,fun i hi=> ?_,fun i hi=> ?_,?_,?_,by decide⟩
 ·have:i≤3:=hi;obtain rfl|rfl|rfl|rfl:i=0∨i=1∨i=2∨i=3:=by omega
  ·exact⟨by decide,by decide,by decide,by decide⟩
  ·exact⟨by decide,by decide,by decide,by decide⟩
  ·exact⟨by decide,by decide,by decide,by decide⟩
  ·exact⟨by decide,by decide,by decide,by decide⟩
 ·have:i<3:=hi;obtain rfl|rfl|rfl:i=0∨i=1∨i=2:=by omega
  ·exact⟨by decide,by decide⟩
  ·trivial
  ·exact⟨by decide,by decide⟩
 ·intro l hl q hq;simp only[m18,List.mem_cons,List.not_mem_nil,or_false]at hl;rcases hl with rfl|rfl|rfl
  ·simp[parS]at hq;rcases hq with rfl|rfl|rfl|rfl<;>decide
  ·simp[parS]at hq
  ·simp[parS]at hq;rcases hq with rfl|rfl|rfl<;>decide
 ·intro l hl;simp only[m18,List.mem_cons,List.not_mem_nil,or_false]at hl;rcases hl with rfl|rfl|rfl<;>decide
theorem lx_abs18:LV Tryz.prog 18 [] (.agg m18.A):=by
 refine LX_run (m:=0) (n0:=0) mix Tryz.func18 rfl rfl rfl rfl ?_;conv=>whnf
 refine .c (lx_zof (z:=1) (by decide) (by decide)) ?_;conv=>whnf
 refine .c (lx_zof (z:= -1) (by decide) (by decide)) ?_;conv=>whnf
 conv=>whnf
 exact⟨_,_,⟨rfl,rfl⟩,WkV.agg ⟨WkA.own,WkA.own,trivial⟩,rfl,trivial,rfl⟩
theorem lx_awake18:LV Tryz.prog 5 [] (vl (.bool true)):=by
 have h:=m18_ok;obtain⟨hg,ho,hsat⟩:=h.gk;have hn24:m18.n≤24:=(h.sh 0 (zL_ _)).sz;have hn1:1≤m18.n:=szS_pos (h.sh 0 (zL_ _)).pos;have ho24:m18.os.length≤24:=by rw[ho];exact(h.sh m18.ls.length (lR_ _)).sz
 have ho1:1≤m18.os.length:=by rw[ho];exact szS_pos (h.sh m18.ls.length (lR_ _)).pos
 have hx2:∀v∈[((-3:Int):Rat)],Lv m18.L 1 v:=fun v hv=>by
  rw[List.mem_singleton.1 hv];exact h.pt ⟨by decide,by decide⟩
 have hx1:[((-3:Int):Rat)].length=m18.n:=rfl;have cr:=lx_run h hx2 hx1;have cl:=lx_lower h;have cs:=lx_simp18 h.L hg hn1 hn24 ho1 ho24;have gs:=sim_gs h.L hg hn24 ho24;have c2:=lx_gouts h.L gs.gk hn1 hn24 (by rw[gs.ol];exact ho1) (by rw[gs.ol];exact ho24) hx2 hx1;rw[gs.eq.outs hg gs.gk hx1,h.outs hx1,m18_out]at c2;rw[m18_out]at cr;have csa:=lx_sameall (l:=[((3:Int):Rat)]) (fun q hq=>by rw[List.mem_singleton.1 hq];exact Bt.sz (k:=5) ⟨by decide,by decide⟩ (by decide)) (by decide);clear hsat hg ho;refine LX_run (m:=0) (n0:=0) mix Tryz.func5 rfl rfl rfl rfl ?_;conv=>whnf
 refine .c (lx_abs18) ?_;conv=>whnf
 refine .c (cl) ?_;conv=>whnf
 conv=>whnf
 refine .c (lx_abs18) ?_;conv=>whnf
 refine .c (lx_zof (z:= -3) (by decide) (by decide)) ?_;conv=>whnf
 conv=>whnf
 refine Cn.as cr rfl ⟨vR_ _,WkV.of WkA.own,trivial⟩ rfl rfl ?_;conv=>whnf
 refine .c (cs) ?_;conv=>whnf
 refine .c (lx_zof (z:= -3) (by decide) (by decide)) ?_;conv=>whnf
 conv=>whnf
 refine Cn.as c2 rfl ⟨vR_ _,WkV.of WkA.own,trivial⟩ rfl rfl ?_;conv=>whnf
 refine .c (lx_zof (z:=3) (by decide) (by decide)) ?_;conv=>whnf
 conv=>whnf
 refine Cn.as csa rfl ⟨vR_ _,WkV.of WkA.own,trivial⟩ rfl rfl ?_;conv=>whnf
 refine Cn.as csa rfl ⟨vR_ _,WkV.of WkA.own,trivial⟩ rfl rfl ?_;conv=>whnf
 exact .q ⟨rfl,rfl⟩
open Go.ChangeShapes Go.WideShapes
theorem wfu8 {n:Int}(h:(Lit.int .u8 n).wf=true):0≤n∧n<256:=by
 simp[Lit.wf,IntKind.min,IntKind.max,IntKind.signed,IntKind.bits]at h;omega
theorem bulk_one {H:Type}(d:DataW H):1≤Rows.uptoBulk d:=by
 cases d with
 |lit l=>cases l<;>simp[Rows.uptoBulk]
 |nil=>simp[Rows.uptoBulk]
 |ptr d=>simp[Rows.uptoBulk]
 |slice elems spare=>simp[Rows.uptoBulk]
 |agg parts=>simp[Rows.uptoBulk]
 |iface t d=>simp[Rows.uptoBulk]
 |map entries=>simp[Rows.uptoBulk]
 |held h=>simp[Rows.uptoBulk]
theorem bulk_part {H:Type}{d:DataW H}{l:List (DataW H)}(h:d∈l):Rows.uptoBulk d≤Rows.uptoBulkAll l:=by
 induction l with
 |nil=>cases h
 |cons x r ih=>
  simp only[Rows.uptoBulkAll]
  cases List.mem_cons.1 h with
  |inl e=>subst e;omega
  |inr e=>have:=ih e;omega
theorem bulk_len {H:Type}(l:List (DataW H)):l.length≤Rows.uptoBulkAll l:=by
 induction l with
 |nil=>simp[Rows.uptoBulkAll]
 |cons x r ih=>have:=bulk_one x;simp only[Rows.uptoBulkAll,List.length_cons];omega
def Cls (w:World)(cs:List Value)(row:List D):Prop:=All2 (fun d v=>v.oneCell'=true∧RdD M0 w d v) row cs
section
variable {H:Type} {enc:TypeId×Value→H} {w:World} {base:Nat} {held:Bool}
noncomputable abbrev Tro (H:Type) (enc:TypeId×Value→H) (w:World) (base:Nat) (held:Bool) (fuel:Nat) (t:TypeId) (cs:List Value):=DataW.trod enc Tryz.prog w base (fun _=>true) held fuel t cs
theorem sl_len {w:World}{a:Option Addr}{n c:Nat}{xs:List Nat}(h:Sl w (.slice a n c) xs):xs.length=n:=by
 obtain⟨_,_,_,e,h,_⟩:=h;injection e with _ e _;rw[h,e]
theorem row_of_read {H:Type}{enc:TypeId×Value→H}{w:World}{base:Nat}{held:Bool}{fuel:Nat}{c:Value}{y:DataW H×List MemPlace}
  (h:DataW.trod enc Tryz.prog w base (fun _=>true) held fuel 54 [c]=some y):∃a n k,c= .slice a n k∧Row w (.slice a n k) n:=by
 rcases open_ints Tryz.underlying54 Tryz.underlying188 (by kernel_rfl) h with⟨hcs,_⟩|⟨x,l,c',zs,hcs,_,hl,hm,hz,_,hcell,hwz⟩
 ·injection hcs with h1 _;subst h1;exact⟨_,_,_,rfl,fun hn=>is_of_row hn (Or.inl ⟨rfl,rfl,rfl,rfl⟩)⟩
 ·injection hcs with h1 _;subst h1;exact⟨_,_,_,rfl,fun hn=>is_of_row hn (Or.inr ⟨x,rfl,hl,hm,by simpa using hz,hcell,hwz⟩)⟩
theorem at_nat {fuel:Nat}{cs:List Value}{y:DataW H×List MemPlace}(h:Tro H enc w base held fuel 54 cs=some y)(hb:Rows.uptoBulk y.1≤1048576):∃xs v,cs=[v]∧v.oneCell'=true∧RdD M0 w (.lm xs) v∧lims xs∧xs.length≤1048576:=by
 have h':=h;rcases Deep.open_slice Tryz.underlying54 h with⟨rfl,rfl⟩|⟨a,len,cap,m,n,D,Pl,rfl,hb1,hl,hm,hmm,rfl,hx⟩
 ·obtain⟨a,n,k,e,hr⟩:=row_of_read h';injection e with e1 e2 e3;subst e2;obtain⟨xs,h1,h2⟩:=hr (by decide);exact⟨xs,_,rfl,rfl,by rw[←e1,←e3]at h1;exact .lm _ _ h1 (fun _ _ _ _ _ _ _ h=>h),h1.lims,by have:=sl_len h1;omega⟩
 ·obtain⟨a',n',k',e,hr⟩:=row_of_read h';injection e with e1 e2 e3;subst e2;have:len≤1048576:=by
   have:=bulk_len ((List.range len).map D);simp only[Rows.uptoBulk,List.length_map,List.length_range]at hb this;omega
  obtain⟨xs,h1,h2⟩:=hr (by omega);exact⟨xs,_,rfl,rfl,by rw[←e1,←e3]at h1;exact .lm _ _ h1 (fun _ _ _ _ _ _ _ h=>h),h1.lims,by have:=sl_len h1;omega⟩
theorem at_int {fuel:Nat}{cs:List Value}{y:DataW H×List MemPlace}(h:Tro H enc w base held fuel 3 cs=some y):∃z,cs=[.int .i64 z]:=by
 obtain⟨z,e,_⟩:=DataW.trod_int Tryz.underlying3 h;exact⟨z,e⟩
theorem at_bool {fuel:Nat}{cs:List Value}{y:DataW H×List MemPlace}(h:Tro H enc w base held fuel 4 cs=some y):∃z,cs=[.bool z]:=by
 obtain⟨z,e,_⟩:=DataW.trod_bool Tryz.underlying4 h;exact⟨z,e⟩
theorem get_of {α:Type}{l:List α}{i:Nat}{x:Option α}(h:x=l[i]?)(hi:i<l.length):x=some l[i]:=by rw[h,List.getElem?_eq_getElem hi]
theorem bulk_agg {xs:List (DataW H×List MemPlace)}{i:Nat}(hi:i<xs.length)(hb:Rows.uptoBulk (.agg (xs.map (·.1)))≤1048576):Rows.uptoBulk xs[i].1≤1048576:=by
 have:=bulk_part (d:=xs[i].1) (l:=xs.map (·.1)) (List.mem_map.2 ⟨xs[i],List.getElem_mem hi,rfl⟩);simp only[Rows.uptoBulk]at hb;omega
theorem at_rat {fuel:Nat}{cs:List Value}{y:DataW H×List MemPlace}(h:Tro H enc w base held fuel 56 cs=some y)(hb:Rows.uptoBulk y.1≤1048576):∃x:Rw,Cls w cs x.D∧lims x.n∧lims x.d∧x.sm:=by
 obtain⟨xs,n,_,rfl,hl,hn,hf⟩:=DataW.trod_struct Tryz.underlying56 h;have hn3:xs.length=3:=hn;have hl3:cs.length=3:=by rw[hl];kernel_rfl
 obtain⟨c0,c1,c2,rfl⟩:∃c0 c1 c2,cs=[c0,c1,c2]:=by
  match cs,hl3 with
  |[c0,c1,c2],_=>exact⟨_,_,_,rfl⟩
 have f0:Tro H enc w base held n 4 (([c0,c1,c2].drop 0).take (Tryz.prog.cellsOf 4))=some (xs[0]'(by omega)):=get_of (hf 0 _ rfl) (by omega);have f1:Tro H enc w base held n 54 (([c0,c1,c2].drop 1).take (Tryz.prog.cellsOf 54))=some (xs[1]'(by omega)):=get_of (hf 1 _ rfl) (by omega);have f2:Tro H enc w base held n 54 (([c0,c1,c2].drop 2).take (Tryz.prog.cellsOf 54))=some (xs[2]'(by omega)):=get_of (hf 2 _ rfl) (by omega);have z1:Tryz.prog.cellsOf 4=1:=by kernel_rfl
 have z2:Tryz.prog.cellsOf 54=1:=by kernel_rfl
 simp only[z1,z2]at f0 f1 f2;obtain⟨b,e0⟩:=at_bool f0;obtain⟨us,v1,e1,o1,r1,l1,m1⟩:=at_nat f1 (bulk_agg (by omega) hb);obtain⟨vs,v2,e2,o2,r2,l2,m2⟩:=at_nat f2 (bulk_agg (by omega) hb);simp at e0 e1 e2;subst e0 e1 e2;exact⟨⟨b,us,vs⟩,⟨⟨rfl,.lit _⟩,⟨o1,r1⟩,⟨o2,r2⟩,trivial⟩,l1,l2,by show us.length≤_;omega,by show vs.length≤_;omega⟩
theorem all2_get {α β:Type}{R:α→β→Prop}{xs:List α}{ys:List β}(h:All2 R xs ys){j:Nat}{x:α}(hx:xs[j]? =some x):∃y,ys[j]? =some y∧R x y:=All2.get h hx
theorem at_slice {t e:TypeId}{k:Nat}{α:Type}{f:α→List D}{Q:α→Prop}{fuel:Nat}{cs:List Value}{y:DataW H×List MemPlace}(ht:Tryz.prog.underlying t=some (.slice e))(hk:Tryz.prog.cellsOf e=k)(hk0:0<k)(hfk:∀a,(f a).length=k)
  (hel:∀(n:Nat) (cs:List Value) (y:DataW H×List MemPlace),Tro H enc w base held n e cs=some y→Rows.uptoBulk y.1≤1048576→∃a:α,Cls w cs (f a)∧Q a)
  (h:Tro H enc w base held fuel t cs=some y) (hb:Rows.uptoBulk y.1≤1048576):∃(l:List α) (v:Value),cs=[v]∧v.oneCell'=true∧RdD M0 w (.sl k (l.map f)) v∧l.length≤1048576∧∀a∈l,Q a:=by
 rcases Deep.open_slice ht h with⟨rfl,rfl⟩|⟨a,len,cap,m,n,D,Pl,rfl,hb1,hl,hm,hmm,rfl,hx⟩
 ·exact⟨[],_,rfl,rfl,nil_ok k,zL_ _,fun a h=>by cases h⟩
 ·have hlen:len≤1048576:=by
   have:=bulk_len ((List.range len).map D);simp only[Rows.uptoBulk,List.length_map,List.length_range]at hb this;omega
  have hcap:len≤m:=by rw[hmm];simp;exact hl
  have hD:∀i,i<len→Rows.uptoBulk (D i)≤1048576:=fun i hi=>by
   have:=bulk_part (d:=D i) (l:=(List.range len).map D) (List.mem_map.2 ⟨i,List.mem_range.2 hi,rfl⟩);simp only[Rows.uptoBulk]at hb;omega
  have hE:∀i,i<len→∃p:α×List Value,w.cells? base (a.add (i*k)) k=some p.2∧Cls w p.2 (f p.1)∧Q p.1:=fun i hi=>by
   obtain⟨cs',h1,h2⟩:=hx i (by omega);rw[hk]at h1;obtain⟨x,h3,h4⟩:=hel n cs' _ h2 (hD i hi);exact⟨(x,cs'),h1,h3,h4⟩
  rcases eP_ len with h0|h0
  ·subst h0;refine⟨[],_,rfl,rfl,?_,zL_ _,fun a h=>by cases h⟩;exact RdD.sl k [] (some a) cap (fun _ _=> .int .i64 0) (zL_ _) (zL_ _) (fun h=>by cases h) (fun i row h=>by cases h) (fun _ _=>rfl) (fun i row j d h=>by cases h)
  ·obtain⟨p0,_⟩:=hE 0 h0;have:Inhabited (α×List Value):=⟨p0⟩;obtain⟨F,hF⟩:=Deep.choose_lt hE;have hspot:a.spot=none:=by
    obtain⟨hb2,hl2,hc2⟩:=World.cells?_some (hF 0 h0).1;have c0:=hc2 0 hk0;rw[List.getElem?_eq_getElem (by omega)]at c0;have:=World.cell?_spot c0;simpa [Addr.add]using this
   obtain⟨bl,off,spot⟩:=a;simp only at hspot;subst hspot
   have hrow:∀(i:Nat) (row:List Lf.D),(((List.range len).map fun i=>(F i).1).map f)[i]? =some row→i<len∧row=f (F i).1:=fun i row hi=>by
    rw[List.map_map,List.getElem?_map]at hi
    cases hj:(List.range len)[i]? with
    |none=>rw[hj]at hi;cases hi
    |some z=>
     rw[hj]at hi;injection hi with hi;obtain⟨q1,q2⟩:=List.getElem?_eq_some_iff.1 hj;simp at q1 q2;subst q2;exact⟨q1,hi.symm⟩
   have hcl:∀(i:Nat) (row:List Lf.D) (j:Nat) (d:Lf.D),(((List.range len).map fun i=>(F i).1).map f)[i]? =some row→row[j]? =some d→∃v,(F i).2[j]? =some v∧w.cell? ⟨bl,off+i*k+j,none⟩=some v∧v.oneCell'=true∧RdD M0 w d v:=fun i row j d hi hj=>by
    obtain⟨hil,rfl⟩:=hrow i row hi;obtain⟨q1,q2,q3⟩:=hF i hil;obtain⟨v,v1,v2,v3⟩:=all2_get q2 hj;have hjk:j<k:=by have:=at_lt hj;rw[hfk]at this;exact this
    obtain⟨_,_,hc2⟩:=World.cells?_some q1;have:=hc2 j hjk;rw[v1,Addr.add_lit,Addr.add_lit]at this;exact⟨v,v1,this,v2,v3⟩
   refine⟨(List.range len).map fun i=>(F i).1,_,rfl,rfl,?_,by simp;omega,fun x hx=> ?_⟩
   ·have hg:=RdD.sl (M:=M0) (w:=w) k (((List.range len).map fun i=>(F i).1).map f) (some ⟨bl,off,none⟩) cap (fun i j=>if((F i).2.getD j (.int .i64 0)).oneCell' then(F i).2.getD j (.int .i64 0)else .int .i64 0) (by simp;exact hl) (by simp;omega) (fun _=>⟨bl,off,rfl,fun i row j d hi hj=> ?_⟩) (fun i row hi=> ?_) (fun i j=> ?_) (fun i row j d hi hj=> ?_)
    ·simpa using hg
    ·obtain⟨v,v1,v2,v3,v4⟩:=hcl i row j d hi hj;have e:(F i).2.getD j (.int .i64 0)=v:=by rw[List.getD_eq_getElem?_getD,v1];rfl
     rw[e,if_pos v3];exact⟨fun h=>h,v2⟩
    ·rw[(hrow i row hi).2];exact hfk _
    ·split
     ·assumption
     ·rfl
    ·obtain⟨v,v1,v2,v3,v4⟩:=hcl i row j d hi hj;have e:(F i).2.getD j (.int .i64 0)=v:=by rw[List.getD_eq_getElem?_getD,v1];rfl
     rw[e,if_pos v3];exact v4
   ·obtain⟨i,hi,rfl⟩:=List.mem_map.1 hx;exact(hF i (List.mem_range.1 hi)).2.2
theorem at_u8 {fuel:Nat}{cs:List Value}{y:DataW H×List MemPlace}(h:Tro H enc w base held fuel 5 cs=some y):∃b:Nat,Cls w cs [.lit (.int .u8 (b:Nat))]∧b<256:=by
 obtain⟨z,e,_,hw⟩:=DataW.trod_int Tryz.underlying5 h;obtain⟨z1,z2⟩:=wfu8 hw;subst e;refine⟨z.toNat,⟨⟨rfl,?_⟩,trivial⟩,by omega⟩;rw[show((z.toNat:Nat):Int)=z by omega];exact .lit _
theorem at_rats' {fuel:Nat}{cs:List Value}{y:DataW H×List MemPlace}(h:Tro H enc w base held fuel 29 cs=some y)(hb:Rows.uptoBulk y.1≤1048576):∃(l:List Rw) (v:Value),cs=[v]∧v.oneCell'=true∧RdD M0 w (.sl 3 (l.map Rw.D)) v∧l.length≤1048576:=by
 obtain⟨l,v,h1,o,h2,h3,h4⟩:=at_slice (f:=Rw.D) (Q:=fun x=>True) Tryz.underlying29 (k:=3) (by kernel_rfl) (by decide) (fun _=>rfl) (fun n cs y h hb=>let ⟨x,h1,h2,h3,h4⟩:=at_rat h hb;⟨x,h1,trivial⟩) h hb;exact⟨l,v,h1,o,h2,h3⟩
theorem at_lay {fuel:Nat}{cs:List Value}{y:DataW H×List MemPlace}(h:Tro H enc w base held fuel 59 cs=some y)(hb:Rows.uptoBulk y.1≤1048576):∃l:RL,Cls w cs l.D∧l.ws.length≤1099511627776∧l.bs.length≤1099511627776:=by
 obtain⟨xs,n,_,rfl,hl,hn,hf⟩:=DataW.trod_struct Tryz.underlying59 h;have hn3:xs.length=9:=hn;have hl3:cs.length=9:=by rw[hl];kernel_rfl
 obtain⟨c0,c1,c2,c3,c4,c5,c6,c7,c8,rfl⟩:∃c0 c1 c2 c3 c4 c5 c6 c7 c8,cs=[c0,c1,c2,c3,c4,c5,c6,c7,c8]:=by
  match cs,hl3 with
  |[c0,c1,c2,c3,c4,c5,c6,c7,c8],_=>exact⟨_,_,_,_,_,_,_,_,_,rfl⟩
 have f0:Tro H enc w base held n 3 (([c0,c1,c2,c3,c4,c5,c6,c7,c8].drop 0).take (Tryz.prog.cellsOf 3))=some (xs[0]'(by omega)):=get_of (hf 0 _ rfl) (by omega);have f1:Tro H enc w base held n 3 (([c0,c1,c2,c3,c4,c5,c6,c7,c8].drop 1).take (Tryz.prog.cellsOf 3))=some (xs[1]'(by omega)):=get_of (hf 1 _ rfl) (by omega);have f2:Tro H enc w base held n 3 (([c0,c1,c2,c3,c4,c5,c6,c7,c8].drop 2).take (Tryz.prog.cellsOf 3))=some (xs[2]'(by omega)):=get_of (hf 2 _ rfl) (by omega);have f3:Tro H enc w base held n 3 (([c0,c1,c2,c3,c4,c5,c6,c7,c8].drop 3).take (Tryz.prog.cellsOf 3))=some (xs[3]'(by omega)):=get_of (hf 3 _ rfl) (by omega);have f4:Tro H enc w base held n 3 (([c0,c1,c2,c3,c4,c5,c6,c7,c8].drop 4).take (Tryz.prog.cellsOf 3))=some (xs[4]'(by omega)):=get_of (hf 4 _ rfl) (by omega);have f5:Tro H enc w base held n 3 (([c0,c1,c2,c3,c4,c5,c6,c7,c8].drop 5).take (Tryz.prog.cellsOf 3))=some (xs[5]'(by omega)):=get_of (hf 5 _ rfl) (by omega);have f6:Tro H enc w base held n 3 (([c0,c1,c2,c3,c4,c5,c6,c7,c8].drop 6).take (Tryz.prog.cellsOf 3))=some (xs[6]'(by omega)):=get_of (hf 6 _ rfl) (by omega);have f7:Tro H enc w base held n 29 (([c0,c1,c2,c3,c4,c5,c6,c7,c8].drop 7).take (Tryz.prog.cellsOf 29))=some (xs[7]'(by omega)):=get_of (hf 7 _ rfl) (by omega);have f8:Tro H enc w base held n 29 (([c0,c1,c2,c3,c4,c5,c6,c7,c8].drop 8).take (Tryz.prog.cellsOf 29))=some (xs[8]'(by omega)):=get_of (hf 8 _ rfl) (by omega);have z1:Tryz.prog.cellsOf 3=1:=by kernel_rfl
 have z2:Tryz.prog.cellsOf 29=1:=by kernel_rfl
 simp only[z1,z2]at f0 f1 f2 f3 f4 f5 f6 f7 f8;obtain⟨k0,e0⟩:=at_int f0;obtain⟨k1,e1⟩:=at_int f1;obtain⟨k2,e2⟩:=at_int f2;obtain⟨k3,e3⟩:=at_int f3;obtain⟨k4,e4⟩:=at_int f4;obtain⟨k5,e5⟩:=at_int f5;obtain⟨k6,e6⟩:=at_int f6;obtain⟨ws,v7,e7,o7,r7,m7⟩:=at_rats' f7 (bulk_agg (by omega) hb);obtain⟨bs,v8,e8,o8,r8,m8⟩:=at_rats' f8 (bulk_agg (by omega) hb);simp at e0 e1 e2 e3 e4 e5 e6 e7 e8;subst e0 e1 e2 e3 e4 e5 e6 e7 e8;exact⟨⟨k0,k1,k2,k3,k4,k5,k6,ws,bs⟩,⟨⟨rfl,.lit _⟩,⟨rfl,.lit _⟩,⟨rfl,.lit _⟩,⟨rfl,.lit _⟩,⟨rfl,.lit _⟩,⟨rfl,.lit _⟩,⟨rfl,.lit _⟩,⟨o7,r7⟩,⟨o8,r8⟩,trivial⟩,by show ws.length≤_;omega,by show bs.length≤_;omega⟩
theorem at_lays {fuel:Nat}{cs:List Value}{y:DataW H×List MemPlace}(h:Tro H enc w base held fuel 23 cs=some y)(hb:Rows.uptoBulk y.1≤1048576):∃(l:List RL) (v:Value),cs=[v]∧RdD M0 w (.sl 9 (rlR l)) v∧l.length≤1048576∧∀x∈l,x.ws.length≤1099511627776∧x.bs.length≤1099511627776:=by
 obtain⟨l,v,h1,_,h2,h3,h4⟩:=at_slice (f:=RL.D) (Q:=fun x=>x.ws.length≤1099511627776∧x.bs.length≤1099511627776) Tryz.underlying23 (k:=9) (by kernel_rfl) (by decide) (fun _=>rfl) (fun n cs y h hb=>at_lay h hb) h hb;exact⟨l,v,h1,h2,h3,h4⟩
theorem at_ints {fuel:Nat}{cs:List Value}{y:DataW H×List MemPlace}(h:Tro H enc w base held fuel 22 cs=some y)(hb:Rows.uptoBulk y.1≤1048576):∃(l:List Int) (v:Value),cs=[v]∧RdD M0 w (inD l) v∧l.length≤1048576:=by
 obtain⟨l,v,h1,_,h2,h3,h4⟩:=at_slice (f:=fun z:Int=>[D.lit (.int .i64 z)]) (Q:=fun _=>True) Tryz.underlying22 (k:=1) (by kernel_rfl) (by decide) (fun _=>rfl) (fun n cs y h hb=>by obtain⟨z,rfl⟩:=at_int h;exact⟨z,⟨⟨rfl,.lit _⟩,trivial⟩,trivial⟩) h hb;exact⟨l,v,h1,h2,h3⟩
theorem at_bytes {fuel:Nat}{cs:List Value}{y:DataW H×List MemPlace}(h:Tro H enc w base held fuel 26 cs=some y)(hb:Rows.uptoBulk y.1≤1048576):∃(l:List Nat) (v:Value),cs=[v]∧RdD M0 w (bysD l) v∧l.length≤1048576∧∀b∈l,b<256:=by
 obtain⟨l,v,h1,_,h2,h3,h4⟩:=at_slice (f:=fun b:Nat=>[D.lit (.int .u8 (b:Nat))]) (Q:=fun b=>b<256) Tryz.underlying26 (k:=1) (by kernel_rfl) (by decide) (fun _=>rfl) (fun n cs y h hb=>at_u8 h) h hb;exact⟨l,v,h1,h2,h3,h4⟩
end
theorem laid_tail {P:Program}{W:World}{x:String×DataW Unit}{rest:List (String×DataW Unit)}(h:laidMet P (x::rest) W):laidMet P rest W:=by
 obtain⟨ps,⟨g',t',cs,fuel,p,q,hg',ht',hvar,hd,h1,h2⟩,hnd,hall⟩:=h
 subst_vars
 exact⟨q,by assumption,(List.nodup_append.1 hnd).2.1,fun b off hm=>hall b off (List.mem_append_right _ hm)⟩
abbrev d32T:List Int:=[0,1,28,2,29,14,24,3,30,22,20,15,25,17,4,8,31,27,13,23,21,19,16,7,26,12,18,6,11,5,10,9]
abbrev d64T:List Int:=[0,1,56,2,57,49,28,3,61,58,42,50,38,29,17,4,62,47,59,36,45,43,51,22,53,39,33,30,24,18,12,5,63,55,48,27,60,41,37,16,46,35,44,21,52,32,23,11,54,26,40,15,34,20,31,10,25,14,19,9,13,8,7,6]
abbrev p10T:List Int:=[1,10,100,1000,10000,100000,1000000,10000000,100000000,1000000000,10000000000,100000000000,1000000000000,10000000000000,100000000000000,1000000000000000,10000000000000000,100000000000000000,1000000000000000000,10000000000000000000]
abbrev laidL:List (String×DataW Unit):=[("math/bits.deBruijn32tab",Rows.laid_math_bits_deBruijn32tab),("math/bits.deBruijn64tab",Rows.laid_math_bits_deBruijn64tab),("internal/strconv.uint64pow10",Rows.laid_internal_strconv_uint64pow10)]
theorem gT0:Tryz.prog.globalNamed "internal/strconv.uint64pow10" =some 0:=by kernel_rfl
theorem gT1:Tryz.prog.globalNamed "math/bits.deBruijn32tab" =some 1:=by kernel_rfl
theorem gT2:Tryz.prog.globalNamed "math/bits.deBruijn64tab" =some 2:=by kernel_rfl
theorem row_tab {g:Nat}{k:IntKind}{zs:List Int}{W:World}(hT:∀j,j<zs.length→W.cell? ⟨g,j,none⟩=some (.int k (zs.getD j 0))){j:Nat}{d:D}(hd:(zs.map fun z=>D.lit (.int k z))[j]? =some d):∃v,Fx M0 W g j v∧RdD M0 W d v:=by
 rw[List.getElem?_map]at hd
 cases hz:zs[j]? with
 |none=>rw[hz]at hd;cases hd
 |some z=>
  rw[hz]at hd;injection hd with hd;subst hd;have:=hT j (at_lt hz);rw[show zs.getD j 0=z by rw[List.getD_eq_getElem?_getD,hz];rfl]at this;exact⟨_,⟨fun h=>h,this⟩,.lit _⟩
theorem glb_of_laid {W:World}(h:laidMetH Tryz.prog laidL W):Glb M0 W:=by
 rw[MakeChecks.laidMetH_plain _ _ _ (by kernel_rfl)]at h;have t1:=Lib.tabIs_of_head (k:= .u8) (zs:=d32T) (W:=W) gT1 (t:=257) (by kernel_rfl) Tryz.underlying257 Tryz.underlying5 (by kernel_rfl) (by kernel_rfl) h;have h2:=laid_tail h;have t2:=Lib.tabIs_of_head (k:= .u8) (zs:=d64T) (W:=W) gT2 (t:=258) (by kernel_rfl) Tryz.underlying258 Tryz.underlying5 (by kernel_rfl) (by kernel_rfl) h2;have h3:=laid_tail h2;have t0:=Lib.tabIs_of_head (k:= .u64) (zs:=p10T) (W:=W) gT0 (t:=249) (by kernel_rfl) Tryz.underlying249 Tryz.underlying137 (by kernel_rfl) (by kernel_rfl) h3;have c0:=fun j (hj:j<p10T.length)=>t0.cell gT0 j hj;have c1:=fun j (hj:j<d32T.length)=>t1.cell gT1 j hj;have c2:=fun j (hj:j<d64T.length)=>t2.cell gT2 j hj;intro g row hg j d hd;unfold GT at hg;split at hg
 ·injection hg with hg;subst hg;exact row_tab c0 hd
 ·injection hg with hg;subst hg;exact row_tab c1 hd
 ·injection hg with hg;subst hg;exact row_tab c2 hd
 ·cases hg
theorem own:ownKnob Tryz.prog.godebug=none:=by kernel_rfl
theorem laidOut:laidOutB Tryz.prog=true:=by kernel_rfl
theorem door_met (os:Os)(args:Array Value):laidMetH Tryz.prog laidL ((World.doorLaid Tryz.prog 400 os).forCall (fun _ _=>0) ⟨#[],args,[]⟩).memory:=
 laidMetH_of_parts3 (fuel:=8) (laidMet_of_run' 8 (by kernel_rfl) (by kernel_rfl)) (by kernel_rfl) (by kernel_rfl)
def apK (Fs:List Af)(f:Af)(k:Nat):Af:=(f.ts.take k).foldl (fun a t=>addS a (scaleS (Fs.getD t.v.toNat z0) t.q)) (numS f.c)
def apF (Fs:List Af)(f:Af):Af:=apK Fs f f.ts.length
theorem apK_succ {Fs:List Af}{f:Af}{k:Nat}{t:Tm}(h:f.ts[k]? =some t):apK Fs f (k+1)=addS (apK Fs f k) (scaleS (Fs.getD t.v.toNat z0) t.q):=by
 unfold apK;rw[take_snoc h,List.foldl_append];rfl
theorem ph_fold {Fs:List Af}{ξ:Int→Rat}:∀(ts:List Tm) (a:Af),ph 1 ξ (ts.foldl (fun a t=>addS a (scaleS (Fs.getD t.v.toNat z0) t.q)) a)=ph 1 ξ a+lsum (fun v=>ph 1 ξ (Fs.getD v.toNat z0)) ts
 |[],a=>by simp[lsum,Rat.add_zero]
 |t::ts,a=>by rw[List.foldl_cons,ph_fold ts,ph_add,ph_scale,lsum];grind
theorem ph_apF {Fs:List Af}{f:Af}{ξ:Int→Rat}:ph 1 ξ (apF Fs f)=ph 1 (fun v=>ph 1 ξ (Fs.getD v.toNat z0)) f:=by
 unfold apF apK;rw[List.take_length,ph_fold,ph_num,ph];grind
def pfA (n:Nat)(us:List Af)(phs:List Int):Nat→List Af
 |0=>(List.range n).map fun(i:Nat)=>varS (i:Int)
 |j+1=>pfA n us phs j++[if phs.getD j 0=2 then numS 0 else apF (pfA n us phs j) (us.getD j z0)]
def pfU (n:Nat)(us:List Af)(phs:List Int)(j:Nat):Af:=apF (pfA n us phs j) (us.getD j z0)
def pfP (n:Nat)(us:List Af)(phs:List Int)(j:Nat):List Af:=(List.range j).map (pfU n us phs)
def pfR (n:Nat)(us:List Af)(phs:List Int)(j:Nat):Af:=if phs.getD j 0=2 then scaleS (pfU n us phs j) (-1)else pfU n us phs j
theorem pfA_len {n:Nat}{us:List Af}{phs:List Int}:∀j,(pfA n us phs j).length=n+j
 |0=>by simp[pfA]
 |j+1=>by rw[pfA,List.length_append,pfA_len j];rfl
theorem ph_z0 {ξ:Int→Rat}:ph 1 ξ z0=0:=by
 have:=ph_num (κ:=1) (ξ:=ξ) (c:=0);rw[Rat.mul_zero]at this;exact this
theorem getD_ph {Fs:List Af}{ξ:Int→Rat}{i:Nat}:ph 1 ξ (Fs.getD i z0)=(Fs.map (ph 1 ξ)).getD i 0:=by
 rw[List.getD_eq_getElem?_getD,List.getD_eq_getElem?_getD,List.getElem?_map]
 cases Fs[i]? with
 |none=>exact ph_z0
 |some f=>rfl
theorem pfU_val {n:Nat}{us:List Af}{phs:List Int}{x:List Rat}{j:Nat}(h:(pfA n us phs j).map (ph 1 (xi x))=gv us x j):ph 1 (xi x) (pfU n us phs j)=ph 1 (xi (gv us x j)) (us.getD j z0):=by
 rw[pfU,ph_apF]
 congr 1
 funext v
 rw[getD_ph,h];rfl
theorem pf_val {n:Nat}{us:List Af}{phs:List Int}{x:List Rat}(hx:x.length=n):∀j,(∀i,i<j→0≤ph 1 (xi x) (pfR n us phs i))→(pfA n us phs j).map (ph 1 (xi x))=gv us x j
 |0,_=>by
  subst hx;rw[pfA,gv,List.map_map];apply List.ext_getElem
  ·simp
  ·intro i h1 h2;simp only[List.getElem_map,List.getElem_range,Function.comp_apply,ph_var,xi];rw[Int.toNat_natCast,List.getD_eq_getElem?_getD,List.getElem?_eq_getElem h2];rfl
 |j+1,h=>by
  have ih:=pf_val hx j fun i hi=>h i (by omega);have hj:=h j (Nat.lt_succ_self j);have hv:=pfU_val ih;rw[pfA,gv,List.map_append,ih]
  congr 1
  rw[List.map_cons,List.map_nil]
  congr 1
  rw[pfR]at hj;split at hj
  ·rename_i h2;rw[ph_scale,hv]at hj;rw[if_pos h2,ph_num,maxQ];split
   ·rename_i h3;rw[Rat.mul_zero]
   ·rename_i h3;have:ph 1 (xi (gv us x j)) (us.getD j z0)=0:=by grind
    rw[this,Rat.mul_zero]
  ·rename_i h2;rw[if_neg h2];show ph 1 (xi x) (pfU n us phs j)=_;rw[hv]at hj ⊢;rw[maxQ];split
   ·rename_i h3;grind
   ·rfl
theorem apK_lw {L E K E' K':Nat}{n m:Int}{f:Af}{Fs:List Af}(hL:LOk L)(hf:FLv L 340 8300 m f)(hF:∀g∈Fs,FLv L E K n g)(hm:m≤Fs.length)(h1:340+E≤E')(h2:8300≤K')(h3:340+K≤K'):
  ∀k,k≤f.ts.length→Ts n (apK Fs f k)∧(∀w,Lw L E' k (cof (apK Fs f k).ts w))∧Lw L K' (k+1) (apK Fs f k).c
 |0,_=>⟨trivial,fun w=>⟨0,by simp[apK,numS,cof,Rat.zero_mul],zL_ _⟩,(hf.c.mono hL h2).w⟩
 |k+1,hk=>by
  obtain⟨t,ht⟩:=at_some (l:=f.ts) (i:=k) (by omega);obtain⟨i1,i2,i3⟩:=apK_lw hL hf hF hm h1 h2 h3 k (by omega);obtain⟨c1,c2,c3,c4⟩:=hf.ts.cof_mem t (mG_ ht);have hq:=hf.co t.v;rw[c1]at hq;obtain⟨g,hg⟩:=at_some (l:=Fs) (i:=t.v.toNat) (by omega);have hgl:=hF g (mG_ hg);have hs:=hgl.scale hq;rw[apK_succ ht,getD_of hg];refine⟨ok_fold (fun u hu=>let ⟨k1,k2,k3,k4⟩:=hs.ts.cof_mem u hu;⟨k2,k3⟩) i1,fun w=> ?_,?_⟩
  ·rw[addS,cof_fold];exact(i2 w).add ((hs.co w).mono hL (by omega)).w
  ·exact i3.add ((hs.c).mono hL (by omega)).w
theorem apK_fl {L E K E' K':Nat}{n m:Int}{f:Af}{Fs:List Af}(hL:LOk L)(hf:FLv L 340 8300 m f)(hF:∀g∈Fs,FLv L E K n g)(hm:m≤Fs.length)(hl:f.ts.length≤1000)(h1:341+E≤E')(h2:8301≤K')(h3:341+K≤K')(k:Nat)(hk:k≤f.ts.length):FLv L E' K' n (apK Fs f k):=by
 obtain⟨E',rfl⟩:∃e,E'=e+1:=⟨E'-1,by omega⟩;obtain⟨K',rfl⟩:∃e,K'=e+1:=⟨K'-1,by omega⟩;obtain⟨i1,i2,i3⟩:=apK_lw hL hf hF hm (show 340+E≤E' by omega) (show 8300≤K' by omega) (show 340+K≤K' by omega) k hk;exact⟨i1,fun w=>(i2 w).up hL (by omega),i3.up hL (by omega)⟩
theorem lx_apply {L E K:Nat}{n m:Nat}{f:Af}{Fs:List Af}(hL:LOk L)(hf:FLv L 340 8300 (m:Nat) f)(hF:∀g∈Fs,FLv L E K (n:Nat) g)(hm:m≤Fs.length)(hFl:Fs.length≤1000)(hn:n≤1000)(hE:E≤15600)(hK:K≤15600):
  LV Tryz.prog 45 [.agg f.A,.a (.d (afsD Fs))] (.agg (apF Fs f).A):=by
 have hlen:=hf.ts.len (Int.natCast_nonneg _);have hb:∀k,k≤f.ts.length→FB (30000*16000) (n:Nat) (apK Fs f k):=fun k hk=>(apK_fl (E':=16000) (K':=16000) hL hf hF (by omega) (by omega) (by omega) (by omega) (by omega) k hk).fb hL (lR_ _) (lR_ _);refine LX_run (m:=0) (n0:=0) mix Tryz.func45 rfl rfl rfl rfl ?_;conv=>whnf
 refine .mk Nat (fun k=>⟨[(14,vl (.int .i64 (k:Nat))),(13,vl (.int .i64 (f.ts.map Tm.D).length)),(12,.a (.d (.sl 4 (f.ts.map Tm.D)))),(5,.a (.ptr 2 0)),(4,.a (.ptr 1 0)),(1,.a (.d (afsD Fs)))],
  [(2,.box 79 (apK Fs f k).A),(1,.box 79 [.d (.lit (.slice none 0 0)),.d (.lit (.bool false)),.d (.nat 0),.d (.nat 0)])],3⟩) (fun k=>k≤f.ts.length) (fun k=>f.ts.length-k) 0
  (Wk.go (h2:=⟨⟨_,rfl,⟨_,rfl,WkA.nil,aR_ _,aR_ _,aR_ _,trivial⟩,rfl⟩,⟨_,rfl,wke_refl _,rfl⟩,trivial⟩)) (zL_ _) fun k hk=> ?_
 have hbk:=hb k hk;conv=>whnf
 refine bs (fun g0=> ?_) (fun g0=> ?_)
 ·conv=>whnf
  have hk':k<f.ts.length:=by simpa using g0
  obtain⟨t,ht⟩:=at_some hk';obtain⟨c1,c2,c3,c4⟩:=hf.ts.cof_mem t (mG_ ht);have hq:=hf.co t.v;rw[c1]at hq;have es:=apK_succ (Fs:=Fs) ht;obtain⟨tv,tq⟩:=t;simp only at c1 c2 c3 c4 hq es;obtain⟨j,rfl⟩:∃j:Nat,tv=j:=⟨tv.toNat,by omega⟩;rw[Int.toNat_natCast]at es;obtain⟨g,hg⟩:=at_some (l:=Fs) (i:=j) (by omega);have hgl:=hF g (mG_ hg);have hgb:=hgl.fb (m:=15600) hL hE hK;have hqb:=(hq.mono hL (lR_ _)).bt hL;have hsb:=((hgl.scale hq).fb (m:=16000) hL (by omega) (by omega));rw[getD_of hg]at es;have cs:=pl_scale hgb hqb (Int.natCast_nonneg _) (by omega) (by omega);have ca:=pl_add hbk hsb (Int.natCast_nonneg _) (by omega) (by omega);rw[←es]at ca;refine .mk (k) ((Tm.D ⟨(j:Int),tq⟩)) (rfl) (at_map ht) ?_;conv=>whnf
  conv=>whnf
  refine .mk (j) (g.D) (rfl) (at_map hg) ?_;conv=>whnf
  conv=>whnf
  refine .c (cs) ?_;conv=>whnf
  refine .c (ca) ?_;conv=>whnf
  refine .mk (by kernel_rfl) ?_;conv=>whnf
  exact⟨k+1,Wk.go,hk',by omega⟩
 ·conv=>whnf
  have ek:k=f.ts.length:=by have:¬k<f.ts.length:=by simpa using g0
                            omega
  subst ek;exact .q ⟨rfl,rfl⟩
theorem lx_decided81 {z:Int}(h:z=1∨z=2):LV Tryz.prog 81 [vl (.int .i64 z)] (vl (.bool true)):=by
 rcases h with rfl|rfl
 ·refine LX_run (m:=0) (n0:=0) mix Tryz.func81 rfl rfl rfl rfl ?_;conv=>whnf
  exact .q ⟨rfl,rfl⟩
 ·refine LX_run (m:=0) (n0:=0) mix Tryz.func81 rfl rfl rfl rfl ?_;conv=>whnf
  exact .q ⟨rfl,rfl⟩
theorem lx_pcomplete {L n:Nat}{us os:List Af}{phs:List Int}(hL:LOk L)(h:Gk L n us os)(hn:1≤n)(hn':n≤24)(ho:1≤os.length)(ho':os.length≤24)(hp:phs.length=us.length)(hd:∀z∈phs,z=1∨z=2):
  LV Tryz.prog 43 [.agg (grA n us os),.a (.d (inD phs))] (vl (.bool true)):=by
 have hu:=h.u;refine LX_run (m:=0) (n0:=0) mix Tryz.func43 rfl rfl rfl rfl ?_;conv=>whnf
 refine .c (lx_gvalid (h.ok hL hn hn' ho ho')) ?_;conv=>whnf
 refine bF (by simp[hp]) ?_;conv=>whnf
 refine .mk Nat (fun k=>⟨[(20,vl (.int .i64 (k:Nat))),(19,vl (.int .i64 (inR phs).length)),(18,.a (.d (inD phs)))],[],1⟩) (fun k=>k≤phs.length) (fun k=>phs.length-k) 0 Wk.go (zL_ _) fun k hk=> ?_;conv=>whnf
 refine bs (fun g0=> ?_) (fun g0=> ?_)
 ·conv=>whnf
  have hk':k<phs.length:=by simpa using g0
  obtain⟨z,hz⟩:=at_some hk';refine .mk (k) ([D.lit (.int .i64 z)]) (rfl) (at_map hz) ?_;conv=>whnf
  conv=>whnf
  refine .c (lx_decided81 (hd z (mG_ hz))) ?_;conv=>whnf
  conv=>whnf
  exact⟨k+1,Wk.go,hk',by omega⟩
 ·conv=>whnf
  exact .q ⟨rfl,rfl⟩
theorem pfA_fl {L n:Nat}{us os:List Af}{phs:List Int}(hL:LOk L)(h:Gk L n us os)(hn':n≤24):∀j,j≤us.length→∀g∈pfA n us phs j,FLv L (1+341*j) (8400+341*j) (n:Nat) g
 |0,_,g,hg=>by
  obtain⟨i,hi,rfl⟩:=List.mem_map.1 hg;have:=List.mem_range.1 hi;exact FLv.var hL (Int.natCast_nonneg _) (by omega) (by omega)
 |j+1,hj,g,hg=>by
  have hu:=h.u;have ih:=pfA_fl hL h hn' (phs:=phs) j (by omega);obtain⟨f,hf⟩:=at_some (l:=us) (i:=j) (by omega);have hfl:=h.uf' hL hf;have hlen:=hfl.ts.len (Int.natCast_nonneg _);rw[pfA]at hg;rcases List.mem_append.1 hg with hg|hg
  ·exact(ih g hg).mono hL (by omega) (by omega) (Int.le_refl _)
  ·rw[List.mem_singleton.1 hg,getD_of hf];split
   ·exact FLv.num Lv.zero
   ·exact apK_fl hL hfl ih (by rw[pfA_len];omega) (by omega) (by omega) (by omega) (by omega) _ (lR_ _)
theorem pfU_fl {L n j:Nat}{us os:List Af}{phs:List Int}(hL:LOk L)(h:Gk L n us os)(hn':n≤24)(hj:j<us.length):FLv L (1+341*(j+1)) (8400+341*(j+1)) (n:Nat) (pfU n us phs j):=by
 have hu:=h.u;obtain⟨f,hf⟩:=at_some hj;have hfl:=h.uf' hL hf;have hlen:=hfl.ts.len (Int.natCast_nonneg _);rw[pfU,getD_of hf];exact apK_fl hL hfl (pfA_fl hL h hn' j (by omega)) (by rw[pfA_len];omega) (by omega) (by omega) (by omega) (by omega) _ (lR_ _)
abbrev afW (l:List Af):List (List D):=l.map Af.D
def inVs (i:Nat):List Af:=(List.range i).map fun(i:Nat)=>varS (i:Int)
theorem inVs_succ {i:Nat}:inVs (i+1)=inVs i++[varS (i:Int)]:=by simp[inVs,List.range_succ]
theorem pfP_succ {n j:Nat}{us:List Af}{phs:List Int}:pfP n us phs (j+1)=pfP n us phs j++[pfU n us phs j]:=by simp[pfP,List.range_succ]
abbrev zD:List D:=[.lit (.slice none 0 0),.lit (.bool false),.lm (limbs 0),.lm (limbs 0)]
theorem all2_back {α β:Type}{R:α→β→Prop}:∀{xs:List α} {ys:List β},All2 R xs ys→xs.length=ys.length∧∀(i:Nat) y,ys[i]? =some y→∃x,xs[i]? =some x∧R x y
 |[],[],_=>⟨rfl,fun i y h=>by simp at h⟩
 |x::xs,y::ys,h=>⟨by rw[List.length_cons,List.length_cons,(all2_back h.2).1],fun i z hz=>by
  cases i with
  |zero=>injection hz with hz;subst hz;exact⟨x,rfl,h.1⟩
  |succ i=>exact(all2_back h.2).2 i z hz⟩
 |[],_::_,h=>h.elim
 |_::_,[],h=>h.elim
theorem WkA.ownD {key k:Nat}{xs ys:List (List D)}(h:All2 (All2 WkD) xs ys):WkA (.own key k xs) (.own key k ys):=fun γ hp M w r ⟨q1,q2,q3⟩=>by
 obtain⟨hl,hb⟩:=all2_back h;refine⟨?_,q2,fun e k' n he=>hl▸q3 e k' n he⟩
 cases q1 with
 |sl k xs ad cap vs hc hlm h0 hk h1 hr=>
  rw[hl]
  have hrow:∀(i j:Nat) row d,ys[i]? =some row→row[j]? =some d→∃row' d',xs[i]? =some row'∧row'[j]? =some d'∧WkD d' d:=fun i j row d hi hj=>by
   obtain⟨row',e1,e2⟩:=hb i row hi;obtain⟨d',e3,e4⟩:=(all2_back e2).2 j d hj;exact⟨row',d',e1,e3,e4⟩
  refine .sl k ys ad cap vs (hl▸hc) (hl▸hlm) (fun hp=> ?_) (fun i row hi=> ?_) h1 fun i row j d hi hj=> ?_
  ·obtain⟨b,o,e,hf⟩:=h0 (hl▸hp);refine⟨b,o,e,fun i row j d hi hj=> ?_⟩;obtain⟨row',d',e1,e2,_⟩:=hrow i j row d hi hj;exact hf i row' j d' e1 e2
  ·obtain⟨row',e1,e2⟩:=hb i row hi;rw[←(all2_back e2).1];exact hk i row' e1
  ·obtain⟨row',d',e1,e2,e3⟩:=hrow i j row d hi hj;exact e3 _ _ _ (hr i row' j d' e1 e2)
theorem WkD.nil {k:Nat}:WkD (.lit (.slice none 0 0)) (.sl k []):=fun _ _ _ q=>by rw[lit_inv q];exact nil_ok k
theorem all2_snoc {α β:Type}{R:α→β→Prop}{x:α}{y:β}(h:R x y):∀{xs:List α} {ys:List β},All2 R xs ys→All2 R (xs++[x]) (ys++[y])
 |[],[],_=>⟨h,trivial⟩
 |_::_,_::_,q=>⟨q.1,all2_snoc h q.2⟩
 |[],_::_,q=>q.elim
 |_::_,[],q=>q.elim
theorem afW_succ {n j:Nat}{us:List Af}{phs:List Int}:afW (pfP n us phs (j+1))=afW (pfP n us phs j)++[(pfU n us phs j).D]:=by rw[pfP_succ,afW,List.map_append];rfl
theorem pfA_two {n j:Nat}{us:List Af}{phs:List Int}(h:phs.getD j 0=2):pfA n us phs (j+1)=pfA n us phs j++[numS 0]:=by rw[pfA,if_pos h]
theorem pfA_one {n j:Nat}{us:List Af}{phs:List Int}(h:phs.getD j 0≠2):pfA n us phs (j+1)=pfA n us phs j++[pfU n us phs j]:=by rw[pfA,if_neg h];rfl
theorem lx_pforms {L n:Nat}{us os:List Af}{phs:List Int}(hL:LOk L)(h:Gk L n us os)(hn':n≤24)(hp:phs.length=us.length):
  LX Tryz.prog 44 [.agg (grA n us os),.a (.d (inD phs))] [] fun v H=>v= .tup [.s (.own 0 4 (afW (pfA n us phs us.length))),.s (.own 1 4 (afW (pfP n us phs us.length)))]∧
   H=[(0,.arr 79 4 (afW (pfA n us phs us.length)).length),(1,.arr 79 4 (afW (pfP n us phs us.length)).length)]:=by
 have hu:=h.u;refine LX_run (m:=0) (n0:=2) mix Tryz.func44 rfl rfl rfl rfl ?_;conv=>whnf
 refine .mk Nat (fun i=>⟨[(12,vl (.int .i64 (i:Nat))),(11,vl (.int .i64 (n:Nat))),(4,.a (.own 0 4 (afW (inVs i)))),(5,.a (.d (.lit (.slice none 0 0)))),(2,.a (.ptr 2 0)),(1,.a (.d (inD phs)))],
  [(2,.box 36 (grA n us os)),(0,.arr 79 4 (afW (inVs i)).length)],3⟩) (fun i=>i≤n) (fun i=>n-i) 0
  (Wk.trans (Wk.own 4 0 79 4 rfl rfl (zL_ _)) Wk.go) (zL_ _) fun i hi=> ?_
 conv=>whnf
 refine bs (fun g0=> ?_) (fun g0=> ?_)
 ·conv=>whnf
  have hi':i<n:=by simpa using g0
  refine .c (lx_rof (z:=1) (by decide) (by decide)) ?_;conv=>whnf
  refine .mk (afW (inVs (i+1))) rfl (by rw[inVs_succ,afW,List.map_append];rfl) (by simp[inVs];omega) ?_;conv=>whnf
  exact⟨i+1,Wk.go,hi',by omega⟩
 ·conv=>whnf
  have ei:i=n:=by have:¬i<n:=by simpa using g0
                  omega
  rw[ei]
  refine .mk Nat (fun j=>⟨[(27,vl (.int .i64 (j:Nat))),(26,vl (.int .i64 (us.map Af.D).length)),(25,.a (.d (afsD us))),(4,.a (.own 0 4 (afW (pfA n us phs j)))),(5,.a (.own 1 4 (afW (pfP n us phs j)))),(1,.a (.d (inD phs)))],
   [(0,.arr 79 4 (afW (pfA n us phs j)).length),(1,.arr 79 4 (afW (pfP n us phs j)).length)],3⟩) (fun j=>j≤us.length) (fun j=>us.length-j) 0
   (Wk.trans (Wk.own 5 1 79 4 rfl rfl (zL_ _)) Wk.go) (zL_ _) fun j hj=> ?_
  conv=>whnf
  refine bs (fun g1=> ?_) (fun g1=> ?_)
  ·conv=>whnf
   have hj':j<us.length:=by simpa using g1
   obtain⟨f,hf⟩:=at_some hj';obtain⟨z,hz⟩:=at_some (l:=phs) (i:=j) (by omega);have hpz:phs.getD j 0=z:=getD_of hz;have hlA:=pfA_len (n:=n) (us:=us) (phs:=phs) j;have ca:=lx_apply (n:=n) (m:=n+j) hL (h.uf' hL hf) (pfA_fl hL h hn' (phs:=phs) j (by omega)) (by omega) (by omega) (by omega) (by omega) (by omega);have eU:apF (pfA n us phs j) f=pfU n us phs j:=by rw[pfU,getD_of hf]
   rw[eU]at ca;refine .mk (j) (f.D) (rfl) (at_map hf) ?_;conv=>whnf
   conv=>whnf
   refine .c (ca) ?_;conv=>whnf
   refine .mk (afW (pfP n us phs (j+1))) rfl afW_succ (by simp[pfP];omega) ?_;conv=>whnf
   refine .mk (j) ([D.lit (.int .i64 z)]) (rfl) (at_map hz) ?_;conv=>whnf
   conv=>whnf
   refine bs (fun g2=> ?_) (fun g2=> ?_)
   ·conv=>whnf
    have h2:z=2:=by simpa using g2
    have hv:=pfA_two (n:=n) (us:=us) (hpz.trans h2);have hlen:(afW (pfA n us phs j)++[zD]).length=(afW (pfA n us phs (j+1))).length:=by rw[hv];simp
    refine .mk (afW (pfA n us phs j)++[zD]) rfl rfl (by simp[hlA];omega) ?_;conv=>whnf
    refine⟨j+1,?_,hj',by omega⟩;rw[hlen];have hwk:WkA (.own 0 4 (afW (pfA n us phs j)++[zD])) (.own 0 4 (afW (pfA n us phs (j+1)))):=by
     refine WkA.ownD ?_;rw[hv,show afW (pfA n us phs j++[numS 0])=afW (pfA n us phs j)++[(numS 0).D]from List.map_append ..];refine all2_snoc ?_ (wkds_refl _);show All2 WkD zD (D.sl 4 []::(can 0).D);rw[can0];exact⟨WkD.nil,WkD.refl _,WkD.refl _,WkD.refl _,trivial⟩
    exact Wk.go (h1:=by(repeat' first|exact trivial|exact vR_ _|exact WkV.int (wr64 (by omega) (by omega))|exact WkV.of hwk|refine⟨⟨_,rfl,?_,rfl⟩,?_⟩))
   ·conv=>whnf
    have h2:¬z=2:=by simpa using g2
    have hv:=pfA_one (n:=n) (us:=us) (fun e=>h2 (hpz.symm.trans e));refine .mk (afW (pfA n us phs (j+1))) rfl (by rw[hv,afW,List.map_append];rfl) (by simp[pfA_len];omega) ?_;conv=>whnf
    exact⟨j+1,Wk.go,hj',by omega⟩
  ·conv=>whnf
   have ej:j=us.length:=by have:¬j<us.length:=by simpa using g1
                           omega
   rw[ej];exact⟨_,_,⟨rfl,rfl⟩,vR_ _,rfl,⟨⟨_,rfl,wke_refl _,rfl⟩,⟨_,rfl,wke_refl _,rfl⟩,trivial⟩,rfl⟩
section
variable {γ γ':Gh} {h h':Hp} {M:MS} {w:World} {g:Nat}
def NI (M:MS)(w:World)(g:Nat):Prop:=∀i u,Fx M w g i u→∀k z,u≠ .int k z
abbrev Mg (M:MS)(g:Nat):MS:=fun b i=>M b i∨b=g
theorem ni_fx (hg:NI M w g){b i:Nat}{u:Value}(h:Fx M w b i u)(hb:b≠g):Fx (Mg M g) w b i u:=⟨fun q=>q.elim h.1 hb,h.2⟩
theorem ni_lm (hg:NI M w g){xs:List Nat}{v:Value}(hv:RdD M w (.lm xs) v):RdD (Mg M g) w (.lm xs) v:=by
 cases hv with
 |lm xs v hs hm=>
  refine .lm xs v hs fun b o l c he i hi hq=> ?_;rcases hq with hq|hq
  ·exact hm b o l c he i hi hq
  ·obtain⟨ad,n,cap,e1,h1,h2,h3,h4,h5⟩:=hs;rw[he]at e1;injection e1 with e1 e2 e3;subst e2 e3;obtain⟨b',off,e4,hb,hc⟩:=h5 (by omega);rw[e4]at e1;injection e1 with e1;injection e1 with e5 e6;subst e5 e6 hq;exact hg (o+i) _ ⟨hm b o l c he i hi,hc i hi⟩ _ _ rfl
theorem ni_sl (hg:NI M w g){k:Nat}{xs:List (List D)}{v:Value}(hv:RdD M w (.sl k xs) v)(h1:∀row∈xs,∃kk z r,row=D.lit (.int kk z)::r)(h2:∀row∈xs,∀d∈row,∀u,RdD M w d u→RdD (Mg M g) w d u):RdD (Mg M g) w (.sl k xs) v:=by
 cases hv with
 |sl k xs ad cap vs hc hl h0 hk h1' hr=>
  refine .sl k xs ad cap vs hc hl (fun hp=> ?_) hk h1' fun i row j d hi hj=>h2 row (mG_ hi) d (mG_ hj) _ (hr i row j d hi hj);obtain⟨b,o,e,hf⟩:=h0 hp;refine⟨b,o,e,fun i row j d hi hj=>ni_fx hg (hf i row j d hi hj) ?_⟩;intro hb;subst hb;obtain⟨kk,z,r,rfl⟩:=h1 row (mG_ hi);have f0:=hf i _ 0 _ hi rfl;have q0:=hr i _ 0 _ hi rfl;exact hg _ _ f0 kk z (lit_inv (M:=M) (w:=w) q0)
theorem ni_lit {v u:Value}(hv:RdD M w (.lit v) u):RdD (Mg M g) w (.lit v) u:=by cases hv with|lit v=>exact .lit _
theorem ni_tms (hg:NI M w g){ts:List Tm}{v:Value}(hv:RdD M w (.sl 4 (ts.map Tm.D)) v):RdD (Mg M g) w (.sl 4 (ts.map Tm.D)) v:=by
 refine ni_sl hg hv (fun row hr=> ?_) fun row hr d hd u hu=> ?_
 ·obtain⟨t,_,rfl⟩:=List.mem_map.1 hr;exact⟨_,_,_,rfl⟩
 ·obtain⟨t,_,rfl⟩:=List.mem_map.1 hr;simp only[Tm.D,List.mem_cons,List.not_mem_nil,or_false]at hd;rcases hd with rfl|rfl|rfl|rfl
  ·exact ni_lit hu
  ·exact ni_lit hu
  ·exact ni_lm hg hu
  ·exact ni_lm hg hu
theorem af_ni (hg:NI M w g){f:Af}:∀d∈f.D,∀u,RdD M w d u→RdD (Mg M g) w d u:=fun d hd u hu=>by
 simp only[Af.D,List.mem_cons,List.not_mem_nil,or_false]at hd;rcases hd with rfl|rfl|rfl|rfl
 ·exact ni_tms hg hu
 ·exact ni_lit hu
 ·exact ni_lm hg hu
 ·exact ni_lm hg hu
theorem af_nint {f:Af}:∀d∈f.D,∀u,RdD M w d u→∀k z,u≠ .int k z:=fun d hd u hu k z e=>by
 subst e;simp only[Af.D,List.mem_cons,List.not_mem_nil,or_false]at hd;rcases hd with rfl|rfl|rfl|rfl
 ·cases hu
 ·cases hu
 ·cases hu with|lm _ _ hs _=>obtain⟨ad,n,cap,e,_⟩:=hs;cases e
 ·cases hu with|lm _ _ hs _=>obtain⟨ad,n,cap,e,_⟩:=hs;cases e
end
theorem LX.thaw2 {P:Program}{F:FuncId}{args:List V}{e:TypeId}{vs ps:List Af}(hvs:vs≠[])(hps:ps≠[])
  (hc:LX P F args [] fun v H=>v= .tup [.s (.own 0 4 (vs.map Af.D)),.s (.own 1 4 (ps.map Af.D))]∧H=[(0,.arr e 4 (vs.map Af.D).length),(1,.arr e 4 (ps.map Af.D).length)]):
  LX P F args [] fun v H=>v= .tup [.s (.tab 0 (vs.map Af.D).length),.s (.tab 1 (ps.map Af.D).length)]∧H=[(0,.gone),(1,.tab e 4 (ps.map Af.D))]:=by
 obtain⟨_,_,⟨rfl,rfl⟩,hc⟩:=hc;refine⟨_,_,⟨rfl,rfl⟩,fun γ M w rs hr ha=> ?_⟩;refine cM (hc γ M w rs hr ha) ?_;rintro e' w' ⟨x,γ',M',h1,h2,h3,h4⟩;obtain⟨ws,rfl,h3⟩:=h3
 match ws,h3 with
 |[v0,v1],⟨a0,a1,_⟩=>
 have key:∀(kk:Nat) (l:List Af) (v:Value),l≠[]→look [(0,Ent.arr e 4 (vs.map Af.D).length),(1,.arr e 4 (ps.map Af.D).length)] kk=some (.arr e 4 (l.map Af.D).length)→
   RdA γ' (look [(0,Ent.arr e 4 (vs.map Af.D).length),(1,.arr e 4 (ps.map Af.D).length)]) M' w' (.own kk 4 (l.map Af.D)) v→
   ∃g cap cur,v= .slice (some ⟨g,0,none⟩) (l.map Af.D).length cap∧γ' kk=v∧w'.heap[g]? =some (.cells cur e (0,0))∧(l.map Af.D).length≤cap∧cur.size=cap*4:=by
  intro kk l v hl hk ⟨b1,b2,b3⟩;have b4:=(b3 e 4 _ hk).2 rfl;obtain⟨xs,hx⟩:=h2.ent kk _ hk;rw[←b4]at hx;rcases hx.2 with⟨q1,q2⟩|⟨g,cap,cur,q1,_,q2,q3,_,q4,_⟩
  ·exfalso;apply hl;exact List.map_eq_nil_iff.1 (List.eq_nil_of_length_eq_zero q2)
  ·exact⟨g,cap,cur,q1,b4.symm,q2,q3,q4⟩
 obtain⟨g0,c0,cur0,rfl,y0,z0,l0,_⟩:=key 0 vs v0 hvs rfl a0;obtain⟨g1,c1,cur1,rfl,y1,z1,l1,s1⟩:=key 1 ps v1 hps rfl a1
 have hroom:∀i,(ps.map Af.D).length*4≤i→M' g1 i:=fun i hi=>h2.own 1 g1 i (by
  show blk (γ' 1)=some g1∧_;exact⟨by rw[y1];rfl,hi⟩)
 have hnew:w.heap.size≤g1:=by
  rcases Nat.lt_or_ge g1 w.heap.size with hlt|hge
  ·obtain⟨key0,ho⟩:=h4.new 1 g1 ((ps.map Af.D).length*4) (by
    show blk (γ' 1)=some g1∧_;exact⟨by rw[y1];rfl,lR_ _⟩) hlt
   exact absurd ho (by unfold Owns;simp[look])
  ·exact hge
 obtain⟨m1,m2,m3,m4,cx,k1,k2,k3,k4⟩:=sl_cells a1.1 (by decide);have hpos:0<(ps.map Af.D).length:=by
  rcases eP_ (ps.map Af.D).length with h0|h0
  ·exfalso;apply hps;exact List.map_eq_nil_iff.1 (List.eq_nil_of_length_eq_zero h0)
  ·exact h0
 obtain⟨b,o,eb,hfx⟩:=k3 hpos;injection eb with eb;injection eb with eb eo _;subst eb eo
 have hcur:∀q u,cx[q]? =some u→cur1[q]? =some u:=fun q u hq=>by
  have:=(hfx q u hq).2;simp only[World.cell?,z1,Nat.zero_add]at this;simpa using this
 obtain⟨f1,f2⟩:=rows_flatten (xs:=ps.map Af.D) m4
 have hel:∀q u,cx[q]? =some u→∃d,(ps.map Af.D).flatten[q]? =some d∧(∃f:Af,d∈f.D)∧RdD M' w' d u:=fun q u hq=>by
  have hlt:=(List.getElem?_eq_some_iff.1 hq).1;obtain⟨i,j,row,e1,e2,e3⟩:=f2 q _ (List.getElem?_eq_getElem (by rw[f1];omega));obtain⟨u',t1,t2⟩:=k4 i row j _ e2 e3;rw[←e1,hq]at t1;injection t1 with t1;subst t1;refine⟨_,List.getElem?_eq_getElem _,?_,t2⟩;obtain⟨f,_,rfl⟩:=List.mem_map.1 (mG_ e2);exact⟨f,mG_ e3⟩
 have hcell:∀i u,Fx M' w' g1 i u→cx[i]? =some u:=fun i u hf=>by
  have hi:i<(ps.map Af.D).length*4:=by
   rcases Nat.lt_or_ge i ((ps.map Af.D).length*4)with hlt|hge
   ·exact hlt
   ·exact absurd (hroom i hge) hf.1
  have hlt:i<cx.length:=by omega
  have hq:=List.getElem?_eq_getElem hlt;have:=(hfx i _ hq).2;rw[Nat.zero_add]at this;rw[hf.2]at this;injection this with this;rw[hq,this]
 have hni:NI M' w' g1:=fun i u hf k z=>by
  obtain⟨d,_,⟨f,hd⟩,hu⟩:=hel i u (hcell i u hf);exact af_nint d hd u hu k z
 have hall:All2 (RdD (Mg M' g1) w') (ps.map Af.D).flatten cx:=by
  refine All2.of_get (by rw[f1];omega) fun q d u hd hq=> ?_;obtain⟨d',e1,⟨f,hf⟩,hu⟩:=hel q u hq;rw[hd]at e1;injection e1 with e1;subst e1;exact af_ni hni d hf u hu
 have hcur2:cur1=(cx++cur1.toList.drop cx.length).toArray:=by
  apply Array.ext';rw[List.toList_toArray];have:cur1.toList.take cx.length=cx:=by
   refine List.ext_getElem? fun q=> ?_;rw[List.getElem?_take];split
   ·rename_i hq;rw[List.getElem?_eq_getElem hq,Array.getElem?_toList];exact hcur q _ (List.getElem?_eq_getElem hq)
   ·rw[List.getElem?_eq_none (by omega)]
  conv=>lhs;rw[←List.take_append_drop cx.length cur1.toList,this]
 have hf0:∀b i v,Fx M w b i v→Fx (Mg M' g1) w' b i v:=fun b i v hf=>by
  have hb:=World.block_lt_of_cell? _ _ hf.2;exact ni_fx hni (h4.fx b i v hf) (by simp only at hb;omega)
 have hown:∀key b i,Owns (fun k=>if k=0 then .pointer (some ⟨g0,0,none⟩)else .pointer (some ⟨g1,0,none⟩)) (look [(0,Ent.gone),(1,.tab e 4 (ps.map Af.D))]) key b i→key=1∧b=g1:=fun key b i ho=>by
  unfold Owns at ho;simp only[look]at ho
  by_cases e0:key=0
  ·subst e0;simp at ho
  ·rw[if_neg (fun h=>e0 h.symm)]at ho
   by_cases e1:key=1
   ·subst e1;simp[blk]at ho;exact⟨rfl,ho.symm⟩
   ·rw[if_neg (fun h=>e1 h.symm)]at ho;simp at ho
 have hlive:∀key,live (look [(0,Ent.gone),(1,.tab e 4 (ps.map Af.D))] key)=true→key=1:=fun key hk=>by
  simp only[look]at hk
  by_cases e0:key=0
  ·subst e0;simp[live]at hk
  ·rw[if_neg (fun h=>e0 h.symm)]at hk
   by_cases e1:key=1
   ·exact e1
   ·rw[if_neg (fun h=>e1 h.symm)]at hk;simp[live]at hk
 refine⟨_,fun k=>if k=0 then .pointer (some ⟨g0,0,none⟩)else .pointer (some ⟨g1,0,none⟩),Mg M' g1,h1,⟨fun key en hk=> ?_,fun key b i ho=> .inr (hown _ _ _ ho).2,fun k1' k2' b l1' l2' _ _=>by rw[hlive _ l1',hlive _ l2'],fun b i z hm=> ?_,fun b i hm=> ?_,hr.glb.fx hf0⟩,⟨_,rfl,?_,?_,trivial⟩,
  ⟨h4.os,h4.tape,h4.output,h4.size,hf0,h4.other,fun b i hm hn=> .inl (h4.keep b i hm hn),fun key b i ho hb=>by have:=(hown _ _ _ ho).2;omega,fun key en hk=>by simp[look]at hk⟩⟩
 ·simp only[look]at hk
  by_cases e0:key=0
  ·subst e0;simp at hk;subst hk;trivial
  ·rw[if_neg (fun h=>e0 h.symm)]at hk
   by_cases e1:key=1
   ·subst e1;simp at hk;subst hk;refine⟨g1,cx,cur1.toList.drop cx.length,rfl,by rw[←hcur2];exact z1,fun row hrow=> ?_,hall,k2⟩;obtain⟨f,_,rfl⟩:=List.mem_map.1 hrow;rfl
   ·rw[if_neg (fun h=>e1 h.symm)]at hk;simp at hk
 ·rcases hm with hm|hm
  ·exact h2.u32 b i z hm
  ·subst hm;intro hcl;rcases Classical.em (∃u,cx[i]? =some u)with⟨u,hu⟩|hno
   ·obtain⟨d,_,⟨f,hd⟩,hru⟩:=hel i u hu;have:=(hfx i u hu).2;rw[Nat.zero_add,hcl]at this;injection this with this;exact af_nint d hd u hru _ _ this.symm
   ·have hge:(ps.map Af.D).length*4≤i:=by
     rcases Nat.lt_or_ge i ((ps.map Af.D).length*4)with hlt|hge
     ·exfalso;exact hno ⟨_,List.getElem?_eq_getElem (by omega)⟩
     ·exact hge
    exact h2.u32 b i z (hroom i hge) hcl
 ·rcases hm with hm|hm
  ·exact h2.dom b i hm
  ·subst hm;exact(Array.getElem?_eq_some_iff.1 z1).1
 ·exact⟨rfl,⟨g0,c0,rfl,rfl,l0⟩,fun e1 k rows he=>by simp[look]at he⟩
 ·refine⟨rfl,⟨g1,c1,rfl,rfl,l1⟩,fun e1 k rows he=> ?_⟩;simp[look]at he;rw[←he.2.2,List.length_map]
def pcE (n:Nat)(us:List Af)(p:List Int)(i j:Nat):Af:=if j<i∧p[j]? =some 2 then scaleS (pfU n us p j) m1 else pfU n us p j
def pcS (n:Nat)(us:List Af)(p:List Int)(J i:Nat):List Af:=(List.range J).map (pcE n us p i)
section
variable {n:Nat} {us:List Af} {p:List Int} {J i:Nat}
theorem pc_len:(pcS n us p J i).length=J:=by simp[pcS]
theorem pc_at {j:Nat}(h:j<J):(pcS n us p J i)[j]? =some (pcE n us p i j):=by
 unfold pcS;rw[List.getElem?_map,List.getElem?_range h];rfl
theorem pc_zero:pcS n us p J 0=pfP n us p J:=by
 unfold pcS pfP;refine List.map_congr_left fun j _=> ?_;rw[pcE,if_neg (fun h=>by omega)]
theorem pc_set (h:i<J)(h2:p[i]? =some 2):(pcS n us p J i).set i (scaleS (pfU n us p i) m1)=pcS n us p J (i+1):=by
 refine List.ext_getElem? fun j=> ?_;rw[List.getElem?_set]
 by_cases e:i=j
 ·subst e;rw[if_pos rfl,if_pos (by rw[pc_len];exact h),pc_at h,pcE,if_pos ⟨by omega,h2⟩]
 ·rw[if_neg e];rcases Nat.lt_or_ge j J with hj|hj
  ·rw[pc_at hj,pc_at hj,pcE,pcE]
   by_cases hc:j<i∧p[j]? =some 2
   ·rw[if_pos hc,if_pos ⟨by omega,hc.2⟩]
   ·rw[if_neg hc,if_neg (fun q=>hc ⟨by omega,q.2⟩)]
  ·rw[List.getElem?_eq_none (by rw[pc_len];exact hj),List.getElem?_eq_none (by rw[pc_len];exact hj)]
theorem pc_same (h2:p[i]?≠some 2):pcS n us p J (i+1)=pcS n us p J i:=by
 unfold pcS;refine List.map_congr_left fun j _=> ?_;rw[pcE,pcE]
 by_cases hc:j<i∧p[j]? =some 2
 ·rw[if_pos hc,if_pos ⟨by omega,hc.2⟩]
 ·rw[if_neg hc,if_neg (fun q=>by
   rcases Nat.lt_succ_iff_lt_or_eq.1 q.1 with h|h
   ·exact hc ⟨h,q.2⟩
   ·subst h;exact h2 q.2)]
theorem pc_end {j:Nat}(hj:j<J):pcE n us p J j=pfR n us p j:=by
 rw[pcE,pfR]
 by_cases h:p[j]? =some 2
 ·rw[if_pos ⟨hj,h⟩,if_pos (by rw[List.getD_eq_getElem?_getD,h];rfl)];rfl
 ·rw[if_neg (fun q=>h q.2),if_neg (fun q=>h (by
   rw[List.getD_eq_getElem?_getD]at q
   cases hp:p[j]? with
   |none=>rw[hp]at q;cases q
   |some z=>rw[hp]at q;exact congrArg some q))]
end
theorem lx_ppiece {L n:Nat}{us os:List Af}{phs:List Int}(hL:LOk L)(h:Gk L n us os)(hn:1≤n)(hn':n≤24)(ho:1≤os.length)(ho':os.length≤24)(hp:phs.length=us.length)(hd:∀z∈phs,z=1∨z=2):
  LV Tryz.prog 15 [.agg (grA n us os),.a (.d (inD phs))] (.tup [.s (.d (afsD (pcS n us phs us.length us.length))),.s (.d (.lit (.int .i64 0)))]):=by
 have hu:=h.u;have cc:=lx_pcomplete hL h hn hn' ho ho' hp hd;rcases eP_ us.length with h0|hpos
 ·have ca:=lx_pforms hL h hn' hp;rw[h0]at ca ⊢;refine LX_run (m:=0) (n0:=0) mix Tryz.func15 rfl rfl rfl rfl ?_;conv=>whnf
  refine .c (cc) ?_;conv=>whnf
  conv=>whnf
  refine .l [] (ca) ?_;conv=>whnf
  refine .mk Nat (fun i=>⟨[(21,vl (.int .i64 (i:Nat))),(20,vl (.int .i64 (afW (pfP n us phs 0)).length)),(7,.a (.own 2 4 (afW (pfP n us phs 0)))),(1,.a (.d (inD phs)))],[(2,.arr 79 4 (afW (pfP n us phs 0)).length)],3⟩) (fun i=>i≤0) (fun i=>0-i) 0 Wk.go (zL_ _) fun i hi=> ?_;conv=>whnf
  exact .s ⟨rfl,rfl⟩
 ·have ct:=LX.thaw2 (vs:=pfA n us phs us.length) (ps:=pfP n us phs us.length) (by intro h;have:=congrArg List.length h;rw[pfA_len]at this;simp at this;omega) (by intro h;have:=congrArg List.length h;rw[pfP,List.length_map,List.length_range]at this;change us.length=0 at this;omega) (lx_pforms hL h hn' hp);rw[←pc_zero]at ct;have hpl:((pcS n us phs us.length 0).map Af.D).length=us.length:=by rw[List.length_map,pc_len]
  rw[hpl]at ct;refine LX_run (m:=0) (n0:=0) mix Tryz.func15 rfl rfl rfl rfl ?_;conv=>whnf
  refine .c (cc) ?_;conv=>whnf
  conv=>whnf
  refine .l [] (ct) ?_;conv=>whnf
  refine .mkw Nat (fun i=>⟨[(21,vl (.int .i64 (i:Nat))),(20,vl (.int .i64 (us.length:Nat))),(7,.a (.tab 2 us.length)),(1,.a (.d (inD phs)))],[(2,.tab 79 4 ((pcS n us phs us.length i).map Af.D))],3⟩) (fun i=>i≤us.length) (fun i=>us.length-i) 0 Wk.go (zL_ _) fun i hi=> ?_;conv=>whnf
  refine bs (fun g1=> ?_) (fun g1=> ?_)
  ·conv=>whnf
   have hi':i<us.length:=by have:=of_decide_eq_true g1;omega
   obtain⟨z,hz⟩:=at_some (l:=phs) (i:=i) (by omega);have hat:(pcS n us phs us.length i)[i]? =some (pfU n us phs i):=by rw[pc_at hi',pcE,if_neg (fun h=>by omega)]
   refine .mk (i) ([D.lit (.int .i64 z)]) (rfl) (at_map hz) ?_;conv=>whnf
   conv=>whnf
   refine bs (fun g2=> ?_) (fun g2=> ?_)
   ·conv=>whnf
    have h2:z=2:=by simpa using g2
    have hfb:=(pfU_fl hL h hn' (phs:=phs) hi').fb (m:=16000) hL (by omega) (by omega);have cs:=pl_scale (c:=m1) hfb m1_b (Int.natCast_nonneg _) (by omega) (by omega);refine .mk i rfl (by omega) ?_;conv=>whnf
    refine .mk i 0 (pfU n us phs i).D rfl (at_map hat) ?_;conv=>whnf
    refine .c (lx_rofm) ?_;conv=>whnf
    refine .c (cs) ?_;conv=>whnf
    refine .mk i rfl (by omega) ?_;conv=>whnf
    refine .mk i 0 (pfU n us phs i).D ((pcS n us phs us.length (i+1)).map Af.D) rfl (at_map hat) (Nat.le_of_ble_eq_true rfl) (by rw[←pc_set hi' (by rw[hz,h2]),List.map_set];rfl) ?_;conv=>whnf
    refine .mk (by kernel_rfl) ?_;conv=>whnf
    exact⟨i+1,Wk.go,hi',by omega⟩
   ·conv=>whnf
    have h2:¬z=2:=by simpa using g2
    refine⟨i+1,?_,hi',by omega⟩;rw[pc_same (fun h=>by rw[hz]at h;injection h with h;exact h2 h)];exact Wk.go
  ·conv=>whnf
   have ei:i=us.length:=by have:=of_decide_eq_false g1;omega
   subst ei;refine⟨_,Wk.freeze 7 2 us.length rfl rfl (by omega),?_⟩;conv=>whnf
   exact .q ⟨rfl,rfl⟩
def pfO (n:Nat)(us os:List Af)(p:List Int)(i:Nat):List Af:=(os.take i).map (apF (pfA n us p us.length))
theorem pfO_succ {n i:Nat}{us os:List Af}{p:List Int}{f:Af}(h:os[i]? =some f):afW (pfO n us os p (i+1))=afW (pfO n us os p i)++[(apF (pfA n us p us.length) f).D]:=by
 rw[pfO,take_snoc h,List.map_append,afW,List.map_append];rfl
theorem pfO_fl {L n:Nat}{us os:List Af}{phs:List Int}(hL:LOk L)(h:Gk L n us os)(hn':n≤24):∀g∈pfO n us os phs os.length,FLv L 7200 15600 (n:Nat) g:=fun g hg=>by
 have hu:=h.u;rw[pfO,List.take_length]at hg;obtain⟨f,hf,rfl⟩:=List.mem_map.1 hg;have hfl:=h.of' hL hf;have hlen:=hfl.ts.len (Int.natCast_nonneg _);exact apK_fl hL hfl (pfA_fl hL h hn' us.length (lR_ _)) (by rw[pfA_len];omega) (by omega) (by omega) (by omega) (by omega) _ (lR_ _)
theorem lx_pouts {L n:Nat}{us os:List Af}{phs:List Int}(hL:LOk L)(h:Gk L n us os)(hn:1≤n)(hn':n≤24)(ho:1≤os.length)(ho':os.length≤24)(hp:phs.length=us.length)(hd:∀z∈phs,z=1∨z=2):
  LV Tryz.prog 14 [.agg (grA n us os),.a (.d (inD phs))] (.tup [.s (.d (afsD (pfA n us phs us.length))),.s (.d (afsD (pfO n us os phs os.length))),.s (.d (.lit (.int .i64 0)))]):=by
 have hu:=h.u;have cc:=lx_pcomplete hL h hn hn' ho ho' hp hd;have ca:=lx_pforms hL h hn' hp;have hlA:=pfA_len (n:=n) (us:=us) (phs:=phs) us.length;refine LX_run (m:=0) (n0:=0) mix Tryz.func14 rfl rfl rfl rfl ?_;conv=>whnf
 refine .c (cc) ?_;conv=>whnf
 conv=>whnf
 refine .l [] (ca) ?_;conv=>whnf
 refine .mk Nat (fun i=>⟨[(25,vl (.int .i64 (i:Nat))),(24,vl (.int .i64 (os.map Af.D).length)),(23,.a (.d (afsD os))),(9,.a (.own 3 4 (afW (pfO n us os phs i)))),(7,.a (.own 1 4 (afW (pfA n us phs us.length)))),(1,.a (.d (inD phs)))],
  [(1,.arr 79 4 (afW (pfA n us phs us.length)).length),(3,.arr 79 4 (afW (pfO n us os phs i)).length)],4⟩) (fun i=>i≤os.length) (fun i=>os.length-i) 0
  (Wk.trans (Wk.own 9 3 79 4 rfl rfl (zL_ _)) Wk.go) (zL_ _) fun i hi=> ?_
 conv=>whnf
 refine bs (fun g0=> ?_) (fun g0=> ?_)
 ·conv=>whnf
  have hi':i<os.length:=by simpa using g0
  obtain⟨f,hf⟩:=at_some hi';have cf:=lx_apply (n:=n) (m:=n+us.length) hL (h.of' hL (mG_ hf)) (pfA_fl hL h hn' (phs:=phs) us.length (lR_ _)) (by omega) (by omega) (by omega) (by omega) (by omega);refine .mk (i) (f.D) (rfl) (at_map hf) ?_;conv=>whnf
  conv=>whnf
  refine .c (cf) ?_;conv=>whnf
  refine .mk (afW (pfO n us os phs (i+1))) rfl (pfO_succ hf) (by simp[pfO];omega) ?_;conv=>whnf
  exact⟨i+1,Wk.go,hi',by omega⟩
 ·conv=>whnf
  have ei:i=os.length:=by have:¬i<os.length:=by simpa using g0
                          omega
  rw[ei];exact .s ⟨rfl,rfl⟩
theorem lx_rsgn {x:V}{q:Rat}(hx:RQ x q):LV Tryz.prog 42 [x] (vl (.int .i64 q.num.sign)):=lx_rsign hx
theorem lx_zsgn {x:V}{q:Rat}(hx:RQ x q):LV Tryz.prog 49 [x] (vl (.int .i64 q.num.sign)):=lx_zsign hx
def sgP (q:Rat):Int:=if q.num.sign=1 then 1 else if q.num.sign= -1 then 2 else 0
def ptS (us:List Af)(x:List Rat)(i:Nat):List Int:=(List.range us.length).map fun j=>if j<i then sgP ((gp us x us.length).getD j 0)else 0
theorem lx_gpre {L n:Nat}{us os:List Af}{x:List Rat}(hL:LOk L)(h:Gk L n us os)(hn:1≤n)(hn':n≤24)(ho:1≤os.length)(ho':os.length≤24)(hx:Ll L 1 x)(hxl:x.length=n):
  LV Tryz.prog 41 [.agg (Gr.A ⟨n,us,os⟩),.a (.d (rqsD x))] (.tup [.s (.d (rqsD (gp us x us.length))),.s (.d (.lit (.int .i64 0)))]):=by
 have hu:=h.u;refine LX_run (m:=0) (n0:=0) mix Tryz.func41 rfl rfl rfl rfl ?_;conv=>whnf
 refine .c (lx_grun hL h hn hn' ho ho' hx hxl) ?_;conv=>whnf
 exact .q ⟨rfl,rfl⟩
theorem pt_zero {us:List Af}{x:List Rat}:inR (ptS us x 0)=List.replicate us.length [D.lit (.int .i64 0)]:=by
 rw[ptS,inR,List.map_map];apply List.ext_getElem
 ·simp
 ·intro i h1 h2;simp
theorem pt_at {us:List Af}{x:List Rat}{i j:Nat}(h:j<us.length):(ptS us x i)[j]? =some (if j<i then sgP ((gp us x us.length).getD j 0)else 0):=by
 unfold ptS;rw[List.getElem?_map,List.getElem?_range h];rfl
theorem pt_set {us:List Af}{x:List Rat}{i:Nat}(h:i<us.length):(ptS us x i).set i (sgP ((gp us x us.length).getD i 0))=ptS us x (i+1):=by
 refine List.ext_getElem? fun j=> ?_;rw[List.getElem?_set]
 by_cases e:i=j
 ·subst e;rw[if_pos rfl,if_pos (by rw[ptS,List.length_map,List.length_range];exact h),pt_at h,if_pos (by omega)]
 ·rw[if_neg e];rcases Nat.lt_or_ge j us.length with hj|hj
  ·rw[pt_at hj,pt_at hj]
   by_cases hc:j<i
   ·rw[if_pos hc,if_pos (by omega)]
   ·rw[if_neg hc,if_neg (by omega)]
  ·rw[List.getElem?_eq_none (by simp[ptS];exact hj),List.getElem?_eq_none (by simp[ptS];exact hj)]
theorem pt_same {us:List Af}{x:List Rat}{i:Nat}(h:sgP ((gp us x us.length).getD i 0)=0):ptS us x (i+1)=ptS us x i:=by
 unfold ptS;refine List.map_congr_left fun j _=> ?_
 by_cases hc:j<i
 ·rw[if_pos (by omega),if_pos hc]
 ·by_cases e:j=i
  ·subst e;rw[if_pos (by omega),if_neg hc,h]
  ·rw[if_neg (by omega),if_neg hc]
theorem pre_sz {L n i:Nat}{us os:List Af}{x:List Rat}{q:Rat}(hL:LOk L)(h:Gk L n us os)(hn':n≤24)(hx:Ll L 1 x)(hxl:x.length=n)(hq:(gp us x us.length)[i]? =some q):Sz q:=by
 have hu:=h.u;have hi:=at_lt hq;simp only[gp,List.length_map,List.length_range]at hi;obtain⟨f,hf⟩:=at_some (l:=us) (i:=i) hi;rw[gp,List.getElem?_map,List.getElem?_range hi]at hq;injection hq with hq;simp only at hq;rw[getD_of hf]at hq;subst hq;have hfl:=h.uf' hL hf;have hlen:=hfl.ts.len (Int.natCast_nonneg _);exact(ev_ph (P:=8740+350*i) hL hfl (gv_lv hL h hn' hx hxl i (by omega)) (by omega) (by omega) (by omega)).z hL (by omega)
theorem lx_pof {L n:Nat}{us os:List Af}{x:List Rat}(hL:LOk L)(h:Gk L n us os)(hn:1≤n)(hn':n≤24)(ho:1≤os.length)(ho':os.length≤24)(hx:Ll L 1 x)(hxl:x.length=n):
  LX Tryz.prog 13 [.agg (Gr.A ⟨n,us,os⟩),.a (.d (rqsD x))] [] fun v H=>v= .tup [.s (.tab 1 us.length),.s (.d (.lit (.int .i64 0)))]∧H=[(1,.tab 3 1 (inR (ptS us x us.length)))]:=by
 have hu:=h.u;have cp:=lx_gpre hL h hn hn' ho ho' hx hxl;refine LX_run (m:=0) (n0:=0) mix Tryz.func13 rfl rfl rfl rfl ?_;conv=>whnf
 refine .c (lx_gvalid (h.ok hL hn hn' ho ho')) ?_;conv=>whnf
 refine bF (by simp[hxl]) ?_;conv=>whnf
 refine .c (cp) ?_;conv=>whnf
 conv=>whnf
 refine .mk us.length (by simp[gp]) (by simp[gp]) (by omega) ?_;have hgl:(gp us x us.length).length=us.length:=by simp[gp]
 have e0:=pt_zero (us:=us) (x:=x);refine .mk Nat (fun i=>⟨[(34,vl (.int .i64 (i:Nat))),(33,vl (.int .i64 (rqR (gp us x us.length)).length)),(32,.a (.d (rqsD (gp us x us.length)))),(8,.a (.tab 1 us.length))],[(1,.tab 3 1 (inR (ptS us x i)))],2⟩) (fun i=>i≤us.length) (fun i=>us.length-i) 0 (by rw[e0];exact Wk.go) (zL_ _) fun i hi=> ?_;conv=>whnf
 refine bs (fun g0=> ?_) (fun g0=> ?_)
 ·conv=>whnf
  have hi':i<us.length:=by simpa [hgl]using g0
  obtain⟨q,hq⟩:=at_some (l:=gp us x us.length) (i:=i) (by omega);have hqg:(gp us x us.length).getD i 0=q:=getD_of hq;have hqz:Sz q:=pre_sz hL h hn' hx hxl hq;refine .mk (i) ((can q).D) (rfl) (at_rq hq) ?_;conv=>whnf
  conv=>whnf
  have hold:(ptS us x i)[i]? =some 0:=by rw[pt_at hi',if_neg (Nat.lt_irrefl _)]
  refine .c (lx_rsgn (.c hqz)) ?_;conv=>whnf
  refine bs (fun g1=> ?_) (fun g1=> ?_)
  ·conv=>whnf
   have h1:q.num.sign=1:=by simpa using g1
   have hs:sgP q=1:=if_pos h1;refine .mk i rfl (by omega) ?_;conv=>whnf
   refine .mk i 0 [D.lit (.int .i64 0)] (inR (ptS us x (i+1))) rfl (at_map hold) (Nat.le_of_ble_eq_true rfl) (by rw[←pt_set hi',hqg,hs,inR,List.map_set];rfl) ?_;conv=>whnf
   exact⟨i+1,Wk.go,hi',by omega⟩
  ·conv=>whnf
   have h1:¬q.num.sign=1:=by simpa using g1
   refine bs (fun g2=> ?_) (fun g2=> ?_)
   ·conv=>whnf
    have h2:q.num.sign= -1:=by simpa using g2
    have hs:sgP q=2:=by rw[sgP,if_neg h1,if_pos h2]
    refine .mk i rfl (by omega) ?_;conv=>whnf
    refine .mk i 0 [D.lit (.int .i64 0)] (inR (ptS us x (i+1))) rfl (at_map hold) (Nat.le_of_ble_eq_true rfl) (by rw[←pt_set hi',hqg,hs,inR,List.map_set];rfl) ?_;conv=>whnf
    exact⟨i+1,Wk.go,hi',by omega⟩
   ·conv=>whnf
    have h2:¬q.num.sign= -1:=by simpa using g2
    have hs:sgP q=0:=by rw[sgP,if_neg h1,if_neg h2]
    exact⟨i+1,by rw[pt_same (by rw[hqg];exact hs)];exact Wk.go,hi',by omega⟩
 ·conv=>whnf
  have ei:i=us.length:=by have:¬i<us.length:=by simpa [hgl]using g0
                          omega
  rw[ei];exact⟨_,_,⟨rfl,rfl⟩,vR_ _,rfl,⟨⟨_,rfl,wke_refl _,rfl⟩,trivial⟩,rfl⟩
theorem lx_zgeval {L e k V P:Nat}{n:Int}{f:Af}{v:List Rat}(hL:LOk L)(h:FLv L e k n f)(hv:Ll L V v)(h1:k≤P)(h2:e+V≤P)(hP:P≤20000)(h0:0≤n)(hn:n≤v.length)(hN:v.length≤1000):
  LV Tryz.prog 48 [.agg f.A,.a (.d (rqsD v))] (.tup [.g (can (ph 1 (xi v) f)).A,.s (.d (.lit (.int .i64 0)))]):=by
 have hlen:=h.ts.len h0;have hall:=evG_all f v;refine LX_run (m:=0) (n0:=0) mix Tryz.func48 rfl rfl rfl rfl ?_;conv=>whnf
 refine .mk Nat (fun i=>⟨[(7,vl (.int .i64 (i:Nat))),(6,.a (.ptr 2 0)),(4,.a (.ptr 1 0)),(2,.a (.ptr 0 0)),(1,.a (.d (rqsD v)))],[(0,.box 79 f.A),(1,.box 56 [.d (.lit (.bool false)),.d (.nat 0),.d (.nat 0)]),(2,.box 56 (can (evG v f i)).A)],3⟩)
  (fun i=>i≤f.ts.length) (fun i=>f.ts.length-i) 0 Wk.go (zL_ _) fun i hi=> ?_
 have hy:=evG_lw hL h hv h1 h2 i hi;conv=>whnf
 refine bs (fun g1=> ?_) (fun g1=> ?_)
 ·conv=>whnf
  have h1':i<f.ts.length:=by simpa using g1
  obtain⟨t,ht⟩:=at_some h1';have hs:=evG_succ (v:=v) ht;obtain⟨c1,c2,c3,c4⟩:=h.ts.cof_mem t (mG_ ht);have hq:=h.co t.v;rw[c1]at hq;obtain⟨tv,tq⟩:=t;simp only at c1 c2 c3 c4 hs hq;obtain⟨j,rfl⟩:∃j:Nat,tv=j:=⟨tv.toNat,by omega⟩;obtain⟨x,hx⟩:=at_some (l:=v) (i:=j) (by omega);have xb:=hv x (mG_ hx);rw[show xi v (j:Int)=x by unfold xi;rw[Int.toNat_natCast];exact getD_of hx]at hs;have hm:=(hq.mul xb).mono hL h2;generalize evG v f i=y at *
  refine .mk (i) ((Tm.D ⟨(j:Int),tq⟩)) (rfl) (at_map ht) ?_;conv=>whnf
  conv=>whnf
  refine bF (decide_eq_false (show ¬((j:Int)≥((v.map fun q=>(can q).D).length:Int)) by rw[List.length_map];omega)) ?_;conv=>whnf
  refine .mk (j) ((can x).D) (rfl) (at_map (f:=fun q=>(can q).D) hx) ?_;conv=>whnf
  conv=>whnf
  refine .c (lx_zmul (.c ((hq.mono hL (by omega:e≤P)).z hL (by omega))) (.c (xb.z hL (by omega)))) ?_;conv=>whnf
  refine .c (lx_zadd (.c (hy.z hL (by omega) (by omega))) (.c (hm.z hL (by omega)))) ?_;conv=>whnf
  refine .mk (by kernel_rfl) ?_;conv=>whnf
  exact⟨i+1,by rw[hs];exact Wk.go,h1',by omega⟩
 ·conv=>whnf
  have e:i=f.ts.length:=by simp at g1;omega
  rw[e,hall];exact .q ⟨rfl,rfl⟩
def insB (rows:List Af)(x:List Rat)(i:Nat):Bool:=(rows.drop i).all fun f=> !decide ((ph 1 (xi x) f).num.sign<0)
theorem insB_end {rows:List Af}{x:List Rat}:insB rows x rows.length=true:=by simp[insB]
theorem insB_step {rows:List Af}{x:List Rat}{i:Nat}{f:Af}(h:rows[i]? =some f):insB rows x i=(!decide ((ph 1 (xi x) f).num.sign<0)&&insB rows x (i+1)):=by
 obtain⟨hi,rfl⟩:=List.getElem?_eq_some_iff.1 h;rw[insB,List.drop_eq_getElem_cons hi,List.all_cons];rfl
theorem lx_inside {L n:Nat}{rows:List Af}{x:List Rat}(hL:LOk L)(hr:∀f∈rows,FLv L 7500 15900 (n:Nat) f)(hrl:rows.length≤1000)(hx:Ll L 1 x)(hxl:x.length=n)(hn:n≤1000):
  LV Tryz.prog 16 [.a (.d (afsD rows)),.a (.d (rqsD x))] (vl (.bool (insB rows x 0))):=by
 refine LX_run (m:=0) (n0:=0) mix Tryz.func16 rfl rfl rfl rfl ?_;conv=>whnf
 refine .mk Nat (fun i=>⟨[(5,vl (.int .i64 (i:Nat))),(0,.a (.d (afsD rows))),(1,.a (.d (rqsD x)))],[],0⟩) (fun i=>i≤rows.length∧insB rows x i=insB rows x 0) (fun i=>rows.length-i) 0 Wk.go ⟨zL_ _,rfl⟩ fun i ⟨hi,hb⟩=> ?_;conv=>whnf
 refine bs (fun g0=> ?_) (fun g0=> ?_)
 ·conv=>whnf
  have hi':i<rows.length:=by simpa using g0
  obtain⟨f,hf⟩:=at_some hi';have hfl:=hr f (mG_ hf);have ce:=lx_zgeval (P:=16000) hL hfl hx (by omega) (by omega) (by omega) (Int.natCast_nonneg _) (by omega) (by omega);have hlen:=hfl.ts.len (Int.natCast_nonneg _);have hv:=(ev_ph (P:=16000) hL hfl hx (by omega) (by omega) (by omega)).z hL (by omega);have hst:=insB_step (x:=x) hf;refine .mk (i) (f.D) (rfl) (at_map hf) ?_;conv=>whnf
  conv=>whnf
  refine .c (ce) ?_;conv=>whnf
  refine .c (lx_zsgn (.c hv)) ?_;conv=>whnf
  refine bs (fun g1=> ?_) (fun g1=> ?_)
  ·conv=>whnf
   have e:insB rows x 0=false:=by rw[←hb,hst,show decide ((ph 1 (xi x) f).num.sign<0)=true from g1];rfl
   rw[e];exact .q ⟨rfl,rfl⟩
  ·conv=>whnf
   have e:insB rows x (i+1)=insB rows x 0:=by rw[←hb,hst,show decide ((ph 1 (xi x) f).num.sign<0)=false from g1];rfl
   exact⟨i+1,Wk.go,⟨hi',e⟩,by omega⟩
 ·conv=>whnf
  have ei:i=rows.length:=by have:¬i<rows.length:=by simpa using g0
                            omega
  rw[ei,insB_end]at hb;rw[←hb];exact .q ⟨rfl,rfl⟩
theorem lx_values {L n:Nat}{fs:List Af}{x:List Rat}(hL:LOk L)(hr:∀f∈fs,FLv L 7500 15900 (n:Nat) f)(hrl:fs.length≤1000)(hx:Ll L 1 x)(hxl:x.length=n)(hn:n≤1000):
  LV Tryz.prog 17 [.a (.d (afsD fs)),.a (.d (rqsD x)),.a (.d (rqsD (fs.map (ph 1 (xi x)))))] (vl (.bool true)):=by
 refine LX_run (m:=0) (n0:=0) mix Tryz.func17 rfl rfl rfl rfl ?_;conv=>whnf
 refine bF (by simp) ?_;conv=>whnf
 refine .mk Nat (fun i=>⟨[(7,vl (.int .i64 (i:Nat))),(0,.a (.d (afsD fs))),(1,.a (.d (rqsD x))),(2,.a (.d (rqsD (fs.map (ph 1 (xi x))))))],[],0⟩) (fun i=>i≤fs.length) (fun i=>fs.length-i) 0 Wk.go (zL_ _) fun i hi=> ?_;conv=>whnf
 refine bs (fun g0=> ?_) (fun g0=> ?_)
 ·conv=>whnf
  have hi':i<fs.length:=by simpa using g0
  obtain⟨f,hf⟩:=at_some hi';have hfl:=hr f (mG_ hf);have hlen:=hfl.ts.len (Int.natCast_nonneg _);have ce:=lx_geval (P:=16000) hL hfl hx (by omega) (by omega) (by omega) (Int.natCast_nonneg _) (by omega) (by omega);have hv:=(ev_ph (P:=16000) hL hfl hx (by omega) (by omega) (by omega)).z hL (by omega);have hy:(fs.map (ph 1 (xi x)))[i]? =some (ph 1 (xi x) f):=by rw[List.getElem?_map,hf];rfl
  have c:LV Tryz.prog 39 [ratV (ph 1 (xi x) f),ratV (ph 1 (xi x) f)] (vl (.bool true)):=by
   have:=lx_zsame (c:=decide (ph 1 (xi x) f<0)) (xs:=limbs (ph 1 (xi x) f).num.natAbs) (ys:=limbs (dn (ph 1 (xi x) f))) hv (lR_ _)
   rwa [vB_can]at this
  refine .mk (i) (f.D) (rfl) (at_map hf) ?_;conv=>whnf
  conv=>whnf
  refine .c (ce) ?_;conv=>whnf
  refine .mk (i) ((can (ph 1 (xi x) f)).D) (rfl) (at_rq hy) ?_;conv=>whnf
  conv=>whnf
  refine .c (c) ?_;conv=>whnf
  refine .mk (by kernel_rfl) ?_;conv=>whnf
  exact⟨i+1,Wk.go,hi',by omega⟩
 ·conv=>whnf
  exact .q ⟨rfl,rfl⟩
theorem ins_iff {rows:List Af}{x:List Rat}:insB rows x 0=true↔∀f∈rows,0≤ph 1 (xi x) f:=by
 have key:∀q:Rat,(!decide (q.num.sign<0))=true↔0≤q:=fun q=>by
  rw[←Rat.num_nonneg];simp only[Bool.not_eq_true',decide_eq_false_iff_not,Int.not_lt]
  exact⟨fun h=>by
   rcases Int.lt_or_le q.num 0 with h1|h1
   ·have:=Int.sign_eq_neg_one_of_neg h1;omega
   ·exact h1,fun h=>by
   rcases Int.lt_or_le 0 q.num with h1|h1
   ·rw[Int.sign_eq_one_of_pos h1];decide
   ·rw[show q.num=0 by omega];decide⟩
 rw[insB,List.drop_zero,List.all_eq_true];exact⟨fun h f hf=>(key _).1 (h f hf),fun h f hf=>(key _).2 (h f hf)⟩
def nzP (z:Int):Int:=if z=0 then 1 else z
def phF (us:List Af)(x:List Rat):List Int:=(ptS us x us.length).map nzP
theorem phF_len {us:List Af}{x:List Rat}:(phF us x).length=us.length:=by simp[phF,ptS]
theorem sgP_in (q:Rat):sgP q=1∨sgP q=2∨sgP q=0:=by
 unfold sgP;split
 ·exact .inl rfl
 ·split
  ·exact .inr (.inl rfl)
  ·exact .inr (.inr rfl)
theorem phF_at {us:List Af}{x:List Rat}{j:Nat}(h:j<us.length):(phF us x).getD j 0=nzP (sgP ((gp us x us.length).getD j 0)):=by
 rw[List.getD_eq_getElem?_getD,phF,List.getElem?_map,pt_at h,if_pos h];rfl
theorem phF_in {us:List Af}{x:List Rat}:∀z∈phF us x,z=1∨z=2:=fun z hz=>by
 obtain⟨w,hw,rfl⟩:=List.mem_map.1 hz;obtain⟨j,hj,rfl⟩:=List.mem_map.1 hw;rw[if_pos (List.mem_range.1 hj)];rcases sgP_in ((gp us x us.length).getD j 0)with h|h|h<;>rw[h]
 ·exact .inl rfl
 ·exact .inr rfl
 ·exact .inl rfl
theorem gp_getD {us:List Af}{x:List Rat}{j:Nat}(h:j<us.length):(gp us x us.length).getD j 0=ph 1 (xi (gv us x j)) (us.getD j z0):=by
 rw[List.getD_eq_getElem?_getD,gp,List.getElem?_map,List.getElem?_range h];rfl
theorem own_in {n:Nat}{us:List Af}{x:List Rat}(hx:x.length=n):∀j,j≤us.length→∀i,i<j→0≤ph 1 (xi x) (pfR n us (phF us x) i)
 |0,_,i,hi=>by omega
 |j+1,hj,i,hi=>by
  have ih:=own_in (us:=us) hx j (by omega);rcases Nat.lt_or_ge i j with h1|h1
  ·exact ih i h1
  ·obtain rfl:i=j:=by omega
   have hv:=pfU_val (pf_val (us:=us) (phs:=phF us x) hx i ih);rw[pfR,phF_at (by omega),gp_getD (by omega)];generalize ph 1 (xi (gv us x i)) (us.getD i z0)=v at *
   unfold sgP nzP
   by_cases h2:v.num.sign=1
   ·have:0≤v:=Rat.num_nonneg.1 (by have:=Int.sign_eq_one_iff_pos.1 h2;omega);rw[if_pos h2];simp only[Int.reduceEq,if_false];rw[hv];exact this
   ·rw[if_neg h2]
    by_cases h3:v.num.sign= -1
    ·have h4:v<0:=by
      have h5:=Int.sign_eq_neg_one_iff_neg.1 h3;rw[←Rat.not_le,←Rat.num_nonneg];omega
     rw[if_pos h3];simp only[Int.reduceEq,if_false,if_true];rw[ph_scale,hv];grind
    ·rw[if_neg h3];have h6:v.num=0:=by
      rcases Int.lt_trichotomy v.num 0 with h|h|h
      ·exact absurd (Int.sign_eq_neg_one_of_neg h) h3
      ·exact h
      ·exact absurd (Int.sign_eq_one_of_pos h) h2
     simp only[Int.reduceEq,if_false,if_true];rw[hv];exact Rat.num_nonneg.1 (by omega)
theorem pfO_val {n:Nat}{us os:List Af}{phs:List Int}{x:List Rat}(hx:x.length=n)(h:∀i,i<us.length→0≤ph 1 (xi x) (pfR n us phs i)):(pfO n us os phs os.length).map (ph 1 (xi x))=gOut us os x:=by
 have hv:=pf_val (us:=us) (phs:=phs) hx us.length h;rw[pfO,List.take_length,gOut,List.map_map];refine List.map_congr_left fun f _=> ?_;show ph 1 (xi x) (apF _ f)=_;rw[ph_apF]
 congr 1
 funext v
 rw[getD_ph,hv];rfl
theorem rows_iff {n:Nat}{us:List Af}{phs:List Int}{x:List Rat}:(∀f∈pcS n us phs us.length us.length,0≤ph 1 (xi x) f)↔∀i,i<us.length→0≤ph 1 (xi x) (pfR n us phs i):=by
 constructor
 ·intro h i hi;rw[←pc_end hi];exact h _ (List.mem_map.2 ⟨i,List.mem_range.2 hi,rfl⟩)
 ·intro h f hf;obtain⟨i,hi,rfl⟩:=List.mem_map.1 hf;rw[pc_end (List.mem_range.1 hi)];exact h i (List.mem_range.1 hi)
def nzL (us:List Af)(x:List Rat)(i:Nat):List Int:=(List.range us.length).map fun j=>if j<i then nzP ((ptS us x us.length).getD j 0)else(ptS us x us.length).getD j 0
theorem nzL_end {us:List Af}{x:List Rat}:nzL us x us.length=phF us x:=by
 refine List.ext_getElem? fun j=> ?_;rcases Nat.lt_or_ge j us.length with hj|hj
 ·rw[nzL,List.getElem?_map,List.getElem?_range hj,phF,List.getElem?_map,pt_at hj,Option.map_some,Option.map_some,if_pos hj,getD_of (pt_at hj)]
 ·rw[List.getElem?_eq_none (by simp[nzL];exact hj),List.getElem?_eq_none (by rw[phF_len];exact hj)]
theorem nzL_zero {us:List Af}{x:List Rat}:nzL us x 0=ptS us x us.length:=by
 refine List.ext_getElem? fun j=> ?_;rcases Nat.lt_or_ge j us.length with hj|hj
 ·rw[nzL,List.getElem?_map,List.getElem?_range hj,Option.map_some,if_neg (Nat.not_lt_zero j),getD_of (pt_at hj),pt_at hj]
 ·rw[List.getElem?_eq_none (by simp[nzL];exact hj),List.getElem?_eq_none (by simp[ptS];exact hj)]
theorem nzL_at {us:List Af}{x:List Rat}{i j:Nat}(h:j<us.length):(nzL us x i)[j]? =some (if j<i then nzP ((ptS us x us.length).getD j 0)else(ptS us x us.length).getD j 0):=by
 unfold nzL;rw[List.getElem?_map,List.getElem?_range h];rfl
theorem nzL_set {us:List Af}{x:List Rat}{i:Nat}(h:i<us.length):(nzL us x i).set i (nzP ((ptS us x us.length).getD i 0))=nzL us x (i+1):=by
 refine List.ext_getElem? fun j=> ?_;rw[List.getElem?_set]
 by_cases e:i=j
 ·subst e;rw[if_pos rfl,if_pos (by simp[nzL];exact h),nzL_at h,if_pos (by omega)]
 ·rw[if_neg e];rcases Nat.lt_or_ge j us.length with hj|hj
  ·rw[nzL_at hj,nzL_at hj]
   by_cases hc:j<i
   ·rw[if_pos hc,if_pos (by omega)]
   ·rw[if_neg hc,if_neg (by omega)]
  ·rw[List.getElem?_eq_none (by simp[nzL];exact hj),List.getElem?_eq_none (by simp[nzL];exact hj)]
theorem nzL_same {us:List Af}{x:List Rat}{i:Nat}(h:(ptS us x us.length).getD i 0≠0):nzL us x (i+1)=nzL us x i:=by
 unfold nzL;refine List.map_congr_left fun j _=> ?_
 by_cases hc:j<i
 ·rw[if_pos (by omega),if_pos hc]
 ·by_cases e:j=i
  ·subst e;rw[if_pos (by omega),if_neg hc,nzP,if_neg h]
  ·rw[if_neg (by omega),if_neg hc]
theorem pcS_fl {L n:Nat}{us os:List Af}{phs:List Int}(hL:LOk L)(h:Gk L n us os)(hn':n≤24):∀g∈pcS n us phs us.length us.length,FLv L 7500 15900 (n:Nat) g:=fun g hg=>by
 have hu:=h.u;obtain⟨j,hj,rfl⟩:=List.mem_map.1 hg;have hj:=List.mem_range.1 hj;have hf:=pfU_fl hL h hn' (phs:=phs) hj;rw[pcE];split
 ·have:=hf.scale (Lv.int (z:= -1) (e:=1) hL (by decide) (lR_ _));exact this.mono hL (by omega) (by omega) (Int.le_refl _)
 ·exact hf.mono hL (by omega) (by omega) (Int.le_refl _)
theorem lx_wp {inp:List Int}{ls:List RL}{raw raw':List Nat}(hi:inp.length≤1099511627776)(hl:ls.length≤1099511627776)(hw:∀x∈ls,x.ws.length≤1099511627776∧x.bs.length≤1099511627776)
  (hr:raw.length≤1099511627776) (hb:∀b∈raw,b<256) (hr':raw'.length≤1099511627776) (hb':∀b∈raw',b<256):LV Tryz.prog 4 [.agg (rmA inp ls),.a (.d (bysD raw)),.a (.d (bysD raw'))] (vl (.bool true)):=by
 obtain⟨b,hm,cm⟩:=lx_modest hi hl hw;have ca:=lx_awake18
 cases b with
 |false=>
  refine LX_run (m:=0) (n0:=0) mix Tryz.func4 rfl rfl rfl rfl ?_;conv=>whnf
  refine .c (ca) ?_;conv=>whnf
  refine .c (cm) ?_;conv=>whnf
  conv=>whnf
  exact .q ⟨rfl,rfl⟩
 |true=>
  obtain⟨m,em,h⟩:=hm rfl;rw[em]at cm ⊢;obtain⟨hg,ho,hsat⟩:=h.gk;have hu:=hg.u;have hn24:m.n≤24:=(h.sh 0 (zL_ _)).sz;have hn1:1≤m.n:=szS_pos (h.sh 0 (zL_ _)).pos;have ho24:m.os.length≤24:=by rw[ho];exact(h.sh m.ls.length (lR_ _)).sz
  have ho1:1≤m.os.length:=by rw[ho];exact szS_pos (h.sh m.ls.length (lR_ _)).pos
  have cl:=lx_lower h;refine LX_run (m:=0) (n0:=0) mix Tryz.func4 rfl rfl rfl rfl ?_;conv=>whnf
  refine .c (ca) ?_;conv=>whnf
  refine .c (cm) ?_;conv=>whnf
  refine bs (fun hl1=> ?_) (fun hl1=> ?_)
  ·conv=>whnf
   exact .q ⟨rfl,rfl⟩
  ·conv=>whnf
   refine bs (fun hl2=> ?_) (fun hl2=> ?_)
   ·conv=>whnf
    exact .q ⟨rfl,rfl⟩
   ·have h60:raw.length≤60:=by
     have h:(raw.length:Int)≤60:=by simpa using hl1
     omega
    have h60':raw'.length≤60:=by
     have h:(raw'.length:Int)≤60:=by simpa using hl2
     omega
    obtain⟨x,⟨hx1,hx2⟩,cp⟩:=lx_tpoint h (raw:=raw) ⟨by omega,hb⟩;obtain⟨y,⟨hy1,hy2⟩,cq⟩:=lx_tpoint h (raw:=raw') ⟨by omega,hb'⟩;conv=>whnf
    refine .c (cl) ?_;conv=>whnf
    conv=>whnf
    refine .c (cp) ?_;conv=>whnf
    refine .c (cq) ?_;conv=>whnf
    refine .mk (by kernel_rfl) ?_;conv=>whnf
    have cof:=lx_pof h.L hg hn1 hn24 ho1 ho24 hx2 hx1;refine .l [] (cof) ?_;conv=>whnf
    refine bF (by simp) ?_;conv=>whnf
    have e0:=nzL_zero (us:=m.us) (x:=x);rw[←e0]
    refine .mkw Nat (fun i=>⟨[(13,vl (.int .i64 (i:Nat))),(11,.a (.tab 3 m.us.length)),(9,.a (.d (rqsD x))),(10,.a (.d (rqsD y))),(7,.a (.ptr 1 0)),(3,.a (.ptr 0 0))],
     [(3,.tab 3 1 (inR (nzL m.us x i))),(1,.box 36 (grA m.n m.us m.os)),(0,.box 25 m.A)],4⟩) (fun i=>i≤m.us.length) (fun i=>m.us.length-i) 0 Wk.go (zL_ _) fun i hi=> ?_
    conv=>whnf
    refine bs (fun g0=> ?_) (fun g0=> ?_)
    ·conv=>whnf
     have hi':i<m.us.length:=by have:=of_decide_eq_true g0;omega
     have hat:=nzL_at (us:=m.us) (x:=x) (i:=i) hi';rw[if_neg (Nat.lt_irrefl _)]at hat;have hset:=nzL_set (us:=m.us) (x:=x) hi';have hsame:=nzL_same (us:=m.us) (x:=x) (i:=i);generalize (ptS m.us x m.us.length).getD i 0=z at *
     refine .mk i rfl (by omega) ?_;conv=>whnf
     refine .mk i 0 [D.lit (.int .i64 z)] rfl (at_map hat) ?_;conv=>whnf
     refine bs (fun g1=> ?_) (fun g1=> ?_)
     ·conv=>whnf
      have hz:z=0:=by simpa using g1
      refine .mk i rfl (by omega) ?_;conv=>whnf
      refine .mk i 0 [D.lit (.int .i64 z)] (inR (nzL m.us x (i+1))) rfl (at_map hat) (Nat.le_of_ble_eq_true rfl) (by rw[←hset,hz,inR,List.map_set];rfl) ?_;conv=>whnf
      exact⟨i+1,Wk.go,hi',by omega⟩
     ·conv=>whnf
      have hz:¬z=0:=by simpa using g1
      exact⟨i+1,by rw[hsame hz];exact Wk.go,hi',by omega⟩
    ·conv=>whnf
     have ei:i=m.us.length:=by have:=of_decide_eq_false g0;omega
     rw[ei,nzL_end];refine⟨_,Wk.freeze 11 3 m.us.length rfl rfl (by omega),?_⟩;have hp:=phF_len (us:=m.us) (x:=x);have hd:=phF_in (us:=m.us) (x:=x);have hown:=own_in (n:=m.n) (us:=m.us) hx1 m.us.length (lR_ _);generalize phF m.us x=phs at *
     have cF:=lx_pouts h.L hg hn1 hn24 ho1 ho24 hp hd;have cP:=lx_ppiece h.L hg hn1 hn24 ho1 ho24 hp hd;have hfl:=fun f hf=>(pfO_fl (phs:=phs) h.L hg hn24 f hf).mono (e':=7500) (k':=15900) h.L (by omega) (by omega) (Int.le_refl _);have hrl:(pcS m.n m.us phs m.us.length m.us.length).length≤1000:=by rw[pc_len];omega
     have hol:(pfO m.n m.us m.os phs m.os.length).length≤1000:=by simp[pfO];omega
     have ci:=lx_inside h.L (pcS_fl (phs:=phs) h.L hg hn24) hrl hx2 hx1 (by omega);have ci':=lx_inside h.L (pcS_fl (phs:=phs) h.L hg hn24) hrl hy2 hy1 (by omega);rw[ins_iff.2 (rows_iff.2 hown)]at ci;have cv:=lx_values h.L hfl hol hx2 hx1 (by omega);rw[pfO_val hx1 hown,h.outs hx1]at cv;have cr:=lx_run h hx2 hx1;have cr':=lx_run h hy2 hy1;conv=>whnf
     refine .c (cF) ?_;conv=>whnf
     conv=>whnf
     refine .c (cP) ?_;conv=>whnf
     conv=>whnf
     refine .c (ci) ?_;conv=>whnf
     conv=>whnf
     refine .c (cr) ?_;conv=>whnf
     conv=>whnf
     refine .c (cv) ?_;conv=>whnf
     conv=>whnf
     refine .c (cr') ?_;conv=>whnf
     conv=>whnf
     cases hb:insB (pcS m.n m.us phs m.us.length m.us.length) y 0 with
     |false=>
      rw[hb]at ci';refine .c (ci') ?_;conv=>whnf
      conv=>whnf
      exact .q ⟨rfl,rfl⟩
     |true=>
      rw[hb]at ci';have cv':=lx_values h.L hfl hol hy2 hy1 (by omega);rw[pfO_val hy1 (rows_iff.1 (ins_iff.1 hb)),h.outs hy1]at cv';refine .c (ci') ?_;conv=>whnf
      refine .c (cv') ?_;conv=>whnf
      conv=>whnf
      exact .q ⟨rfl,rfl⟩
end Go.Proofs.YtbegidaaiajffaaGreatDoor.Lf
