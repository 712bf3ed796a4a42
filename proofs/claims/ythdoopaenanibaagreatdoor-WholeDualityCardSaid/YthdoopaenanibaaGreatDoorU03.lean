/- Texts LfI LfJ LfK LvS LyA Bb of this proof, in this order. -/
import Derived.Test.YthdoopaenanibaaGreatDoorU02
import Derived.KernelRfl
import Derived.Test.YthdoopaenanibaaGreatDoorRows
import Derived.Test.YthdoopaenanibaaGreatDoorU01
import Derived.WalkSmall
set_option linter.unusedVariables false
set_option linter.unusedSimpArgs false
set_option maxRecDepth 100000
set_option maxHeartbeats 4000000
namespace Go.Proofs.YthdoopaenanibaaGreatDoor.Lf
open Go.RowKit Nt
noncomputable def fNs (l:List Nat):Nat→(Nat→Prop)→Prop:=List.rec (motive:=fun _=>Nat→(Nat→Prop)→Prop) (fun n K=>K n) (fun m _ ih n K=> @Bool.rec (fun _=>Prop) (ih n K) (K m) (Nat.beq n m)) l
noncomputable def fN (n:Nat)(K:Nat→Prop):Prop:=fNs [0,1,2,3,4,5,6,7,8,9,10,11,12,13,14,15,16,17,18,19,20,21,22,23,24,25,26,27,28,29,30,31,32,33,34,35,36,37,38,39,40] n K
def fD (d:D)(K:D→Prop):Prop:=match d with
 | .lit (.int k z)=>K (.lit (.int k z))
 | .lit v=>K (.lit v)
 | .lm xs=>K (.lm xs)
 | .sl k xs=>K (.sl k xs)
noncomputable def fDs (l:List D):(List D→Prop)→Prop:=List.rec (motive:=fun _=>(List D→Prop)→Prop) (fun K=>K []) (fun x _ ih K=>fD x fun x=>ih fun r=>K (x::r)) l
theorem fDs_cons (x:D)(r:List D)(K:List D→Prop):fDs (x::r) K=fD x fun x=>fDs r fun r=>K (x::r):=rfl
noncomputable def fB (x:BA)(K:BA→Prop):Prop:=match x with
 | .e row off=>fN off fun off=>fDs row fun row=>K (.e row off)
 | .g xs=>fDs xs fun xs=>K (.g xs)
 | .d d=>fD d fun d=>K (.d d)
 | .ptr k o=>K (.ptr k o)
noncomputable def fBs (l:List BA):(List BA→Prop)→Prop:=List.rec (motive:=fun _=>(List BA→Prop)→Prop) (fun K=>K []) (fun x _ ih K=>fB x fun x=>ih fun r=>K (x::r)) l
theorem fBs_cons (x:BA)(r:List BA)(K:List BA→Prop):fBs (x::r) K=fB x fun x=>fBs r fun r=>K (x::r):=rfl
noncomputable def fA (x:A)(K:A→Prop):Prop:=match x with
 | .d d=>fD d fun d=>K (.d d)
 | .ptr k o=>K (.ptr k o)
 | .own k s xs=>K (.own k s xs)
 | .full k xs=>K (.full k xs)
 | .elt row o=>fN o fun o=>fDs row fun row=>K (.elt row o)
 | .fn f xs ys=>fBs xs fun xs=>fBs ys fun ys=>K (.fn f xs ys)
 | .tab k n=>K (.tab k n)
 | .mp k=>K (.mp k)
 | .th k n=>K (.th k n)
 | .tp k n i=>K (.tp k n i)
 | .row k a n f=>K (.row k a n f)
 | .rp k a o=>K (.rp k a o)
 | .one k a n f=>K (.one k a n f)
noncomputable def fAs (l:List A):(List A→Prop)→Prop:=List.rec (motive:=fun _=>(List A→Prop)→Prop) (fun K=>K []) (fun x _ ih K=>fA x fun x=>ih fun r=>K (x::r)) l
theorem fAs_cons (x:A)(r:List A)(K:List A→Prop):fAs (x::r) K=fA x fun x=>fAs r fun r=>K (x::r):=rfl
noncomputable def fW (x:W)(K:W→Prop):Prop:=match x with
 | .s x=>fA x fun x=>K (.s x)
 | .g xs=>fAs xs fun xs=>K (.g xs)
noncomputable def fWs (l:List W):(List W→Prop)→Prop:=List.rec (motive:=fun _=>(List W→Prop)→Prop) (fun K=>K []) (fun x _ ih K=>fW x fun x=>ih fun r=>K (x::r)) l
theorem fWs_cons (x:W)(r:List W)(K:List W→Prop):fWs (x::r) K=fW x fun x=>fWs r fun r=>K (x::r):=rfl
noncomputable def fV (x:V)(K:V→Prop):Prop:=match x with
 | .a x=>fA x fun x=>K (.a x)
 | .agg xs=>fAs xs fun xs=>K (.agg xs)
 | .tup xs=>fWs xs fun xs=>K (.tup xs)
noncomputable def fVs (l:List V):(List V→Prop)→Prop:=List.rec (motive:=fun _=>(List V→Prop)→Prop) (fun K=>K []) (fun x _ ih K=>fV x fun x=>ih fun r=>K (x::r)) l
theorem fVs_cons (x:V)(r:List V)(K:List V→Prop):fVs (x::r) K=fV x fun x=>fVs r fun r=>K (x::r):=rfl
noncomputable def fE (x:Ent)(K:Ent→Prop):Prop:=match x with
 | .gone=>K .gone
 | .box t cs=>fAs cs fun cs=>K (.box t cs)
 | .arr e k n=>K (.arr e k n)
 | .tab e k rows=>K (.tab e k rows)
 | .mp φ=>K (.mp φ)
 | .tt e0 e k o ar=>K (.tt e0 e k o ar)
noncomputable def fHs (l:List (Nat×Ent)):(List (Nat×Ent)→Prop)→Prop:=List.rec (motive:=fun _=>(List (Nat×Ent)→Prop)→Prop) (fun K=>K []) (fun p _ ih K=>fN p.1 fun k=>fE p.2 fun x=>ih fun r=>K ((k,x)::r)) l
theorem fHs_cons (p:Nat×Ent)(r:List (Nat×Ent))(K:List (Nat×Ent)→Prop):fHs (p::r) K=fN p.1 fun k=>fE p.2 fun x=>fHs r fun r=>K ((k,x)::r):=rfl
theorem fNs_eq (K:Nat→Prop)(n:Nat):∀l,fNs l n K=K n
 |[]=>rfl
 |m::ms=>by
  show @Bool.rec (fun _=>Prop) (fNs ms n K) (K m) (Nat.beq n m)=K n
  cases h:Nat.beq n m with
  |true=>rw[Nat.eq_of_beq_eq_true h]
  |false=>exact fNs_eq K n ms
theorem fN_eq (K:Nat→Prop)(n:Nat):fN n K=K n:=fNs_eq K n _
theorem fD_eq (K:D→Prop)(d:D):fD d K=K d:=by unfold fD;split<;>rfl
theorem fDs_eq:∀(l:List D) (K:List D→Prop),fDs l K=K l
 |[],_=>rfl
 |x::r,K=>by rw[fDs_cons,fD_eq,fDs_eq r]
theorem fB_eq (K:BA→Prop)(x:BA):fB x K=K x:=by cases x<;>simp only[fB,fD_eq,fN_eq,fDs_eq]
theorem fBs_eq:∀(l:List BA) (K:List BA→Prop),fBs l K=K l
 |[],_=>rfl
 |x::r,K=>by rw[fBs_cons,fB_eq,fBs_eq r]
theorem fA_eq (K:A→Prop)(x:A):fA x K=K x:=by cases x<;>simp only[fA,fD_eq,fN_eq,fDs_eq,fBs_eq]
theorem fAs_eq:∀(l:List A) (K:List A→Prop),fAs l K=K l
 |[],_=>rfl
 |x::r,K=>by rw[fAs_cons,fA_eq,fAs_eq r]
theorem fW_eq (K:W→Prop)(x:W):fW x K=K x:=by cases x<;>simp only[fW,fA_eq,fAs_eq]
theorem fWs_eq:∀(l:List W) (K:List W→Prop),fWs l K=K l
 |[],_=>rfl
 |x::r,K=>by rw[fWs_cons,fW_eq,fWs_eq r]
theorem fV_eq (K:V→Prop)(x:V):fV x K=K x:=by cases x<;>simp only[fV,fA_eq,fAs_eq,fWs_eq]
theorem fVs_eq:∀(l:List V) (K:List V→Prop),fVs l K=K l
 |[],_=>rfl
 |x::r,K=>by rw[fVs_cons,fV_eq,fVs_eq r]
theorem fE_eq (K:Ent→Prop)(x:Ent):fE x K=K x:=by cases x<;>simp only[fE,fAs_eq]
theorem fHs_eq:∀(l:List (Nat×Ent)) (K:List (Nat×Ent)→Prop),fHs l K=K l
 |[],_=>rfl
 |(k,x)::r,K=>by rw[fHs_cons,fN_eq,fE_eq,fHs_eq r]
noncomputable def bK (b:Bool)(A B:Prop):Prop:= @Bool.rec (fun _=>Prop) B A b
theorem bs {b:Bool}{A B:Prop}(h:b=true→A)(k:b=false→B): @Bool.rec (fun _=>Prop) B A b:=by
 cases b
 ·exact k rfl
 ·exact h rfl
theorem bT {b:Bool}{A B:Prop}(e:b=true)(h:A): @Bool.rec (fun _=>Prop) B A b:=by subst e;exact h
theorem bF {b:Bool}{A B:Prop}(e:b=false)(h:B): @Bool.rec (fun _=>Prop) B A b:=by subst e;exact h
noncomputable def fXw (x:W)(K:W→Prop):Prop:=match x with
 | .s (.d (.lit (.bool b)))=>bK b (K (.s (.d (.lit (.bool true))))) (K (.s (.d (.lit (.bool false)))))
 |x=>fW x K
noncomputable def fXs (l:List W):(List W→Prop)→Prop:=List.rec (motive:=fun _=>(List W→Prop)→Prop) (fun K=>K []) (fun x _ ih K=>fXw x fun x=>ih fun r=>K (x::r)) l
theorem fXs_cons (x:W)(r:List W)(K:List W→Prop):fXs (x::r) K=fXw x fun x=>fXs r fun r=>K (x::r):=rfl
noncomputable def fX (v:V)(K:V→Prop):Prop:=match v with
 | .a (.d (.lit (.bool b)))=>bK b (K (.a (.d (.lit (.bool true))))) (K (.a (.d (.lit (.bool false)))))
 | .tup ws=>fXs ws fun ws=>K (.tup ws)
 |v=>fV v K
theorem bK_of {b:Bool}{K:Bool→Prop}:bK b (K true) (K false)=K b:=by cases b<;>rfl
theorem fXw_eq (x:W)(K:W→Prop):fXw x K=K x:=by
 unfold fXw;split
 ·rename_i b;exact bK_of (K:=fun b=>K (W.s (A.d (D.lit (Value.bool b)))))
 ·exact fW_eq K _
theorem fXs_eq:∀(l:List W) (K:List W→Prop),fXs l K=K l
 |[],_=>rfl
 |x::r,K=>by rw[fXs_cons,fXw_eq,fXs_eq r]
theorem fX_eq (v:V)(K:V→Prop):fX v K=K v:=by
 unfold fX;split
 ·rename_i b;exact bK_of (K:=fun b=>K (V.a (A.d (D.lit (Value.bool b)))))
 ·rw[fXs_eq]
 ·rw[fV_eq]
inductive Ix (z:Int) (xs:List (List D)) (K:List D→Prop):Prop
 |mk (m:Nat) (row:List D) (h1:z=(m:Int)) (h2:xs[m]? =some row) (h3:K row):Ix z xs K
inductive Sx (lo:Option Int) (hi:Option Int) (xs:List (List D)) (K:List (List D)→Prop):Prop
 |mk (l u:Nat) (ys:List (List D)) (h1:lo.getD 0=(l:Int)) (h2:hi.getD (xs.length:Int)=(u:Int)) (h3:l≤u) (h4:u≤xs.length) (h5:ys=(xs.take u).drop l) (h6:K ys):Sx lo hi xs K
inductive Apx (n:Nat) (xs ys:List (List D)) (K:List (List D)→Nat→Prop):Prop
 |mk (zs:List (List D)) (h1:n=xs.length) (h2:zs=xs++ys) (h3:zs.length≤68719476736) (h4:K zs zs.length):Apx n xs ys K
def LX (P:Program)(f:FuncId)(args:List V)(H:List (Nat×Ent))(R:V→List (Nat×Ent)→Prop):Prop:=∃v H',R v H'∧LC P f args H v H'
def Drop (ks:List Nat)(H S0 S:List (Nat×Ent)):Prop:=∀k,look S k=look S0 k∨(look S k=none∧k∈ks∧look S0 k=look H k)
theorem OT_drop {P:Program}{o:Oper}{T:Nat→Option V}{H:List (Nat×Ent)}{v:V}{ks rk:List Nat}{S0 S:List (Nat×Ent)}(h:OT P o T (look H) v S0 (ks++rk))(hd:Drop ks H S0 S):OT P o T (look H) v S (ks++rk):=by
 intro T' h' γ M w a next Q hT hk hr ht hn
 refine h T' h' γ M w a next Q hT hk hr ht fun r γ' M' w' r1 r2 r3=> ?_
 have e:over S0 h'=over S h':=by
  funext k
  unfold over;rcases hd k with h1|⟨h1,h2,h3⟩
  ·rw[h1]
  ·rw[h1,h3];have h4:=hk k (List.mem_append_left _ h2)
   cases h5:look H k with
   |none=>rfl
   |some e=>rw[h4,h5]
 rw[e]at r1 r2 r3;exact hn r γ' M' w' r1 r2 r3
inductive Cn (P:Program) (F:FuncId) (vs:List V) (H:List (Nat×Ent)) (n:Nat) (K:V→List (Nat×Ent)→List Nat→Nat→Prop):Prop
 |pure (gs:List V) (R:V→List (Nat×Ent)→Prop) (he:entT P F=true) (hc:LX P F gs [] R) (hw:All2 WkV vs gs) (hg:(gs.flatMap keysV).isEmpty=true)
   (hk:∀v H',R v H'→H'=[]∧keysV v=[]∧fX v fun v=>K v [] [] n):Cn P F vs H n K
 |lend (ks:List Nat) (gs:List V) (Hs:List (Nat×Ent)) (R:V→List (Nat×Ent)→Prop) (he:entT P F=true) (hc:LX P F (gs.map (renV fun k=>ks.idxOf k)) Hs R) (hw:All2 WkV vs gs) (hn:ks.Nodup) (hb:∀k∈ks,k<n)
   (hl:lendFrom (look H) 0 ks=some Hs) (hg:∀key∈gs.flatMap keysV,key∈ks)
   (hk:∀v H1,R v H1→H1.all (fun p=>noKeys p.2)=true∧(∀p∈H1,ks.length≤p.1→look H (back ks n p.1)=none)∧
    fX (renV (back ks n) v) fun v=>fHs (H1.map fun p=>(back ks n p.1,p.2)) fun sets=>K v sets (ks++H1.map fun p=>back ks n p.1) (n+H1.length)):Cn P F vs H n K
 |lendK (ks:List Nat) (gs:List V) (Hs:List (Nat×Ent)) (R:V→List (Nat×Ent)→Prop) (he:entT P F=true) (hc:LX P F (gs.map (renV fun k=>ks.idxOf k)) Hs R) (hw:All2 WkV vs gs) (hn:ks.Nodup) (hb:∀k∈ks,k<n)
   (hl:lendKF ks (look H) 0 ks=some Hs) (hg:∀key∈gs.flatMap keysV,key∈ks)
   (hk:∀v H1,R v H1→(∀p∈H1,ks.length≤p.1→look H (back ks n p.1)=none)∧
    fX (renV (back ks n) v) fun v=>fHs (H1.map fun p=>(back ks n p.1,renE (back ks n) p.2)) fun sets=>K v sets (ks++H1.map fun p=>back ks n p.1) (n+H1.length)):Cn P F vs H n K
 |lendD (ks:List Nat) (gs:List V) (Hs:List (Nat×Ent)) (R:V→List (Nat×Ent)→Prop) (he:entT P F=true) (hc:LX P F (gs.map (renV fun k=>ks.idxOf k)) Hs R) (hw:All2 WkV vs gs) (hn:ks.Nodup) (hb:∀k∈ks,k<n)
   (hl:lendKF ks (look H) 0 ks=some Hs) (hg:∀key∈gs.flatMap keysV,key∈ks)
   (hk:∀v H1,R v H1→(∀p∈H1,ks.length≤p.1→look H (back ks n p.1)=none)∧∃S:List (Nat×Ent),Drop ks H (H1.map fun p=>(back ks n p.1,renE (back ks n) p.2)) S∧
    fX (renV (back ks n) v) fun v=>fHs S fun sets=>K v sets (ks++H1.map fun p=>back ks n p.1) (n+H1.length)):Cn P F vs H n K
inductive Bsx (X Y:Prop):Prop
 |own (h:X):Bsx X Y
 |full (h:Y):Bsx X Y
inductive Aqx (n:Nat) (xs ys:List (List D)) (K K2:List (List D)→Nat→Prop):Prop
 |mk (zs:List (List D)) (h1:n=xs.length) (h2:zs=xs++ys) (h3:zs.length≤68719476736) (h4:K zs zs.length):Aqx n xs ys K K2
 |tab (zs:List (List D)) (h2:zs=xs++ys) (h3:zs.length≤68719476736) (h1:∀row∈zs,∀d∈row,plainD d=true) (h4:K2 zs zs.length):Aqx n xs ys K K2
inductive Inx (P:Program) (t:TypeId) (v:Value) (name:String) (K:FuncId→Value→Prop):Prop
 |mk (F:FuncId) (r:Value) (h:Meth P t v name F r) (k:K F r):Inx P t v name K
inductive Itx (z:Int) (nn:Nat) (K:Nat→Prop):Prop
 |mk (m:Nat) (h1:z=(m:Int)) (h2:m<nn) (h3:K m):Itx z nn K
inductive Ltx (off k s:Nat) (rows:List (List D)) (K:List A→Prop):Prop
 |mk (m j:Nat) (row:List D) (h1:off=m*k+j) (h2:rows[m]? =some row) (h3:K (((row.drop j).take s).map .d)):Ltx off k s rows K
inductive Stx (off k s:Nat) (rows:List (List D)) (ds:List D) (K:List (List D)→Prop):Prop
 |mk (m j:Nat) (row:List D) (rows':List (List D)) (h1:off=m*k+j) (h2:rows[m]? =some row) (h3:j+s≤row.length) (h4:rows'=rows.set m (row.take j++ds++row.drop (j+s))) (h5:K rows'):Stx off k s rows ds K
inductive Thx (z:Int) (len nn:Nat) (K:Nat→Prop):Prop
 |mk (m:Nat) (h0:len=nn) (h1:z=(m:Int)) (h2:m<nn) (h3:K m):Thx z len nn K
inductive Lrx (ar:List (List (List D))) (a off k s:Nat) (K:List A→Prop):Prop
 |mk (rows:List (List D)) (m j:Nat) (row:List D) (h0:ar[a]? =some rows) (h1:off=m*k+j) (h2:rows[m]? =some row) (h3:K (((row.drop j).take s).map .d)):Lrx ar a off k s K
inductive Lhx (o:List (Sum (Nat×Nat×Bool) D)) (nn i:Nat) (K1:Nat→Nat→Bool→Prop) (K2:D→Prop):Prop
 |row (a m:Nat) (f:Bool) (h0:o.length=nn) (h1:o[i]? =some (.inl (a,m,f))) (h2:K1 a m f):Lhx o nn i K1 K2
 |dat (d:D) (h0:o.length=nn) (h1:o[i]? =some (.inr d)) (h2:K2 d):Lhx o nn i K1 K2
inductive Srx (ar:List (List (List D))) (a off k s:Nat) (ds:List D) (K:List (List (List D))→Prop):Prop
 |mk (rows:List (List D)) (m j:Nat) (row:List D) (ar':List (List (List D))) (h0:ar[a]? =some rows) (h1:off=m*k+j) (h2:rows[m]? =some row) (h3:j+s≤row.length) (h4:ar'=ar.set a (rows.set m (row.take j++ds++row.drop (j+s)))) (h5:K ar'):Srx ar a off k s ds K
inductive Shx (o:List (Sum (Nat×Nat×Bool) D)) (nn i:Nat) (q:Sum (Nat×Nat×Bool) D) (K:List (Sum (Nat×Nat×Bool) D)→Prop):Prop
 |mk (o':List (Sum (Nat×Nat×Bool) D)) (h0:o.length=nn) (h1:i<nn) (h2:o'=o.set i q) (h3:K o'):Shx o nn i q K
inductive Ahx (o:List (Sum (Nat×Nat×Bool) D)) (nn:Nat) (q:Sum (Nat×Nat×Bool) D) (K:List (Sum (Nat×Nat×Bool) D)→Prop):Prop
 |mk (o':List (Sum (Nat×Nat×Bool) D)) (h0:o.length=nn) (h1:nn+1≤68719476736) (h2:o'=o++[q]) (h3:K o'):Ahx o nn q K
inductive Mrx (z z':Int) (ar:List (List (List D))) (ds:List D) (K:Nat→Nat→List (List (List D))→Prop):Prop
 |mk (nn a:Nat) (ar':List (List (List D))) (h1:z=(nn:Int)) (h2:z'=(nn:Int)) (h3:nn≤68719476736) (h0:a=ar.length) (h4:ar'=ar++[List.replicate nn ds]) (h5:K nn a ar'):Mrx z z' ar ds K
def ttIn (e:TypeId)(k:Nat):List (Nat×Ent)→Option (Nat×TypeId×List (Sum (Nat×Nat×Bool) D)×List (List (List D)))
 |[]=>none
 |(key,.tt e0 e' k' o ar)::r=>if e'=e∧k'=k then some (key,e0,o,ar)else ttIn e k r
 |_::r=>ttIn e k r
inductive Mkx (z z':Int) (K:Nat→Prop):Prop
 |mk (nn:Nat) (h1:z=(nn:Int)) (h2:z'=(nn:Int)) (h3:nn≤68719476736) (h4:K nn):Mkx z z' K
inductive Eqx (c:Bool) (A:Prop):Prop
 |mk (h:c=true) (k:A):Eqx c A
inductive Mnx (K:MPred→Prop) (P:Program):Prop
 |mk (k e:TypeId) (h:K (MXp P k e 0 (.map []))):Mnx K P
inductive Lkx (P:Program) (t:TypeId) (φ:MPred) (v:Value) (K:Lit→Prop):Prop
 |mk (k e:TypeId) (n:Nat) (D:DataW Unit) (kl zl l:Lit) (h:LkOk P t φ v k e n D kl zl l) (hk:K l):Lkx P t φ v K
inductive Sadx (a b:ByteArray) (K:ByteArray→Prop):Prop
 |mk (c:ByteArray) (h:a.size+b.size≤4611686018427387904) (e:c=a++b) (hk:K c):Sadx a b K
inductive Lk2 (P:Program) (t:TypeId) (φ:MPred) (v:Value) (K:A→Bool→Prop):Prop
 |no (k e:TypeId) (n:Nat) (D:DataW Unit) (kl zl:Lit) (h:LkNo P t φ v k e n D kl zl) (hk:K (.d (.lit zl.value)) false):Lk2 P t φ v K
 |yes (k e:TypeId) (n:Nat) (D:DataW Unit) (kl zl l:Lit) (h:LkYes P t φ v k e n D kl zl l) (hk:K (.d (.lit l.value)) true):Lk2 P t φ v K
 |any (x:A) (h:LkAny P t φ v x) (hk:K x true):Lk2 P t φ v K
inductive Mux (P:Program) (t:TypeId) (φ:MPred) (v u:Value) (K:MPred→Prop):Prop
 |mk (k e:TypeId) (n:Nat) (D:DataW Unit) (kl l:Lit) (h:MuOk P t φ v u k e n D kl l) (hk:K (MXp P k e (n+1) (D.put kl (.lit l)))):Mux P t φ v u K
def negE:BinOp→Option Bool
 | .eql=>some false
 | .neq=>some true
 |_=>none
def intV (v:Option V):Option Int:=match v with
 |some (.a (.d (.lit (.int _ z))))=>some z
 |_=>none
def intO (ev:Operand→Option V):Option Operand→Option (Option Int)
 |none=>some none
 |some x=>(intV (ev x)).map some
inductive Sfx (z z':Int) (n:Nat) (K:Prop):Prop
 |mk (h1:z=(n:Int)) (h2:z'=(n:Int)) (h3:K):Sfx z z' n K
theorem intV_eval {P:Program}{γ:Gh}{h:Hp}{M:MS}{w:World}{T:Nat→Option V}{a:Act}(ht:TR γ h M w T a){x:Operand}{z:Int}(hx:intV (evL T x)=some z):∃k,a.eval x= .int k z:=by
 unfold intV at hx;split at hx
 ·rename_i k z' e;injection hx with hx;subst hx;exact⟨k,lit_inv (evL_ok ht e)⟩
 ·cases hx
theorem OT_full {P:Program}{o:Oper}{T:Nat→Option V}{h:Hp}{t:TypeId}{x hi mx:Operand}{k:Nat}{xs:List (List D)}{e:TypeId}(ho:o.op= .slice t x none (some hi) (some mx))(hx:(evL T x).bind slOf=some (k,xs))(h1:intV (evL T hi)=some (xs.length:Int))(h2:intV (evL T mx)=some (xs.length:Int))(he:elemT P t=some (e,k)):
  OT P o T h (.a (.full k xs)) [] []:=by
 intro T' h' γ M w a next Q hT hk hr ht hn
 have c1:evL T' x=evL T x:=evL_congr fun d hd=>hT d (by rw[ho];simp[Op.operands,hd]);have c2:evL T' hi=evL T hi:=evL_congr fun d hd=>hT d (by rw[ho];simp[Op.operands,hd]);have c3:evL T' mx=evL T mx:=evL_congr fun d hd=>hT d (by rw[ho];simp[Op.operands,hd]);rw[←c1]at hx;rw[←c2]at h1;rw[←c3]at h2;obtain⟨vx,hvx,h3⟩:=Option.bind_eq_some_iff.1 hx;obtain⟨e1,e2⟩:=elemT_ok he;have hrd:=slOf_ok (evL_ok ht hvx) h3;obtain⟨k1,q1⟩:=intV_eval (P:=P) ht h1;obtain⟨k2,q2⟩:=intV_eval (P:=P) ht h2;have hsl:∃ad n cap,a.eval x= .slice ad n cap∧xs.length=n∧n≤cap:=by
  generalize a.eval x=r0 at hrd
  cases hrd with
  |sl k xs ad cap vs hc=>exact⟨_,_,_,rfl,rfl,hc⟩
 obtain⟨ad,n,cap,hax,hn',hcap⟩:=hsl;rw[hax]at hrd;subst hn';have hb:(Instr.sliceBounds true xs.length cap (Option.map a.eval none) ((some hi).map a.eval) ((some mx).map a.eval)).run P w= .ok (0,xs.length,xs.length) w:=by
  simp only[Option.map_none,Option.map_some,q1,q2];simp[Instr.sliceBounds];rw[sliceBound_run (by omega)];simp;rw[sliceBound_run (by omega)];simp
 have hrun:(execOp a.eval o).run P w= .ok (.value (.slice (if xs.length=0 then ad else ad.map (·.add (0*k))) (xs.length-0) (xs.length-0))) w:=by
  simp only[Option.map_none,Option.map_some]at hb;simp[execOp,ho,hax,Instr.sliceAt,run_underlying e1,Instr.slice,hb,sizeT_run e2]
 unfold Oper.wp;rw[hrun];have hp:=sl_part (l:=0) (u:=xs.length) (m:=xs.length) hrd (zL_ _) (lR_ _) (lR_ _) hcap;rw[List.take_length,List.drop_zero]at hp;exact hn _ γ M w hr ⟨hp,_,rfl⟩ (Stp.refl _ _ _ _)
theorem app_full {P:Program}{γ:Gh}{h:Hp}{M:MS}{w:World}{t ty e:TypeId}{k:Nat}{key:Nat}{xs ys:List (List D)}{vx vy:Value}(r:Rel γ h M w)(hkey:h key=none)(ht:P.underlying t=some (.slice e))(hok:appOk P e k=true)
  (hx:RdD M w (.sl k xs) vx) (hf:∃ad,vx= .slice ad xs.length xs.length) (hy:RdD M w (.sl k ys) vy) (hm0:0<ys.length) (hb:xs.length+ys.length≤68719476736):
  ∃v' w' γ' M',(Builtin.append_ #[t,t] ty #[vx,vy]).run P w= .ok v' w'∧Rel γ' (over [(key,.arr e k (xs.length+ys.length))] h) M' w'∧RdV γ' (over [(key,.arr e k (xs.length+ys.length))] h) M' w' (.a (.own key k (xs++ys))) v'∧
   Stp γ h M w γ' (over [(key,.arr e k (xs.length+ys.length))] h) M' w':=by
 obtain⟨ad,rfl⟩:=hf;obtain⟨i,z,hi,hz,hk0,hs,hby,hzs,hzu⟩:=appOk_ok hok;subst hs;obtain⟨ay,my,cy',rfl⟩:∃a n c,vy= .slice a n c:=by
  rcases rdD_slice hy with⟨_,e⟩|h5
  ·cases e
  ·exact h5
 obtain⟨l1,l2,l3,hky,cy,hcy,h1y,hfy,hry⟩:=sl_cells hy hk0;subst l1;obtain⟨b,o,rfl,hfz⟩:=hfy (by omega);obtain⟨lx1,lx2,lx3,hkx,cx,hcx,h1x,hfx,hrx⟩:=sl_cells hx hk0;have hnews:∀j v,cy[j]? =some v→w.cell? ((⟨b,o,none⟩:Addr).add j)=some v:=fun j v hj=>by rw[Addr.add_lit];exact(hfz j v hj).2
 have hmax:xs.length+ys.length≤maxLen:=by simp[maxLen];omega
 cases ad with
 |none=>
  have h0:xs.length=0:=by
   rcases eP_ xs.length with h0|h0
   ·exact h0
   ·obtain⟨_,_,e,_⟩:=hfx h0;cases e
  have hxs:xs=[]:=List.eq_nil_of_length_eq_zero h0;subst hxs;exact app_run r hkey ht hok (.inr ⟨rfl,rfl,rfl⟩) hx rfl hy rfl hb
 |some g=>
  have holds:∀j v,cx[j]? =some v→w.cell? (g.add j)=some v:=fun j v hj=>by
   have hlt:=(List.getElem?_eq_some_iff.1 hj).1;have hn0:0<xs.length:=by
    rcases eP_ xs.length with h0|h0
    ·rw[hcx,h0,Nat.zero_mul]at hlt;omega
    ·exact h0
   obtain⟨b2,o2,e2,hf2⟩:=hfx hn0;injection e2 with e2;subst e2;rw[Addr.add_lit];exact(hf2 j v hj).2
  have hr:=run_append_grow (P:=P) w t ty e i z ht hi hz g xs.length xs.length cx hcx holds ⟨b,o,none⟩ ys.length cy' cy hcy hnews (by omega) (by omega) (growslice_fits (by omega) (by
   have:=Nat.mul_le_mul hb hby;omega))
  have hge:=grownCap_ge w (xs.length+ys.length) xs.length e;obtain⟨γ',M',q1,q2,q3⟩:=own_moved (w1:=w.drew) r (key:=key) (e:=e) (k:=i.size) (n:=xs.length+ys.length) (xs:=xs++ys) (cells:=cx++cy) (cap:=grownCap w (xs.length+ys.length) xs.length e) (cs:=cx.toArray++cy.toArray++Builtin.zeroCells z.cells (grownCap w (xs.length+ys.length) xs.length e-(xs.length+ys.length))) hkey
   (.inl rfl) hk0 (by simp) hge (grownCap_le_maxLen w (xs.length+ys.length) xs.length e hmax) (by omega) (rows_len hkx hky) (by simp[hcx,hcy,Nat.add_mul]) (fun c hc=>by
    rcases List.mem_append.1 hc with h5|h5
    ·exact h1x c h5
    ·exact h1y c h5) (rows_app hcx hkx hrx hry)
   (by simp[size_zeroCells,hcx,hcy,hzs,←Nat.add_mul];congr 1;omega) (by
    have h5:(xs.length+ys.length)*i.size=(cx++cy).length:=by simp[hcx,hcy,Nat.add_mul]
    rw[h5];simp only[Array.toList_append,List.toList_toArray];exact List.take_left) (fun j x hj hx=>by
    rw[Array.getElem?_append_right (by simp[hcx,hcy];rw[Nat.add_mul]at hj;omega)]at hx;exact zeroCells_u32 (by omega) hzu _ x hx) rfl rfl rfl rfl
  exact⟨_,_,γ',M',hr,q1,q2,q3⟩
theorem OT_appfull {P:Program}{o:Oper}{T:Nat→Option V}{h:Hp}{t t':TypeId}{s x:Operand}{vx:V}{k n:Nat}{xs ys:List (List D)}{e:TypeId}(ho:o.op= .call {callee:= .builtin .append,args:= #[s,x],argTypes:= #[t,t']})(ht':(elemT P t').isSome=true)
  (hs:evL T s=some (.a (.full k xs))) (hx:evL T x=some vx) (hy:yOf k vx=some ys) (he:elemT P t=some (e,k)) (hok:appOk P e k=true) (hn0:h n=none) (hm:0<ys.length) (hb:xs.length+ys.length≤68719476736):
  OT P o T h (.a (.own n k (xs++ys))) [(n,.arr e k (xs.length+ys.length))] [n]:=by
 intro T' h' γ M w a next Q hT hk hr ht hn
 have hs':evL T' s=some (.a (.full k xs)):=by
  rw[←hs];exact evL_congr fun d hd=>hT d (by rw[ho];simp[Op.operands,Call.operands,hd])
 have hx':evL T' x=some vx:=by
  rw[←hx];exact evL_congr fun d hd=>hT d (by rw[ho];simp[Op.operands,Call.operands,hd])
 have h1:RdA γ h' M w (.full k xs) (a.eval s):=evL_ok ht hs';have h2:=evL_ok ht hx';obtain⟨⟨e2,s2⟩,he2⟩:=Option.isSome_iff_exists.1 ht';obtain⟨r,w',γ',M',k1,k3,k4,k5⟩:=app_full (ty:=o.type) hr ((hk n (by simp)).trans hn0) (elemT_ok he).1 hok h1.1 h1.2 (yOf_ok h2 hy) hm hb;unfold Oper.wp;have:(execOp a.eval o).run P w= .ok (.value r) w':=by
  simp[execOp,ho,resolve,invoke,builtin,append_types w t t' e e2 o.type _ (elemT_ok he).1 (elemT_ok he2).1,k1]
 rw[this];exact hn r γ' M' w' k3 k4 k5
noncomputable def opG (P:Program)(o:Oper)(T:List (Nat×V))(H:List (Nat×Ent))(n:Nat)(K:V→List (Nat×Ent)→List Nat→Nat→Prop):Prop:=
 match opL P o T H n with
 |some (v,sets,rk,n')=>fX v fun v=>fHs sets fun sets=>fN n' fun n'=>K v sets rk n'
 |none=>False
noncomputable def opB (P:Program)(o:Oper)(T:List (Nat×V))(H:List (Nat×Ent))(n:Nat)(K:V→List (Nat×Ent)→List Nat→Nat→Prop):Prop:=
 match pureL P (evL (look T)) o with
 |some v=>fX v fun v=>K v [] [] n
 |none=>False
theorem opB_ok {P:Program}{o:Oper}{T:List (Nat×V)}{H:List (Nat×Ent)}{n:Nat}{K:V→List (Nat×Ent)→List Nat→Nat→Prop}(h:opB P o T H n K):∃v sets rk n',OT P o (look T) (look H) v sets rk∧K v sets rk n':=by
 unfold opB at h;split at h
 ·rename_i v e;rw[fX_eq]at h;exact⟨v,[],[],n,OT_pure e,h⟩
 ·exact h.elim
def tabOf (T:Nat→Option V):List (Nat×Operand)→Option (Nat×Nat×Nat)
 |[]=>none
 |(_,.tmp d)::r=>match T d with
  |some (.a (.tab key nn))=>some (d,key,nn)
  |_=>tabOf T r
 |_::r=>tabOf T r
theorem tabOf_ok {T:Nat→Option V}:∀{ps:List (Nat×Operand)} {d key nn:Nat},tabOf T ps=some (d,key,nn)→T d=some (.a (.tab key nn))∧∃i,(i,Operand.tmp d)∈ps
 |(i,.tmp d')::r,d,key,nn,h=>by
  unfold tabOf at h;split at h
  ·rename_i k n hT;injection h with h;injection h with h1 h2;injection h2 with h2 h3;subst h1 h2 h3;exact⟨hT,i,List.mem_cons_self ..⟩
  ·obtain⟨q1,j,q2⟩:=tabOf_ok h;exact⟨q1,j,List.mem_cons_of_mem _ q2⟩
 |(i,.const _)::r,d,key,nn,h=>by
  obtain⟨q1,j,q2⟩:=tabOf_ok (ps:=r) h;exact⟨q1,j,List.mem_cons_of_mem _ q2⟩
 |(i,.func _)::r,d,key,nn,h=>by
  obtain⟨q1,j,q2⟩:=tabOf_ok (ps:=r) h;exact⟨q1,j,List.mem_cons_of_mem _ q2⟩
 |(i,.global _)::r,d,key,nn,h=>by
  obtain⟨q1,j,q2⟩:=tabOf_ok (ps:=r) h;exact⟨q1,j,List.mem_cons_of_mem _ q2⟩
inductive Fzx (nn:Nat) (K:Prop):Prop
 |mk (h:nn≤1099511627776) (k:K):Fzx nn K
theorem OT_buildFz {P:Program}{o:Oper}{T:List (Nat×V)}{h:Hp}{t e:TypeId}{parts:Array (Nat×Operand)}{d key nn k:Nat}{rows:List (List D)}{v:V}(ho:o.op= .build t parts)(hx:tabOf (look T) parts.toList=some (d,key,nn))(hh:h key=some (.tab e k rows))(hl:nn≤1099511627776)
  (hp:pureL P (evL (look ((d,.a (.d (.sl k rows)))::T))) o=some v):OT P o (look T) h v [(key,.gone)] [key]:=by
 intro T' h' γ M w a next Q hT hk hr ht hn
 obtain⟨x1,i,x2⟩:=tabOf_ok hx;have hTd:T' d=some (.a (.tab key nn)):=by
  rw[←x1];refine hT d ?_;rw[ho];simp only[Op.operands]
  first
   |exact List.mem_map.2 ⟨(i,.tmp d),x2,rfl⟩
   |simp;exact⟨i,by simpa using x2⟩
 have hh':=(hk key (by simp)).trans hh;obtain⟨M',q1,q2,q3⟩:=Lf.freeze hr hh' hl;have ht2:TR γ (over [(key,.gone)] h') M' w (fun d'=>if d=d' then some (.a (.d (.sl k rows)))else T' d') a:=by
  refine⟨ht.1.fx q2.fx,fun d' v' hv'=> ?_⟩;simp only at hv';split at hv'
  ·rename_i hdd;subst hdd;injection hv' with hv';subst hv';obtain⟨x,y1,y2⟩:=ht.2 _ _ hTd;exact⟨x,y1,q3 x y2⟩
  ·obtain⟨x,y1,y2⟩:=ht.2 d' v' hv';exact⟨x,y1,RdV.stp q2 y2⟩
 have hp':pureL P (evL (fun d'=>if d=d' then some (.a (.d (.sl k rows)))else T' d')) o=some v:=by
  rw[←hp];refine pureL_congr fun x hx=>evL_congr fun d' hd=> ?_;simp only[look];split
  ·rfl
  ·exact hT d' (hd▸hx)
 obtain⟨r,h1,h2⟩:=pureL_ok ht2 hp';unfold Oper.wp;rw[h1];exact hn r γ M' w q1 h2 q2
inductive Mmx (x:Int) (K:Int→Prop):Prop
 |mk (z:Int) (h:z=x) (k:K z):Mmx x K
theorem OT_mm {P:Program}{o:Oper}{T:Nat→Option V}{h:Hp}{x y:Operand}{ts:Array TypeId}{k k':IntKind}{a b:Int}(bt:Bool)(ho:o.op= .call {callee:= .builtin (bif bt then .max else .min),args:= #[x,y],argTypes:=ts})(hx:evL T x=some (vl (.int k a)))(hy:evL T y=some (vl (.int k' b))):
  OT P o T h (vl (.int k (bif bt then(if b>a then b else a)else(if b<a then b else a)))) [] []:=by
 intro T' h' γ M w act next Q hT hk hr ht hn
 have hx':evL T' x=some (vl (.int k a)):=by
  rw[←hx];exact evL_congr fun d hd=>hT d (by rw[ho];simp[Op.operands,Call.operands,hd])
 have hy':evL T' y=some (vl (.int k' b)):=by
  rw[←hy];exact evL_congr fun d hd=>hT d (by rw[ho];simp[Op.operands,Call.operands,hd])
 have h1:=lit_inv (evL_ok ht hx');have h2:=lit_inv (evL_ok ht hy');unfold Oper.wp
 cases bt
 ·have:(execOp act.eval o).run P w= .ok (.value (.int k (if b<a then b else a))) w:=by
   simp[execOp,ho,resolve,invoke,builtin,Builtin.min_,Builtin.min2,h1,h2]
  rw[this];exact hn _ γ M w hr (.lit _) (Stp.refl _ _ _ _)
 ·have:(execOp act.eval o).run P w= .ok (.value (.int k (if b>a then b else a))) w:=by
   simp[execOp,ho,resolve,invoke,builtin,Builtin.max_,Builtin.max2,h1,h2]
  rw[this];exact hn _ γ M w hr (.lit _) (Stp.refl _ _ _ _)
inductive Dvx (c:Prop) (x:Int) (K:Int→Prop):Prop
 |mk (z:Int) (h:c) (e:x=z) (k:K z):Dvx c x K
def isTmp:Operand→Bool
 | .tmp _=>true
 |_=>false
def fld0 (P:Program)(t:TypeId)(f:Nat):Bool:=
 match P.underlying t with
 |some (.struct fs)=>match fs[f]? with
  |some d=>Nat.beq d.offset 0&&Nat.beq d.byteOffset 0&&(match sizeT P d.type with|some 0=>true|_=>false)
  |none=>false
 |_=>false
theorem OT_fld0 {P:Program}{o:Oper}{T:Nat→Option V}{h:Hp}{t e:TypeId}{x:Operand}{f key:Nat}{cs:List A}(ho:o.op= .fieldAddr t x f)(hx:evL T x=some (.a (.ptr key 0)))(hh:h key=some (.box e cs))(he:Nat.beq (P.cellsOf e) 0=true)(hf:fld0 P t f=true):
  OT P o T h (.a (.ptr key 0)) [] [key]:=by
 intro T' h' γ M w a next Q hT hk hr ht hn
 have hx':evL T' x=some (.a (.ptr key 0)):=by
  rw[←hx];exact evL_congr fun d hd=>hT d (by rw[ho];simp[Op.operands,hd])
 have hv:=evL_ok ht hx';obtain⟨k0,g,k1,k2⟩:=hv;have hh':=(hk key (by simp)).trans hh;obtain⟨g',vs,k3,k4,k5⟩:=hr.ent key _ hh';rw[k1]at k3;injection k3 with k3;injection k3 with k3;injection k3 with k3;subst k3;have he':P.cellsOf e=0:=Nat.eq_of_beq_eq_true he;have hs:(Instr.fieldAt t (a.eval x) f).run P w= .ok (.pointer (some ⟨g,0,none⟩)) w:=by
  unfold fld0 at hf;split at hf
  ·rename_i fs h1;split at hf
   ·rename_i d h2;simp only[Bool.and_eq_true]at hf;obtain⟨⟨f1,f2⟩,f3⟩:=hf;have f1:=Nat.eq_of_beq_eq_true f1;have f2:=Nat.eq_of_beq_eq_true f2;split at f3
    ·rename_i h3;have hsh:w.shape? g=some (e,vs.length):=by simp[World.shape?,k4]
     rw[k2];simp[Instr.fieldAt,run_underlying h1,h2,Instr.sureAddr,fieldPlace,sizeT_run h3,partAt,byteOf,noView,viewAt,hsh,he',f1,f2]
    ·cases f3
   ·cases hf
  ·cases hf
 unfold Oper.wp;have:(execOp a.eval o).run P w= .ok (.value (.pointer (some ⟨g,0,none⟩))) w:=by simp[execOp,ho,hs]
 rw[this];exact hn _ γ M w hr ⟨k0,g,k1,rfl⟩ (Stp.refl _ _ _ _)
noncomputable def opR (P:Program)(o:Oper)(T:List (Nat×V))(H:List (Nat×Ent))(n:Nat)(K:V→List (Nat×Ent)→List Nat→Nat→Prop):Prop:=
 match o.op with
 | .build t ps=>(match tabOf (look T) ps.toList with
   |some (d,key,nn)=>(match look H key with
    |some (.tab e k rows)=>(match pureL P (evL (look ((d,.a (.d (.sl k rows)))::T))) o with
     |some v=>Fzx nn (fV v fun v=>K v [(key,.gone)] [key] n)
     |none=>False)
    |_=>opG P o T H n K)
   |none=>opG P o T H n K)
 | .fieldAddr t x f=>(match evL (look T) x with
   |some (.a (.ptr key off))=>(match look H key with
    |some (.box e cs)=>(match off with
     |0=>if Nat.beq (P.cellsOf e) 0=true∧fld0 P t f=true then K (.a (.ptr key 0)) [] [key] n else opG P o T H n K
     |_=>opG P o T H n K)
    |_=>opG P o T H n K)
   |_=>opG P o T H n K)
 | .indexAddr t x i=>match (evL (look T) x).bind slOf with
   |some (k,xs)=>match intV (evL (look T) i),elemT P t with
    |some z,some (_,s)=>if k=s then Ix z xs fun row=>fDs row fun row=>K (.a (.elt row 0)) [] [] n else False
    |_,_=>False
   |none=>(match evL (look T) x with
    |some (.a (.tab key nn))=>(match intV (evL (look T) i),elemT P t with
     |some z,some (_,s)=>Itx z nn fun m=>K (.a (.ptr key (m*s))) [] [] n
     |_,_=>False)
    |some (.a (.row key a nn f))=>(match intV (evL (look T) i),elemT P t with
     |some z,some (_,s)=>Itx z nn fun m=>K (.a (.rp key a (m*s))) [] [] n
     |_,_=>False)
    |some (.a (.th key nn))=>(match look H key,intV (evL (look T) i),elemT P t with
     |some (.tt e0 e k o ar),some z,some (_,1)=>Thx z o.length nn fun m=>K (.a (.tp key nn m)) [] [key] n
     |_,_,_=>False)
    |_=>opG P o T H n K)
 | .load t x=>(match evL (look T) x with
   |some (.a (.ptr key off))=>(match look H key with
    |some (.tab e k rows)=>(match aggT P t,sizeT P t with
     |some ag,some s=>Ltx off k s rows fun ys=>(match oneL ag ys s with
      |some v=>fX v fun v=>K v [] [key] n
      |none=>False)
     |_,_=>False)
    |_=>opG P o T H n K)
   |some (.a (.rp key a off))=>(match look H key,aggT P t,sizeT P t with
    |some (.tt e0 e k oo ar),some ag,some s=>Lrx ar a off k s fun ys=>(match oneL ag ys s with
      |some v=>fX v fun v=>K v [] [key] n
      |none=>False)
    |_,_,_=>False)
   |some (.a (.tp key nn i))=>(match look H key,aggT P t,sizeT P t with
    |some (.tt e0 e k oo ar),some false,some 1=>Lhx oo nn i (fun a m f=>K (.a (.row key a m f)) [] [key] n) (fun d=>fD d fun d=>K (.a (.d d)) [] [key] n)
    |_,_,_=>False)
   |_=>opG P o T H n K)
 | .store t x y=>(match evL (look T) x with
   |some (.a (.ptr key off))=>(match look H key with
    |some (.tab e k rows)=>(match sizeT P t,(evL (look T) y).bind cellsV with
     |some s,some xs=>(match toDs xs with
      |some ds=>if xs.length=s∧xs.all plainA=true then Stx off k s rows ds fun rows'=>K (vl undef) [(key,.tab e k rows')] [key] n else False
      |none=>False)
     |_,_=>False)
    |_=>opG P o T H n K)
   |some (.a (.rp key a off))=>(match look H key,sizeT P t,(evL (look T) y).bind cellsV with
    |some (.tt e0 e k oo ar),some s,some xs=>(match toDs xs with
      |some ds=>if xs.length=s∧xs.all plainA=true then Srx ar a off k s ds fun ar'=>K (vl undef) [(key,.tt e0 e k oo ar')] [key] n else False
      |none=>False)
    |_,_,_=>False)
   |some (.a (.tp key nn i))=>(match look H key,sizeT P t,evL (look T) y with
    |some (.tt e0 e k oo ar),some 1,some (.a (.row key' a m f))=>if key'=key then Shx oo nn i (.inl (a,m,f)) fun o'=>K (vl undef) [(key,.tt e0 e k o' ar)] [key] n else False
    |some (.tt e0 e k oo ar),some 1,some (.a (.d d))=>if oneA (.d d)=true∧plainA (.d d)=true then Shx oo nn i (.inr d) fun o'=>K (vl undef) [(key,.tt e0 e k o' ar)] [key] n else False
    |_,_,_=>False)
   |_=>opG P o T H n K)
 | .makeSlice t l c=>(match intV (evL (look T) l),intV (evL (look T) c),elemT P t,(look H n).isNone with
   |some z,some z',some (e,k),true=>(match zeroT P zb e with
    |some zs=>(match toDs zs with
     |some ds=>if appOk P e k=true∧zs.all plainA=true then(match ttIn e k H with
       |none=>Mkx z z' fun nn=>K (.a (.tab n nn)) [(n,.tab e k (List.replicate nn ds))] [n] (n+1)
       |some (key,_)=>(match look H key with
        |some (.tt e0 e1 k1 oo ar)=>if e1=e∧k1=k then Mrx z z' ar ds fun nn a ar'=>K (.a (.row key a nn true)) [(key,.tt e0 e k oo ar')] [key] n else False
        |_=>False))else False
     |none=>False)
    |none=>False)
   |_,_,_,_=>False)
 | .buildSlice t 0 ⟨[]⟩=>(match elemT P t with
   |some (e,k)=>Bsx (opG P o T H n K) (K (.a (.full k [])) [] [] n)
   |none=>False)
 | .buildSlice t 1 ⟨[(0,x)]⟩=>(match evL (look T) x with
   |some (.a (.row key a m f))=>(match elemT P t with
    |some (e1,1)=>if(zeroT P zb e1).isSome=true then K (.a (.one key a m f)) [] [] n else False
    |_=>False)
   |_=>opG P o T H n K)
 | .makeInterface t x=>(match (evL (look T) x).bind litV,notIf P t with
   |some v,true=>K (vl (.iface t v)) [] [] n
   |_,_=>False)
 | .makeMap t none=>(match (look H n).isNone with
   |true=>Mnx (fun φ=>K (.a (.mp n)) [(n,.mp φ)] [n] (n+1)) P
   |false=>False)
 | .lookup t m x false=>(match evL (look T) m,evL (look T) x with
   |some (.a (.mp key)),some (.a (.d (.lit v)))=>(match look H key with
    |some (.mp φ)=>Lkx P t φ v fun l=>fX (vl l.value) fun v=>K v [] [key] n
    |_=>False)
   |_,_=>False)
 | .lookup t m x true=>(match evL (look T) m,evL (look T) x with
   |some (.a (.mp key)),some (.a (.d (.lit v)))=>(match look H key with
    |some (.mp φ)=>Lk2 P t φ v fun x b=>fX (.tup [.s x,.s (.d (.lit (.bool b)))]) fun v=>K v [] [key] n
    |_=>False)
   |_,_=>False)
 | .mapUpdate t m x y=>(match evL (look T) m,evL (look T) x,evL (look T) y with
   |some (.a (.mp key)),some (.a (.d (.lit v))),some (.a (.d (.lit u)))=>(match look H key with
    |some (.mp φ)=>Mux P t φ v u fun φ=>K (vl undef) [(key,.mp φ)] [key] n
    |_=>False)
   |_,_,_=>False)
 | .slice t x lo hi none=>match (evL (look T) x).bind slOf with
   |some (k,xs)=>match intO (evL (look T)) lo,intO (evL (look T)) hi,elemT P t with
    |some l,some u,some (_,s)=>if k=s then Sx l u xs fun ys=>K (.a (.d (.sl k ys))) [] [] n else False
    |_,_,_=>False
   |none=>(match evL (look T) x,lo,hi with
    |some (.a (.row key a nn f)),none,some i=>(match intV (evL (look T) i),elemT P t with
     |some z,some (_,s)=>Itx z (nn+1) fun m=>K (.a (.row key a m false)) [] [] n
     |_,_=>False)
    |_,_,_=>False)
 | .slice t x none (some hi) (some mx)=>match (evL (look T) x).bind slOf with
   |some (k,xs)=>match intV (evL (look T) hi),intV (evL (look T) mx),elemT P t with
    |some z,some z',some (_,s)=>if k=s then Sfx z z' xs.length (K (.a (.full k xs)) [] [] n)else False
    |_,_,_=>False
   |none=>False
 | .pick c a b=>match evL (look T) c with
   |some (.a (.d (.lit (.bool q))))=>bK q (match evL (look T) a with
     |some v=>K v [] [] n
     |none=>False) (match evL (look T) b with
     |some v=>K v [] [] n
     |none=>False)
   |_=>False
 | .binOp op t x y u=>(match evL (look T) x,evL (look T) y with
   |some (.a (.d (.lit (.int k a)))),some (.a (.d (.lit (.int k' b))))=>(match isTmp y,op with
    |true,.quo=>Dvx (b≠0∧k=k') (k.wrap (a.tdiv b)) fun z=>K (vl (.int k z)) [] [] n
    |true,.rem=>Dvx (b≠0∧k=k') (a.tmod b) fun z=>K (vl (.int k z)) [] [] n
    |true,.shl=>Dvx (0≤b) (k.wrap (a*2^(min b.toNat k.bits))) fun z=>K (vl (.int k z)) [] [] n
    |_,_=>opB P o T H n K)
   |some (.a (.d (.lit (.string a)))),some (.a (.d (.lit (.string b))))=>(match op with
    | .add=>Sadx a b fun c=>K (vl (.string c)) [] [] n
    |_=>opB P o T H n K)
   |some (.agg xs),some (.agg ys)=>(match structT P t,negE op with
    |some fs,some ng=>(match eqFs P xs ys fs with
     |some r=>Eqx (eqOk P t) (fX (vl (.bool (match ng with
      |true=> !r
      |false=>r))) fun v=>K v [] [] n)
     |none=>False)
    |_,_=>False)
   |some (.a (.d (.sl k xs))),some (.a (.d (.lit (.slice none 0 0))))=>(match negE op,xs,(elemT P t).isSome with
    |some ng,_::_,true=>K (vl (.bool ng)) [] [] n
    |_,_,_=>False)
   |some (.a (.own key k xs)),some (.a (.d (.lit (.slice none 0 0))))=>(match negE op,xs,(elemT P t).isSome with
    |some ng,_::_,true=>K (vl (.bool ng)) [] [] n
    |_,_,_=>False)
   |some vx,some (.a (.d (.lit (.pointer none))))=>(match negE op,pnV vx,ptrT P t with
    |some ng,some b,true=>K (vl (.bool (match ng with
     |true=> !b
     |false=>b))) [] [] n
    |_,_,_=>False)
   |_,_=>opB P o T H n K)
 | .unOp op t x=>opB P o T H n K
 | .call {callee:= .builtin .min,args:=⟨[x,y]⟩,argTypes:=ts}=>(match evL (look T) x,evL (look T) y with
   |some (.a (.d (.lit (.int k a)))),some (.a (.d (.lit (.int _ b))))=>Mmx (if b<a then b else a) fun z=>K (vl (.int k z)) [] [] n
   |_,_=>False)
 | .call {callee:= .builtin .max,args:=⟨[x,y]⟩,argTypes:=ts}=>(match evL (look T) x,evL (look T) y with
   |some (.a (.d (.lit (.int k a)))),some (.a (.d (.lit (.int _ b))))=>Mmx (if b>a then b else a) fun z=>K (vl (.int k z)) [] [] n
   |_,_=>False)
 | .call {callee:= .builtin .append,args:=⟨[s,x]⟩,argTypes:=⟨[t,t']⟩}=>match (elemT P t').isSome,evL (look T) s,evL (look T) x with
   |true,some (.a (.own key k xs)),some vx=>(match elemT P t,look H key,yOf k vx with
    |some (e,k'),some (.arr e' k'' n0),some ys=>if k'=k∧k''=k∧e'=e∧appOk P e k=true then Apx n0 xs ys fun zs m=>K (.a (.own key k zs)) [(key,.arr e k m)] [key] (n+1)else False
    |_,_,_=>False)
   |true,some (.a (.d (.lit (.slice none 0 0)))),some vx=>(match elemT P t,(look H n).isNone with
    |some (e,k),true=>(match yOf k vx with
     |some ys=>if appOk P e k=true then Apx 0 [] ys fun zs m=>K (.a (.own n k zs)) [(n,.arr e k m)] [n] (n+1)else False
     |none=>False)
    |_,_=>False)
   |true,some (.a (.full k xs)),some vx=>(match elemT P t,(look H n).isNone,yOf k vx with
    |some (e,k'),true,some (y::ys)=>if k'=k∧appOk P e k=true then Aqx xs.length xs (y::ys) (fun zs m=>K (.a (.own n k zs)) [(n,.arr e k m)] [n] (n+1)) (fun zs m=>K (.a (.tab n m)) [(n,.tab e k zs)] [n] (n+1))else False
    |_,_,_=>False)
   |true,some (.a (.th key nn)),some vx=>(match elemT P t,look H key,cellOf key vx with
    |some (e0',1),some (.tt e0 e k oo ar),some q=>if e0'=e0∧appOk P e0 1=true∧oneA (cA key q)=true∧plainA (cA key q)=true then Ahx oo nn q fun o'=>K (.a (.th key (nn+1))) [(key,.tt e0 e k o' ar)] [key] n else False
    |_,_,_=>False)
   |_,_,_=>False
 |_=>opG P o T H n K
theorem opG_ok {P:Program}{o:Oper}{T:List (Nat×V)}{H:List (Nat×Ent)}{n:Nat}{K:V→List (Nat×Ent)→List Nat→Nat→Prop}(h:opG P o T H n K):∃v sets rk n',OT P o (look T) (look H) v sets rk∧K v sets rk n':=by
 unfold opG at h;split at h
 ·rename_i v sets rk n' e;rw[fX_eq,fHs_eq,fN_eq]at h;exact⟨v,sets,rk,n',opL_ok e,h⟩
 ·exact h.elim
theorem intV_some {v:Option V}{z:Int}(h:intV v=some z):∃k,v=some (.a (.d (.lit (.int k z)))):=by
 unfold intV at h;split at h
 ·injection h with h;subst h;exact⟨_,rfl⟩
 ·cases h
theorem natO_of {ev:Operand→Option V}{x:Option Operand}{y:Option Int}{d u:Nat}(h:intO ev x=some y)(hd:y.getD (d:Int)=(u:Int)):natO ev d x=some u:=by
 cases x with
 |none=>injection h with h;subst h;simp only[Option.getD_none]at hd;exact congrArg some (by omega)
 |some x=>
  obtain⟨z,h1,h2⟩:=Option.map_eq_some_iff.1 h;subst h2;obtain⟨k,e⟩:=intV_some h1;simp only[Option.getD_some]at hd;subst hd;simp[natO,natI,e]
theorem opR_ok {P:Program}{o:Oper}{T:List (Nat×V)}{H:List (Nat×Ent)}{n:Nat}{K:V→List (Nat×Ent)→List Nat→Nat→Prop}(h:opR P o T H n K):∃v sets rk n',OT P o (look T) (look H) v sets rk∧K v sets rk n':=by
 unfold opR at h;split at h
 ·rename_i t ps e;split at h
  ·rename_i d key nn hx;split at h
   ·rename_i te k rows hh;split at h
    ·rename_i v hp;obtain⟨hl,h⟩:=h;rw[fV_eq]at h;exact⟨_,_,_,_,OT_buildFz e hx hh hl hp,h⟩
    ·exact h.elim
   ·exact opG_ok h
  ·exact opG_ok h
 ·rename_i t x f e;split at h
  ·rename_i key off hx;split at h
   ·rename_i te cs hh;split at h
    ·split at h
     ·rename_i hc;exact⟨_,_,_,_,OT_fld0 e hx hh hc.1 hc.2,h⟩
     ·exact opG_ok h
    ·exact opG_ok h
   ·exact opG_ok h
  ·exact opG_ok h
 ·rename_i t x i e;split at h
  ·rename_i k xs hx;split at h
   ·rename_i z e' s hz ht;split at h
    ·rename_i hk;obtain⟨m,row,h1,h2,h3⟩:=h;rw[fDs_eq]at h3;obtain⟨vx,q1,q2⟩:=Option.bind_eq_some_iff.1 hx;obtain⟨ik,hz⟩:=intV_some hz;refine⟨_,_,_,_,OT_pure ?_,h3⟩;unfold pureL;rw[e];have hv:(∃q,vx= .a (.d (.sl k xs))∧q=0)∨∃key,vx= .a (.own key k xs):=by
      unfold slOf at q2;split at q2
      ·injection q2 with q2;injection q2 with a b;subst a b;exact .inl ⟨0,rfl,rfl⟩
      ·injection q2 with q2;injection q2 with a b;subst a b;exact .inr ⟨_,rfl⟩
      ·cases q2
     subst h1 hk;rcases hv with⟨_,rfl,_⟩|⟨key,rfl⟩<;>simp[q1,hz,natI,slOf,ht,h2]
    ·exact h.elim
   ·exact h.elim
  ·split at h
   ·rename_i key nn hx;split at h
    ·rename_i z e' s hz ht;obtain⟨m,h1,h2,h3⟩:=h;obtain⟨ik,hz⟩:=intV_some hz;subst h1;exact⟨_,_,_,_,OT_ixt e hx (by simp[hz,natI]) ht h2,h3⟩
    ·exact h.elim
   ·rename_i key a nn f hx;split at h
    ·rename_i z e' s hz ht;obtain⟨m,h1,h2,h3⟩:=h;obtain⟨ik,hz⟩:=intV_some hz;subst h1;exact⟨_,_,_,_,OT_ixr e hx (by simp[hz,natI]) ht h2,h3⟩
    ·exact h.elim
   ·rename_i key nn hx;split at h
    ·rename_i e0 e1 k oo ar z e' hh hz ht;obtain⟨m,h0,h1,h2,h3⟩:=h;obtain⟨ik,hz⟩:=intV_some hz;subst h1;exact⟨_,_,_,_,OT_ixh e hx (by simp[hz,natI]) ht hh h0 h2,h3⟩
    ·exact h.elim
   ·exact opG_ok h
 ·rename_i t x e;split at h
  ·rename_i key off hx;split at h
   ·rename_i te k rows hh;split at h
    ·rename_i ag s h1 h2;obtain⟨m,j,row,a1,a2,a3⟩:=h;split at a3
     ·rename_i v hv;rw[fX_eq]at a3;exact⟨_,_,_,_,OT_ldt e hx hh h1 h2 a1 a2 hv,a3⟩
     ·exact a3.elim
    ·exact h.elim
   ·exact opG_ok h
  ·rename_i key a off hx;split at h
   ·rename_i e0 e1 k oo ar ag s hh h1 h2;obtain⟨rows,m,j,row,a0,a1,a2,a3⟩:=h;split at a3
    ·rename_i v hv;rw[fX_eq]at a3;exact⟨_,_,_,_,OT_ldr e hx hh h1 h2 a0 a1 a2 hv,a3⟩
    ·exact a3.elim
   ·exact h.elim
  ·rename_i key nn i hx;split at h
   ·rename_i e0 e1 k oo ar hh h1 h2;rcases h with⟨a,m,f,a0,a1,a2⟩|⟨d,a0,a1,a2⟩
    ·exact⟨_,_,_,_,OT_ldh e hx hh a0 h1 h2 a1,a2⟩
    ·rw[fD_eq]at a2;exact⟨_,_,_,_,OT_ldh e hx hh a0 h1 h2 a1,a2⟩
   ·exact h.elim
  ·exact opG_ok h
 ·rename_i t x y e;split at h
  ·rename_i key off hx;split at h
   ·rename_i te k rows hh;split at h
    ·rename_i s xs h1 h2;obtain⟨vy,b1,b2⟩:=Option.bind_eq_some_iff.1 h2;split at h
     ·rename_i ds h3;split at h
      ·rename_i hc;obtain⟨m,j,row,rows',a1,a2,a3,a4,a5⟩:=h;subst a4;exact⟨_,_,_,_,OT_stt e hx b1 hh h1 b2 h3 hc.1 hc.2 a1 a2 a3,a5⟩
      ·exact h.elim
     ·exact h.elim
    ·exact h.elim
   ·exact opG_ok h
  ·rename_i key a off hx;split at h
   ·rename_i e0 e1 k oo ar s xs hh h1 h2;obtain⟨vy,b1,b2⟩:=Option.bind_eq_some_iff.1 h2;split at h
    ·rename_i ds h3;split at h
     ·rename_i hc;obtain⟨rows,m,j,row,ar',a0,a1,a2,a3,a4,a5⟩:=h;subst a4;exact⟨_,_,_,_,OT_str e hx b1 hh h1 a0 b2 h3 hc.1 hc.2 a1 a2 a3,a5⟩
     ·exact h.elim
    ·exact h.elim
   ·exact h.elim
  ·rename_i key nn i hx;split at h
   ·rename_i e0 e1 k oo ar key' a m f hh h1 hy;split at h
    ·rename_i hkk;subst hkk;obtain⟨o',a0,a1,a2,a3⟩:=h;subst a2;exact⟨_,_,_,_,OT_sth (q0:= .inl (a,m,f)) e hx hy rfl rfl hh a0 a1 h1,a3⟩
    ·exact h.elim
   ·rename_i e0 e1 k oo ar d hh h1 hy;split at h
    ·rename_i hc;obtain⟨o',a0,a1,a2,a3⟩:=h;subst a2;exact⟨_,_,_,_,OT_sth (q0:= .inr d) e hx hy hc.1 hc.2 hh a0 a1 h1,a3⟩
    ·exact h.elim
   ·exact h.elim
  ·exact opG_ok h
 ·rename_i t l c e;split at h
  ·rename_i z z' e' k h1 h2 h3 h4;split at h
   ·rename_i zs h5;split at h
    ·rename_i ds h6;split at h
     ·rename_i hc;obtain⟨k1,e1⟩:=intV_some h1;obtain⟨k2,e2⟩:=intV_some h2;split at h
      ·obtain⟨nn,a1,a2,a3,a4⟩:=h;subst a1 a2;exact⟨_,_,_,_,OT_mk e (by simp[e1,natI]) (by simp[e2,natI]) h3 h5 h6 hc.1 hc.2 (by simpa using h4) a3,a4⟩
      ·split at h
       ·rename_i hh;split at h
        ·rename_i hkk;obtain⟨rfl,rfl⟩:=hkk;obtain⟨nn,a,ar',a1,a2,a3,a0,a4,a5⟩:=h;subst a1 a2 a0 a4;exact⟨_,_,_,_,OT_mkr e (by simp[e1,natI]) (by simp[e2,natI]) h3 h5 h6 hc.1 hc.2 hh a3,a5⟩
        ·exact h.elim
       ·exact h.elim
     ·exact h.elim
    ·exact h.elim
   ·exact h.elim
  ·exact h.elim
 ·rename_i t e;split at h
  ·rename_i e' k h1;rcases h with h|h
   ·exact opG_ok h
   ·exact⟨_,_,_,_,OT_bs0 e rfl h1,h⟩
  ·exact h.elim
 ·rename_i t x e;split at h
  ·rename_i key a m f hx;split at h
   ·rename_i e1 he;split at h
    ·rename_i hz;exact⟨_,_,_,_,OT_one e he hx hz,h⟩
    ·exact h.elim
   ·exact h.elim
  ·exact opG_ok h
 ·rename_i t x e;split at h
  ·rename_i v h1 h2;obtain⟨vx,q1,q2⟩:=Option.bind_eq_some_iff.1 h1;exact⟨_,_,_,_,OT_mif e q1 q2 h2,h⟩
  ·exact h.elim
 ·rename_i t e;split at h
  ·rename_i hn;obtain⟨k,e',h1⟩:=h;exact⟨_,_,_,_,OT_mkmap e (by simpa using hn),h1⟩
  ·exact h.elim
 ·rename_i t m x e;split at h
  ·rename_i key v hm hx;split at h
   ·rename_i φ hh;obtain⟨k,e',nn,D,kl,zl,l,hok,h1⟩:=h;rw[fX_eq]at h1;exact⟨_,_,_,n,OT_look e hm hx hh hok,h1⟩
   ·exact h.elim
  ·exact h.elim
 ·rename_i t m x e;split at h
  ·rename_i key v hm hx;split at h
   ·rename_i φ hh
    cases h with
    |no k e' nn D kl zl hok h1=>
     rw[fX_eq]at h1;exact⟨_,_,_,n,OT_lk2 e hm hx hh (.inl ⟨rfl,k,e',nn,D,kl,hok⟩),h1⟩
    |yes k e' nn D kl zl l hok h1=>
     rw[fX_eq]at h1;exact⟨_,_,_,n,OT_lk2 e hm hx hh (.inr ⟨rfl,k,e',nn,D,kl,zl,hok⟩),h1⟩
    |any x hok h1=>
     rw[fX_eq]at h1;exact⟨_,_,_,n,OT_lkA e hm hx hh hok,h1⟩
   ·exact h.elim
  ·exact h.elim
 ·rename_i t m x y e;split at h
  ·rename_i key v u hm hx hy;split at h
   ·rename_i φ hh;obtain⟨k,e',nn,D,kl,l,hok,h1⟩:=h;exact⟨_,_,_,n,OT_mu e hm hx hy hh hok,h1⟩
   ·exact h.elim
  ·exact h.elim
 ·rename_i t x lo hi e;split at h
  ·rename_i k xs hx;split at h
   ·rename_i l u e' s hl hu ht;split at h
    ·rename_i hk;obtain⟨l',u',ys,h1,h2,h3,h4,h5,h6⟩:=h;refine⟨_,_,_,_,OT_pure ?_,h6⟩;unfold pureL;rw[e];simp only[hx,ht,natO_of hl (d:=0) (by simpa using h1),natO_of hu h2,show natO (evL (look T)) xs.length none=some xs.length from rfl];rw[if_pos ⟨hk,h3,h4,lR_ _,by simp⟩,h5]
    ·exact h.elim
   ·exact h.elim
  ·split at h
   ·rename_i key a nn f i hx;split at h
    ·rename_i z e' s hz ht;obtain⟨m,h1,h2,h3⟩:=h;obtain⟨ik,hz⟩:=intV_some hz;subst h1;exact⟨_,_,_,_,OT_cutr e hx (by simp[hz,natI]) ht (Nat.le_of_lt_succ h2),h3⟩
    ·exact h.elim
   ·exact h.elim
 ·rename_i t x hi mx e;split at h
  ·rename_i k xs hx;split at h
   ·rename_i z z' e' s hz hz' ht;split at h
    ·rename_i hk;obtain⟨h1,h2,h3⟩:=h;subst h1 h2 hk;exact⟨_,_,_,_,OT_full e hx hz hz' ht,h3⟩
    ·exact h.elim
   ·exact h.elim
  ·exact h.elim
 ·rename_i c a b e;split at h
  ·rename_i q hq
   cases q with
   |true=>
    simp only[bK]at h;split at h
    ·rename_i v hv;refine⟨_,_,_,_,OT_pure ?_,h⟩;unfold pureL;rw[e];simp[hq,hv]
    ·exact h.elim
   |false=>
    simp only[bK]at h;split at h
    ·rename_i v hv;refine⟨_,_,_,_,OT_pure ?_,h⟩;unfold pureL;rw[e];simp[hq,hv]
    ·exact h.elim
  ·exact h.elim
 ·rename_i op t x y u e;split at h
  ·rename_i k a k' b h1 h2;split at h
   ·obtain⟨z,⟨g1,rfl⟩,rfl,a4⟩:=h;exact⟨_,_,_,_,OT_pure (by unfold pureL;rw[e];simp[h1,h2,binL,g1]),a4⟩
   ·obtain⟨z,⟨g1,rfl⟩,rfl,a4⟩:=h;exact⟨_,_,_,_,OT_pure (by unfold pureL;rw[e];simp[h1,h2,binL,g1]),a4⟩
   ·obtain⟨z,g1,rfl,a4⟩:=h;exact⟨_,_,_,_,OT_pure (by unfold pureL;rw[e];simp[h1,h2,binL,Int.not_lt.2 g1]),a4⟩
   ·exact opB_ok h
  ·rename_i a b h1 h2;split at h
   ·obtain⟨c,g1,rfl,a4⟩:=h;exact⟨_,_,_,_,OT_sadd e h1 h2 g1,a4⟩
   ·exact opB_ok h
  ·rename_i xs ys h1 h2;split at h
   ·rename_i fs ng h3 h4;split at h
    ·rename_i r h5;obtain⟨a1,a2⟩:=h;rw[fX_eq]at a2;have hop:op= .eql∨op= .neq:=by unfold negE at h4;split at h4<;>simp_all
     refine⟨_,_,_,n,OT_eq e hop h1 h2 h3 h5 a1,?_⟩;rcases hop with rfl|rfl<;>(simp only[negE]at h4;injection h4 with h4;subst h4;exact a2)
    ·exact h.elim
   ·exact h.elim
  ·rename_i k xs h1 h2;split at h
   ·rename_i ng r rs h3 h4;have hop:op= .eql∨op= .neq:=by unfold negE at h3;split at h3<;>simp_all
    refine⟨_,_,_,n,OT_nz e hop h1 rfl h2 h4,?_⟩;rcases hop with rfl|rfl<;>(simp only[negE]at h3;injection h3 with h3;subst h3;exact h)
   ·exact h.elim
  ·rename_i key k xs h1 h2;split at h
   ·rename_i ng r rs h3 h4;have hop:op= .eql∨op= .neq:=by unfold negE at h3;split at h3<;>simp_all
    refine⟨_,_,_,n,OT_nz e hop h1 rfl h2 h4,?_⟩;rcases hop with rfl|rfl<;>(simp only[negE]at h3;injection h3 with h3;subst h3;exact h)
   ·exact h.elim
  ·rename_i vx h1 h2;split at h
   ·rename_i ng b h3 h4 h5;have hop:op= .eql∨op= .neq:=by unfold negE at h3;split at h3<;>simp_all
    refine⟨_,_,_,n,OT_pnz e hop h1 h4 h2 h5,?_⟩;rcases hop with rfl|rfl<;>(simp only[negE]at h3;injection h3 with h3;subst h3;cases b<;>exact h)
   ·exact h.elim
  ·exact opB_ok h
 ·exact opB_ok h
 ·rename_i x y ts e;split at h
  ·rename_i k a k' b h1 h2;obtain⟨z,rfl,a4⟩:=h;exact⟨_,_,_,_,OT_mm false e h1 h2,a4⟩
  ·exact h.elim
 ·rename_i x y ts e;split at h
  ·rename_i k a k' b h1 h2;obtain⟨z,rfl,a4⟩:=h;exact⟨_,_,_,_,OT_mm true e h1 h2,a4⟩
  ·exact h.elim
 ·rename_i s x t t' e;split at h
  ·rename_i key k xs vx h1 h2 h3;split at h
   ·rename_i e1 k' e' k'' n0 ys g1 g2 g3;split at h
    ·rename_i hc;obtain⟨zs,a1,a2,a3,a4⟩:=h;subst a2;refine⟨_,_,_,_,OT_append e h1 h2 h3 (n:=n) ?_,a4⟩;simp only[appL,g1,g2,g3];rw[if_pos ⟨hc.1,hc.2.1,hc.2.2.1,a1,hc.2.2.2,by simpa using a3⟩];simp
    ·exact h.elim
   ·exact h.elim
  ·rename_i vx h1 h2 h3;split at h
   ·rename_i e1 k g1 g2;split at h
    ·rename_i ys g3;split at h
     ·rename_i hc;obtain⟨zs,a1,a2,a3,a4⟩:=h;simp only[List.nil_append]at a2;subst a2;refine⟨_,_,_,_,OT_append e h1 h2 h3 (n:=n) ?_,a4⟩;simp only[appL,g1,g2,g3];rw[if_pos ⟨hc,a3⟩]
     ·exact h.elim
    ·exact h.elim
   ·exact h.elim
  ·rename_i k xs vx h1 h2 h3;split at h
   ·rename_i e1 k' y ys g1 g2 g3;split at h
    ·rename_i hc;obtain⟨hc1,hc2⟩:=hc;subst hc1;rcases h with⟨zs,a1,a2,a3,a4⟩|⟨zs,a2,a3,a1,a4⟩
     ·subst a2;rw[List.length_append]at a4;exact⟨_,_,_,_,OT_appfull (n:=n) e h1 h2 h3 g3 g1 hc2 (by simpa using g2) (by simp) (by rw[List.length_append]at a3;exact a3),a4⟩
     ·subst a2;exact⟨_,_,_,_,OT_apptab (n:=n) e h1 h2 h3 g3 g1 hc2 (by simpa using g2) (by simp) (by rw[List.length_append]at a3;exact a3) a1,a4⟩
    ·exact h.elim
   ·exact h.elim
  ·rename_i key nn vx h1 h2 h3;split at h
   ·rename_i e0' e0 e1 k oo ar q g1 g2 g3;split at h
    ·rename_i hc;obtain⟨c1,c2,c3,c4⟩:=hc;subst c1;obtain⟨o',a0,a1,a2,a3⟩:=h;subst a2;exact⟨_,_,_,_,OT_aph e h1 h2 h3 g3 g1 c2 g2 a0 c3 c4 a1,a3⟩
    ·exact h.elim
   ·exact h.elim
  ·exact h.elim
 ·exact opG_ok h
def dstB (N:Nat):Option Nat→Bool
 |some d=>Nat.blt d N
 |none=>true
def ftOf (draw:Bool)(ops:Array Oper)(o:Oper)(sets:List (Nat×Ent))(rk:List Nat)(rs:List Ft):List Ft:=
 match draw with
 |true=>rs++[⟨o.dst,sets.map (·.1),rk,slotsOf ops o⟩]
 |false=>rs
def putT (dst:Option Nat)(v:V)(T:List (Nat×V))(K:List (Nat×V)→Prop):Prop:=match dst with
 |some d=>K ((d,v)::T)
 |none=>K T
def putH (sets:List (Nat×Ent))(H:List (Nat×Ent))(K:List (Nat×Ent)→Prop):Prop:=match sets with
 |[]=>K H
 |[p]=>K (p::H)
 |p::q::r=>K (p::q::(r++H))
noncomputable def gK (ops:Array Oper)(o:Oper)(T:List (Nat×V))(A B:Prop):Prop:=match o.guard with
 |none=>A
 |some _=>(match gslot ops o with
  |some (d,want)=>(match look T d with
   |some (.a (.d (.lit (.bool b))))=>(match want with
    |true=>bK b A B
    |false=>bK b B A)
   |some (.a (.d (.lit (.tuple _))))=>B
   |_=>False)
  |none=>False)
theorem gK_ok {ops:Array Oper}{o:Oper}{T:List (Nat×V)}{A B:Prop}(h:gK ops o T A B):(gW ops o (look T)=some true∧A)∨(gW ops o (look T)=some false∧B):=by
 unfold gK at h;unfold gW;split at h
 ·rename_i e
  try rw[e]
  exact .inl ⟨by first|rfl|trivial,h⟩
 ·rename_i e
  try rw[e]
  split at h
  ·rename_i d want e2
   try simp only[e2]
   split at h
   ·rename_i b e3
    try simp only[e3]
    cases want<;>cases b<;>first|exact .inl ⟨by first|rfl|trivial,h⟩|exact .inr ⟨by first|rfl|trivial,h⟩
   ·rename_i e3
    try simp only[e3]
    exact .inr ⟨by first|rfl|trivial,h⟩
   ·exact h.elim
  ·exact h.elim
inductive Nc (ops:Array Oper) (rs:List Ft) (A:Prop):Prop
 |mk (h:(noConf rs (masks ops.toList [])&&edgesOk ops)=true) (k:A):Nc ops rs A
def chE (draw:Bool)(ops:Array Oper)(rs:List Ft)(A:Prop):Prop:=match draw with
 |true=>Nc ops rs A
 |false=>A
def chD (N:Nat)(d:Option Nat)(A:Prop):Prop:=match dstB N d with
 |true=>A
 |false=>False
def invOf (o:Oper):Option (Operand×String×List Operand):=
 match o.op with
 | .call c=>match c.callee with
   | .invoke x m=>some (x,m,c.args.toList)
   |_=>none
 |_=>none
noncomputable def opC (P:Program)(o:Oper)(T:List (Nat×V))(H:List (Nat×Ent))(n:Nat)(K:V→List (Nat×Ent)→List Nat→Nat→Prop):Prop:=match callOf o with
 |some (f,xs)=>(match (evL (look T) f).bind fnV with
  |some (F,first,caps)=>(match evs (evL (look T)) xs with
   |some vs=>fVs (first.map bv++(vs++caps.map bv)) fun vs=>Cn P F vs H n K
   |none=>False)
  |none=>False)
 |none=>(match invOf o with
  |some (x,m,xs)=>(match evL (look T) x with
   |some (.a (.d (.lit (.iface t v))))=>(match evs (evL (look T)) xs with
    |some vs=>Inx P t v m fun F r=>fVs (cst r::vs) fun vs=>Cn P F vs H n K
    |none=>False)
   |_=>False)
  |none=>opR P o T H n K)
noncomputable def chR (P:Program)(N:Nat)(draw:Bool)(ops:Array Oper)(l:List Oper):List (Nat×V)→List (Nat×Ent)→Nat→List Ft→(List (Nat×V)→List (Nat×Ent)→Nat→Prop)→Prop:=
 List.rec (motive:=fun _=>List (Nat×V)→List (Nat×Ent)→Nat→List Ft→(List (Nat×V)→List (Nat×Ent)→Nat→Prop)→Prop)
  (fun T H n rs K=>chE draw ops rs (K T H n))
  (fun o _ ih T H n rs K=>chD N o.dst (gK ops o T
   (opC P o T H n fun v sets rk n'=>fN n' fun n'=>putT o.dst v T fun T'=>putH sets H fun H'=>ih T' H' n' (ftOf draw ops o sets rk rs) K)
   (putT o.dst (vl undef) T fun T'=>ih T' H n (ftOf draw ops o [] [] rs) K))) l
theorem chR_nil {P:Program}{N:Nat}{draw:Bool}{ops:Array Oper}{T:List (Nat×V)}{H:List (Nat×Ent)}{n:Nat}{rs:List Ft}{K:List (Nat×V)→List (Nat×Ent)→Nat→Prop}:chR P N draw ops [] T H n rs K=chE draw ops rs (K T H n):=rfl
theorem chR_cons {P:Program}{N:Nat}{draw:Bool}{ops:Array Oper}{o:Oper}{r:List Oper}{T:List (Nat×V)}{H:List (Nat×Ent)}{n:Nat}{rs:List Ft}{K:List (Nat×V)→List (Nat×Ent)→Nat→Prop}:
  chR P N draw ops (o::r) T H n rs K=chD N o.dst (gK ops o T
   (opC P o T H n fun v sets rk n'=>fN n' fun n'=>putT o.dst v T fun T'=>putH sets H fun H'=>chR P N draw ops r T' H' n' (ftOf draw ops o sets rk rs) K)
   (putT o.dst (vl undef) T fun T'=>chR P N draw ops r T' H n (ftOf draw ops o [] [] rs) K)):=rfl
theorem putT_eq {dst:Option Nat}{v:V}{T:List (Nat×V)}{K:List (Nat×V)→Prop}:putT dst v T K=K (wrT dst v++T):=by cases dst<;>rfl
theorem putH_eq {sets H:List (Nat×Ent)}{K:List (Nat×Ent)→Prop}:putH sets H K=K (sets++H):=by
 cases sets with
 |nil=>rfl
 |cons p r=>cases r<;>rfl
theorem dstB_ok {N:Nat}{d:Option Nat}(h:dstB N d=true):∀x,d=some x→x<N:=by
 intro x e;subst e;simpa [dstB,Nat.blt_eq]using h
theorem cn_ok {P:Program}{T:List (Nat×V)}{H:List (Nat×Ent)}{n:Nat}{F:FuncId}{vs:List V}{o:Oper}{K:V→List (Nat×Ent)→List Nat→Nat→Prop}
  (hen:Enters P o (look T) F vs) (h:Cn P F vs H n K):∃v sets rk n',OT P o (look T) (look H) v sets rk∧K v sets rk n':=by
 cases h with
 |pure gs R he hl hw hg hk=>
  obtain⟨v,H',hR,hl⟩:=hl;obtain⟨rfl,k2,k3⟩:=hk v H' hR;rw[fX_eq]at k3;have hkeys:gs.flatMap keysV=[]:=List.isEmpty_iff.1 hg;have hid:gs.map (renV fun k=>([]:List Nat).idxOf k)=gs:=by
   have:∀l:List V,l.flatMap keysV=[]→l.map (renV fun k=>([]:List Nat).idxOf k)=l:=by
    intro l hl;have hB:∀x:BA,keysB x=[]→renB (fun k=>([]:List Nat).idxOf k) x=x:=fun x hx=>by cases x<;>first|rfl|simp[keysB]at hx
    have hBs:∀l:List BA,l.flatMap keysB=[]→l.map (renB fun k=>([]:List Nat).idxOf k)=l:=fun l hl=>by
     rw[List.flatMap_eq_nil_iff]at hl;exact(List.map_congr_left fun x hx=>hB x (hl x hx)).trans (List.map_id _)
    have hA:∀x:A,keysA x=[]→renA (fun k=>([]:List Nat).idxOf k) x=x:=fun x hx=>by
     cases x<;>first|rfl|(simp[keysA]at hx;done)|skip
     simp only[keysA,List.append_eq_nil_iff]at hx;simp only[renA,hBs _ hx.1,hBs _ hx.2]
    have hAs:∀l:List A,l.flatMap keysA=[]→l.map (renA fun k=>([]:List Nat).idxOf k)=l:=fun l hl=>by
     rw[List.flatMap_eq_nil_iff]at hl;exact(List.map_congr_left fun x hx=>hA x (hl x hx)).trans (List.map_id _)
    have hW:∀x:W,keysW x=[]→renW (fun k=>([]:List Nat).idxOf k) x=x:=fun x hx=>by
     cases x with
     |s x=>simp only[renW,hA x hx]
     |g xs=>simp only[renW,hAs xs hx]
    have hV:∀x:V,keysV x=[]→renV (fun k=>([]:List Nat).idxOf k) x=x:=fun x hx=>by
     cases x with
     |a x=>simp only[renV,hA x hx]
     |agg xs=>simp only[renV,hAs xs hx]
     |tup xs=>
      simp only[renV];simp only[keysV,List.flatMap_eq_nil_iff]at hx;rw[(List.map_congr_left fun x hx'=>hW x (hx x hx')).trans (List.map_id _)]
    rw[List.flatMap_eq_nil_iff]at hl;exact(List.map_congr_left fun x hx=>hV x (hl x hx)).trans (List.map_id _)
   exact this gs hkeys
  have hrv:renV (back [] n) v=v:=by
   have hB:∀x:BA,keysB x=[]→renB (back [] n) x=x:=fun x hx=>by cases x<;>first|rfl|simp[keysB]at hx
   have hBs:∀l:List BA,l.flatMap keysB=[]→l.map (renB (back [] n))=l:=fun l hl=>by
    rw[List.flatMap_eq_nil_iff]at hl;exact(List.map_congr_left fun x hx=>hB x (hl x hx)).trans (List.map_id _)
   have hA:∀x:A,keysA x=[]→renA (back [] n) x=x:=fun x hx=>by
    cases x<;>first|rfl|(simp[keysA]at hx;done)|skip
    simp only[keysA,List.append_eq_nil_iff]at hx;simp only[renA,hBs _ hx.1,hBs _ hx.2]
   have hAs:∀l:List A,l.flatMap keysA=[]→l.map (renA (back [] n))=l:=fun l hl=>by
    rw[List.flatMap_eq_nil_iff]at hl;exact(List.map_congr_left fun x hx=>hA x (hl x hx)).trans (List.map_id _)
   have hW:∀x:W,keysW x=[]→renW (back [] n) x=x:=fun x hx=>by
    cases x with
    |s x=>simp only[renW,hA x hx]
    |g xs=>simp only[renW,hAs xs hx]
   cases v with
   |a x=>simp only[renV,hA x k2]
   |agg xs=>simp only[renV,hAs xs k2]
   |tup xs=>
    simp only[renV];simp only[keysV,List.flatMap_eq_nil_iff]at k2;rw[(List.map_congr_left fun x hx'=>hW x (k2 x hx')).trans (List.map_id _)]
  have:=OT_enter (h:=look H) (base:=n) (ks:=[]) (Hs:=[]) (H1:=[]) hen hw List.nodup_nil (fun k hk=>by simp at hk) rfl (by rw[hkeys];simp) (by rw[hid];exact hl) rfl (fun p hp=>by simp at hp);rw[hrv]at this;exact⟨v,[],[],n,by simpa using this,k3⟩
 |lend ks gs Hs R he hl hw hn hb hle hg hk=>
  obtain⟨v,H1,hR,hl⟩:=hl;obtain⟨k1,k2,k3⟩:=hk v H1 hR;rw[fX_eq,fHs_eq]at k3;exact⟨_,_,_,_,OT_enter hen hw hn hb hle hg hl k1 k2,k3⟩
 |lendK ks gs Hs R he hl hw hn hb hle hg hk=>
  obtain⟨v,H1,hR,hl⟩:=hl;obtain⟨k2,k3⟩:=hk v H1 hR;rw[fX_eq,fHs_eq]at k3;exact⟨_,_,_,_,OT_enterK hen hw hn hb hle hg hl k2,k3⟩
 |lendD ks gs Hs R he hl hw hn hb hle hg hk=>
  obtain⟨v,H1,hR,hl⟩:=hl;obtain⟨k2,S,hS,k3⟩:=hk v H1 hR;rw[fX_eq,fHs_eq]at k3;exact⟨_,_,_,_,OT_drop (OT_enterK hen hw hn hb hle hg hl k2) hS,k3⟩
theorem cn_ent {P:Program}{F:FuncId}{vs:List V}{H:List (Nat×Ent)}{n:Nat}{K:V→List (Nat×Ent)→List Nat→Nat→Prop}(h:Cn P F vs H n K):entT P F=true:=by cases h<;>assumption
theorem chR_facts {P:Program}{N:Nat}{draw:Bool}{ops:Array Oper}{K:List (Nat×V)→List (Nat×Ent)→Nat→Prop}:∀(l:List Oper) (T:List (Nat×V)) (H:List (Nat×Ent)) (n:Nat) (rs:List Ft),chR P N draw ops l T H n rs K→
  ∃recs T' H' n',Facts P N ops recs T H T' H'∧recs.map (·.o)=l∧(draw=true→noConf (rs++recs.map (·.ft ops)) (masks ops.toList [])=true∧edgesOk ops=true)∧K T' H' n'
 |[],T,H,n,rs,hc=>by
  rw[chR_nil]at hc;unfold chE at hc
  cases draw with
  |true=>
   obtain⟨e,hc⟩:=hc;rw[Bool.and_eq_true]at e;exact⟨[],T,H,n,.nil T H,rfl,fun _=>by simpa using e,hc⟩
  |false=>exact⟨[],T,H,n,.nil T H,rfl,(fun h=>absurd h (by simp)),hc⟩
 |o::r,T,H,n,rs,hc=>by
  rw[chR_cons]at hc;unfold chD at hc;split at hc
  ·rename_i hd;have hdst:=dstB_ok hd
   have go:∀v sets rk n',(gW ops o (look T)=some true∧OT P o (look T) (look H) v sets rk)∨(gW ops o (look T)=some false∧v=vl undef∧sets=[])→
     chR P N draw ops r (wrT o.dst v++T) (sets++H) n' (ftOf draw ops o sets rk rs) K→
     ∃recs T' H' n',Facts P N ops recs T H T' H'∧recs.map (·.o)=o::r∧(draw=true→noConf (rs++recs.map (·.ft ops)) (masks ops.toList [])=true∧edgesOk ops=true)∧K T' H' n':=by
    intro v sets rk n' hf hk;obtain⟨recs,T',H',n2,f1,f2,f3,f4⟩:=chR_facts r _ _ _ _ hk;refine⟨⟨o,v,sets,rk⟩::recs,T',H',n2,.cons _ _ _ _ _ _ ⟨hdst,hf⟩ f1,by simp[f2],fun hdr=> ?_,f4⟩;subst hdr;simpa [ftOf,Rec.ft]using f3 rfl
   rcases gK_ok hc with⟨hb,hc⟩|⟨hb,hc⟩
   ·unfold opC at hc;split at hc
    ·rename_i f xs hcall;split at hc
     ·rename_i F first caps hf
      split at hc
      ·rename_i vs hvs;rw[fVs_eq,←List.append_assoc]at hc;have hen:Enters P o (look T) F (first.map bv++vs++caps.map bv):=by
        unfold callOf at hcall;split at hcall
        ·rename_i c e;split at hcall
         ·rename_i f' e2;injection hcall with hcall;injection hcall with c1 c2;subst c1 c2;exact enters_callV e e2 hf hvs (cn_ent hc)
         ·cases hcall
        ·cases hcall
       obtain⟨v,sets,rk,n',k1,k2⟩:=cn_ok hen hc;rw[fN_eq,putT_eq,putH_eq]at k2;exact go v sets rk n' (.inl ⟨hb,k1⟩) k2
      ·exact hc.elim
     ·exact hc.elim
    split at hc
    ·rename_i x m xs hcall;split at hc
     ·rename_i t v hx;split at hc
      ·rename_i vs hvs;obtain⟨F,r,hm,hc⟩:=hc;rw[fVs_eq]at hc;have hen:Enters P o (look T) F (cst r::vs):=by
        unfold invOf at hcall;split at hcall
        ·rename_i c e;split at hcall
         ·rename_i x' m' e2;injection hcall with hcall;injection hcall with c1 c2;injection c2 with c2 c3;subst c1 c2 c3;exact enters_inv e e2 hx hvs hm (cn_ent hc)
         ·cases hcall
        ·cases hcall
       obtain⟨v,sets,rk,n',k1,k2⟩:=cn_ok hen hc;rw[fN_eq,putT_eq,putH_eq]at k2;exact go v sets rk n' (.inl ⟨hb,k1⟩) k2
      ·exact hc.elim
     ·exact hc.elim
    ·obtain⟨v,sets,rk,n',k1,k2⟩:=opR_ok hc;rw[fN_eq,putT_eq,putH_eq]at k2;exact go v sets rk n' (.inl ⟨hb,k1⟩) k2
   ·simp only[putT_eq]at hc;exact go _ [] [] n (.inr ⟨hb,rfl,rfl⟩) (by simpa using hc)
  ·exact hc.elim
def qSeq (K:St→Prop)(Q:Exit→St→Prop)(e:Exit)(s:St):Prop:=match e with
 | .normal=>K s
 |e=>Q e s
inductive Ln (body:(Exit→St→Prop)→St→Prop) (m:Nat) (Q:Exit→St→Prop) (s:St):Prop
 |mk (β:Type) (inv:β→St) (ok:β→Prop) (μ:β→Nat) (b0:β) (h0:Wk m s (inv b0)) (h1:ok b0) (step:∀b,ok b→body (qSeq (fun s'=>∃b',Wk m s' (inv b')∧ok b'∧μ b'<μ b) Q) (inv b)):Ln body m Q s
 |mkw (β:Type) (inv:β→St) (ok:β→Prop) (μ:β→Nat) (b0:β) (h0:Wk m s (inv b0)) (h1:ok b0) (step:∀b,ok b→body (qSeq (fun s'=>∃b',Wk m s' (inv b')∧ok b'∧μ b'<μ b) fun e s'=>∃s2,Wk m s' s2∧Q e s2) (inv b)):Ln body m Q s
noncomputable def rnR (P:Program)(N:Nat)(ops:Array Oper)(draw:Bool)(Q:Exit→St→Prop)(s:St):Prop:=match s with
 |⟨T,H,n⟩=>chR P N draw ops ops.toList T H n [] fun T H n=>Q .normal ⟨T,H,n⟩
noncomputable def rnC (c:Operand)(s:St)(A B:Prop):Prop:=match s with
 |⟨T,_,_⟩=>(match evL (look T) c with
  |some (.a (.d (.lit (.bool b))))=>bK b A B
  |_=>False)
def qBlock (id:Nat)(Q:Exit→St→Prop)(e:Exit)(s:St):Prop:=match e with
 | .exit id'=>(match Nat.beq id' id with
   |true=>Q .normal s
   |false=>Q (.exit id') s)
 |e=>Q e s
def qScope (Q:Exit→St→Prop)(e:Exit)(s:St):Prop:=match e with
 | .goto _=>False
 |e=>Q e s
noncomputable def rn (P:Program)(N m:Nat)(c:Code):(Exit→St→Prop)→St→Prop:=
 Code.rec (motive:=fun _=>(Exit→St→Prop)→St→Prop)
  (fun Q s=>Q .normal s)
  (fun _ ops draw Q s=>rnR P N ops draw Q s)
  (fun _ _ x y Q s=>x (qSeq (fun s'=>y Q s') Q) s)
  (fun c _ _ x y Q s=>rnC c s (x Q s) (y Q s))
  (fun id _ x Q s=>x (qBlock id Q) s)
  (fun _ x Q s=>Ln x m Q s)
  (fun _ _ _ _ _ _ _ _=>False)
  (fun id Q s=>Q (.exit id) s)
  (fun _ x Q s=>x (qScope Q) s)
  (fun _ Q s=>Q .normal s)
  (fun _ _ _=>False)
  (fun Q s=>Q .ret s)
  (fun _ _ _=>False) c
def Ev (P:Program)(N m:Nat)(c:Code)(s:St)(e:Exit)(s':St):Prop:=
 ∀(γ0:Gh) (h0:Hp) (M0:MS) (w0:World) (a:Act) (w:World) (Q:Exit→Act→World→Prop),(∀key,(h0 key).isSome=true→key<m)→(∀b i,M0 b i→b<w0.heap.size)→
  SR N γ0 h0 M0 w0 (look s.T) (look s.H) a w→(∀a' w',SR N γ0 h0 M0 w0 (look s'.T) (look s'.H) a' w'→Q e a' w')→c.wp P Q a w
def Det (P:Program)(N m:Nat)(c:Code)(s:St)(Φ:Exit→St→Prop):Prop:=∃e s',Φ e s'∧Ev P N m c s e s'
section
variable {P:Program} {N m:Nat}
theorem Ev.seqN {x y:Code}{s s1 s2:St}{e:Exit}(h:Ev P N m x s .normal s1)(k:Ev P N m y s1 e s2):Ev P N m (.seq x y) s e s2:=
 fun γ0 h0 M0 w0 a w Q hm hd hS hQ=>wp_seq (h γ0 h0 M0 w0 a w _ hm hd hS fun a' w' hS'=>k γ0 h0 M0 w0 a' w' Q hm hd hS' hQ)
theorem Ev.seqX {x y:Code}{s s1:St}{e:Exit}(he:e≠ .normal)(h:Ev P N m x s e s1):Ev P N m (.seq x y) s e s1:=
 fun γ0 h0 M0 w0 a w Q hm hd hS hQ=>wp_seq (h γ0 h0 M0 w0 a w _ hm hd hS fun a' w' hS'=>by cases e<;>first|exact absurd rfl he|exact hQ a' w' hS')
theorem Ev.out {c:Code}{s s1 s2:St}{e:Exit}(h:Ev P N m c s e s1)(k:Wk m s1 s2):Ev P N m c s e s2:=
 fun γ0 h0 M0 w0 a w Q hm hd hS hQ=>h γ0 h0 M0 w0 a w Q hm hd hS fun a' w' hS'=>hQ a' w' (k N γ0 h0 M0 w0 a' w' hm hd hS')
def EvL (P:Program)(N m:Nat)(c:Code)(s:St)(e:Exit)(s':St):Prop:=
 ∀(γ0:Gh) (h0:Hp) (M0:MS) (w0:World) (a:Act) (w:World) (Q:Exit→Act→World→Prop),(∀key,(h0 key).isSome=true→key<m)→(∀b i,M0 b i→b<w0.heap.size)→
  SR N γ0 h0 M0 w0 (look s.T) (look s.H) a w→(∀a' w',SR N γ0 h0 M0 w0 (look s'.T) (look s'.H) a' w'→Q e a' w')→
  ∀(bb:Frame) (k:List Item) (cs:List Frame),∃e a' w',Q e a' w'∧Arrives P (lone (bb.at a (.code c:: .inLoop c::k)) cs w) bb k cs e a' w'
theorem EvL.more {c:Code}{s s1 s2:St}{e:Exit}(h:Ev P N m c s .normal s1)(k:EvL P N m c s1 e s2):EvL P N m c s e s2:=by
 intro γ0 h0 M0 w0 a w Q hm hd hS hQ bb k' cs;obtain⟨e1,a1,w1,hq,harr⟩:=h γ0 h0 M0 w0 a w (Exit.then (fun a' w'=>SR N γ0 h0 M0 w0 (look s1.T) (look s1.H) a' w') (fun _ _ _=>False)) hm hd hS (fun a' w' hS'=>hS') bb (.inLoop c::k') cs
 cases e1 with
 |normal=>
  obtain⟨e2,a2,w2,hq2,harr2⟩:=k γ0 h0 M0 w0 a1 w1 Q hm hd hq hQ bb k' cs;exact⟨e2,a2,w2,hq2,.of_steps (Steps.trans harr (.one step_inLoop)) harr2⟩
 |_=>exact hq.elim
theorem EvL.last {c:Code}{s s1:St}{e:Exit}(he:e≠ .normal)(h:Ev P N m c s e s1):EvL P N m c s e s1:=by
 intro γ0 h0 M0 w0 a w Q hm hd hS hQ bb k' cs;obtain⟨e1,a1,w1,⟨hq,rfl⟩,harr⟩:=h γ0 h0 M0 w0 a w (fun e' a' w'=>SR N γ0 h0 M0 w0 (look s1.T) (look s1.H) a' w'∧e'=e) hm hd hS (fun a' w' hS'=>⟨hS',rfl⟩) bb (.inLoop c::k') cs;exact⟨e1,a1,w1,hQ _ _ hq,.pass (x:= .inLoop c) rfl (fun _ _=> .inl he) harr⟩
theorem EvL.wk {c:Code}{s s0 s1:St}{e:Exit}(h:EvL P N m c s e s1)(k:Wk m s0 s):EvL P N m c s0 e s1:=
 fun γ0 h0 M0 w0 a w Q hm hd hS hQ=>h γ0 h0 M0 w0 a w Q hm hd (k _ _ _ _ _ _ _ hm hd hS) hQ
theorem EvL.loop {c:Code}{s s1:St}{e:Exit}(h:EvL P N m c s e s1):Ev P N m (.loop c) s e s1:=by
 intro γ0 h0 M0 w0 a w Q hm hd hS hQ bb k' cs;obtain⟨e1,a1,w1,hq,harr⟩:=h γ0 h0 M0 w0 a w Q hm hd hS hQ bb k' cs;exact⟨e1,a1,w1,hq,.of_steps (.one step_loop) harr⟩
theorem Det.mono {c:Code}{s:St}{Φ Ψ:Exit→St→Prop}(h:Det P N m c s Φ)(k:∀e s',Φ e s'→Ψ e s'):Det P N m c s Ψ:=let ⟨e,s',h1,h2⟩:=h;⟨e,s',k _ _ h1,h2⟩
theorem region_ev (hmx:P.follows .mixedOrders=true){id:Nat}{ops:Array Oper}{draw:Bool}{recs:List Rec}{s:St}{T':List (Nat×V)}{H':List (Nat×Ent)}{n':Nat}(f1:Facts P N ops recs s.T s.H T' H')(f2:recs.map (·.o)=ops.toList)
  (f3:draw=true→noConf (recs.map (·.ft ops)) (masks ops.toList [])=true∧edgesOk ops=true):Ev P N m (.region id ops draw) s .normal ⟨T',H',n'⟩:=by
 intro γ0 h0 M0 w0 a w Q hm hd hS hQ;have hlen:recs.length=ops.size:=by rw[←List.length_map (f:=(·.o)),f2];simp
 have hget:∀(j:Nat) (r:Rec),recs[j]? =some r→ops[j]? =some r.o:=by
  intro j r hr;have h1:ops.toList[j]? =some r.o:=by rw[←f2,List.getElem?_map,hr];rfl
  simpa using h1
 cases draw with
 |false=>
  refine wp_region ?_;have:=facts_plain (ops:=ops) hd f1 (Q:=Q) 0 a w (fun j r hj=>by rw[Nat.zero_add];exact hget j r hj) hS fun a' w' hS'=>hQ _ _ hS';simpa [hlen]using this
 |true=>
  obtain⟨f5,f6⟩:=f3 rfl;refine wp_region_any hmx ?_;refine facts_any hd f1 f2 f5 f6 (fun a' w' hS'=>hQ _ _ hS') ops.size _ a _ (by simp) (by simp[unl,List.countP_replicate]) (fun i o hi=> ?_) ?_
  ·exfalso;rw[Array.getD_eq_getD_getElem?]at hi
   by_cases hlt:i<ops.size
   ·simp[hlt]at hi
   ·simp[hlt]at hi
  ·have hnone:∀{β:Type} (zs:List (List (Nat×β))) (i:Nat) (S:Nat→Bool) (T:List (Nat×β)),(∀j,S j=false)→sel zs i S T=T:=by
    intro β zs
    induction zs with
    |nil=>intros;rfl
    |cons z zs ih=>intro i S T hs;simp only[sel];rw[hs i];exact ih _ _ _ hs
   have hfalse:∀j,(Array.replicate ops.size false).getD j false=false:=by
    intro j;rw[Array.getD_eq_getD_getElem?];by_cases hlt:j<ops.size<;>simp[hlt]
   rw[hnone _ _ _ _ hfalse,hnone _ _ _ _ hfalse];exact hS.drew hd
theorem rn_det (hmx:P.follows .mixedOrders=true):∀(c:Code) (Φ:Exit→St→Prop) (s:St),rn P N m c Φ s→Det P N m c s Φ:=by
 intro c
 induction c with
 |skip=>intro Φ s h;exact⟨.normal,s,h,fun γ0 h0 M0 w0 a w Q hm hd hS hQ=>wp_skip (hQ _ _ hS)⟩
 |label l=>intro Φ s h;exact⟨.normal,s,h,fun γ0 h0 M0 w0 a w Q hm hd hS hQ=>wp_label (hQ _ _ hS)⟩
 |region id ops draw=>
  intro Φ s h;obtain⟨recs,T',H',n',f1,f2,f3,f4⟩:=chR_facts _ _ _ _ _ (show chR P N draw ops ops.toList s.T s.H s.n [] fun T H n=>Φ .normal ⟨T,H,n⟩from h);exact⟨.normal,_,f4,region_ev hmx f1 f2 (by simpa using f3)⟩
 |seq x y ihx ihy=>
  intro Φ s h;obtain⟨e,s1,h1,h2⟩:=ihx _ s (show rn P N m x (qSeq (fun s'=>rn P N m y Φ s') Φ) s from h)
  cases e with
  |normal=>obtain⟨e',s2,h3,h4⟩:=ihy _ s1 h1;exact⟨e',s2,h3,h2.seqN h4⟩
  |_=>exact⟨_,s1,h1,Ev.seqX (by simp) h2⟩
 |cond c x y ihx ihy=>
  intro Φ s h;have h:rnC c s (rn P N m x Φ s) (rn P N m y Φ s):=h;unfold rnC at h;obtain⟨T,H,n⟩:=s;simp only at h;split at h
  ·rename_i b he
   have hc:∀{γ0:Gh} {h0:Hp} {M0:MS} {w0:World} {a:Act} {w:World},SR N γ0 h0 M0 w0 (look T) (look H) a w→a.eval c= .bool b:=fun hS=>by
    obtain⟨γ,M,_,ht,_⟩:=hS;exact lit_inv (evL_ok ht he)
   cases b with
   |true=>
    obtain⟨e,s1,h1,h2⟩:=ihx _ _ h;exact⟨e,s1,h1,fun γ0 h0 M0 w0 a w Q hm hd hS hQ=>wp_cond_true (hc hS) (h2 γ0 h0 M0 w0 a w Q hm hd hS hQ)⟩
   |false=>
    obtain⟨e,s1,h1,h2⟩:=ihy _ _ h;exact⟨e,s1,h1,fun γ0 h0 M0 w0 a w Q hm hd hS hQ=>wp_cond_false (hc hS) (h2 γ0 h0 M0 w0 a w Q hm hd hS hQ)⟩
  ·exact h.elim
 |block id c ih=>
  intro Φ s h;obtain⟨e,s1,h1,h2⟩:=ih _ s (show rn P N m c (qBlock id Φ) s from h)
  cases e with
  |exit id'=>
   simp only[qBlock]at h1;split at h1
   ·rename_i hid;have hid:=Nat.eq_of_beq_eq_true hid;exact⟨.normal,s1,h1,fun γ0 h0 M0 w0 a w Q hm hd hS hQ=>wp_block (h2 γ0 h0 M0 w0 a w _ hm hd hS fun a' w' hS'=>by simp only[Exit.inBlock];rw[if_pos hid];exact hQ _ _ hS')⟩
   ·rename_i hid;have hid:=Nat.ne_of_beq_eq_false hid;exact⟨.exit id',s1,h1,fun γ0 h0 M0 w0 a w Q hm hd hS hQ=>wp_block (h2 γ0 h0 M0 w0 a w _ hm hd hS fun a' w' hS'=>by simp only[Exit.inBlock];rw[if_neg hid];exact hQ _ _ hS')⟩
  |_=>exact⟨_,s1,h1,fun γ0 h0 M0 w0 a w Q hm hd hS hQ=>wp_block (h2 γ0 h0 M0 w0 a w _ hm hd hS fun a' w' hS'=>hQ _ _ hS')⟩
 |loop c ih=>
  intro Φ s h;have h:Ln (rn P N m c) m Φ s:=h;obtain⟨β,inv,ok,μ,b0,hw0,hok0,hstep⟩:∃(β:Type) (inv:β→St) (ok:β→Prop) (μ:β→Nat) (b0:β),Wk m s (inv b0)∧ok b0∧∀b,ok b→Det P N m c (inv b) (qSeq (fun s'=>∃b',Wk m s' (inv b')∧ok b'∧μ b'<μ b) fun e s'=>∃s2,Wk m s' s2∧Φ e s2):=by
   rcases h with⟨β,inv,ok,μ,b0,hw0,hok0,hstep⟩|⟨β,inv,ok,μ,b0,hw0,hok0,hstep⟩
   ·refine⟨β,inv,ok,μ,b0,hw0,hok0,fun b hb=>(ih _ _ (hstep b hb)).mono fun e s' h=> ?_⟩
    cases e<;>first|exact h|exact⟨s',Wk.refl m s',h⟩
   ·exact⟨β,inv,ok,μ,b0,hw0,hok0,fun b hb=>ih _ _ (hstep b hb)⟩
  have key:∀n b,μ b=n→ok b→∃e s',Φ e s'∧EvL P N m c (inv b) e s':=by
   intro n
   induction n using Nat.strongRecOn with
   |_ n ihn=>
    intro b hb hok;obtain⟨e,s1,h1,h2⟩:=hstep b hok
    cases e with
    |normal=>
     obtain⟨b',k1,k2,k3⟩:=h1;obtain⟨e',s2,h3,h4⟩:=ihn (μ b') (by omega) b' rfl k2;exact⟨e',s2,h3,EvL.more h2 (EvL.wk h4 k1)⟩
    |_=>obtain⟨s2,k1,k2⟩:=h1;exact⟨_,s2,k2,EvL.last (by simp) (h2.out k1)⟩
  obtain⟨e,s',h1,h2⟩:=key _ b0 rfl hok0;exact⟨e,s',h1,EvL.loop (EvL.wk h2 hw0)⟩
 |exit id=>intro Φ s h;exact⟨.exit id,s,h,fun γ0 h0 M0 w0 a w Q hm hd hS hQ=>wp_exit (hQ _ _ hS)⟩
 |ret=>intro Φ s h;exact⟨.ret,s,h,fun γ0 h0 M0 w0 a w Q hm hd hS hQ=>wp_ret (hQ _ _ hS)⟩
 |scope c ih=>
  intro Φ s h;obtain⟨e,s1,h1,h2⟩:=ih _ s (show rn P N m c (qScope Φ) s from h)
  cases e with
  |goto l=>exact h1.elim
  |_=>exact⟨_,s1,h1,fun γ0 h0 M0 w0 a w Q hm hd hS hQ=>wp_scope_straight (h2 γ0 h0 M0 w0 a w _ hm hd hS fun a' w' hS'=>hQ _ _ hS')⟩
 |rangeFunc=>intro Φ s h;exact h.elim
 |goto=>intro Φ s h;exact h.elim
 |refuse=>intro Φ s h;exact h.elim
def wOf:V→Option W
 | .a x=>some (.s x)
 | .agg xs=>some (.g xs)
 |_=>none
def vOf:List W→V
 |[.s x]=> .a x
 |[.g xs]=> .agg xs
 |ws=> .tup ws
def resL (P:Program)(T:List (Nat×V))(H:List (Nat×Ent)):List ResultVar→Option (List W)
 |[]=>some []
 | .tmp t::r=>match (look T t).bind wOf,resL P T H r with
   |some x,some xs=>some (x::xs)
   |_,_=>none
 | .cell a t::r=>match ((look T a).bind (loadL P t (look H))).bind (wOf ·.1),resL P T H r with
   |some x,some xs=>some (x::xs)
   |_,_=>none
inductive Rt (m:Nat) (H:List (Nat×Ent)) (v:V) (R:V→List (Nat×Ent)→Prop):Prop
 |mk (v':V) (H':List (Nat×Ent)) (hR:R v' H') (hw:WkV v v') (hi:inH H' (keysV v')=true) (hs:subH H H' H') (hm:subM m H H'=true):Rt m H v R
noncomputable def retQ (P:Program)(m:Nat)(fn:Func)(R:V→List (Nat×Ent)→Prop)(e:Exit)(s:St):Prop:=
 match (match e with
  | .ret=>true
  | .normal=>true
  |_=>false)with
 |true=>(match resL P s.T s.H fn.results.toList with
  |some ws=>fV (vOf ws) fun v=>Rt m s.H v R
  |none=>False)
 |false=>False
def argT:Nat→List V→List (Nat×V)
 |_,[]=>[]
 |i,v::vs=>(i,v)::argT (i+1) vs
noncomputable def argK (i:Nat)(l:List V):(List (Nat×V)→Prop)→Prop:=
 List.rec (motive:=fun _=>Nat→(List (Nat×V)→Prop)→Prop) (fun _ K=>K []) (fun v _ ih i K=>fN i fun i=>fV v fun v=>ih (i+1) fun T=>K ((i,v)::T)) l i
theorem argK_cons (i:Nat)(v:V)(vs:List V)(K:List (Nat×V)→Prop):argK i (v::vs) K=fN i fun i=>fV v fun v=>argK (i+1) vs fun T=>K ((i,v)::T):=rfl
theorem argK_eq:∀(vs:List V) (i:Nat) (K:List (Nat×V)→Prop),argK i vs K=K (argT i vs)
 |[],i,K=>rfl
 |v::vs,i,K=>by rw[argK_cons,fN_eq,fV_eq,argK_eq vs];rfl
theorem argT_look:∀(vs:List V) (i d:Nat),look (argT i vs) d=if i≤d then vs[d-i]? else none
 |[],i,d=>by simp[argT,look]
 |v::vs,i,d=>by
  simp only[argT,look];rw[argT_look vs (i+1) d]
  by_cases h:i=d
  ·subst h;simp
  ·rw[if_neg h]
   by_cases h2:i+1≤d
   ·rw[if_pos h2,if_pos (by omega),show d-i=(d-(i+1))+1 from by omega,List.getElem?_cons_succ]
   ·rw[if_neg h2,if_neg (by omega)]
theorem wOf_ok {γ:Gh}{h:Hp}{M:MS}{w:World}{v:V}{x:W}{r:Value}(hv:RdV γ h M w v r)(hx:wOf v=some x):RdW γ h M w x r:=by
 cases v<;>simp[wOf]at hx<;>subst hx<;>exact hv
theorem load_run {γ:Gh}{h:Hp}{M:MS}{w:World}{t:TypeId}{vx v:V}{rk:List Nat}{x:Value}(hr:Rel γ h M w)(hx:RdV γ h M w vx x)(hl:loadL P t h vx=some (v,rk)):
  ∃ad r,x= .pointer (some ad)∧(loadVar t ad).run P w= .ok r w∧RdV γ h M w v r:=by
 unfold loadL at hl;split at hl
 ·rename_i key off;split at hl
  ·rename_i tb cs ag s h1 h2 h3;obtain⟨v',h4,h5⟩:=Option.map_eq_some_iff.1 hl;injection h5 with h5 h6;subst h5 h6;obtain⟨_,g,k1,k2⟩:=hx;obtain⟨g',vs,k3,k4,k5⟩:=hr.ent key _ h1;rw[k1]at k3;injection k3 with k3;injection k3 with k3;injection k3 with k3;subst k3;have k6:=All2.take s (All2.drop off k5);obtain⟨k7,k8⟩:=oneL_ok h4 k6;refine⟨_,_,k2,loadVar_run h2 h3 (fun e=>by subst e;exact oneL_one h4) k7 fun j u hj=> ?_,k8⟩;rw[List.getElem?_take,List.getElem?_drop]at hj;split at hj
   ·simp[World.cell?,k4,hj]
   ·cases hj
  ·cases hl
 ·rename_i row off;split at hl
  ·rename_i ag s h2 h3;obtain⟨v',h4,h5⟩:=Option.map_eq_some_iff.1 hl;injection h5 with h5 h6;subst h5 h6;obtain⟨b,oo,f,k1,k2⟩:=hx;obtain⟨vs,k3,k4⟩:=elt_vs (γ:=γ) (h:=h) k2 off s;obtain⟨k7,k8⟩:=oneL_ok h4 k3;exact⟨_,_,k1,loadVar_run h2 h3 (fun e=>by subst e;exact oneL_one h4) k7 k4,k8⟩
  ·cases hl
 ·cases hl
theorem res_ok {γ:Gh}{M:MS}{w:World}{a:Act}{T:List (Nat×V)}{H:List (Nat×Ent)}(hr:Rel γ (look H) M w)(ht:TR γ (look H) M w (look T) a):∀(l:List ResultVar) (ws:List W),resL P T H l=some ws→
  ∃rs:List Value,rs.length=l.length∧All2 (RdW γ (look H) M w) ws rs∧∀(i:Nat) x r,l[i]? =some x→rs[i]? =some r→match x with
   | .tmp t=>a.tmps.getD t undef=r
   | .cell p t=>∃ad,a.tmps.getD p undef= .pointer (some ad)∧(loadVar t ad).run P w= .ok r w
 |[],ws,h=>by injection h with h;subst h;exact⟨[],rfl,trivial,fun i x r hx=>by simp at hx⟩
 | .tmp t::l,ws,h=>by
   simp only[resL]at h;split at h
   ·rename_i x xs h1 h2;injection h with h;subst h;obtain⟨v,h3,h4⟩:=Option.bind_eq_some_iff.1 h1;obtain⟨r,h5,h6⟩:=ht.2 t v h3;obtain⟨rs,k1,k2,k3⟩:=res_ok hr ht l xs h2;refine⟨r::rs,by simp[k1],⟨wOf_ok h6 h4,k2⟩,fun i x r' hx hr'=> ?_⟩
    cases i with
    |zero=>simp at hx hr';subst hx hr';simp only[Array.getD_eq_getD_getElem?,h5,Option.getD_some]
    |succ i=>exact k3 i x r' (by simpa using hx) (by simpa using hr')
   ·cases h
 | .cell p t::l,ws,h=>by
   simp only[resL]at h;split at h
   ·rename_i x xs h1 h2;injection h with h;subst h;obtain⟨⟨v,rk⟩,h3,h4⟩:=Option.bind_eq_some_iff.1 h1;obtain⟨vx,h3,h5⟩:=Option.bind_eq_some_iff.1 h3;obtain⟨r0,h6,h7⟩:=ht.2 p vx h3;obtain⟨ad,r,h8,h9,h10⟩:=load_run hr h7 h5;obtain⟨rs,k1,k2,k3⟩:=res_ok hr ht l xs h2;refine⟨r::rs,by simp[k1],⟨wOf_ok h10 h4,k2⟩,fun i x r' hx hr'=> ?_⟩
    cases i with
    |zero=>simp at hx hr';subst hx hr';exact⟨ad,by simp only[Array.getD_eq_getD_getElem?,h6,Option.getD_some,h8],h9⟩
    |succ i=>exact k3 i x r' (by simpa using hx) (by simpa using hr')
   ·cases h
theorem results_run {fn:Func}{a:Act}{w:World}:∀(l:List ResultVar) (rs:List Value),fn.results=⟨l⟩→rs.length=l.length→l.length≤4→(∀(i:Nat) x r,l[i]? =some x→rs[i]? =some r→match x with
   | .tmp t=>a.tmps.getD t undef=r
   | .cell p t=>∃ad,a.tmps.getD p undef= .pointer (some ad)∧(loadVar t ad).run P w= .ok r w)→
  (results fn a.tmps).run P w= .ok (match rs with
   |[r]=>r
   |rs=> .tuple rs.toArray) w
 |[],[],he,_,_,hk=>by simp[results,he]
 |[x],[r],he,_,_,hk=>by
  have h0:=hk 0 _ _ rfl rfl;clear hk
  cases x<;>simp only at h0
  all_goals try obtain⟨ad0,h0,k0⟩:=h0
  all_goals simp only[Array.getD_eq_getD_getElem?]at *
  all_goals simp[results,he,asAddr, *]
 |[x,y],[r,s],he,_,_,hk=>by
  have h0:=hk 0 _ _ rfl rfl;have h1:=hk 1 _ _ rfl rfl;clear hk
  cases x<;>cases y<;>simp only at h0 h1
  all_goals try obtain⟨ad0,h0,k0⟩:=h0
  all_goals try obtain⟨ad1,h1,k1⟩:=h1
  all_goals simp only[Array.getD_eq_getD_getElem?]at *
  all_goals simp[results,he,asAddr, *]
 |[x,y,z],[r,s,u],he,_,_,hk=>by
  have h0:=hk 0 _ _ rfl rfl;have h1:=hk 1 _ _ rfl rfl;have h2:=hk 2 _ _ rfl rfl;clear hk
  cases x<;>cases y<;>cases z<;>simp only at h0 h1 h2
  all_goals try obtain⟨ad0,h0,k0⟩:=h0
  all_goals try obtain⟨ad1,h1,k1⟩:=h1
  all_goals try obtain⟨ad2,h2,k2⟩:=h2
  all_goals simp only[Array.getD_eq_getD_getElem?]at *
  all_goals simp[results,he,asAddr, *]
 |[x,y,z,t],[r,s,u,v],he,_,_,hk=>by
  have h0:=hk 0 _ _ rfl rfl;have h1:=hk 1 _ _ rfl rfl;have h2:=hk 2 _ _ rfl rfl;have h3:=hk 3 _ _ rfl rfl;clear hk
  cases x<;>cases y<;>cases z<;>cases t<;>simp only at h0 h1 h2 h3
  all_goals try obtain⟨ad0,h0,k0⟩:=h0
  all_goals try obtain⟨ad1,h1,k1⟩:=h1
  all_goals try obtain⟨ad2,h2,k2⟩:=h2
  all_goals try obtain⟨ad3,h3,k3⟩:=h3
  all_goals simp only[Array.getD_eq_getD_getElem?]at *
  all_goals simp[results,he,asAddr, *]
theorem vOf_ok {γ:Gh}{h:Hp}{M:MS}{w:World}:∀{ws:List W} {rs:List Value},All2 (RdW γ h M w) ws rs→RdV γ h M w (vOf ws) (match rs with
   |[r]=>r
   |rs=> .tuple rs.toArray)
 |[],[],_=>⟨[],rfl,trivial⟩
 |[.s x],[r],k=>k.1
 |[.g xs],[r],k=>k.1
 |x::y::ws,r::s::rs,k=>by
  simp only[vOf];exact⟨r::s::rs,rfl,k⟩
 |[],_::_,k=>k.elim
 |[_],[],k=>k.elim
 |[_],_::_::_,k=>k.2.elim
 |_::_::_,[],k=>k.elim
 |_::_::_,[_],k=>k.2.elim
theorem LX_run (hmx:P.follows .mixedOrders=true){F:FuncId}{fn:Func}{c:Code}{args:List V}{H:List (Nat×Ent)}{n0:Nat}{R:V→List (Nat×Ent)→Prop}(hf:P.funcs[F]? =some fn)(hb:fn.body=some c)
  (hl:Nat.ble args.length fn.ntmps=true) (hrs:Nat.ble fn.results.toList.length 4=true) (hm:H.all (fun p=>Nat.blt p.1 m)=true) (h:argK 0 args fun T=>rn P fn.ntmps m c (retQ P m fn R) ⟨T,H,n0⟩):LX P F args H R:=by
 rw[argK_eq]at h;have hmm:∀key,(look H key).isSome=true→key<m:=by
  intro key hk;obtain⟨e,he⟩:=Option.isSome_iff_exists.1 hk;have:=List.all_eq_true.1 hm _ (look_mem he);simpa [Nat.blt_eq]using this
 obtain⟨e,s',hΦ,hev⟩:=rn_det hmx c _ _ h;unfold retQ at hΦ;split at hΦ
 ·rename_i hexit;split at hΦ
  ·rename_i ws hws;rw[fV_eq]at hΦ;obtain⟨v',H',hR,hw,hi,hs,hm'⟩:=hΦ;refine⟨v',H',hR,fun γ M w rs hrel hargs=> ?_⟩;have hlen:rs.length=args.length:=hargs.len.symm;have hble:args.length≤fn.ntmps:=Nat.le_of_ble_eq_true hl;refine calls_of_wp hf hb (hev γ (look H) M w _ w _ hmm hrel.dom ⟨γ,M,hrel,⟨hrel.glb,fun d v hd=> ?_⟩,?_,rfl,Stp.refl _ _ _ _⟩ fun a' w' hS'=> ?_)
   ·rw[argT_look]at hd;simp only[zL_,if_true,Nat.sub_zero]at hd;obtain⟨r,h1,h2⟩:=hargs.get hd;refine⟨r,?_,h2⟩;have hlt:=(List.getElem?_eq_some_iff.1 h1).1;simp only;rw[Array.getElem?_append_left (by simpa using hlt)];simpa using h1
   ·simp;omega
   ·obtain⟨γ',M',k1,k2,k3,k4,k5⟩:=hS';obtain⟨rs',r1,r2,r3⟩:=res_ok k1 k2 _ _ hws;have hrun:=results_run _ rs' (show fn.results=⟨fn.results.toList⟩ by simp) r1 (Nat.le_of_ble_eq_true hrs) r3;obtain⟨q1,q2,q3⟩:=rel_sub k1 (H':=H') fun d e' he=>subH_at hs he
    have hb:a'.defers=[]∧∃v,(results fn a'.tmps).run P w'= .ok v w'∧∃r γ'' M'',Ending.returned v= .returned r∧Rel γ'' (look H') M'' w'∧RdV γ'' (look H') M'' w' v' r∧Stp γ (look H) M w γ'' (look H') M'' w':=
     ⟨k4,_,hrun,_,γ',M',rfl,q1,q2 _ _ (hw _ _ _ _ _ (vOf_ok r2)) hi,q3 (fun key h0 h1=>by
      have:=List.all_eq_true.1 hm' key (List.mem_range.2 (hmm key h0));simpa [h1]using this) k5⟩
    cases e<;>first|exact hb|cases hexit
  ·exact hΦ.elim
 ·exact hΦ.elim
end
def LV (P:Program)(f:FuncId)(args:List V)(v:V):Prop:=LX P f args [] fun v' H=>v'=v∧H=[]
def LP (P:Program)(f:FuncId)(args:List V)(R:V→Prop):Prop:=∃v,R v∧(keysV v).isEmpty=true∧LV P f args v
section
variable {γ γ':Gh} {h h':Hp} {M M':MS} {w w':World} {P:Program} {N m:Nat}
def stripW:W→W
 | .s x=> .s (stripA x)
 | .g xs=> .g (xs.map stripA)
def stripV:V→V
 | .a x=> .a (stripA x)
 | .agg xs=> .agg (xs.map stripA)
 | .tup ws=> .tup (ws.map stripW)
theorem stripV_ok (v:V):WkV v (stripV v):=by
 cases v with
 |a x=>exact fun _ _ _ _ _ k=>RdA.strip k
 |agg xs=>exact fun _ _ _ _ _ ⟨vs,h1,h2⟩=>⟨vs,h1,All2.map (All2.imp (fun _ _ k=>RdA.strip k) h2)⟩
 |tup ws=>
  refine fun γ h M w r k=> ?_;obtain⟨vs,h1,h2⟩:=k;refine⟨vs,h1,All2.map (All2.imp (fun x v k=> ?_) h2)⟩
  cases x with
  |s x=>exact RdA.strip k
  |g xs=>obtain⟨us,h3,h4⟩:=k;exact⟨us,h3,All2.map (All2.imp (fun _ _ k=>RdA.strip k) h4)⟩
theorem strips_ok:∀vs:List V,All2 WkV vs (vs.map stripV)
 |[]=>trivial
 |v::vs=>⟨stripV_ok v,strips_ok vs⟩
theorem wks_refl:∀vs:List V,All2 WkV vs vs
 |[]=>trivial
 |v::vs=>⟨vR_ v,wks_refl vs⟩
theorem Cn.val {F:FuncId}{vs:List V}{H:List (Nat×Ent)}{n:Nat}{K:V→List (Nat×Ent)→List Nat→Nat→Prop}{v:V}(hc:LV P F (vs.map stripV) v)(he:entT P F=true)(hg:((vs.map stripV).flatMap keysV).isEmpty=true)(hv:(keysV v).isEmpty=true)
  (hk:fX v fun v=>K v [] [] n):Cn P F vs H n K:=
 .pure _ _ he hc (strips_ok vs) hg fun v' H' hR=>⟨hR.2,by rw[hR.1];exact List.isEmpty_iff.1 hv,by rw[hR.1];exact hk⟩
theorem Cn.as {F:FuncId}{vs gs:List V}{H:List (Nat×Ent)}{n:Nat}{K:V→List (Nat×Ent)→List Nat→Nat→Prop}{v:V}(hc:LV P F gs v)(he:entT P F=true)(hw:All2 WkV vs gs)(hg:(gs.flatMap keysV).isEmpty=true)(hv:(keysV v).isEmpty=true)
  (hk:fX v fun v=>K v [] [] n):Cn P F vs H n K:=
 .pure _ _ he hc hw hg fun v' H' hR=>⟨hR.2,by rw[hR.1];exact List.isEmpty_iff.1 hv,by rw[hR.1];exact hk⟩
theorem Cn.dat {F:FuncId}{vs:List V}{H:List (Nat×Ent)}{n:Nat}{K:V→List (Nat×Ent)→List Nat→Nat→Prop}{R:V→Prop}(hc:LP P F (vs.map stripV) R)(he:entT P F=true)(hg:((vs.map stripV).flatMap keysV).isEmpty=true)
  (hk:∀v,R v→fX v fun v=>K v [] [] n):Cn P F vs H n K:=let ⟨v,h1,h2,h3⟩:=hc;.val h3 he hg h2 (hk v h1)
theorem LV.wk {F:FuncId}{args gs:List V}{v:V}(h:LV P F gs v)(hw:All2 WkV args gs):LV P F args v:=by
 obtain⟨v',H',⟨rfl,rfl⟩,hc⟩:=h;exact⟨_,_,⟨rfl,rfl⟩,fun γ M w rs hr ha=>hc γ M w rs hr (wk_all hw ha)⟩
theorem LV.out {F:FuncId}{args:List V}{v v':V}(h:LV P F args v)(hw:WkV v v'):LV P F args v':=by
 obtain⟨_,_,⟨rfl,rfl⟩,hc⟩:=h;refine⟨_,_,⟨rfl,rfl⟩,fun γ M w rs hr ha=>cM (hc γ M w rs hr ha) ?_⟩;rintro e w' ⟨r,γ',M',h1,h2,h3,h4⟩;exact⟨r,γ',M',h1,h2,hw _ _ _ _ _ h3,h4⟩
theorem WkV.int {k:IntKind}{x y:Int}(h:x=y):WkV (vl (.int k x)) (vl (.int k y)):=by subst h;exact vR_ _
theorem wka_refl:∀xs:List A,All2 WkA xs xs
 |[]=>trivial
 |x::xs=>⟨aR_ x,wka_refl xs⟩
theorem wkd_refl:∀xs:List D,All2 WkD xs xs
 |[]=>trivial
 |x::xs=>⟨WkD.refl x,wkd_refl xs⟩
theorem wkds_refl:∀xs:List (List D),All2 (All2 WkD) xs xs
 |[]=>trivial
 |x::xs=>⟨wkd_refl x,wkds_refl xs⟩
theorem wkar_refl:∀xs:List (List (List D)),All2 (All2 (All2 WkD)) xs xs
 |[]=>trivial
 |x::xs=>⟨wkds_refl x,wkar_refl xs⟩
theorem wke_refl (e:Ent):WkE e e:=by
 cases e with
 |gone=>trivial
 |box t cs=>exact⟨cs,rfl,wka_refl cs⟩
 |arr t k n=>rfl
 |tab t k rows=>exact⟨rows,rfl,wkds_refl rows⟩
 |mp φ=>exact⟨φ,rfl,fun _ _ _ h=>h⟩
 |tt e0 e k o ar=>exact⟨ar,rfl,wkar_refl ar⟩
theorem wr64 {x:Int}(h1: -9223372036854775808≤x)(h2:x<9223372036854775808):IntKind.i64.wrap x=x:=Go.IntWalk.i64_in x ⟨h1,by omega⟩
def OD (w:World):D→Value→Prop
 | .lit v,r=>r=v
 | .lm xs,r=>Sl w r xs
 | .sl _ _,_=>False
def OA (w:World):A→Value→Prop
 | .d d,r=>OD w d r
 |_,_=>False
def OW (w:World):W→Value→Prop
 | .s x,r=>OA w x r
 | .g xs,r=>∃vs:List Value,r= .agg vs.toArray∧All2 (OA w) xs vs
def OV (w:World):V→Value→Prop
 | .a x,r=>OA w x r
 | .agg xs,r=>∃vs:List Value,r= .agg vs.toArray∧All2 (OA w) xs vs
 | .tup ws,r=>∃vs:List Value,r= .tuple vs.toArray∧All2 (OW w) ws vs
theorem sl_rd (hu:∀b i n,M b i→w.cell? ⟨b,i,none⟩≠some (.int .u32 n)){xs:List Nat}{r:Value}(h:Sl w r xs):RdD M w (.lm xs) r:=by
 refine .lm xs r h fun b o l c hv i hi hm=> ?_;obtain⟨ad,n,cap,rfl,h1,h2,h3,h4,h5⟩:=h;injection hv with e1 e2 e3;subst e2 e3;obtain⟨b',off,e,hb,hc⟩:=h5 (by omega);rw[e]at e1;injection e1 with e1;injection e1 with e4 e5;subst e4 e5;exact hu _ _ _ hm (hc i hi)
theorem OD.rd (hu:∀b i n,M b i→w.cell? ⟨b,i,none⟩≠some (.int .u32 n)){d:D}{r:Value}(k:OD w d r):RdD M w d r:=by
 cases d with
 |lit v=>rw[show r=v from k];exact .lit v
 |lm xs=>exact sl_rd hu k
 |sl _ _=>exact k.elim
theorem OA.rd (hu:∀b i n,M b i→w.cell? ⟨b,i,none⟩≠some (.int .u32 n)){x:A}{r:Value}(k:OA w x r):RdA γ h M w x r:=by
 cases x<;>first|exact OD.rd hu k|exact k.elim
theorem OV.rd (hu:∀b i n,M b i→w.cell? ⟨b,i,none⟩≠some (.int .u32 n)){x:V}{r:Value}(k:OV w x r):RdV γ h M w x r:=by
 cases x with
 |a x=>exact OA.rd hu k
 |agg xs=>obtain⟨vs,h1,h2⟩:=k;exact⟨vs,h1,All2.imp (fun _ _=>OA.rd hu) h2⟩
 |tup ws=>
  obtain⟨vs,h1,h2⟩:=k;refine⟨vs,h1,All2.imp (fun x r k=> ?_) h2⟩
  cases x with
  |s x=>exact OA.rd hu k
  |g xs=>obtain⟨vs,h1,h2⟩:=k;exact⟨vs,h1,All2.imp (fun _ _=>OA.rd hu) h2⟩
theorem rd_sl {xs:List Nat}{r:Value}(h:RdD M w (.lm xs) r):Sl w r xs:=by cases h;assumption
theorem rel_below {H:Hp}(r:Rel γ H M w)(hb:Below w.heap.size w w')(he:∀k,H k=none):Rel γ H M w'∧Stp γ H M w γ H M w':=by
 have hc:∀b i,b<w.heap.size→w'.cell? ⟨b,i,none⟩=w.cell? ⟨b,i,none⟩:=fun b i hlt=>by simp only[World.cell?];rw[hb.block b hlt]
 refine⟨⟨fun key e hk=>absurd hk (by rw[he];simp),r.own,r.inj,fun b i n hm=>by rw[hc b i (r.dom b i hm)];exact r.u32 b i n hm,fun b i hm=>Nat.lt_of_lt_of_le (r.dom b i hm) hb.size,r.glb.fx fun b i v hf=>⟨hf.1,by rw[hc b i (World.block_lt_of_cell? _ _ hf.2)];exact hf.2⟩⟩,
  hb.os,hb.tape,hb.output,hb.size,fun b i v hf=>⟨hf.1,by rw[hc b i (World.block_lt_of_cell? _ _ hf.2)];exact hf.2⟩,fun b hlt _=>hb.block b hlt,fun b i hm _=>hm,fun key b i ho _=>⟨key,ho⟩,fun key e hk=>absurd hk (by rw[he];simp)⟩
theorem lv_of {F:FuncId}{args:List V}{v:V}(hc:∀(γ:Gh) (M:MS) (w:World) (rs:List Value),All2 (RdV γ (look []) M w) args rs→Calls P F rs.toArray w (Ret w fun w' r=>OV w' v r)):LV P F args v:=by
 refine⟨_,_,⟨rfl,rfl⟩,fun γ M w rs hr ha=>cM (hc γ M w rs ha) ?_⟩;rintro e w' ⟨r,rfl,h1,h2⟩;obtain⟨k1,k2⟩:=rel_below hr h2 fun k=>rfl;exact⟨r,γ,M,rfl,k1,OV.rd k1.u32 h1,k2⟩
end
theorem Wk.go {m:Nat}{s s':St}(h1:subT s.T s'.H s'.T:=by(repeat' first|exact trivial|exact vR_ _|exact WkV.int (wr64 (by omega) (by omega))|exact WkV.int (by simp)|refine⟨⟨_,rfl,?_,rfl⟩,?_⟩))
  (h2:subH s.H s'.H s'.H:=by(repeat' first|exact trivial|exact wke_refl _|refine⟨⟨_,rfl,?_,rfl⟩,?_⟩)) (h3:subM m s.H s'.H=true:=by rfl):Wk m s s':=Wk.of h1 h2 h3
def okF (ks:List Nat)(n:Nat)(gs:List V)(H H1:List (Nat×Ent)):Bool:=
 decide ks.Nodup&&ks.all (fun k=>Nat.blt k n)&&(gs.flatMap keysV).all (fun k=>ks.contains k)&&H1.all (fun p=>noKeys p.2&&(Nat.blt p.1 ks.length||(look H (back ks n p.1)).isNone))
section
variable {P:Program} {F:FuncId} {vs gs:List V} {H:List (Nat×Ent)} {n:Nat} {K:V→List (Nat×Ent)→List Nat→Nat→Prop} {v:V} {R:V→Prop}
theorem Cn.c (hc:LV P F (vs.map stripV) v)(hk:fX v fun v=>K v [] [] n)(he:entT P F=true:=by rfl)(hg:((vs.map stripV).flatMap keysV).isEmpty=true:=by rfl)(hv:(keysV v).isEmpty=true:=by rfl):Cn P F vs H n K:= .val hc he hg hv hk
theorem Cn.d (hc:LP P F (vs.map stripV) R)(hk:∀v,R v→fX v fun v=>K v [] [] n)(he:entT P F=true:=by rfl)(hg:((vs.map stripV).flatMap keysV).isEmpty=true:=by rfl):Cn P F vs H n K:= .dat hc he hg hk
theorem Cn.l {Hs H1:List (Nat×Ent)}(ks:List Nat)(hc:LX P F ((vs.map stripV).map (renV fun k=>ks.idxOf k)) Hs fun v' H'=>v'=v∧H'=H1)
  (hk:fX (renV (back ks n) v) fun v=>fHs (H1.map fun p=>(back ks n p.1,p.2)) fun sets=>K v sets (ks++H1.map fun p=>back ks n p.1) (n+H1.length)) (he:entT P F=true:=by rfl)
  (hl:lendFrom (look H) 0 ks=some Hs:=by rfl) (hok:okF ks n (vs.map stripV) H H1=true:=by rfl):Cn P F vs H n K:=by
 unfold okF at hok;simp only[Bool.and_eq_true,Bool.or_eq_true,decide_eq_true_eq,List.all_eq_true,Nat.blt_eq,List.contains_eq_mem]at hok;obtain⟨⟨⟨o1,o2⟩,o3⟩,o4⟩:=hok;refine .lend ks _ Hs _ he hc (strips_ok vs) o1 o2 hl o3 fun v' H1' hR=> ?_;obtain⟨rfl,rfl⟩:=hR;exact⟨List.all_eq_true.2 fun p hp=>(o4 p hp).1,fun p hp hle=>(o4 p hp).2.elim (fun h=>absurd h (by omega)) fun h=>by simpa using h,hk⟩
theorem Rt.q {m:Nat}{R:V→List (Nat×Ent)→Prop}(hR:R v [])(hi:(keysV v).isEmpty=true:=by rfl)(hm:m=0:=by rfl):Rt m H v R:=by
 subst hm;exact⟨v,[],hR,vR_ v,by simp[inH,List.isEmpty_iff.1 hi],trivial,rfl⟩
theorem Rt.s {m:Nat}{R:V→List (Nat×Ent)→Prop}(hR:R (stripV v) [])(hi:(keysV (stripV v)).isEmpty=true:=by rfl)(hm:m=0:=by rfl):Rt m H v R:=by
 subst hm;exact⟨_,[],hR,stripV_ok v,by simp[inH,List.isEmpty_iff.1 hi],trivial,rfl⟩
end
section
variable {x y:V}
theorem all2_1 {R:V→Value→Prop}{rs:List Value}(k:All2 R [x] rs):∃r,rs=[r]∧R x r:=by
 match rs,k with
 |[r],k=>exact⟨r,rfl,k.1⟩
 |[],k=>exact k.elim
 |_::_::_,k=>exact k.2.elim
theorem all2_2 {R:V→Value→Prop}{rs:List Value}(k:All2 R [x,y] rs):∃r s,rs=[r,s]∧R x r∧R y s:=by
 match rs,k with
 |[r,s],k=>exact⟨r,s,rfl,k.1,k.2.1⟩
 |[],k=>exact k.elim
 |[_],k=>exact k.2.elim
 |_::_::_::_,k=>exact k.2.2.elim
end
theorem mix:Tryz.prog.follows .mixedOrders=true:=by rfl
theorem Calls.ret {P:Program}{f:FuncId}{args:Array Value}{w:World}{R R':World→Value→Prop}(h:Calls P f args w (Ret w R))(k:∀w' v,R w' v→R' w' v):Calls P f args w (Ret w R'):=
 cM h fun e w' ⟨v,h1,h2,h3⟩=>⟨v,h1,k _ _ h2,h3⟩
theorem All2.set' {α β:Type}{R:α→β→Prop}:∀{xs:List α} {ys:List β} {j:Nat} {x y:α},All2 R xs ys→xs[j]? =some x→(∀v,R x v→R y v)→All2 R (xs.set j y) ys
 |[],_,j,x,y,_,h,_=>by simp at h
 |a::xs,b::ys,0,x,y,k,h,f=>by simp at h;subst h;exact⟨f _ k.1,k.2⟩
 |a::xs,b::ys,j+1,x,y,k,h,f=>⟨k.1,All2.set' k.2 (by simpa using h) f⟩
 |_::_,[],_,_,_,k,_,_=>k.elim
section
variable {γ γ':Gh} {h h':Hp} {M M':MS} {w w':World} {P:Program}
theorem relabelG (r:Rel γ h M w){b j:Nat}{t:TypeId}{cs:List A}{x y:A}(hb:h b=some (.box t cs))(hj:cs[j]? =some x)(hxy:∀v,RdA γ h M w x v→RdA γ h M w y v):
  Rel γ (over [(b,.box t (cs.set j y))] h) M w∧Stp γ h M w γ (over [(b,.box t (cs.set j y))] h) M w:=by
 have ho:∀key' b' i,Owns γ (over [(b,.box t (cs.set j y))] h) key' b' i↔Owns γ h key' b' i:=fun key' b' i=>by
  by_cases e1:key'=b
  ·subst e1;simp only[Owns,over_same,hb]
  ·exact owns_congr rfl (over_other e1)
 have hl:∀key',live (over [(b,.box t (cs.set j y))] h key')=live (h key'):=fun key'=>by
  by_cases e1:key'=b
  ·subst e1;rw[over_same,hb];rfl
  ·rw[over_other e1]
 have s:Stp γ h M w γ (over [(b,.box t (cs.set j y))] h) M w:=by
  refine⟨rfl,rfl,rfl,lR_ _,fun _ _ _ k=>k,fun _ _ _=>rfl,fun _ _ k _=>k,fun key' b' i h1 _=>⟨key',(ho _ _ _).1 h1⟩,fun key' e' he=> ?_⟩
  by_cases e1:key'=b
  ·subst e1;rw[hb]at he;injection he with he;subst he;exact⟨_,over_same,trivial,.inl rfl⟩
  ·exact⟨e',by rw[over_other e1];exact he,Goes.refl _,.inl rfl⟩
 refine⟨⟨fun key' e' he=> ?_,fun key' b' i h1=>r.own key' b' i ((ho _ _ _).1 h1),fun k1 k2 b' l1 l2 b1 b2=>r.inj k1 k2 b' (by rw[←hl];exact l1) (by rw[←hl];exact l2) b1 b2,r.u32,r.dom,r.glb⟩,s⟩
 by_cases e1:key'=b
 ·subst e1;rw[over_same]at he;injection he with he;subst he;obtain⟨g,vs,k1,k2,k3⟩:=r.ent _ _ hb;exact⟨g,vs,k1,k2,All2.imp (fun x v k=>RdA.stp s k) (All2.set' k3 hj hxy)⟩
 ·rw[over_other e1]at he;exact EntR.stp s (r.ent key' e' he) rfl fun _ _ _=>rfl
theorem Wk.ttB {m:Nat}{s:St}(b key j:Nat)(e0 e:TypeId)(k:Nat){t:TypeId}{cs:List A}(hb:look s.H b=some (.box t cs))(hj:cs[j]? =some (.d (.lit (.slice none 0 0))))(hk:look s.H key=none):
  Wk m s ⟨s.T,(b,.box t (cs.set j (.th key 0)))::(key,.tt e0 e k [] [])::s.H,s.n⟩:=by
 intro N γ0 h0 M0 w0 a w hm hd hS;obtain⟨γ,M,k1,k2,k3,k4,k5⟩:=hS;have hne:b≠key:=by intro e1;subst e1;rw[hb]at hk;cases hk
 obtain⟨q1,q2⟩:=new_tt k1 hk e0 e k
 obtain⟨q3,q4⟩:=relabelG (b:=b) (j:=j) (cs:=cs) (y:= .th key 0) q1 (by rw[over_other hne];exact hb) hj fun v hv=>by
  refine⟨by rw[over_same];rfl,⟨none,0,lit_inv hv⟩,fun f0 f1 kk o ar he=> ?_⟩;rw[over_same]at he;injection he with he;injection he with _ _ _ he _;subst he;exact⟨lR_ _,fun _=>by rw[upd_same,show v= .slice none 0 0 from lit_inv hv];rfl⟩
 have q5:=Stp.trans q2 q4 k1.dom;have e1:look ((b,Ent.box t (cs.set j (.th key 0)))::(key,Ent.tt e0 e k [] [])::s.H)=over [(b,.box t (cs.set j (.th key 0)))] (over [(key,.tt e0 e k [] [])] (look s.H)):=by
  rw[←look_app [(key,Ent.tt e0 e k [] [])] s.H];exact look_app [(b,_)] ((key,Ent.tt e0 e k [] [])::s.H)
 refine⟨_,M,by rw[e1];exact q3,⟨k2.1,fun d' v' hv'=> ?_⟩,k3,k4,by rw[e1];exact k5.trans q5 hd⟩;obtain⟨x,y1,y2⟩:=k2.2 d' v' hv';exact⟨x,y1,by rw[e1];exact RdV.stp q5 y2⟩
def frC (k:Nat)(ar:List (List (List D))):Sum (Nat×Nat×Bool) D→D
 | .inl x=> .sl k ((ar.getD x.1 []).take x.2.1)
 | .inr d=>d
def FrA (H:List (Nat×Ent)):A→D→Prop
 | .d x,d=>d=x
 | .own _ k xs,d=>d= .sl k xs
 | .tab key n,d=>∃e k rows,look H key=some (.tab e k rows)∧rows.length≤1099511627776∧d= .sl k rows
 | .th key n,d=>∃e0 e k o ar,look H key=some (.tt e0 e k o ar)∧o.length=n∧n≤1099511627776∧(∀x∈o,∀y,x= .inl y→y.2.1≤1099511627776)∧(∀x∈o,oneA (cA key x)=true)∧d= .sl 1 (o.map fun x=>[frC k ar x])
 | .row key a n f,d=>∃e0 e k o ar,look H key=some (.tt e0 e k o ar)∧n≤1099511627776∧d= .sl k ((ar.getD a []).take n)
 |_,_=>False
def Frz (γ:Gh)(h:Hp)(b i:Nat):Prop:=∃key,Owns γ h key b i
theorem oneA_cell1 {d:D}{v:Value}(hx:RdD M w d v)(ho:oneA (.d d)=true):v.oneCell'=true:=by
 rcases rdD_slice hx with⟨u,rfl⟩|⟨_,_,_,rfl⟩
 ·cases hx;cases v<;>first|rfl|cases ho
 ·rfl
theorem fr_row {K:Nat}{e0 e:TypeId}{k:Nat}{o:List (Sum (Nat×Nat×Bool) D)}{ar:List (List (List D))}(hent:EntR γ h M w K (.tt e0 e k o ar))(hk:h K=some (.tt e0 e k o ar))(fx:∀b i v,Fx M w b i v→Fx M' w b i v)(hM:∀b i,ib (γ K) b→¬M' b i)
  {a n:Nat} {f:Bool} {v:Value} (hn:n≤1099511627776) (hv:RdA γ h M w (.row K a n f) v):RdD M' w (.sl k ((ar.getD a []).take n)) v:=by
 have hal:a<ar.length:=(hv.2.2 _ _ _ _ _ hk).1;obtain⟨rows,har⟩:∃rows,ar[a]? =some rows:=⟨_,List.getElem?_eq_getElem hal⟩;rw[getD_at har];obtain⟨hd,ps,b,c,q1,q2,q3,q4,q5,q6⟩:=row_block hent hv hk har;obtain⟨hd2,ps2,y1,y2,y3,y4,y5⟩:=hent;have hib:ib (γ K) b:=by rw[q1];exact ib_tt.2 (.inr (mG_ q3))
 have hps:ps2[a]? =some b:=by
  have h1:rowT (γ K) a= .pointer (some ⟨b,0,none⟩):=by rw[q1];exact rowT_at q3
  have hlt:a<ps2.length:=by omega
  rw[y1,rowT_at (List.getElem?_eq_getElem hlt)]at h1;injection h1 with h1;injection h1 with h1;injection h1 with h1;rw[List.getElem?_eq_getElem hlt,h1]
 obtain⟨vs,sp,m1,m2,m3,m4⟩:=y5 a b rows hps har;subst q4;have hk3:∀row∈rows.take n,row.length=k:=fun row hr=>m2 row (List.mem_of_mem_take hr);have hfl:∀{rows:List (List D)},(∀row∈rows,row.length=k)→rows.flatten.length=rows.length*k:=by
  intro rows
  induction rows with
  |nil=>intro _;simp
  |cons x xs ih=>intro hx;rw[List.flatten_cons,List.length_append,ih (fun r hr=>hx r (by simp[hr])),hx x (by simp),List.length_cons,Nat.add_mul];omega
 have hlen:(rows.take n).length=n:=by simp;omega
 have hvl:vs.length=rows.length*k:=by rw[←m3.len,hfl m2]
 have hnk:n*k≤vs.length:=by rw[hvl];exact Nat.mul_le_mul_right k q6
 have goal:=sl_of (M:=M') (w:=w) (k:=k) (xs:=rows.take n) (ad:=some ⟨b,0,none⟩) (cap:=c) (cells:=vs.take (n*k)) (by rw[hlen];exact q5) (by rw[hlen];exact hn) (fun i row hi=>hk3 row (mG_ hi)) (by rw[List.length_take,hlen];omega) (fun x hx=>m4 x (List.mem_of_mem_take hx)) (fun _=>⟨b,0,rfl,fun q u hq=>by
  rw[List.getElem?_take]at hq;split at hq
  ·exact⟨hM b _ hib,by simp[World.cell?,m1,List.getElem?_append_left (List.getElem?_eq_some_iff.1 hq).1,hq]⟩
  ·cases hq⟩) fun i row j d hi hj=>by
   have hjl:=(List.getElem?_eq_some_iff.1 hj).1;have hrl:=hk3 row (mG_ hi);rw[List.getElem?_take]at hi;split at hi
   ·obtain⟨pre,post,f1,f2,_⟩:=flat_row m2 hi;have:rows.flatten[i*k+j]? =some d:=by
     rw[f1,←f2,List.getElem?_append_right (by omega),show pre.length+j-pre.length=j by omega,List.getElem?_append_left hjl];exact hj
    obtain⟨u,u1,u2⟩:=All2.get m3 this;refine⟨u,?_,RdD.fx fx u2⟩;rw[List.getElem?_take,if_pos ?_]
    ·exact u1
    ·have:(i+1)*k≤n*k:=Nat.mul_le_mul_right k (by omega);rw[Nat.add_mul]at this;omega
   ·cases hi
 rw[hlen]at goal;exact goal
theorem fr_tab {key k nn:Nat}{e:TypeId}{rows:List (List D)}(hent:EntR γ h M w key (.tab e k rows))(hk:h key=some (.tab e k rows))(fx:∀b i v,Fx M w b i v→Fx M' w b i v)(hM:∀b i,ib (γ key) b→¬M' b i)(hl:rows.length≤1099511627776){v:Value}(hv:RdA γ h M w (.tab key nn) v):RdD M' w (.sl k rows) v:=by
 obtain⟨g,vs,sp,k1,k2,k3,k4,k5⟩:=hent;obtain⟨_,⟨g',cp,q1,q2,q22⟩,q3⟩:=hv;rw[k1]at q1;injection q1 with q1;injection q1 with q1;injection q1 with q1;subst q1;have hn:=q3 _ _ _ hk;subst hn q2;have hfl:∀{rows:List (List D)},(∀row∈rows,row.length=k)→rows.flatten.length=rows.length*k:=by
  intro rows
  induction rows with
  |nil=>intro _;simp
  |cons x xs ih=>intro hx;rw[List.flatten_cons,List.length_append,ih (fun r hr=>hx r (by simp[hr])),hx x (by simp),List.length_cons,Nat.add_mul];omega
 refine sl_of (cells:=vs) q22 hl (fun i row hi=>k3 row (mG_ hi)) (by rw[←k4.len,hfl k3]) k5 (fun _=>⟨g,0,rfl,fun q u hq=>⟨hM g _ (by rw[k1];rfl),by simp[World.cell?,k2,List.getElem?_append_left (List.getElem?_eq_some_iff.1 hq).1,hq]⟩⟩) fun i row j d hi hj=> ?_;obtain⟨pre,post,f1,f2,_⟩:=flat_row k3 hi;have hjl:=(List.getElem?_eq_some_iff.1 hj).1;have:rows.flatten[i*k+j]? =some d:=by
  rw[f1,←f2,List.getElem?_append_right (by omega),show pre.length+j-pre.length=j by omega,List.getElem?_append_left hjl];exact hj
 obtain⟨u,u1,u2⟩:=All2.get k4 this;exact⟨u,u1,RdD.fx fx u2⟩
theorem fr_A {H:List (Nat×Ent)}(r:Rel γ (look H) M w)(fx:∀b i v,Fx M w b i v→Fx M' w b i v)(hM:∀b i,Frz γ (look H) b i→¬M' b i){x:A}{d:D}{v:Value}(hv:RdA γ (look H) M w x v)(hx:FrA H x d):RdD M' w d v:=by
 cases x with
 |d x=>have e:d=x:=hx;subst e;exact RdD.fx fx hv
 |own key k xs=>have e:d= .sl k xs:=hx;subst e;exact RdD.fx fx hv.1
 |tab key n=>
  obtain⟨e,k,rows,h1,h2,rfl⟩:=hx;exact fr_tab (r.ent _ _ h1) h1 fx (fun b i q=>hM b i ⟨key,by unfold Owns;rw[h1];exact q⟩) h2 hv
 |row key a n f=>
  obtain⟨e0,e,k,o,ar,h1,h2,rfl⟩:=hx;exact fr_row (r.ent _ _ h1) h1 fx (fun b i q=>hM b i ⟨key,by unfold Owns;rw[h1];exact q⟩) h2 hv
 |th key n=>
  obtain⟨e0,e,k,o,ar,h1,h2,h3,h4,h45,rfl⟩:=hx;have hent:=r.ent _ _ h1;have hMk:∀b i,ib (γ key) b→¬M' b i:=fun b i q=>hM b i ⟨key,by unfold Owns;rw[h1];exact q⟩;obtain⟨_,⟨ad,c,rfl⟩,hz⟩:=hv;obtain⟨z1,z2⟩:=hz _ _ _ _ _ h1;have z2:=z2 h2;obtain⟨hd,ps,y1,y2,y3,y4,y5⟩:=id hent;rw[y1]at z2;have z3:hd= .slice ad n c:=z2.symm;subst h2;rcases y4 with⟨q1,q2⟩|⟨g,c',os,sp,q1,q2,q3,q4,q5,q6⟩
  ·rw[q2]at z3;injection z3 with e1 e2 e3;subst q1 e1 e3;exact nil_ok 1
  ·rw[q1]at z3;injection z3 with e1 e2 e3;subst e1 e3;have hib:ib (γ key) g:=by rw[y1,q1];exact ib_tt.2 (.inl rfl)
   have hosl:os.length=o.length:=by rw[←q6.len,List.length_map]
   have goal:=sl_of (M:=M') (w:=w) (k:=1) (xs:=o.map fun x=>[frC k ar x]) (ad:=some ⟨g,0,none⟩) (cap:=c') (cells:=os) (by rw[List.length_map];exact q2) (by rw[List.length_map];exact h3) (fun i row hi=>by
     rw[List.getElem?_map]at hi;obtain⟨x,_,rfl⟩:=Option.map_eq_some_iff.1 hi;rfl) (by rw[List.length_map,hosl,Nat.mul_one]) (fun u hu=>by
     obtain⟨j,hj⟩:=List.mem_iff_getElem?.1 hu;have hlt:=(List.getElem?_eq_some_iff.1 hj).1;obtain⟨y,hy1,hy2⟩:=All2.get q6 (i:=j) (x:=cA key (o[j]'(by omega))) (by rw[List.getElem?_map,List.getElem?_eq_getElem (by omega)];rfl);rw[hj]at hy1;injection hy1 with hy1;subst hy1;have h8:=h45 _ (List.getElem_mem (l:=o) (n:=j) (by omega));generalize o[j]'(by omega)=cc at hy2 h8
     cases cc with
     |inl y=>obtain⟨_,⟨_,_,_,e,_⟩,_⟩:=hy2;rw[e];rfl
     |inr d=>exact oneA_cell1 hy2 h8) (fun _=>⟨g,0,rfl,fun q u hq=>⟨hMk g _ hib,by simp[World.cell?,q5,List.getElem?_append_left (List.getElem?_eq_some_iff.1 hq).1,hq]⟩⟩) (fun i row j d hi hj=>by
     rw[List.getElem?_map]at hi;obtain⟨x,hx1,rfl⟩:=Option.map_eq_some_iff.1 hi;have hj0:j=0:=by
      have:=(List.getElem?_eq_some_iff.1 hj).1;simp at this;exact this
     subst hj0;simp at hj;subst hj;obtain⟨y,hy1,hy2⟩:=All2.get q6 (i:=i) (x:=cA key x) (by rw[List.getElem?_map,hx1];rfl);refine⟨y,by simpa using hy1,?_⟩
     cases x with
     |inl x=>exact fr_row hent h1 fx hMk (h4 _ (mG_ hx1) _ rfl) hy2
     |inr d=>exact RdD.fx fx hy2)
   rw[List.length_map]at goal;exact goal
 |_=>exact hx.elim
def FrW (H:List (Nat×Ent)):V→V→Prop
 | .a (.ptr key 0),.a (.elt row 0)=>∃t cs,look H key=some (.box t cs)∧All2 (FrA H) cs row
 | .a x,.a (.d d)=>FrA H x d
 | .agg xs,.agg ys=>All2 (fun x y=>∃d,y= .d d∧FrA H x d) xs ys
 |_,_=>False
theorem fr_V {H:List (Nat×Ent)}(r:Rel γ (look H) M w)(fx:∀b i v,Fx M w b i v→Fx M' w b i v)(hM:∀b i,Frz γ (look H) b i→¬M' b i){x y:V}{v:Value}(hv:RdV γ (look H) M w x v)(hx:FrW H x y):RdV γ' h' M' w y v:=by
 have agg:∀xs ys,All2 (fun x y=>∃d,y=A.d d∧FrA H x d) xs ys→∀vs,All2 (RdA γ (look H) M w) xs vs→All2 (RdA γ' h' M' w) ys vs:=by
  intro xs
  induction xs with
  |nil=>intro ys h1 vs h2;cases ys<;>cases vs<;>first|exact trivial|exact h1.elim|exact h2.elim
  |cons x xs ih=>
   intro ys h1 vs h2
   cases ys with
   |nil=>exact h1.elim
   |cons y ys=>cases vs with
    |nil=>exact h2.elim
    |cons v vs=>
     obtain⟨⟨d,rfl,h3⟩,h4⟩:=h1;exact⟨fr_A r fx hM h2.1 h3,ih ys h4 vs h2.2⟩
 have box:∀(cs:List A) (row:List D),All2 (FrA H) cs row→∀vs,All2 (RdA γ (look H) M w) cs vs→All2 (RdD M' w) row vs:=by
  intro xs
  induction xs with
  |nil=>intro ys h1 vs h2;cases ys<;>cases vs<;>first|exact trivial|exact h1.elim|exact h2.elim
  |cons x xs ih=>
   intro ys h1 vs h2
   cases ys with
   |nil=>exact h1.elim
   |cons y ys=>cases vs with
    |nil=>exact h2.elim
    |cons v vs=>exact⟨fr_A r fx hM h2.1 h1.1,ih ys h1.2 vs h2.2⟩
 unfold FrW at hx;split at hx
 ·rename_i key row;obtain⟨t,cs,h1,h2⟩:=hx;obtain⟨_,g,k1,rfl⟩:=hv;obtain⟨g',vs,q1,q2,q3⟩:=r.ent _ _ h1;rw[k1]at q1;injection q1 with q1;injection q1 with q1;injection q1 with q1;subst q1;refine⟨g,0,fun j=>vs.getD j undef,rfl,fun j d hj=> ?_⟩;obtain⟨u,hu,hd⟩:=All2.get (box _ _ h2 _ q3) hj;have e:vs.getD j undef=u:=getD_at hu;simp only[e];exact⟨⟨hM g _ ⟨key,by unfold Owns;rw[h1];simp only;rw[k1];rfl⟩,by simp[World.cell?,q2,hu]⟩,hd⟩
 ·exact fr_A r fx hM hv hx
 ·obtain⟨vs,h1,h2⟩:=hv;exact⟨vs,h1,agg _ _ hx _ h2⟩
 ·exact hx.elim
def plD:D→Prop
 | .lit _=>True
 | .lm _=>True
 |_=>False
def okA (H:List (Nat×Ent)):A→Prop
 | .d d=>plD d
 | .own key k xs=>(∃e,look H key=some (.arr e k xs.length))∧∀row∈xs,∀d∈row,plD d
 | .tab key n=>∃e k rows,look H key=some (.tab e k rows)
 |_=>False
def okW (H:List (Nat×Ent)):W→Prop
 | .s x=>okA H x
 | .g xs=>∀x∈xs,okA H x
def okV (H:List (Nat×Ent)):V→Prop
 | .a x=>okA H x
 | .agg xs=>∀x∈xs,okA H x
 | .tup xs=>∀x∈xs,okW H x
def okE:Ent→Prop
 | .arr _ _ _=>True
 | .tab _ _ rows=>∀row∈rows,∀d∈row,plD d
 | .gone=>True
 |_=>False
theorem pl_ok {Z:MS}(hz:∀b i n,M' b i∧Z b i→w.cell? ⟨b,i,none⟩≠some (.int .u32 n)){d:D}{v:Value}(hd:plD d)(k:RdD M w d v):RdD (fun b i=>M b i∨M' b i∧Z b i) w d v:=by
 cases d with
 |lit u=>rw[lit_inv k];exact .lit u
 |sl=>exact hd.elim
 |lm xs=>
  cases k with
  |lm _ _ hs hm=>
   refine .lm xs v hs fun b o l c hv i hi h=> ?_;rcases h with h|h
   ·exact hm b o l c hv i hi h
   ·obtain⟨ad,l',c',hv',h1,h2,h3,h4,h5⟩:=hs;rw[hv]at hv';injection hv' with e1 e2 e3;subst e1 e2 e3;obtain⟨b2,off,e,_,hc⟩:=h5 (by omega);injection e with e;injection e with e4 e5;subst e4 e5;exact hz _ _ _ h (hc i hi)
theorem LX.frzA {P:Program}{F:FuncId}{xs gs:List V}{H Hn:List (Nat×Ent)}{v0:V}(s:Nat)(hc:LX P F gs [] fun v H=>v=v0∧H=Hn)(hg:All2 (FrW H) xs gs)(hs:∀p∈H,p.1<s)(hv:okV Hn v0)(hE:∀p∈Hn,okE p.2):
  LX P F xs H fun v H'=>v=renV (· +s) v0∧H'=H++Hn.map fun p=>(p.1+s,p.2):=by
 obtain⟨v1,H1,⟨e1,e2⟩,hc⟩:=hc;rw[e1,e2]at hc;clear e1 e2;refine⟨_,_,⟨rfl,rfl⟩,fun γ M w rs hr ha=> ?_⟩;obtain⟨Z,hZ⟩:∃Z,Z=Frz γ (look H):=⟨_,rfl⟩
 have hZl:∀b i,Z b i→b<w.heap.size:=fun b i hb=>by
  rw[hZ]at hb;obtain⟨key,hb⟩:=hb;obtain⟨h1,h2⟩:=owns_live hb
  cases he:look H key with
  |none=>rw[he]at h1;cases h1
  |some e=>exact blk_lt hr he (by rw[←he];exact h1) h2
 have hfx:∀b i v,Fx M w b i v→Fx (fun b i=>M b i∧¬Z b i) w b i v:=fun b i v k=>⟨fun h=>k.1 h.1,k.2⟩;have hM:∀b i,Frz γ (look H) b i→¬(M b i∧¬Z b i):=fun b i q q2=>q2.2 (by rw[hZ];exact q)
 have hrel:Rel γ (look []) (fun b i=>M b i∧¬Z b i) w:=
  ⟨fun key e he=>by simp[look]at he,fun key b i ho=>by simp[Owns,look]at ho,fun k1 k2 b l1=>by simp[look,live]at l1,fun b i n hm=>hr.u32 b i n hm.1,fun b i hm=>hr.dom b i hm.1,hr.glb.fx hfx⟩
 have hargs:∀{xs gs:List V} {rs:List Value},All2 (FrW H) xs gs→All2 (RdV γ (look H) M w) xs rs→All2 (RdV γ (look []) (fun b i=>M b i∧¬Z b i) w) gs rs:=by
  intro xs
  induction xs with
  |nil=>intro ys vs h1 h2;cases ys<;>cases vs<;>first|exact trivial|exact h1.elim|exact h2.elim
  |cons x xs ih=>
   intro ys vs h1 h2
   cases ys with
   |nil=>exact h1.elim
   |cons y ys=>cases vs with
    |nil=>exact h2.elim
    |cons v vs=>exact⟨fr_V hr hfx hM h2.1 h1.1,ih h1.2 h2.2⟩
 refine cM (hc γ _ w _ hrel (hargs hg ha)) ?_;rintro e w' ⟨r,γ1,M2,rfl,r1,r2,st⟩;have hblk:∀b,b<w.heap.size→w'.heap[b]? =w.heap[b]?:=fun b hb=>st.other b hb fun key i ho=>by simp[Owns,look]at ho
 have hcg:∀b i,b<w.heap.size→w'.cell? ⟨b,i,none⟩=w.cell? ⟨b,i,none⟩:=fun b i hb=>World.cell?_of_block (a:=⟨b,i,none⟩) (hblk b hb);obtain⟨M3,hM3⟩:∃M3:MS,M3=fun b i=>M2 b i∨M b i∧Z b i:=⟨_,rfl⟩
 have fx:∀b i v,Fx M w b i v→Fx M3 w' b i v:=fun b i v k=>by
  have k2:=st.fx b i v (hfx b i v k);rw[hM3];exact⟨fun h=>h.elim k2.1 fun h=>k.1 h.1,k2.2⟩
 -- the new keys stand behind the old ones
 obtain⟨γ3,hγ3⟩:∃γ3:Gh,γ3=fun key=>if key<s then γ key else γ1 (key-s):=⟨_,rfl⟩
 obtain⟨h3,hh3⟩:∃h3,h3=look (H++Hn.map fun p=>(p.1+s,p.2)):=⟨_,rfl⟩;have lapp:∀{X Y:List (Nat×Ent)} {key:Nat},look (X++Y) key=(look X key).or (look Y key):=by
  intro X Y key
  induction X with
  |nil=>rfl
  |cons p X ih=>obtain⟨i,e⟩:=p;simp only[List.cons_append,look];split<;>simp_all
 have lsh:∀{Y:List (Nat×Ent)} {key:Nat},look (Y.map fun p=>(p.1+s,p.2)) key=if key<s then none else look Y (key-s):=by
  intro Y key
  induction Y with
  |nil=>simp[look]
  |cons p Y ih=>
   obtain⟨i,e⟩:=p;simp only[List.map_cons,look];rw[ih]
   by_cases h1:i+s=key
   ·rw[if_pos h1,if_neg (by omega),if_pos (by omega)]
   ·rw[if_neg h1]
    by_cases h2:key<s
    ·rw[if_pos h2,if_pos h2]
    ·rw[if_neg h2,if_neg h2,if_neg (by omega)]
 have hlt:∀key,key<s→h3 key=look H key∧γ3 key=γ key:=fun key hk=>by
  refine⟨?_,by rw[hγ3];simp only;rw[if_pos hk]⟩;rw[hh3,lapp,lsh,if_pos hk,Option.or_none]
 have hge:∀key,h3 (key+s)=look Hn key∧γ3 (key+s)=γ1 key:=fun key=>by
  refine⟨?_,by rw[hγ3];simp only;rw[if_neg (by omega),Nat.add_sub_cancel]⟩;rw[hh3,lapp,lsh,if_neg (by omega),Nat.add_sub_cancel];have:look H (key+s)=none:=by
   cases hl:look H (key+s)with
   |none=>rfl
   |some e=>have:=hs _ (look_mem hl);simp only at this;omega
  rw[this,Option.none_or]
 have hcase:∀key,key<s∨∃k,key=k+s:=fun key=>by
  rcases Nat.lt_or_ge key s with h|h
  ·exact .inl h
  ·exact .inr ⟨key-s,by omega⟩
 have hsome:∀key,(look H key).isSome=true→key<s:=fun key hk=>by
  obtain⟨e,he⟩:=Option.isSome_iff_exists.1 hk;exact hs _ (look_mem he)
 have own1:∀key b i,key<s→(Owns γ3 h3 key b i↔Owns γ (look H) key b i):=fun key b i hk=>owns_congr (hlt key hk).2 (hlt key hk).1
 have own2:∀key b i,Owns γ3 h3 (key+s) b i↔Owns γ1 (look Hn) key b i:=fun key b i=>by
  unfold Owns;rw[(hge key).1,(hge key).2]
 have hnew:∀key b i,Owns γ1 (look Hn) key b i→¬b<w.heap.size:=fun key b i ho hb=>by
  obtain⟨k0,h0⟩:=st.new key b i ho hb;simp[Owns,look]at h0
 have hst:Stp γ (look H) M w γ3 h3 M3 w':=by
  refine⟨st.os,st.tape,st.output,st.size,fx,fun b hb _=>hblk b hb,fun b i hm hno=> ?_,fun key b i ho hb=> ?_,fun key e he=> ?_⟩
  ·rw[hM3]
   by_cases hz:Z b i
   ·exact .inr ⟨hm,hz⟩
   ·exact .inl (st.keep b i ⟨hm,hz⟩ fun key ho=>by simp[Owns,look]at ho)
  ·rcases hcase key with hk|⟨k,rfl⟩
   ·exact⟨key,(own1 key b i hk).1 ho⟩
   ·exact absurd hb (hnew k b i ((own2 k b i).1 ho))
  ·have hk:=hsome key (by rw[he];rfl);exact⟨e,by rw[(hlt key hk).1];exact he,Goes.refl _,.inl (hlt key hk).2⟩
 have hz3:∀b i n,M b i∧Z b i→w'.cell? ⟨b,i,none⟩≠some (.int .u32 n):=fun b i n hb=>by
  rw[hcg b i (hZl b i hb.2)];exact hr.u32 b i n hb.1
 have hpl:∀{d:D} {v:Value},plD d→RdD M2 w' d v→RdD M3 w' d v:=fun hd k=>by rw[hM3];exact pl_ok hz3 hd k
 have hA:∀{x:A} {v:Value},okA Hn x→RdA γ1 (look Hn) M2 w' x v→RdA γ3 h3 M3 w' (renA (· +s) x) v:=by
  intro x v hx hv
  cases x with
  |d d=>exact hpl hx hv
  |tab key n=>
   obtain⟨k1,⟨g,c,k2,k3⟩,k4⟩:=hv;refine⟨by rw[(hge key).1];exact k1,⟨g,c,by rw[(hge key).2];exact k2,k3⟩,fun e k rows he=>k4 e k rows (by rw[←(hge key).1];exact he)⟩
  |own key k xs=>
   obtain⟨⟨e,he⟩,hx⟩:=hx;obtain⟨k1,k2,k3⟩:=hv;refine⟨?_,by rw[(hge key).1];exact k2,fun e k n he=>by rw[(hge key).2];exact k3 e k n (by rw[←(hge key).1];exact he)⟩;have hveq:=(k3 _ _ _ he).2 rfl
   cases k1 with
   |sl _ _ ad cap vs hc hl h0 hk hone hrr=>
    refine .sl k xs ad cap vs hc hl (fun hp=> ?_) hk hone fun i row j d hi hj=>hpl (hx row (mG_ hi) d (mG_ hj)) (hrr i row j d hi hj);obtain⟨b,o,hb,hcell⟩:=h0 hp;refine⟨b,o,hb,fun i row j d hi hj=> ?_⟩;obtain⟨q1,q2⟩:=hcell i row j d hi hj;refine⟨fun hm=> ?_,q2⟩;rw[hM3]at hm;rcases hm with hm|⟨_,hm⟩
    ·exact q1 hm
    ·exact hnew key b (xs.length*k) (by unfold Owns;rw[he];exact⟨by rw[←hveq,hb];rfl,lR_ _⟩) (hZl b _ hm)
  |_=>exact hx.elim
 have hAs:∀{xs:List A} {vs:List Value},(∀x∈xs,okA Hn x)→All2 (RdA γ1 (look Hn) M2 w') xs vs→All2 (RdA γ3 h3 M3 w') (xs.map (renA (· +s))) vs:=by
  intro xs
  induction xs with
  |nil=>intro vs _ h2;cases vs<;>first|exact trivial|exact h2.elim
  |cons x xs ih=>
   intro vs h1 h2
   cases vs with
   |nil=>exact h2.elim
   |cons v vs=>exact⟨hA (h1 x (by simp)) h2.1,ih (fun y hy=>h1 y (by simp[hy])) h2.2⟩
 have hW:∀{x:W} {v:Value},okW Hn x→RdW γ1 (look Hn) M2 w' x v→RdW γ3 h3 M3 w' (renW (· +s) x) v:=by
  intro x v hx hv
  cases x with
  |s x=>exact hA hx hv
  |g xs=>obtain⟨vs,e,k⟩:=hv;exact⟨vs,e,hAs hx k⟩
 have hWs:∀{xs:List W} {vs:List Value},(∀x∈xs,okW Hn x)→All2 (RdW γ1 (look Hn) M2 w') xs vs→All2 (RdW γ3 h3 M3 w') (xs.map (renW (· +s))) vs:=by
  intro xs
  induction xs with
  |nil=>intro vs _ h2;cases vs<;>first|exact trivial|exact h2.elim
  |cons x xs ih=>
   intro vs h1 h2
   cases vs with
   |nil=>exact h2.elim
   |cons v vs=>exact⟨hW (h1 x (by simp)) h2.1,ih (fun y hy=>h1 y (by simp[hy])) h2.2⟩
 rw[←hh3];refine⟨r,γ3,M3,rfl,⟨fun key e he=> ?_,fun key b i ho=> ?_,fun key1 key2 b l1 l2 b1 b2=> ?_,fun b i n hm=> ?_,fun b i hm=> ?_,hr.glb.fx fx⟩,?_,hst⟩
 ·rcases hcase key with hk|⟨k,rfl⟩
  ·rw[(hlt key hk).1]at he;exact EntR.stp hst (hr.ent key e he) (hlt key hk).2 fun hl b hb=>hblk b (blk_lt hr he hl hb)
  ·rw[(hge k).1]at he;have hek:=hE _ (look_mem he);have hre:=r1.ent k e he
   cases e with
   |gone=>trivial
   |arr e kk n=>obtain⟨xs,q⟩:=hre;exact⟨xs,by rw[(hge k).2];exact q⟩
   |tab e kk rows=>
    obtain⟨g,vs,sp,q1,q2,q3,q4,q5⟩:=hre;refine⟨g,vs,sp,by rw[(hge k).2];exact q1,q2,q3,?_,q5⟩;have:∀{ds:List D} {us:List Value},(∀d∈ds,plD d)→All2 (RdD M2 w') ds us→All2 (RdD M3 w') ds us:=by
     intro ds
     induction ds with
     |nil=>intro us _ h2;cases us<;>first|exact trivial|exact h2.elim
     |cons d ds ih=>
      intro us h1 h2
      cases us with
      |nil=>exact h2.elim
      |cons u us=>exact⟨hpl (h1 d (by simp)) h2.1,ih (fun y hy=>h1 y (by simp[hy])) h2.2⟩
    exact this (fun d hd=>by obtain⟨row,hr1,hr2⟩:=List.mem_flatten.1 hd;exact hek row hr1 d hr2) q4
   |_=>exact hek.elim
 ·rw[hM3];rcases hcase key with hk|⟨k,rfl⟩
  ·have ho:=(own1 key b i hk).1 ho;exact .inr ⟨hr.own key b i ho,by rw[hZ];exact⟨key,ho⟩⟩
  ·exact .inl (r1.own k b i ((own2 k b i).1 ho))
 ·have mixed:∀k key,key<s→live (look Hn k)=true→ib (γ1 k) b→live (look H key)=true→ib (γ key) b→False:=fun k key hk q1 q2 q3 q4=>by
   have hb:b<w.heap.size:=by
    cases he:look H key with
    |none=>rw[he]at q3;cases q3
    |some e=>exact blk_lt hr he (by rw[←he];exact q3) q4
   have ho:∃i,Owns γ1 (look Hn) k b i:=by
    unfold Owns
    cases he:look Hn k with
    |none=>rw[he]at q1;cases q1
    |some e=>
     rw[he]at q1
     cases e with
     |gone=>cases q1
     |arr e kk n=>exact⟨n*kk,q2,lR_ _⟩
     |_=>exact⟨0,q2⟩
   obtain⟨i,ho⟩:=ho;exact hnew k b i ho hb
  rcases hcase key1 with hk1|⟨k1,rfl⟩<;>rcases hcase key2 with hk2|⟨k2,rfl⟩
  ·rw[(hlt _ hk1).1]at l1;rw[(hlt _ hk2).1]at l2;rw[(hlt _ hk1).2]at b1;rw[(hlt _ hk2).2]at b2;exact hr.inj _ _ b l1 l2 b1 b2
  ·rw[(hlt _ hk1).1]at l1;rw[(hge k2).1]at l2;rw[(hlt _ hk1).2]at b1;rw[(hge k2).2]at b2;exact(mixed k2 key1 hk1 l2 b2 l1 b1).elim
  ·rw[(hge k1).1]at l1;rw[(hlt _ hk2).1]at l2;rw[(hge k1).2]at b1;rw[(hlt _ hk2).2]at b2;exact(mixed k1 key2 hk2 l1 b1 l2 b2).elim
  ·rw[(hge k1).1]at l1;rw[(hge k2).1]at l2;rw[(hge k1).2]at b1;rw[(hge k2).2]at b2;rw[r1.inj _ _ b l1 l2 b1 b2]
 ·rw[hM3]at hm;rcases hm with hm|hm
  ·exact r1.u32 b i n hm
  ·exact hz3 b i n hm
 ·rw[hM3]at hm;rcases hm with hm|hm
  ·exact r1.dom b i hm
  ·exact Nat.lt_of_lt_of_le (hr.dom b i hm.1) st.size
 ·cases v0 with
  |a x=>exact hA hv r2
  |agg xs=>obtain⟨vs,e,k⟩:=r2;exact⟨vs,e,hAs hv k⟩
  |tup xs=>obtain⟨vs,e,k⟩:=r2;exact⟨vs,e,hWs hv k⟩
theorem LX.frzT {P:Program}{F:FuncId}{xs gs:List V}{H:List (Nat×Ent)}{e:TypeId}{k n kk:Nat}{rows:List (List D)}(hc:LX P F gs [] fun v H=>v= .a (.tab kk n)∧H=[(kk,.tab e k rows)])(hg:All2 (FrW H) xs gs)(hpl:∀row∈rows,∀d∈row,plD d)(hn:n≤1099511627776):
  LX P F xs H fun v H'=>v= .a (.d (.sl k rows))∧H'=H:=by
 obtain⟨s,hs⟩:∃s,∀p∈H,p.1<s:=by
  induction H with
  |nil=>exact⟨0,fun p hp=>by cases hp⟩
  |cons q H ih=>
   have key:∀H:List (Nat×Ent),∃s,∀p∈H,p.1<s:=by
    intro H
    induction H with
    |nil=>exact⟨0,fun p hp=>by cases hp⟩
    |cons q H ih=>
     obtain⟨s,hs⟩:=ih;refine⟨max s (q.1+1),fun p hp=> ?_⟩;rcases List.mem_cons.1 hp with h1|h1
     ·rw[h1];omega
     ·have:=hs p h1;omega
   exact key (q::H)
 have h1:=LX.frzA s hc hg hs ⟨_,_,_,by simp[look];exact⟨rfl,rfl,rfl⟩⟩ (fun p hp=>by rw[List.mem_singleton]at hp;subst hp;exact hpl);obtain⟨_,_,⟨rfl,rfl⟩,h1⟩:=h1;refine⟨_,_,⟨rfl,rfl⟩,fun γ M w rs hr ha=> ?_⟩;refine cM (h1 γ M w rs hr ha) ?_;rintro e0 w' ⟨r,γ1,M1,rfl,r1,r2,st⟩;have lapp:∀{X Y:List (Nat×Ent)} {key:Nat},look (X++Y) key=(look X key).or (look Y key):=by
  intro X Y key
  induction X with
  |nil=>rfl
  |cons p X ih=>obtain⟨i,e⟩:=p;simp only[List.cons_append,look];split<;>simp_all
 have hl:look (H++List.map (fun p=>(p.1+s,p.2)) [(kk,Ent.tab e k rows)]) (kk+s)=some (.tab e k rows):=by
  rw[lapp];have:look H (kk+s)=none:=by
   cases hq:look H (kk+s)with
   |none=>rfl
   |some e=>have:=hs _ (look_mem hq);simp only at this;omega
  rw[this];simp[look]
 obtain⟨M2,q1,q2,q3⟩:=Lf.freeze (nn:=n) r1 hl hn;have q4:=Stp.trans st q2 hr.dom;have hsub:∀(d:Nat) (e':Ent),look H d=some e'→∃e1,over [(kk+s,Ent.gone)] (look (H++List.map (fun p=>(p.1+s,p.2)) [(kk,Ent.tab e k rows)])) d=some e1∧WkE e1 e'∧inH H (keysE e')=true:=by
  intro d e' he;have hd:=hs _ (look_mem he);simp only at hd;refine⟨e',by rw[over_other (by omega),lapp,he];rfl,wke_refl e',List.all_eq_true.2 fun key hk=> ?_⟩;have hre:=hr.ent d e' he
  cases e' with
  |box t cs=>
   obtain⟨g,vs,k1,k2,k3⟩:=hre;exact there_list (R:=RdA γ (look H) M w) (ks:=keysA) (fun _ _=>RdA.there) k3 key hk
  |_=>cases hk
 obtain⟨s1,s2,s3⟩:=rel_sub q1 (H':=H) hsub;refine⟨r,γ1,M2,rfl,s1,q3 r r2,s3 (fun key hk0 _=>hk0) q4⟩
end
section
variable {P:Program} {F:FuncId} {vs:List V} {H:List (Nat×Ent)} {n:Nat} {K:V→List (Nat×Ent)→List Nat→Nat→Prop} {v:V}
def okD (ks:List Nat)(n:Nat)(gs:List V)(H H1:List (Nat×Ent))(dk:List Nat):Bool:=
 decide ks.Nodup&&ks.all (fun k=>Nat.blt k n)&&(gs.flatMap keysV).all (fun k=>ks.contains k)&&H1.all (fun p=>(Nat.blt p.1 ks.length||(look H (back ks n p.1)).isNone))&&dk.all (fun k=>ks.contains k)
def cutS (dk:List Nat):List (Nat×Ent)→List (Nat×Ent)
 |[]=>[]
 |p::r=>match dk.contains p.1 with
  |true=>cutS dk r
  |false=>p::cutS dk r
theorem cutS_look (dk:List Nat)(k:Nat):∀S:List (Nat×Ent),look (cutS dk S) k=if dk.contains k=true then none else look S k
 |[]=>by simp[cutS,look]
 |(i,e)::r=>by
  unfold cutS;have ih:=cutS_look dk k r
  cases hc:dk.contains i with
  |true=>
   simp only;rw[ih];simp only[look]
   by_cases h1:i=k
   ·subst h1;rw[if_pos hc,if_pos hc]
   ·rw[if_neg h1]
  |false=>
   simp only[look];rw[ih]
   by_cases h1:i=k
   ·subst h1;rw[if_pos rfl,if_pos rfl,if_neg (by rw[hc];decide)]
   ·rw[if_neg h1,if_neg h1]
theorem Cn.lD {Hs:List (Nat×Ent)}(ks dk:List Nat)(R:V→List (Nat×Ent)→Prop)(hc:LX P F ((vs.map stripV).map (renV fun k=>ks.idxOf k)) Hs R)
  (hk:∀v H1,R v H1→okD ks n (vs.map stripV) H H1 dk=true∧(∀k∈dk,look (H1.map fun p=>(back ks n p.1,renE (back ks n) p.2)) k=look H k)∧
   fX (renV (back ks n) v) fun v=>fHs (cutS dk (H1.map fun p=>(back ks n p.1,renE (back ks n) p.2))) fun sets=>K v sets (ks++H1.map fun p=>back ks n p.1) (n+H1.length)) (he:entT P F=true:=by rfl)
  (hl:lendKF ks (look H) 0 ks=some Hs:=by rfl):Cn P F vs H n K:=by
 obtain⟨v,H1,hR,hlc⟩:=hc;obtain⟨hok,hdk,h3⟩:=hk v H1 hR;unfold okD at hok;simp only[Bool.and_eq_true,Bool.or_eq_true,decide_eq_true_eq,List.all_eq_true,Nat.blt_eq,List.contains_eq_mem]at hok;obtain⟨⟨⟨⟨o1,o2⟩,o3⟩,o4⟩,o5⟩:=hok;refine .lendD ks _ Hs (fun v' H'=>v'=v∧H'=H1) he ⟨v,H1,⟨rfl,rfl⟩,hlc⟩ (strips_ok vs) o1 o2 hl o3 fun v' H1' hR'=> ?_;obtain⟨rfl,rfl⟩:=hR';refine⟨fun p hp hle=>(o4 p hp).elim (fun h=>absurd h (by omega)) fun h=>by simpa using h,_,fun k=> ?_,h3⟩;rw[cutS_look]
 by_cases hm:k∈dk
 ·rw[if_pos (by simpa using hm)];exact .inr ⟨rfl,by simpa using o5 k hm,hdk k hm⟩
 ·rw[if_neg (by simpa using hm)];exact .inl rfl
def allD (dk:List Nat)(p:Nat→Prop):Prop:=List.rec (motive:=fun _=>Prop) True (fun k _ ih=>p k∧ih) dk
theorem allD_mem {p:Nat→Prop}:∀{dk:List Nat},allD dk p→∀k∈dk,p k
 |[],_,k,hk=>by cases hk
 |d::dk,h,k,hk=>by
  rcases List.mem_cons.1 hk with e|e
  ·rw[e];exact h.1
  ·exact allD_mem h.2 k e
theorem Cn.lE {Hs H1:List (Nat×Ent)}(ks dk:List Nat)(hc:LX P F ((vs.map stripV).map (renV fun k=>ks.idxOf k)) Hs fun v' H'=>v'=v∧H'=H1)
  (hk:fX (renV (back ks n) v) fun v=>fHs (cutS dk (H1.map fun p=>(back ks n p.1,renE (back ks n) p.2))) fun sets=>K v sets (ks++H1.map fun p=>back ks n p.1) (n+H1.length)) (he:entT P F=true:=by rfl)
  (hl:lendKF ks (look H) 0 ks=some Hs:=by rfl) (hok:okD ks n (vs.map stripV) H H1 dk=true:=by rfl)
  (hdk:allD dk (fun k=>look (H1.map fun p=>(back ks n p.1,renE (back ks n) p.2)) k=look H k):=by(repeat' first|exact trivial|exact rfl|constructor)):Cn P F vs H n K:=
 .lD ks dk _ hc (fun v' H1' hR=>by obtain⟨rfl,rfl⟩:=hR;exact⟨hok,allD_mem hdk,hk⟩) he hl
end
end Go.Proofs.YthdoopaenanibaaGreatDoor.Lf
namespace Go.Proofs.YthdoopaenanibaaGreatDoor
open Go.RowKit Nt
theorem Tryz.infoU32:(Tryz.prog.info? 150).map (fun i=>(i.zero,i.size,i.bytes))=some (some (.int .u32 0),1,4):=by kernel_rfl
def Trimmed (n:Nat)(w:World)(e:Ending)(w':World):Prop:=∃v',e= .returned v'∧Sl w v' (limbs n)∧w=w'
theorem trim_fin {w:World}{b off n cap k:Nat}{xs:List Nat}(hx:lims xs)(hn:xs.length=n)(hk:k≤n)(hk0:0<k)(hnc:n≤cap)(hm:n≤1099511627776)
  (hb:b<w.heap.size) (hc:∀i,i<n→w.cell? ⟨b,off+i,none⟩=some (.int .u32 ((xs.getD i 0:Nat):Int)))
  (hv:val (xs.take k)=val xs) (hne:xs.getD (k-1) 0≠0):Sl w (.slice (some ⟨b,off,none⟩) k cap) (limbs (val xs)):=by
 rw[←hv,limbs_val (lims_take hx k) (Or.inr (by simpa [List.getD,List.getElem?_take,show min k xs.length-1=k-1 by omega,show k-1<k by omega]using hne))]
 exact⟨_,k,cap,rfl,by simp;omega,by omega,by omega,lims_take hx k,fun _=>⟨b,off,rfl,hb,fun i hi=>by
  rw[hc i (by omega)];simp[List.getD,hi]⟩⟩
theorem trim_any (v:Value)(xs:List Nat)(w:World)(h:Sl w v xs):Calls Tryz.prog 151 #[v] w (Trimmed (val xs) w):=by
 obtain⟨ad,n,cap,rfl,hn,hnc,hm,hx,hs⟩:=h;have Hn:=lH hn;clear hn;have Hx:=lH hx;clear hx
 go_enter Tryz.func151,Tryz.ntmps151
 go_wp2
 go_loop [3] (fun t=>∃k:Nat,k≤n∧t= .int .i64 k∧Hid (val (xs.take k)=val xs)) (fun t=>(intOf t).toNat)
 case atStart=>exact⟨n,lR_ _,rfl,lH (val_take_ge (by rw[Hn.out];exact lR_ _))⟩
 case round=>
  obtain⟨k,hk,rfl,Hv⟩:=hrel
  by_cases hk0:0<k
  ·obtain⟨b,off,rfl,hbw,hc⟩:=hs (by omega);have hck:=hc (k-1) (by omega);have Hc:=lH hc;clear hc hs;go_wp2
   ·go_round
    case rel=>
     refine⟨k-1,by omega,by go_num,?_⟩;have h0:xs.getD (k-1) 0=0:=by have:=(by assumption:((((xs[k-1]?.getD 0:Nat):Int)==0)=true));simpa [List.getD]using this
     have:=val_take_step xs (k-1);rw[show k-1+1=k by omega,h0,Hv.out]at this;exact lH (by omega)
    case measure=>simp[intOf];omega
   ·go_ret
    have h0:xs.getD (k-1) 0≠0:=by have:=(by assumption:((((xs[k-1]?.getD 0:Nat):Int)==0)=false));simpa [List.getD]using this
    exact⟨_,rfl,trim_fin Hx.out Hn.out hk hk0 hnc hm hbw Hc.out Hv.out h0,rfl⟩
  ·obtain rfl:k=0:=by omega
   have hv0:val xs=0:=by rw[←Hv.out];rfl
   have HV:=lH hv0;clear hv0;go_wp2
   go_ret
   exact⟨_,rfl,by rw[HV.out,limbs_zero];exact Sl.nil w,rfl⟩
def Copied (xs:List Nat)(w:World)(v:Value):Prop:=Sl w v xs
theorem clone_any (v:Value)(xs:List Nat)(w:World)(h:Sl w v xs):Calls Tryz.prog 163 #[v] w (Ret w (Copied xs)):=by
 have H:=lH h;obtain⟨ad,n,cap,rfl,hn,-⟩:=h;have Hn:=lH hn;clear hn
 cases ad with
 |none=>
  have h0:n=0∧xs=[]:=by
   obtain⟨ad',n',cap',hv,hl,_,_,_,hs⟩:=H.out;injection hv with e1 e2 e3;have:n=0:=by
    rcases eP_ n with h|h
    ·exact h
    ·obtain⟨b,off,he,_⟩:=hs (by omega);rw[←e1]at he;cases he
   exact⟨this,List.eq_nil_of_length_eq_zero (by rw[Hn.out];exact this)⟩
  obtain⟨rfl,rfl⟩:=h0;have heq:=fun(w:World) a l c=>Lib.run_eql_slice_nil (P:=Tryz.prog) w 28 150 a l c 0 0 Tryz.underlying28
  go_enter Tryz.func163,Tryz.ntmps163
  go_wp2
  go_ret
  exact⟨_,rfl,Sl.nil w,bR_ _ _⟩
 |some a=>
  have heq:=fun(w:World) a l c=>Lib.run_eql_slice_nil (P:=Tryz.prog) w 28 150 a l c 0 0 Tryz.underlying28
  go_enter Tryz.func163,Tryz.ntmps163
  go_wp2_with (at_builtin;refine wpList_copy_u32 _ rfl _ _ _ _ rfl 150 Tryz.underlying28 Tryz.underlying28 Tryz.infoU32 _ rfl _ xs rfl (H.out.below ((bR_ _ _).alloc (lR_ _) _)) ?_;intro v1 w1 h1 hb1)
  go_wp2
  go_ret
  exact⟨_,rfl,h1,((bR_ _ _).alloc (lR_ _) _).trans (hb1.mono (by simp))⟩
theorem make_any (v:Value)(xs:List Nat)(w:World)(h:Sl w v xs):Calls Tryz.prog 127 #[v] w (Ret w (Num (val xs))):=by
 go_enter Tryz.func127,Tryz.ntmps127
 go_wp2_with fail
 refine(trim_any _ xs _ h).mono ?_;rintro e w' ⟨v1,rfl,h1,rfl⟩
 go_wp2_with fail
 refine(clone_any _ _ _ h1).mono ?_;rintro e w' ⟨v2,rfl,h2,hb2⟩;go_wp2
 go_ret
 exact⟨_,rfl,h2,hb2⟩
def canon (xs:List Nat):Bool:=xs.length==0||xs.getD (xs.length-1) 0 !=0
theorem canon_pos {xs:List Nat}(h:0<xs.length):canon xs=(xs.getD (xs.length-1) 0 !=0):=by
 have:(xs.length==0)=false:=by simp;intro h0;rw[h0]at h;exact absurd h (by decide)
 simp[canon,this]
theorem canon_limbs (n:Nat):canon (limbs n)=true:=by
 rcases eP_ n with h|h
 ·subst h;rw[limbs_zero];rfl
 ·rw[canon_pos (sz_pos h)];simpa [bne_iff_ne]using limbs_last h
theorem val_two (x:Nat)(h:x<18446744073709551616):val [((x:Int) % 4294967296).toNat,((x:Int)/4294967296).toNat]=x:=by
 simp only[val];omega
theorem of_any (x:Nat)(w:World)(h:x<18446744073709551616):Calls Tryz.prog 119 #[.int .u64 (x:Int)] w (Ret w (Num x)):=by
 go_enter Tryz.func119,Tryz.ntmps119
 go_wp2_with fail
 refine(trim_any _ _ _ (sl_two w _ _ _ (by omega) (by omega))).mono ?_;rintro e w' ⟨v1,rfl,h1,rfl⟩;rw[val_two x h]at h1;go_wp2
 go_ret
 exact⟨_,rfl,h1,(bR_ _ _).alloc (lR_ _) _⟩
theorem valid_any (v:Value)(xs:List Nat)(w:World)(h:Sl w v xs):Calls Tryz.prog 120 #[v] w (Ret w (Val (.bool (canon xs)))):=by
 obtain⟨ad,n,cap,rfl,hn,hnc,hm,-,hs⟩:=h;rcases eP_ n with h0|h0
 ·obtain rfl:xs=[]:=List.eq_nil_of_length_eq_zero (by omega);subst h0
  go_enter Tryz.func120,Tryz.ntmps120
  go_wp2
  go_ret
  exact⟨_,rfl,rfl,bR_ _ _⟩
 ·obtain⟨b,off,rfl,hb,hc⟩:=hs h0;have hck:=hc (n-1) (by omega);have hfin:=canon_pos (xs:=xs) (by omega);rw[hn]at hfin;have Hfin:=lH hfin;have hne:((n:Int)==0)=false:=by simp;omega
  clear hc hs hn hfin
  go_enter Tryz.func120,Tryz.ntmps120
  go_wp2
  go_ret
  refine⟨_,rfl,?_,bR_ _ _⟩;show Value.bool _=Value.bool _;rw[Hfin.out];refine congrArg Value.bool ?_;rw[Bool.eq_iff_iff];simp[List.getD]
theorem limb_any (v:Value)(xs:List Nat)(i:Nat)(w:World)(h:Sl w v xs)(hi:i≤1099511627780):
  Calls Tryz.prog 164 #[v,.int .i64 (i:Int)] w fun e w'=>e= .returned (.int .u32 ((xs.getD i 0:Nat):Int))∧w=w':=by
 obtain⟨ad,n,cap,rfl,hn,hnc,hm,-,hs⟩:=h
 by_cases h0:i<n
 ·obtain⟨b,off,rfl,hb,hc⟩:=hs (by omega);have hck:=hc i h0;clear hc hs hn
  go_enter Tryz.func164,Tryz.ntmps164
  go_wp2
  go_ret
  exact⟨rfl,rfl⟩
 ·have hz:xs.getD i 0=0:=by simp[List.getD,show xs.length≤i by omega]
  rw[hz];clear hz hn hs
  go_enter Tryz.func164,Tryz.ntmps164
  go_wp2
  go_ret
  exact⟨rfl,rfl⟩
theorem list_ext_getD {xs ys:List Nat}(hl:xs.length=ys.length)(h:∀i,i<xs.length→xs.getD i 0=ys.getD i 0):xs=ys:=by
 apply List.ext_getElem hl;intro i h1 h2;have:=h i h1;simpa [List.getD,h1,h2]using this
def same (xs ys:List Nat):Bool:=decide (xs=ys)
theorem same_no_len {xs ys:List Nat}(h:xs.length≠ys.length):same xs ys=false:=by
 simp[same];rintro rfl;exact h rfl
theorem same_no {xs ys:List Nat}{i:Nat}(h:xs.getD i 0≠ys.getD i 0):same xs ys=false:=by
 simp[same];rintro rfl;exact h rfl
theorem same_yes {xs ys:List Nat}(hl:xs.length=ys.length)(h:∀i,i<xs.length→xs.getD i 0=ys.getD i 0):same xs ys=true:=by
 simp[same];exact list_ext_getD hl h
theorem same_any (v v':Value)(xs ys:List Nat)(w:World)(h:Sl w v xs)(h':Sl w v' ys):Calls Tryz.prog 49 #[v,v'] w (Ret w (Val (.bool (same xs ys)))):=by
 obtain⟨ad,n,cap,rfl,hn,hnc,hm,-,hs⟩:=h;obtain⟨ad',n',cap',rfl,hn',hnc',hm',-,hs'⟩:=h'
 by_cases hlen:n=n'
 ·subst hlen;have Hn:=lH hn;clear hn;have Hn':=lH hn';clear hn'
  go_enter Tryz.func49,Tryz.ntmps49
  go_wp2
  go_loopw [5] (fun i wr=>∃k:Nat,k≤n∧i= .int .i64 k∧Hid (∀j,j<k→xs.getD j 0=ys.getD j 0)∧Below w.heap.size w wr) (fun i _=>n-(intOf i).toNat)
  case atStart=>exact⟨0,zL_ _,rfl,lH (fun j hj=>absurd hj (by omega)),bR_ _ _⟩
  case round=>
   obtain⟨k,hk,rfl,Hs,hb⟩:=hrel
   by_cases hkn:k<n
   ·obtain⟨b,off,rfl,hbw,hc⟩:=hs (by omega);obtain⟨b',off',rfl,hbw',hc'⟩:=hs' (by omega);have c1:=(hb.cell (p:=⟨b,off+k,none⟩) hbw).trans (hc k hkn);have c2:=(hb.cell (p:=⟨b',off'+k,none⟩) hbw').trans (hc' k hkn);clear hc hc' hs hs';go_wp2
    go_quiet (fail)
    go_wp2
    ·go_ret
     have hne:xs.getD k 0≠ys.getD k 0:=by
      have:=(by assumption:((((xs[k]?.getD 0:Nat):Int) !=((ys[k]?.getD 0:Nat):Int))=true));simp[List.getD]at this ⊢;omega
     refine⟨_,rfl,?_,below_drewN hb _⟩;show Value.bool _=Value.bool _;rw[same_no hne]
    ·go_roundw
     case rel=>
      have he:xs.getD k 0=ys.getD k 0:=by
       have:=(by assumption:((((xs[k]?.getD 0:Nat):Int) !=((ys[k]?.getD 0:Nat):Int))=false));simp[List.getD]at this ⊢;omega
      refine⟨k+1,by omega,by go_num,lH (fun j hj=> ?_),below_drewN hb _⟩;rcases Nat.lt_succ_iff_lt_or_eq.1 hj with h|h
      ·exact Hs.out j h
      ·rw[h];exact he
     case measure=>simp[intOf];omega
   ·have HF:=lH (same_yes (xs:=xs) (ys:=ys) (by rw[Hn.out,Hn'.out]) (fun i hi=>Hs.out i (by rw[Hn.out]at hi;omega)));clear hs hs';go_wp2
    go_ret
    refine⟨_,rfl,?_,hb⟩;show Value.bool _=Value.bool _;rw[HF.out]
 ·have HF:=lH (same_no_len (xs:=xs) (ys:=ys) (by omega));have hne:((n:Int) !=n')=true:=by rw[bne_iff_ne];omega
  clear hs hs' hn hn'
  go_enter Tryz.func49,Tryz.ntmps49
  go_wp2
  go_ret
  refine⟨_,rfl,?_,bR_ _ _⟩;show Value.bool _=Value.bool _;rw[HF.out]
def NumF (B n:Nat)(w:World)(v:Value):Prop:=Sl w v (limbs n)∧FreshS B v
theorem rmake_anyF (v:Value)(xs:List Nat)(w:World)(h:Sl w v xs):Calls Tryz.prog 137 #[v] w (Ret w (NumF w.heap.size (val xs))):=by
 obtain⟨ad,n,cap,rfl,hn,hnc,hm,hx,hs⟩:=h;have Hn:=lH hn;clear hn;have Hx:=lH hx;clear hx
 go_enter Tryz.func137,Tryz.ntmps137
 go_wp2
 go_loop [3] (fun t=>∃k:Nat,k≤n∧t= .int .i64 k∧Hid (val (xs.take k)=val xs)) (fun t=>(intOf t).toNat)
 case atStart=>exact⟨n,lR_ _,rfl,lH (val_take_ge (by rw[Hn.out];exact lR_ _))⟩
 case round=>
  obtain⟨k,hk,rfl,Hv⟩:=hrel
  by_cases hk0:0<k
  ·obtain⟨b,off,rfl,hbw,hc⟩:=hs (by omega);have hck:=hc (k-1) (by omega);have Hc:=lH hc;clear hc hs
   by_cases h0:xs.getD (k-1) 0=0
   ·have hz:((((xs[k-1]?.getD 0:Nat):Int)==0)=true):=by simpa [List.getD]using h0
    have H0:=lH h0;clear h0;go_wp2
    go_round
    case rel=>
     refine⟨k-1,by omega,by go_num,?_⟩;have:=val_take_step xs (k-1);rw[show k-1+1=k by omega,H0.out,Hv.out]at this;exact lH (by omega)
    case measure=>simp[intOf];omega
   ·have hz:((((xs[k-1]?.getD 0:Nat):Int)==0)=false):=by simpa [List.getD]using h0
    have F:=trim_fin (cap:=cap) Hx.out Hn.out hk hk0 hnc hm hbw Hc.out Hv.out h0;clear h0
    go_wp2_with (at_builtin;refine wpList_copy_u32F _ rfl _ _ _ _ rfl 150 Tryz.underlying28 Tryz.underlying27 Tryz.infoU32 _ rfl _ _ rfl (F.below ((bR_ _ _).alloc (lR_ _) _)) ?_;intro v1 w1 h1 hf1 hb1)
    go_wp2
    go_ret
    exact⟨_,rfl,⟨h1,hf1.mono (by simp)⟩,((bR_ _ _).alloc (lR_ _) _).trans (hb1.mono (by simp))⟩
  ·obtain rfl:k=0:=by omega
   have hv0:val xs=0:=by rw[←Hv.out];rfl
   have HV:=lH hv0;clear hv0;have hnil:∀c,Sl (w.alloc (.cells #[] 150)) (.slice (if cap=0 then ad else ad) 0 c) []:=fun c=>⟨_,0,c,rfl,rfl,zL_ _,by decide,lims_nil,fun h=>absurd h (by decide)⟩
   go_wp2_with (at_builtin;refine wpList_copy_u32F _ rfl _ _ _ _ rfl 150 Tryz.underlying28 Tryz.underlying27 Tryz.infoU32 _ rfl _ [] rfl ⟨_,0,_,rfl,rfl,zL_ _,by decide,lims_nil,fun h=>absurd h (by decide)⟩ ?_;intro v1 w1 h1 hf1 hb1)
   go_wp2
   go_ret
   exact⟨_,rfl,⟨by rw[HV.out,limbs_zero];exact h1,hf1.mono (by simp)⟩,((bR_ _ _).alloc (lR_ _) _).trans (hb1.mono (by simp))⟩
theorem rmake_any (v:Value)(xs:List Nat)(w:World)(h:Sl w v xs):Calls Tryz.prog 137 #[v] w (Ret w (Num (val xs))):=
 (rmake_anyF v xs w h).mono fun _ _ ⟨v',h1,h2,h3⟩=>⟨v',h1,h2.1,h3⟩
theorem rof_any (x:Nat)(w:World)(h:x<18446744073709551616):Calls Tryz.prog 98 #[.int .u64 (x:Int)] w (Ret w (Num x)):=by
 go_enter Tryz.func98,Tryz.ntmps98
 go_wp2_with fail
 refine(rmake_any _ _ _ (sl_two w _ _ _ (by omega) (by omega))).mono ?_;rintro e w' ⟨v1,rfl,h1,hb1⟩;rw[val_two x h]at h1;go_wp2
 go_ret
 exact⟨_,rfl,h1,((bR_ _ _).alloc (lR_ _) _).trans (hb1.mono (by simp))⟩
theorem cmp_any (v v':Value)(xs ys:List Nat)(w:World)(h:Sl w v xs)(h':Sl w v' ys):
  Calls Tryz.prog 121 #[v,v'] w (Ret w (Val (.int .i64 (cmpN (val xs) (val ys))))):=by
 go_enter Tryz.func121,Tryz.ntmps121
 go_wp2_with fail
 refine(trim_any _ xs _ h).mono ?_;rintro e w' ⟨v1,rfl,h1,rfl⟩
 go_wp2_with fail
 refine(trim_any _ ys _ h').mono ?_;rintro e w' ⟨v2,rfl,h2,rfl⟩;clear h h';generalize val xs=a at *
 generalize val ys=b at *
 have hla:=lims_limbs a;have hlb:=lims_limbs b;have hva:=val_limbs a;have hvb:=val_limbs b;have hlen:(limbs a).length<(limbs b).length→a<b:=limbs_len_lt;have hlen':(limbs b).length<(limbs a).length→b<a:=limbs_len_lt;obtain⟨ls,ha⟩:∃ls,ls=limbs a:=⟨_,rfl⟩;obtain⟨ms,hb⟩:∃ms,ms=limbs b:=⟨_,rfl⟩;rw[←ha]at h1 hla hva hlen hlen';rw[←hb]at h2 hlb hvb hlen hlen';clear ha hb;obtain⟨ad,n,cap,rfl,hn,hnc,hm,-,hs⟩:=h1;obtain⟨ad',n',cap',rfl,hn',hnc',hm',-,hs'⟩:=h2;rcases Nat.lt_trichotomy n n' with hlt|heq|hlt
 ·have HF:=lH (cmpN_lt (hlen (by omega)));have hne:((n:Int) !=n')=true:=by rw[bne_iff_ne];omega
  clear hs hs' hlen hlen' hva hvb hla hlb hn hn';go_wp2
  go_ret
  refine⟨_,rfl,?_,bR_ _ _⟩;show Value.int _ _=Value.int _ _;rw[HF.out]
 ·have hne:((n:Int) !=n')=false:=by rw[bne_eq_false_iff_eq];omega
  subst heq;have Hn:=lH hn;clear hn;have Hn':=lH hn';clear hn';have Ha:=lH hla;clear hla;have Hb:=lH hlb;clear hlb;have Hva:=lH hva;clear hva;have Hvb:=lH hvb;clear hvb hlen hlen';go_wp2
  go_loopw [5] (fun i wr=>∃k:Nat,k≤n∧i= .int .i64 ((k:Int)-1)∧Hid (agree ls ms k)∧Below w.heap.size w wr) (fun i _=>(intOf i+1).toNat)
  case atStart=>exact⟨n,lR_ _,rfl,lH (agree_top (by rw[Hn.out];exact lR_ _) (by rw[Hn'.out];exact lR_ _)),bR_ _ _⟩
  case round=>
   obtain⟨k,hk,rfl,Hs,hbl⟩:=hrel;rcases eP_ k with hk0|hk0
   ·subst hk0;have HF:Hid (cmpN a b=0):=lH (cmpN_eq (by rw[←Hva.out,←Hvb.out];exact agree_zero Hs.out));clear hs hs';go_wp2
    go_ret
    refine⟨_,rfl,?_,hbl⟩;show Value.int _ _=Value.int _ _;rw[HF.out]
   ·obtain⟨j,rfl⟩:∃j,k=j+1:=⟨k-1,by omega⟩;rw[show((j+1:Nat):Int)-1=(j:Int)from by omega];obtain⟨b1,off,rfl,hbw,hc⟩:=hs (by omega);obtain⟨b1',off',rfl,hbw',hc'⟩:=hs' (by omega);have c1:=(hbl.cell (p:=⟨b1,off+j,none⟩) hbw).trans (hc j hk);have c2:=(hbl.cell (p:=⟨b1',off'+j,none⟩) hbw').trans (hc' j hk);clear hc hc' hs hs';rcases Nat.lt_trichotomy (ls.getD j 0) (ms.getD j 0)with hx|hx|hx
    ·have HF:Hid (cmpN a b= -1):=lH (cmpN_lt (by rw[←Hva.out,←Hvb.out];exact agree_lt Hs.out Ha.out hx));have t1:((((ls[j]?.getD 0:Nat):Int) !=((ms[j]?.getD 0:Nat):Int))=true):=by rw[bne_iff_ne];simp[List.getD]at hx;omega
     have t2:(ls[j]?.getD 0<ms[j]?.getD 0):=by simpa [List.getD]using hx
     clear hx;go_wp2
     go_quiet (fail)
     go_wp2
     go_quiet (fail)
     go_wp2
     go_ret
     refine⟨_,rfl,?_,below_drewN (below_drewN hbl _) _⟩;show Value.int _ _=Value.int _ _;rw[HF.out]
    ·have t1:((((ls[j]?.getD 0:Nat):Int) !=((ms[j]?.getD 0:Nat):Int))=false):=by rw[bne_eq_false_iff_eq];simp[List.getD]at hx;omega
     have Hx:=lH hx;clear hx;go_wp2
     go_quiet (fail)
     go_wp2
     go_roundw
     case rel=>exact⟨j,by omega,by go_num,lH (agree_step Hs.out Hx.out),below_drewN hbl _⟩
     case measure=>simp[intOf]<;>omega
    ·have HF:Hid (cmpN a b=1):=lH (cmpN_gt (by rw[←Hva.out,←Hvb.out];exact agree_gt Hs.out Hb.out hx));have t1:((((ls[j]?.getD 0:Nat):Int) !=((ms[j]?.getD 0:Nat):Int))=true):=by rw[bne_iff_ne];simp[List.getD]at hx;omega
     have t2:¬(ls[j]?.getD 0<ms[j]?.getD 0):=by simp[List.getD]at hx;omega
     clear hx;go_wp2
     go_quiet (fail)
     go_wp2
     go_quiet (fail)
     go_wp2
     go_ret
     refine⟨_,rfl,?_,below_drewN (below_drewN hbl _) _⟩;show Value.int _ _=Value.int _ _;rw[HF.out]
 ·have HF:=lH (cmpN_gt (hlen' (by omega)));have hne:((n:Int) !=n')=true:=by rw[bne_iff_ne];omega
  clear hs hs' hlen hlen' hva hvb hla hlb hn hn';go_wp2
  go_ret
  refine⟨_,rfl,?_,bR_ _ _⟩;show Value.int _ _=Value.int _ _;rw[HF.out]
def addInv (n k c:Nat)(os xs ys:List Nat):Prop:=
 os.length=n+1∧lims os∧c≤1∧val (os.take k)+4294967296^k*c=val (xs.take k)+val (ys.take k)
theorem addInv_zero (n:Nat)(xs ys:List Nat):addInv n 0 0 (List.replicate (n+1) 0) xs ys:=
 ⟨by simp,lims_replicate _,by decide,by simp[val]⟩
theorem addInv_step {n k c x y:Nat}{os xs ys:List Nat}(h:addInv n k c os xs ys)(hk:k<n)(hx:x=xs.getD k 0)(hy:y=ys.getD k 0)(hlx:lims xs)(hly:lims ys)(z:Int)
  (hz:z=(c:Int)+x+y):addInv n (k+1) (z/4294967296).toNat (os.set k (z % 4294967296).toNat) xs ys:=by
 obtain⟨h1,h2,h3,h4⟩:=h;have b1:=lims_getD hlx k;have b2:=lims_getD hly k;refine⟨by simpa using h1,lims_set h2 _ _ (by omega),by omega,?_⟩;rw[val_set_take (by omega),val_take_step xs,val_take_step ys,Nat.pow_succ];have:=add_step (o:=val (os.take k)) (x:=val (xs.take k)+val (ys.take k)) (y:=xs.getD k 0+ys.getD k 0) (p:=4294967296^k) (c:=c) (d:=(z % 4294967296).toNat) (o':=(z/4294967296).toNat) h4 (by omega);rw[this,Nat.mul_add];omega
theorem addInv_end {n c:Nat}{os xs ys:List Nat}(h:addInv n n c os xs ys)(hn:xs.length≤n)(hm:ys.length≤n):lims (os.set n c)∧(os.set n c).length=n+1∧val (os.set n c)=val xs+val ys:=by
 obtain⟨h1,h2,h3,h4⟩:=h;refine⟨lims_set h2 _ _ (by omega),by simpa using h1,?_⟩;have e:=val_set_take (xs:=os) (k:=n) (x:=c) (by omega);rw[List.take_of_length_le (by simp;omega)]at e;rw[e,h4,val_take_ge hn,val_take_ge hm]
theorem add_any (v v':Value)(xs ys:List Nat)(w:World)(h:Sl w v xs)(h':Sl w v' ys)(hx:xs.length≤4294967296)(hy:ys.length≤4294967296):
  Calls Tryz.prog 187 #[v,v'] w (Ret w (Num (val xs+val ys))):=by
 have hla:=sz_val h.lims;have hlb:=sz_val h'.lims
 go_enter Tryz.func187,Tryz.ntmps187
 go_wp2_with fail
 refine(trim_any _ xs _ h).mono ?_;rintro e w' ⟨v1,rfl,h1,rfl⟩
 go_wp2_with fail
 refine(trim_any _ ys _ h').mono ?_;rintro e w' ⟨v2,rfl,h2,rfl⟩;clear h h';unfold sz at hla hlb;have Hva:=lH (val_limbs (val xs));have Hvb:=lH (val_limbs (val ys));generalize val xs=a at *
 generalize val ys=b at *
 generalize limbs a=ls at *
 generalize limbs b=ms at *
 obtain⟨ad,n,cap,rfl,hn,hnc,hm,ha,hs⟩:=h1;obtain⟨ad',n',cap',rfl,hn',hnc',hm',hb,hs'⟩:=h2;have hn4:n≤4294967296:=by omega
 have hn4':n'≤4294967296:=by omega
 clear hla hlb;have Hn:=lH hn;clear hn;have Hn':=lH hn';clear hn';have Ha:=lH ha;clear ha;have Hb:=lH hb;clear hb
 by_cases hsw:n<n'
 ·go_wp2_with (at_make;refine wpList_make_u32 _ rfl _ _ _ rfl 150 Tryz.underlying28 Tryz.infoU32 _ (n'+1) rfl rfl (by omega) (by omega) ?_;intro w0 hA0 hb0 _)
  go_wp2
  go_loopw [6,26] (fun cy i wr=>∃k c os,k≤n'∧i= .int .i64 ((k:Nat):Int)∧cy= .int .u64 ((c:Nat):Int)∧Arr wr w.heap.size os∧Hid (addInv n' k c os ms ls)∧Below w.heap.size w wr) (fun _ i _=>n'-(intOf i).toNat)
  case atStart=>exact⟨0,0,_,zL_ _,rfl,rfl,hA0,lH (addInv_zero _ _ _),hb0⟩
  case round=>
   obtain⟨k,c,os,hk,rfl,rfl,hA,Hs,hbl⟩:=hrel;have⟨hol,_,hc1,_⟩:=Hs.out
   by_cases hkn:k<n'
   ·obtain⟨b1,off,rfl,hbw,hc⟩:=hs' (by omega);have c1:=(hbl.cell (p:=⟨b1,off+k,none⟩) hbw).trans (hc k hkn);have bx:=lims_getD Hb.out k;have by':=lims_getD Ha.out k;have c3:=hA.cell k (by omega);have c4:=hA.frozen k;have ex:ms.getD k 0=ms[k]?.getD 0:=rfl;have ey:ls.getD k 0=ls[k]?.getD 0:=rfl;rw[ex]at bx c1;rw[ey]at by';have Ex:=lH ex;clear ex;have Ey:=lH ey;clear ey;have Ol:=lH hol;clear hol
    by_cases hkm:k<n
    ·obtain⟨b2,off2,rfl,hbw2,hc2⟩:=hs (by omega);have c2:=(hbl.cell (p:=⟨b2,off2+k,none⟩) hbw2).trans (hc2 k hkm);rw[Ey.out]at c2;clear hc hc2 hs' hs;go_wp2
     go_roundw
     case rel=>
      exact⟨k+1,_,_,by omega,by go_num,congrArg (Value.int .u64) (Int.toNat_of_nonneg (by omega)).symm,hA.setI k _ (by omega),lH (addInv_step Hs.out hkn Ex.out.symm Ey.out.symm Hb.out Ha.out _ (by omega)),hbl.setCell (lR_ _) _⟩
     case measure=>simp[intOf]<;>omega
    ·have hz:ls.getD k 0=0:=by simp[List.getD,show ls.length≤k by have:=Hn.out;omega]
     have Hz:=lH hz;clear hz hc hs' hs;go_wp2
     go_roundw
     case rel=>
      exact⟨k+1,_,_,by omega,by go_num,congrArg (Value.int .u64) (Int.toNat_of_nonneg (by omega)).symm,hA.setI k _ (by omega),lH (addInv_step (y:=0) Hs.out hkn Ex.out.symm Hz.out.symm Hb.out Ha.out _ (by omega)),hbl.setCell (lR_ _) _⟩
     case measure=>simp[intOf]<;>omega
   ·obtain rfl:k=n':=by omega
    have c3:=hA.cell k (by omega);have c4:=hA.frozen k;have HE:=lH (addInv_end Hs.out (by have:=Hn'.out;omega) (by have:=Hn.out;omega));have Ol:=lH hol;clear hol hs hs'
    go_wp2_with fail
    refine(trim_any _ _ _ ((hA.setI k (c:Int) (by omega)).sl (n:=k+1) (by simpa using HE.out.1) (by simpa using HE.out.2.1) (lR_ _) (by omega))).mono ?_;rintro e w' ⟨v1,rfl,h1,rfl⟩;rw[Int.toNat_natCast,HE.out.2.2,Hvb.out,Hva.out,Nat.add_comm]at h1;go_wp2
    go_ret
    exact⟨_,rfl,h1,hbl.setCell (lR_ _) _⟩
 ·go_wp2_with (at_make;refine wpList_make_u32 _ rfl _ _ _ rfl 150 Tryz.underlying28 Tryz.infoU32 _ (n+1) rfl rfl (by omega) (by omega) ?_;intro w0 hA0 hb0 _)
  go_wp2
  go_loopw [6,26] (fun cy i wr=>∃k c os,k≤n∧i= .int .i64 ((k:Nat):Int)∧cy= .int .u64 ((c:Nat):Int)∧Arr wr w.heap.size os∧Hid (addInv n k c os ls ms)∧Below w.heap.size w wr) (fun _ i _=>n-(intOf i).toNat)
  case atStart=>exact⟨0,0,_,zL_ _,rfl,rfl,hA0,lH (addInv_zero _ _ _),hb0⟩
  case round=>
   obtain⟨k,c,os,hk,rfl,rfl,hA,Hs,hbl⟩:=hrel;have⟨hol,_,hc1,_⟩:=Hs.out
   by_cases hkn:k<n
   ·obtain⟨b1,off,rfl,hbw,hc⟩:=hs (by omega);have c1:=(hbl.cell (p:=⟨b1,off+k,none⟩) hbw).trans (hc k hkn);have bx:=lims_getD Ha.out k;have by':=lims_getD Hb.out k;have c3:=hA.cell k (by omega);have c4:=hA.frozen k;have ex:ls.getD k 0=ls[k]?.getD 0:=rfl;have ey:ms.getD k 0=ms[k]?.getD 0:=rfl;rw[ex]at bx c1;rw[ey]at by';have Ex:=lH ex;clear ex;have Ey:=lH ey;clear ey;have Ol:=lH hol;clear hol
    by_cases hkm:k<n'
    ·obtain⟨b2,off2,rfl,hbw2,hc2⟩:=hs' (by omega);have c2:=(hbl.cell (p:=⟨b2,off2+k,none⟩) hbw2).trans (hc2 k hkm);rw[Ey.out]at c2;clear hc hc2 hs hs';go_wp2
     go_roundw
     case rel=>
      exact⟨k+1,_,_,by omega,by go_num,congrArg (Value.int .u64) (Int.toNat_of_nonneg (by omega)).symm,hA.setI k _ (by omega),lH (addInv_step Hs.out hkn Ex.out.symm Ey.out.symm Ha.out Hb.out _ (by omega)),hbl.setCell (lR_ _) _⟩
     case measure=>simp[intOf]<;>omega
    ·have hz:ms.getD k 0=0:=by simp[List.getD,show ms.length≤k by have:=Hn'.out;omega]
     have Hz:=lH hz;clear hz hc hs hs';go_wp2
     go_roundw
     case rel=>
      exact⟨k+1,_,_,by omega,by go_num,congrArg (Value.int .u64) (Int.toNat_of_nonneg (by omega)).symm,hA.setI k _ (by omega),lH (addInv_step (y:=0) Hs.out hkn Ex.out.symm Hz.out.symm Ha.out Hb.out _ (by omega)),hbl.setCell (lR_ _) _⟩
     case measure=>simp[intOf]<;>omega
   ·obtain rfl:k=n:=by omega
    have c3:=hA.cell k (by omega);have c4:=hA.frozen k;have HE:=lH (addInv_end Hs.out (by have:=Hn.out;omega) (by have:=Hn'.out;omega));have Ol:=lH hol;clear hol hs hs'
    go_wp2_with fail
    refine(trim_any _ _ _ ((hA.setI k (c:Int) (by omega)).sl (n:=k+1) (by simpa using HE.out.1) (by simpa using HE.out.2.1) (lR_ _) (by omega))).mono ?_;rintro e w' ⟨v1,rfl,h1,rfl⟩;rw[Int.toNat_natCast,HE.out.2.2,Hva.out,Hvb.out]at h1;go_wp2
    go_ret
    exact⟨_,rfl,h1,hbl.setCell (lR_ _) _⟩
def subInv (n k c:Nat)(os xs ys:List Nat):Prop:=
 os.length=n∧lims os∧c≤1∧val (os.take k)+val (ys.take k)=val (xs.take k)+4294967296^k*c
theorem subInv_zero (n:Nat)(xs ys:List Nat):subInv n 0 0 (List.replicate n 0) xs ys:=
 ⟨by simp,lims_replicate _,by decide,by simp[val]⟩
theorem subInv_step {n k c x y:Nat}{os xs ys:List Nat}(h:subInv n k c os xs ys)(hk:k<n)(hx:x=xs.getD k 0)(hy:y=ys.getD k 0)(hlx:lims xs)(hly:lims ys)(d o:Int)
  (hd:d+y+c=x+4294967296*o) (hd0:0≤d) (hd1:d<4294967296) (ho:0≤o):subInv n (k+1) o.toNat (os.set k d.toNat) xs ys:=by
 obtain⟨h1,h2,h3,h4⟩:=h;have b1:=lims_getD hlx k;have b2:=lims_getD hly k;refine⟨by simpa using h1,lims_set h2 _ _ (by omega),by omega,?_⟩;rw[val_set_take (by omega),val_take_step xs,val_take_step ys,Nat.pow_succ,←hx,←hy];have e:4294967296^k*(d.toNat+y+c)=4294967296^k*(x+4294967296*o.toNat):=by congr 1;omega
 rw[Nat.mul_add,Nat.mul_add,Nat.mul_add,←Nat.mul_assoc]at e;omega
theorem subInv_end {n c:Nat}{os xs ys:List Nat}(h:subInv n n c os xs ys)(hn:xs.length≤n)(hm:ys.length≤n)(hle:val ys≤val xs):lims os∧os.length=n∧val os=val xs-val ys:=by
 obtain⟨h1,h2,h3,h4⟩:=h;refine⟨h2,h1,?_⟩;rw[val_take_ge hn,val_take_ge hm,val_take_ge (xs:=os) (by omega)]at h4;have:=val_lt h2;rw[h1]at this;have hc:c=0:=by
  rcases eP_ c with h|h
  ·exact h
  ·have:c=1:=by omega
   subst this;omega
 subst hc;omega
def subErr (a b:Nat):Int:=if a<b then 2 else 0
theorem subErr_lt {a b:Nat}(h:a<b):subErr a b=2:=by simp[subErr,h]
theorem subErr_le {a b:Nat}(h:b≤a):subErr a b=0:=by simp[subErr,show ¬a<b by omega]
theorem sub_no (v v':Value)(xs ys:List Nat)(w:World)(h:Sl w v xs)(h':Sl w v' ys)(hlt:val xs<val ys):
  Calls Tryz.prog 188 #[v,v'] w (Ret w (NumE 0 2)):=by
 go_enter Tryz.func188,Tryz.ntmps188
 go_wp2_with fail
 refine(trim_any _ xs _ h).mono ?_;rintro e w' ⟨v1,rfl,h1,rfl⟩
 go_wp2_with fail
 refine(trim_any _ ys _ h').mono ?_;rintro e w' ⟨v2,rfl,h2,rfl⟩;clear h h'
 go_wp2_with fail
 refine(cmp_any _ _ _ _ _ h1 h2).mono ?_;rintro e wc ⟨v3,rfl,h3,hbc⟩;unfold Val at h3;subst h3;have h1:=h1.below hbc;have h2:=h2.below hbc;rw[val_limbs,val_limbs];rw[cmpN_lt hlt];clear hlt;go_wp2
 go_ret2
 exact⟨_,rfl,⟨_,rfl,by rw[limbs_zero];exact Sl.nil _⟩,hbc⟩
theorem wrap_u64 (z:Int):IntKind.u64.wrap z=z % 18446744073709551616:=rfl
theorem sub_yes (v v':Value)(xs ys:List Nat)(w:World)(h:Sl w v xs)(h':Sl w v' ys)(hx:xs.length≤4294967296)(hle:val ys≤val xs):
  Calls Tryz.prog 188 #[v,v'] w (Ret w (NumE (val xs-val ys) 0)):=by
 have hla:=sz_val h.lims
 go_enter Tryz.func188,Tryz.ntmps188
 go_wp2_with fail
 refine(trim_any _ xs _ h).mono ?_;rintro e w' ⟨v1,rfl,h1,rfl⟩
 go_wp2_with fail
 refine(trim_any _ ys _ h').mono ?_;rintro e w' ⟨v2,rfl,h2,rfl⟩;clear h h'
 go_wp2_with fail
 refine(cmp_any _ _ _ _ _ h1 h2).mono ?_;rintro e wc ⟨v3,rfl,h3,hbc⟩;unfold Val at h3;subst h3;have h1:=h1.below hbc;have h2:=h2.below hbc;rw[val_limbs,val_limbs];have hlen:=sz_mono hle;unfold sz at hla hlen
 have hc0:0≤cmpN (val xs) (val ys):=by rcases Nat.lt_or_ge (val ys) (val xs)with h|h;·rw[cmpN_gt h];decide
                                       ·rw[cmpN_eq (by omega)];decide
 have Hva:=lH (val_limbs (val xs));have Hvb:=lH (val_limbs (val ys));generalize val xs=a at *
 generalize val ys=b at *
 have hcd:decide (cmpN a b<0)=false:=by simp;exact hc0
 generalize cmpN a b=cm at *
 have Hle:=lH hle;generalize limbs a=ls at *
 generalize limbs b=ms at *
 obtain⟨ad,n,cap,rfl,hn,hnc,hm,ha,hs⟩:=h1;obtain⟨ad',n',cap',rfl,hn',hnc',hm',hb,hs'⟩:=h2;have hn4:n≤4294967296:=by omega
 have Hlen:Hid (ms.length≤n):=lH (by omega);clear hla hlen hle;have Hn:=lH hn;clear hn;have Hn':=lH hn';clear hn';have Ha:=lH ha;clear ha;have Hb:=lH hb;clear hb
 go_wp2_with (at_make;refine wpList_make_u32 _ rfl _ _ _ rfl 150 Tryz.underlying28 Tryz.infoU32 _ n rfl rfl (by omega) (by omega) ?_;intro w0 hA0 hb0 _)
 go_wp2
 go_loopw [7,24] (fun cy i wr=>∃k c os,k≤n∧i= .int .i64 ((k:Nat):Int)∧cy= .int .u64 ((c:Nat):Int)∧Arr wr wc.heap.size os∧Hid (subInv n k c os ls ms)∧Below wc.heap.size wc wr) (fun _ i _=>n-(intOf i).toNat)
 case atStart=>exact⟨0,0,_,zL_ _,rfl,rfl,hA0,lH (subInv_zero _ _ _),hb0⟩
 case round=>
  obtain⟨k,c,os,hk,rfl,rfl,hA,Hs,hbl⟩:=hrel;have⟨hol,_,hc1,_⟩:=Hs.out
  by_cases hkn:k<n
  ·obtain⟨b1,off,rfl,hbw,hc⟩:=hs (by omega);have c1:=(hbl.cell (p:=⟨b1,off+k,none⟩) hbw).trans (hc k hkn);have bx:=lims_getD Ha.out k;have by':=lims_getD Hb.out k;have c3:=hA.cell k (by omega);have c4:=hA.frozen k;have ex:ls.getD k 0=ls[k]?.getD 0:=rfl;have ey:ms.getD k 0=ms[k]?.getD 0:=rfl;rw[ex]at bx c1;rw[ey]at by';have Ex:=lH ex;clear ex;have Ey:=lH ey;clear ey;have Ol:=lH hol;clear hol
   by_cases hkm:k<n'
   ·obtain⟨b2,off2,rfl,hbw2,hc2⟩:=hs' (by omega);have c2:=(hbl.cell (p:=⟨b2,off2+k,none⟩) hbw2).trans (hc2 k hkm);rw[Ey.out]at c2;clear hc hc2 hs hs';go_wp2
    go_roundw
    case rel=>
     exact⟨k+1,_,_,by omega,by go_num,congrArg (Value.int .u64) (Int.toNat_of_nonneg (by simp only[wrap_u64];omega)).symm,hA.setI k _ (by omega),lH (subInv_step Hs.out hkn Ex.out.symm Ey.out.symm Ha.out Hb.out _ _ (by simp only[wrap_u64];omega) (by omega) (by omega) (by simp only[wrap_u64];omega)),hbl.setCell (lR_ _) _⟩
    case measure=>simp[intOf]<;>omega
   ·have hz:ms.getD k 0=0:=by simp[List.getD,show ms.length≤k by have:=Hn'.out;omega]
    have Hz:=lH hz;clear hz hc hs hs';go_wp2
    go_roundw
    case rel=>
     exact⟨k+1,_,_,by omega,by go_num,congrArg (Value.int .u64) (Int.toNat_of_nonneg (by simp only[wrap_u64];omega)).symm,hA.setI k _ (by omega),lH (subInv_step (y:=0) Hs.out hkn Ex.out.symm Hz.out.symm Ha.out Hb.out _ _ (by simp only[wrap_u64];omega) (by omega) (by omega) (by simp only[wrap_u64];omega)),hbl.setCell (lR_ _) _⟩
    case measure=>simp[intOf]<;>omega
  ·obtain rfl:k=n:=by omega
   have HE:=lH (subInv_end Hs.out (by have:=Hn.out;omega) Hlen.out (by rw[Hva.out,Hvb.out];exact Hle.out));have Ol:=lH hol;clear hol hs hs'
   go_wp2_with fail
   refine(trim_any _ _ _ (hA.sl (n:=k) HE.out.1 HE.out.2.1 (lR_ _) (by omega))).mono ?_;rintro e w' ⟨v1,rfl,h1,rfl⟩;rw[HE.out.2.2,Hva.out,Hvb.out]at h1;go_wp2
   go_ret2
   exact⟨_,rfl,⟨_,rfl,h1⟩,hbc.trans (hbl.mono hbc.size)⟩
theorem sub_any (v v':Value)(xs ys:List Nat)(w:World)(h:Sl w v xs)(h':Sl w v' ys)(hx:xs.length≤4294967296):
  Calls Tryz.prog 188 #[v,v'] w (Ret w (NumE (val xs-val ys) (subErr (val xs) (val ys)))):=by
 rcases Nat.lt_or_ge (val xs) (val ys)with hlt|hle
 ·rw[subErr_lt hlt,show val xs-val ys=0 by omega];exact sub_no v v' xs ys w h h' hlt
 ·rw[subErr_le hle];exact sub_yes v v' xs ys w h h' hx hle
theorem mul_bound {x y:Nat}(hx:x<4294967296)(hy:y<4294967296):(x:Int)*(y:Int)≤18446744065119617025∧0≤(x:Int)*(y:Int):=by
 have h:x*y≤4294967295*4294967295:=Nat.mul_le_mul (by omega) (by omega);have h2:((x*y:Nat):Int)=(x:Int)*(y:Int):=Int.natCast_mul x y;omega
theorem mul_bound' {x y:Nat}(hx:x≤4294967296)(hy:y<4294967296):(x:Int)*(y:Int)≤18446744069414584320∧0≤(x:Int)*(y:Int):=by
 have h:x*y≤4294967296*4294967295:=Nat.mul_le_mul hx (by omega);have h2:((x*y:Nat):Int)=(x:Int)*(y:Int):=Int.natCast_mul x y;omega
theorem mulIn_stepI {n m i k c x y o:Nat}{os xs ys:List Nat}(h:mulIn n m i k c os xs ys)(hk:k<m)(hi:i<n)(hx:x=xs.getD i 0)(hy:y=ys.getD k 0)(ho:o=os.getD (i+k) 0)
  (hlx:lims xs) (hly:lims ys) (z:Int) (hz:z=(c:Int)+((x:Int)*(y:Int)+(o:Int))):mulIn n m i (k+1) (z/4294967296).toNat (os.set (i+k) (z % 4294967296).toNat) xs ys:=by
 have e:z=((c+(x*y+o):Nat):Int):=by rw[hz];simp
 have e1:(z/4294967296).toNat=(c+(x*y+o))/4294967296:=by omega
 have e2:(z % 4294967296).toNat=(c+(x*y+o)) % 4294967296:=by omega
 rw[e1,e2];exact mulIn_step h hk hi hx hy ho hlx hly _ rfl
theorem mul_zero_any (v v':Value)(xs ys:List Nat)(w:World)(h:Sl w v xs)(h':Sl w v' ys)(h0:val xs=0∨val ys=0):
  Calls Tryz.prog 116 #[v,v'] w (Ret w (Num 0)):=by
 go_enter Tryz.func116,Tryz.ntmps116
 go_wp2_with fail
 refine(trim_any _ xs _ h).mono ?_;rintro e w' ⟨v1,rfl,h1,rfl⟩
 go_wp2_with fail
 refine(trim_any _ ys _ h').mono ?_;rintro e w' ⟨v2,rfl,h2,rfl⟩;clear h h';obtain⟨ad,n,cap,rfl,hn,hnc,hm,ha,hs⟩:=h1;obtain⟨ad',n',cap',rfl,hn',hnc',hm',hb,hs'⟩:=h2
 by_cases hx:n=0
 ·subst hx;clear hn hn' hs hs' h0;go_wp2
  go_ret
  exact⟨_,rfl,by unfold Num;rw[limbs_zero];exact Sl.nil _,bR_ _ _⟩
 ·have hne:((n:Int)==0)=false:=by simp;exact hx
  have hy:n'=0:=by
   rcases h0 with h0|h0
   ·rw[h0,limbs_zero]at hn;simp at hn;omega
   ·rw[h0,limbs_zero]at hn';simp at hn';omega
  subst hy;clear hn hn' hs hs' h0 hx;go_wp2
  go_ret
  exact⟨_,rfl,by unfold Num;rw[limbs_zero];exact Sl.nil _,bR_ _ _⟩
theorem mul_pos_any (v v':Value)(xs ys:List Nat)(w:World)(h:Sl w v xs)(h':Sl w v' ys)(hx:xs.length≤4294967296)(hy:ys.length≤4294967296)(hx0:0<val xs)(hy0:0<val ys):
  Calls Tryz.prog 116 #[v,v'] w (Ret w (Num (val xs*val ys))):=by
 have hla:=sz_val h.lims;have hlb:=sz_val h'.lims;have hpa:=sz_pos hx0;have hpb:=sz_pos hy0;clear hx0 hy0
 go_enter Tryz.func116,Tryz.ntmps116
 go_wp2_with fail
 refine(trim_any _ xs _ h).mono ?_;rintro e w' ⟨v1,rfl,h1,rfl⟩
 go_wp2_with fail
 refine(trim_any _ ys _ h').mono ?_;rintro e w' ⟨v2,rfl,h2,rfl⟩;clear h h';unfold sz at hla hlb hpa hpb;have Hva:=lH (val_limbs (val xs));have Hvb:=lH (val_limbs (val ys));generalize val xs=a at *
 generalize val ys=b at *
 generalize limbs a=ls at *
 generalize limbs b=ms at *
 obtain⟨ad,n,cap,rfl,hn,hnc,hm,ha,hs⟩:=h1;obtain⟨ad',n',cap',rfl,hn',hnc',hm',hb,hs'⟩:=h2;have hn4:n≤4294967296:=by omega
 have hn4':n'≤4294967296:=by omega
 have hp:0<n:=by omega
 have hp':0<n':=by omega
 have hne:((n:Int)==0)=false:=by simp;omega
 have hne':((n':Int)==0)=false:=by simp;omega
 clear hla hlb hpa hpb;have Hn:=lH hn;clear hn;have Hn':=lH hn';clear hn';have Ha:=lH ha;clear ha;have Hb:=lH hb;clear hb;obtain⟨b1,off,rfl,hbw,hc⟩:=hs hp;obtain⟨b2,off2,rfl,hbw2,hc2⟩:=hs' hp';have Hc:=lH hc;clear hc hs;have Hc2:=lH hc2;clear hc2 hs'
 go_wp2_with (at_make;refine wpList_make_u32 _ rfl _ _ _ rfl 150 Tryz.underlying28 Tryz.infoU32 _ (n+n') rfl rfl (by omega) (by omega) ?_;intro w0 hA0 hb0 _)
 go_wp2
 go_loopw [31] (fun i wr=>∃k os,k≤n∧i= .int .i64 ((k:Nat):Int)∧Arr wr w.heap.size os∧Hid (mulOut n n' k os ls ms)∧Below w.heap.size w wr) (fun i _=>n-(intOf i).toNat)
 case atStart=>exact⟨0,_,zL_ _,rfl,hA0,lH (mulOut_zero _ _ _ _),hb0⟩
 case round=>
  obtain⟨i,os,hi,rfl,hA,Hs,hbl⟩:=hrel
  by_cases hin:i<n
  ·have c1:=(hbl.cell (p:=⟨b1,off+i,none⟩) hbw).trans (Hc.out i hin);have bx:=lims_getD Ha.out i;have ex:ls.getD i 0=ls[i]?.getD 0:=rfl;rw[ex]at bx c1;have Ex:=lH ex;clear ex;obtain⟨wo,rfl⟩:∃wo:World,wo=wr:=⟨_,rfl⟩;go_wp2
   go_loopw [8,38] (fun cy j wr=>∃k c os,k≤n'∧j= .int .i64 ((k:Nat):Int)∧cy= .int .u64 ((c:Nat):Int)∧Arr wr w.heap.size os∧Hid (mulIn n n' i k c os ls ms)∧Below w.heap.size w wr) (fun _ j _=>n'-(intOf j).toNat)
   case atStart=>exact⟨0,0,os,zL_ _,rfl,rfl,hA,lH (mulIn_zero Hs.out),hbl⟩
   case round=>
    clear hA Hs hbl c1;obtain⟨k,c,os,hk,rfl,rfl,hA,Hs,hbl⟩:=hrel;have⟨hol,hos,_,hcb,_⟩:=Hs.out;have Ol:=lH hol;clear hol
    by_cases hkn:k<n'
    ·have c2:=(hbl.cell (p:=⟨b2,off2+k,none⟩) hbw2).trans (Hc2.out k hkn);have by':=lims_getD Hb.out k;have ey:ms.getD k 0=ms[k]?.getD 0:=rfl;rw[ey]at by' c2;have Ey:=lH ey;clear ey;have c3:=hA.cell (i+k) (by rw[Ol.out];omega);have c4:=hA.frozen (i+k);have bo:=lims_getD hos (i+k);have eo:os.getD (i+k) 0=os[i+k]?.getD 0:=rfl;rw[eo]at bo c3;have Eo:=lH eo;clear eo;have hxy:=mul_bound bx by';clear hos;go_wp2
     go_roundw
     case rel=>
      exact⟨k+1,_,_,by omega,by go_num,congrArg (Value.int .u64) (Int.toNat_of_nonneg (by omega)).symm,hA.setI (i+k) _ (by omega),lH (mulIn_stepI Hs.out hkn hin Ex.out.symm Ey.out.symm Eo.out.symm Ha.out Hb.out _ rfl),hbl.setCell (lR_ _) _⟩
     case measure=>simp[intOf]<;>omega
    ·obtain rfl:k=n':=by omega
     have c3:=hA.cell (i+k) (by rw[Ol.out];omega);have c4:=hA.frozen (i+k);have HM:=lH (mulOut_step Hs.out hin (by have:=Hn'.out;omega));clear hos;go_wp2
     go_roundw
     case rel=>exact⟨i+1,_,by omega,by go_num,hA.setI (i+k) (c:Int) (by omega),by rw[Int.toNat_natCast];exact HM,hbl.setCell (lR_ _) _⟩
     case measure=>simp[intOf]<;>omega
  ·obtain rfl:i=n:=by omega
   have HE:=lH (mulOut_end Hs.out (by have:=Hn.out;omega))
   go_wp2_with fail
   refine(trim_any _ _ _ (hA.sl (n:=i+n') HE.out.1 HE.out.2.1 (lR_ _) (by omega))).mono ?_;rintro e w' ⟨v1,rfl,h1,rfl⟩;rw[HE.out.2.2,Hva.out,Hvb.out]at h1;go_wp2
   go_ret
   exact⟨_,rfl,h1,hbl⟩
theorem mul_any (v v':Value)(xs ys:List Nat)(w:World)(h:Sl w v xs)(h':Sl w v' ys)(hx:xs.length≤4294967296)(hy:ys.length≤4294967296):
  Calls Tryz.prog 116 #[v,v'] w (Ret w (Num (val xs*val ys))):=by
 rcases eP_ (val xs)with h0|h0
 ·have:=mul_zero_any v v' xs ys w h h' (Or.inl h0)
  rwa [h0,Nat.zero_mul]
 ·rcases eP_ (val ys)with h1|h1
  ·have:=mul_zero_any v v' xs ys w h h' (Or.inr h1)
   rwa [h1,Nat.mul_zero]
  ·exact mul_pos_any v v' xs ys w h h' hx hy h0 h1
theorem or_low {o m s:Nat}(ho:o<2^s):o ||| (m*2^s)=o+m*2^s:=by
 have:=Nat.two_pow_add_eq_or_of_lt ho m;rw[Nat.or_comm,Nat.mul_comm m,←this,Nat.add_comm]
theorem pow_split {s k:Nat}(h:s≤k):2^k=2^s*2^(k-s):=by rw[←Nat.pow_add];congr 1;omega
theorem mod_shift {x s:Nat}(hs:s≤32):(x*2^s) % 4294967296=(x % 2^(32-s))*2^s:=by
 have e:4294967296=2^(32-s)*2^s:=by rw[Nat.mul_comm,←pow_split hs]
 rw[e,Nat.mul_mod_mul_right]
theorem shl_bound {x s:Nat}(hx:x<4294967296)(hs:s≤32):x*2^s<18446744073709551616:=by
 have h1:2^s≤2^32:=Nat.pow_le_pow_right (by decide) hs;have h2:x*2^s≤4294967295*2^32:=Nat.mul_le_mul (by omega) h1;have e:2^32=4294967296:=by decide
 rw[e]at h2;omega
theorem wrap_shl {x s:Nat}(hx:x<4294967296)(hs:s≤32):IntKind.u64.wrap ((x:Int)*2^s)=((x*2^s:Nat):Int):=by
 have h:=shl_bound hx hs;have e:((x*2^s:Nat):Int)=(x:Int)*2^s:=by simp
 rw[wrap_u64,←e];omega
theorem left_or {o x s:Nat}(ho:o<2^s)(hx:x<4294967296)(hs:s≤31):
  bits .or .u32 (o:Int) (IntKind.u64.wrap ((x:Int)*2^s) % 4294967296)=((o+(x*2^s) % 4294967296:Nat):Int):=by
 rw[wrap_shl hx (by omega)];have e:((x*2^s:Nat):Int) % 4294967296=(((x*2^s) % 4294967296:Nat):Int):=by omega
 have h1:2^s≤2^31:=Nat.pow_le_pow_right (by decide) hs;have e1:2^31=2147483648:=by decide
 rw[e,u32_or_nat _ _ (by omega) (Nat.mod_lt _ (by decide)),mod_shift (by omega),or_low ho]
def leftInv (n i s:Nat)(os xs:List Nat):Prop:=
 os.length=n+1∧lims os∧os.getD i 0<2^s∧val (os.take (i+1))=2^s*val (xs.take i)
theorem leftInv_zero (n s:Nat)(xs:List Nat):leftInv n 0 s (List.replicate (n+1) 0) xs:=
 ⟨by simp,lims_replicate _,by rw[getD_replicate];exact Nat.pow_pos (by decide),by simp[val]⟩
theorem leftInv_step {n i s x:Nat}{os xs:List Nat}(h:leftInv n i s os xs)(hi:i<n)(hs:s≤31)(hx:x=xs.getD i 0)(hlx:lims xs):
  leftInv n (i+1) s ((os.set i (os.getD i 0+(x*2^s) % 4294967296)).set (i+1) ((x*2^s)/4294967296)) xs:=by
 obtain⟨h1,h2,h3,h4⟩:=h;have bx:=lims_getD hlx i;rw[←hx]at bx;have hp:0<2^s:=Nat.pow_pos (by decide);have hlo:os.getD i 0+(x*2^s) % 4294967296<4294967296:=by
  rw[mod_shift (by omega)];have hm:x % 2^(32-s)<2^(32-s):=Nat.mod_lt _ (Nat.pow_pos (by decide));have h5:(x % 2^(32-s)+1)*2^s≤2^(32-s)*2^s:=Nat.mul_le_mul_right _ hm;rw[Nat.mul_comm (2^(32-s)),←pow_split (show s≤32 by omega),Nat.add_mul]at h5;have e1:2^32=4294967296:=by decide
  omega
 have hhi:(x*2^s)/4294967296<2^s:=by
  apply Nat.div_lt_of_lt_mul;exact Nat.mul_lt_mul_of_pos_right bx hp
 have h31:2^s≤2^31:=Nat.pow_le_pow_right (by decide) hs;have e31:2^31=2147483648:=by decide
 refine⟨by simpa using h1,lims_set (lims_set h2 _ _ hlo) _ _ (by omega),?_,?_⟩
 ·rw[getD_set_eq (by simp;omega)];exact hhi
 ·rw[val_set_take (by simp;omega),val_set_take (by omega),val_take_step xs,←hx];rw[val_take_step os]at h4;have e2:2^s*(4294967296^i*x)=4294967296^i*(x*2^s):=by grind
  have e3:4294967296^i*(x*2^s)=4294967296^i*((x*2^s) % 4294967296)+4294967296^(i+1)*((x*2^s)/4294967296):=by
   rw[Nat.pow_succ,Nat.mul_assoc,←Nat.mul_add];congr 1;omega
  rw[Nat.mul_add (2^s),e2,e3,Nat.mul_add];omega
theorem leftInv_end {n s:Nat}{os xs:List Nat}(h:leftInv n n s os xs)(hn:xs.length≤n):lims os∧os.length=n+1∧val os=2^s*val xs:=by
 obtain⟨h1,h2,h3,h4⟩:=h;rw[val_take_ge hn,val_take_ge (by omega)]at h4;exact⟨h2,h1,h4⟩
def Lefted (w:World)(xs:List Nat)(s:Nat)(w':World)(v:Value):Prop:=
 ∃b os,v= .slice (some ⟨b,0,none⟩) (xs.length+1) (xs.length+1)∧w.heap.size≤b∧Arr w' b os∧lims os∧os.length=xs.length+1∧val os=2^s*val xs
theorem left_any (v:Value)(xs:List Nat)(s:Nat)(w:World)(h:Sl w v xs)(hx:xs.length≤8589934592)(hs31:s≤31):
  Calls Tryz.prog 183 #[v,.int .i64 (s:Int)] w (Ret w (Lefted w xs s)):=by
 obtain⟨ad,n,cap,rfl,hn,hnc,hm,ha,hs⟩:=h;have hn4:n≤8589934592:=by omega
 have Hn:=lH hn;clear hn hx;have Ha:=lH ha;clear ha
 go_enter Tryz.func183,Tryz.ntmps183
 go_wp2_with (at_make;refine wpList_make_u32 _ rfl _ _ _ rfl 150 Tryz.underlying28 Tryz.infoU32 _ (n+1) rfl rfl (by omega) (by omega) ?_;intro w0 hA0 hb0 _)
 go_wp2
 go_loopw [15] (fun i wr=>∃k os,k≤n∧i= .int .i64 ((k:Nat):Int)∧Arr wr w.heap.size os∧Hid (leftInv n k s os xs)∧Below w.heap.size w wr) (fun i _=>n-(intOf i).toNat)
 case atStart=>exact⟨0,_,zL_ _,rfl,hA0,lH (leftInv_zero _ _ _),hb0⟩
 case round=>
  obtain⟨i,os,hi,rfl,hA,Hs,hbl⟩:=hrel
  by_cases hin:i<n
  ·obtain⟨b1,off,rfl,hbw,hc⟩:=hs (by omega);have c1:=(hbl.cell (p:=⟨b1,off+i,none⟩) hbw).trans (hc i hin);have⟨hol,hos,hob,_⟩:=Hs.out;have bx:=lims_getD Ha.out i;have HO:Hid (bits .or .u32 ((os[i]?.getD 0:Nat):Int) (IntKind.u64.wrap (((xs[i]?.getD 0:Nat):Int)*2^s) % 4294967296)=((os.getD i 0+(xs.getD i 0*2^s) % 4294967296:Nat):Int)):=lH (left_or hob bx hs31)
   have HW:Hid (IntKind.u64.wrap (((xs[i]?.getD 0:Nat):Int)*2^s)/4294967296 % 4294967296=(((xs.getD i 0*2^s)/4294967296:Nat):Int)):=lH (by
    have e1:=wrap_shl bx (show s≤32 by omega);have e2:=shl_bound bx (show s≤32 by omega);have e3:IntKind.u64.wrap (((xs[i]?.getD 0:Nat):Int)*2^s)=((xs.getD i 0*2^s:Nat):Int):=e1;rw[e3];omega)
   have ex:xs.getD i 0=xs[i]?.getD 0:=rfl;rw[ex]at bx c1;have Ex:=lH ex;clear ex;have c3:=hA.cell i (by omega);have c4:=hA.frozen i;have c5:=hA.cell (i+1) (by omega);have c6:=hA.frozen (i+1);have Ol:=lH hol;clear hol hos hob hc hs;go_wp2
   go_roundw
   case rel=>
    refine⟨i+1,_,by omega,by go_num,?_,lH (leftInv_step Hs.out hin hs31 rfl Ha.out),(hbl.setCell (lR_ _) _).setCell (lR_ _) _⟩;rw[HO.out,HW.out];exact(hA.set i _).set (i+1) _
   case measure=>simp[intOf]<;>omega
  ·obtain rfl:i=n:=by omega
   have HE:=lH (leftInv_end Hs.out (by have:=Hn.out;omega));go_wp2
   go_ret
   refine⟨_,rfl,⟨w.heap.size,os,?_,lR_ _,hA,HE.out.1,?_,HE.out.2.2⟩,hbl⟩
   ·rw[Hn.out];rfl
   ·rw[Hn.out];exact HE.out.2.1
end Go.Proofs.YthdoopaenanibaaGreatDoor
