/- Texts Bc Bd Be LvA LxA LxB LvB LvC LvD of this proof, in this order. -/
import Derived.Test.YthdoopaenanibaaGreatDoorU01
import Derived.Deep.RegionLaw
import Derived.Test.YthdoopaenanibaaGreatDoorU03
set_option linter.unusedVariables false
set_option linter.unusedSimpArgs false
set_option maxRecDepth 100000
set_option maxHeartbeats 4000000
namespace Go.Proofs.YthdoopaenanibaaGreatDoor
open Go.RowKit Nt
theorem run_enter {P:Program}{f:FuncId}{fn:Func}{c:Code}(hf:P.funcs[f]? =some fn)(hname:(fn.name== "runtime.NumGoroutine")=false)(hb:fn.body=some c)(args:Array Value)(w:World):
  (callFunc f args).run P w= .ok (.enter f args) w:=by
 unfold callFunc;simp[hf,hb];simpa using hname
theorem step_call {P:Program}{ops:Array Oper}{o:Oper}{a:Act}{w:World}{K:Act→World→Prop}{Q:Exit→Act→World→Prop}{E:Prop}
  (hg:o.guard=none) (f:FuncId) (x:Array Operand) (tys:Array TypeId) (hop:o.op=Op.call {callee:=Callee.value (Operand.func f),args:=x,argTypes:=tys})
  {fn:Func} {c:Code} (hf:P.funcs[f]? =some fn) (hname:(fn.name== "runtime.NumGoroutine")=false) (hb:fn.body=some c)
  {R:World→Value→Prop} {args:Array Value} (hargs:x.map a.eval=args) (hc:Calls P f args w (Ret w R))
  (hK:∀v w',R w' v→Below w.heap.size w w'→K (a.put o.dst v) w'):
  if Region.wanted o (yielded ops a.tmps)=true then Oper.wp P o a w K Q else E:=by
 have hw:Region.wanted o (yielded ops a.tmps)=true:=by simp[Region.wanted,hg]
 rw[if_pos hw];have key:o.upon P a K Q (.ok (.enter f args) w):=by
  rw[Oper.upon_enter];refine hc.mono ?_;rintro e w' ⟨v,rfl,h1,h2⟩;exact hK v w' h1 h2
 unfold Oper.wp;have e:(execOp a.eval o).run P w= .ok (.enter f args) w:=by
  obtain⟨dst,op,ty,pos,after,guard⟩:=o
  dsimp only at hop hg
  subst hop;rw[execOp_call_go,hargs];simpa using run_enter hf hname hb args w
 rw[e];exact key
theorem step_is {P:Program}{ops:Array Oper}{o:Oper}{a:Act}{w:World}{K:Act→World→Prop}{Q:Exit→Act→World→Prop}{E:Prop}(f:FuncId){x:Array Operand}{tys:Array TypeId}
  (_hop:o.op=Op.call {callee:=Callee.value (Operand.func f),args:=x,argTypes:=tys})
  (h:if Region.wanted o (yielded ops a.tmps)=true then Oper.wp P o a w K Q else E):if Region.wanted o (yielded ops a.tmps)=true then Oper.wp P o a w K Q else E:=h
theorem step_call1 {P:Program}{ops:Array Oper}{o:Oper}{a:Act}{w:World}{K:Act→World→Prop}{Q:Exit→Act→World→Prop}{E:Prop}
  (hg:o.guard=none) (f:FuncId) (x:Operand) (tys:Array TypeId) (hop:o.op=Op.call {callee:=Callee.value (Operand.func f),args:= #[x],argTypes:=tys})
  {fn:Func} {c:Code} (hf:P.funcs[f]? =some fn) (hname:(fn.name== "runtime.NumGoroutine")=false) (hb:fn.body=some c)
  {R:World→Value→Prop} {u:Value} (h1:a.eval x=u) (hc:Calls P f #[u] w (Ret w R))
  (hK:∀v w',R w' v→Below w.heap.size w w'→K (a.put o.dst v) w'):
  if Region.wanted o (yielded ops a.tmps)=true then Oper.wp P o a w K Q else E:=
 step_call hg f #[x] tys hop hf hname hb (by simp[h1]) hc hK
def shiftErr (k:Int):Int:=if k<0∨1048576<k then 2 else 0
def shrN (a:Nat)(k:Int):Nat:=if k<0∨1048576<k then 0 else a/2^k.toNat
theorem shiftErr_no {k:Int}(h:k<0∨1048576<k):shiftErr k=2:=by simp[shiftErr,h]
theorem shrN_no {a:Nat}{k:Int}(h:k<0∨1048576<k):shrN a k=0:=by simp[shrN,h]
theorem shiftErr_yes {m:Nat}(h:m≤1048576):shiftErr (m:Int)=0:=by
 have:¬((m:Int)<0∨1048576<(m:Int)):=by omega
 simp only[shiftErr,if_neg this]
theorem shrN_yes {a m:Nat}(h:m≤1048576):shrN a (m:Int)=a/2^m:=by
 have:¬((m:Int)<0∨1048576<(m:Int)):=by omega
 simp only[shrN,if_neg this,Int.toNat_natCast]
theorem val_drop {xs:List Nat}(h:lims xs)(i:Nat)(hi:i≤xs.length):val (xs.drop i)=val xs/4294967296^i:=by
 have e:=val_take_drop xs i hi;have hl:=take_lt h i;have hp:0<4294967296^i:=Nat.pow_pos (by decide);rw[e,Nat.add_mul_div_left _ _ hp,Nat.div_eq_of_lt hl,Nat.zero_add]
theorem drop_step (xs:List Nat)(i:Nat)(hi:i<xs.length):val (xs.drop i)=xs.getD i 0+4294967296*val (xs.drop (i+1)):=by
 rw[List.drop_eq_getElem_cons hi,val_cons];simp[List.getD,hi]
theorem shr_digit {zs:List Nat}(h:lims zs){i r:Nat}(hi:i<zs.length)(hr:r≤31):
  ((zs.getD i 0+4294967296*zs.getD (i+1) 0)/2^r) % 4294967296=(val zs/2^r)/4294967296^i % 4294967296:=by
 rw[Nat.div_div_eq_div_mul,Nat.mul_comm (2^r),←Nat.div_div_eq_div_mul,←val_drop h i (by omega),drop_step zs i hi];have e:∃m,val (zs.drop (i+1))=zs.getD (i+1) 0+4294967296*m:=by
  by_cases hj:i+1<zs.length
  ·exact⟨_,drop_step zs (i+1) hj⟩
  ·refine⟨0,?_⟩;rw[List.drop_of_length_le (by omega)];simp[val,List.getD,show zs.length≤i+1 by omega]
 obtain⟨m,hm⟩:=e;rw[hm];have e2:zs.getD i 0+4294967296*(zs.getD (i+1) 0+4294967296*m)=(zs.getD i 0+4294967296*zs.getD (i+1) 0)+2^r*(4294967296*(2^(32-r)*m)):=by
  have e3:2^r*2^(32-r)=4294967296:=by rw[←pow_split (by omega)]
  have e4:2^r*(4294967296*(2^(32-r)*m))=(2^r*2^(32-r))*(4294967296*m):=by grind
  rw[e4,e3];omega
 rw[e2,Nat.add_mul_div_left _ _ (Nat.pow_pos (by decide)),Nat.add_mul_mod_self_left]
def shrInv (n i M:Nat)(os:List Nat):Prop:=os.length=n∧lims os∧val (os.take i)=M % 4294967296^i
theorem shrInv_zero (n M:Nat):shrInv n 0 M (List.replicate n 0):=⟨by simp,lims_replicate _,by simp[val,Nat.mod_one]⟩
theorem shrInv_step {n i M d:Nat}{os:List Nat}(h:shrInv n i M os)(hi:i<n)(hd:d=M/4294967296^i % 4294967296):shrInv n (i+1) M (os.set i d):=by
 obtain⟨h1,h2,h3⟩:=h;refine⟨by simpa using h1,lims_set h2 _ _ (by omega),?_⟩;rw[val_set_take (by omega),h3,hd,Nat.mod_pow_succ]
theorem shrInv_end {n M:Nat}{os:List Nat}(h:shrInv n n M os)(hM:M<4294967296^n):lims os∧os.length=n∧val os=M:=by
 obtain⟨h1,h2,h3⟩:=h;rw[val_take_ge (by omega),Nat.mod_eq_of_lt hM]at h3;exact⟨h2,h1,h3⟩
theorem or_high {x y:Nat}(hx:x<4294967296)(hy:y<4294967296):bits .or .u64 (x:Int) ((y:Int)*4294967296)=((x+4294967296*y:Nat):Int):=by
 have e1:2^32=4294967296:=by decide
 have e2:((y:Int)*4294967296)=((y*4294967296:Nat):Int):=by omega
 rw[e2,u64_or_nat _ _ (by omega) (by omega),←e1,or_low (by omega),e1];omega
theorem cast_shr {t r D:Nat}{z:Int}(hz:z=(t:Int))(hD:t/2^r % 4294967296=D):z/2^r % 4294967296=(D:Int):=by
 subst hz hD;simp
theorem shr_no (v:Value)(k:Int)(w:World)(hk:k<0∨1048576<k):
  Calls Tryz.prog 186 #[v,.int .i64 k] w (Ret w (NumE 0 2)):=by
 by_cases h0:k<0
 ·clear hk
  go_enter Tryz.func186,Tryz.ntmps186
  go_wp2
  go_ret2
  exact⟨_,rfl,⟨_,rfl,by rw[limbs_zero];exact Sl.nil _⟩,bR_ _ _⟩
 ·have h1:1048576<k:=by omega
  have h2:decide (k<0)=false:=by simp;omega
  clear hk h0
  go_enter Tryz.func186,Tryz.ntmps186
  go_wp2
  go_ret2
  exact⟨_,rfl,⟨_,rfl,by rw[limbs_zero];exact Sl.nil _⟩,bR_ _ _⟩
theorem Sl.dropped {w:World}{xs:List Nat}{ad:Option Addr}{n cap:Nat}(h:Sl w (.slice ad n cap) xs)(q:Nat)(hq:q<n):
  ∃b off,ad=some ⟨b,off,none⟩∧b<w.heap.size∧(xs.drop q).length=n-q∧∀i,i<n-q→w.cell? ⟨b,off+q+i,none⟩=some (.int .u32 (((xs.drop q).getD i 0:Nat):Int)):=by
 obtain⟨_,_,_,e,hl,_,_,_,hs⟩:=h;injection e with e1 e2 e3;subst e1 e2 e3;obtain⟨b,off,hb,hbw,hc⟩:=hs (by omega);refine⟨b,off,hb,hbw,by simp;omega,fun i hi=> ?_⟩;rw[Nat.add_assoc,hc (q+i) (by omega)];simp[List.getD]
theorem shr_yes (v:Value)(xs:List Nat)(k:Nat)(w:World)(h:Sl w v xs)(hx:xs.length≤8589934592)(hk:k≤1048576):
  Calls Tryz.prog 186 #[v,.int .i64 (k:Int)] w (Ret w (NumE (val xs/2^k) 0)):=by
 have h2:decide ((k:Int)<0)=false:=by simp
 have hla:=sz_val h.lims;unfold sz at hla;have Hva:=lH (val_limbs (val xs));have Hll:=lH (lims_limbs (val xs));obtain⟨q,hq⟩:∃q,q=k/32:=⟨_,rfl⟩;obtain⟨r,hr⟩:∃r,r=k % 32:=⟨_,rfl⟩;have e1:((k:Int)/32)=(q:Int):=by omega
 have e2:((k:Int) % 32)=(r:Int):=by omega
 have hqk:q≤32768:=by omega
 have hr31:r≤31:=by omega
 have hk2:k=32*q+r:=by omega
 have HP:Hid (∀a:Nat,a/2^k=a/4294967296^q/2^r):=lH fun a=>by
  have e32:(2:Nat)^32=4294967296:=by decide
  rw[hk2,Nat.pow_add,Nat.pow_mul,e32,Nat.div_div_eq_div_mul]
 clear hq hr hk2
 go_enter Tryz.func186,Tryz.ntmps186
 go_wp2_with fail
 refine(trim_any _ xs _ h).mono ?_;rintro e w' ⟨v1,rfl,h1,rfl⟩;generalize val xs=a at *
 generalize limbs a=ls at *
 have H1:=lH h1;obtain⟨ad,n,cap,rfl,hn,hnc,-⟩:=h1;have hn4:n≤8589934592:=by omega
 clear hla h;have Hn:=lH hn;clear hn
 by_cases hqn:n≤q
 ·have HZ:Hid (a/2^k=0):=lH (by
   rw[HP.out];have h3:=val_lt Hll.out;rw[Hn.out,Hva.out]at h3;have h4:4294967296^n≤4294967296^q:=Nat.pow_le_pow_right (by decide) hqn;rw[Nat.div_eq_of_lt (show a<4294967296^q by omega)];exact Nat.zero_div _)
  go_wp2
  go_ret2
  exact⟨_,rfl,⟨_,rfl,by rw[HZ.out,limbs_zero];exact Sl.nil _⟩,bR_ _ _⟩
 ·obtain⟨b,off,rfl,hbw,hdl,hdc⟩:=H1.out.dropped q (by omega);have Hdl:=lH hdl;clear hdl;have Hdc:=lH hdc;clear hdc;have HM:Hid (a/2^k=val (ls.drop q)/2^r):=lH (by rw[HP.out,val_drop Hll.out q (by rw[Hn.out];omega),Hva.out]);have Hlz:=lH (lims_drop Hll.out q);generalize ls.drop q=zs at *
  have hcq:¬cap=q:=by omega
  go_wp2_with (at_make;refine wpList_make_u32 _ rfl _ _ _ rfl 150 Tryz.underlying28 Tryz.infoU32 _ (n-q) rfl rfl (by omega) (by omega) ?_;intro w0 hA0 hb0 _)
  go_wp2
  go_loopw [32] (fun i wr=>∃j os,j≤n-q∧i= .int .i64 ((j:Nat):Int)∧Arr wr w.heap.size os∧Hid (shrInv (n-q) j (a/2^k) os)∧Below w.heap.size w wr) (fun i _=>(n-q)-(intOf i).toNat)
  case atStart=>exact⟨0,_,zL_ _,rfl,hA0,lH (shrInv_zero _ _),hb0⟩
  case round=>
   obtain⟨i,os,hi,rfl,hA,Hs,hbl⟩:=hrel;have⟨hol,_,_⟩:=Hs.out
   by_cases hin:i<n-q
   ·have c1:=(hbl.cell (p:=⟨b,off+q+i,none⟩) hbw).trans (Hdc.out i hin);have bx:=lims_getD Hlz.out i;have by':=lims_getD Hlz.out (i+1);have HD:(zs.getD i 0+4294967296*zs.getD (i+1) 0)/2^r % 4294967296=a/2^k/4294967296^i % 4294967296:=by rw[HM.out];exact shr_digit Hlz.out (by rw[Hdl.out];exact hin) hr31
    have HO:Hid (bits .or .u64 ((zs[i]?.getD 0:Nat):Int) (((zs[i+1]?.getD 0:Nat):Int)*4294967296)/2^r % 4294967296=((a/2^k/4294967296^i % 4294967296:Nat):Int)):=lH (cast_shr (or_high bx by') HD)
    have HZ:Hid (¬i+1<n-q→((zs[i]?.getD 0:Nat):Int)/2^r % 4294967296=((a/2^k/4294967296^i % 4294967296:Nat):Int)):=lH fun h=>by
     have hz:zs.getD (i+1) 0=0:=by simp[List.getD,show zs.length≤i+1 by have:=Hdl.out;omega]
     rw[hz]at HD;exact cast_shr rfl HD
    clear HD;have ex:zs.getD i 0=zs[i]?.getD 0:=rfl;rw[ex]at bx c1;have Ex:=lH ex;clear ex;have ey:zs.getD (i+1) 0=zs[i+1]?.getD 0:=rfl;rw[ey]at by';have Ey:=lH ey;clear ey;have c3:=hA.cell i (by omega);have c4:=hA.frozen i;have Ol:=lH hol;clear hol
    by_cases hi1:i+1<n-q
    ·have c2:=(hbl.cell (p:=⟨b,off+q+(i+1),none⟩) hbw).trans (Hdc.out (i+1) hi1);rw[Ey.out]at c2;go_wp2
     go_roundw
     case rel=>exact⟨i+1,_,by omega,by go_num,by rw[HO.out];exact hA.set i _,lH (shrInv_step Hs.out hin rfl),hbl.setCell (lR_ _) _⟩
     case measure=>simp[intOf]<;>omega
    ·have HZ':=lH (HZ.out hi1);go_wp2
     go_roundw
     case rel=>exact⟨i+1,_,by omega,by go_num,by rw[HZ'.out];exact hA.set i _,lH (shrInv_step Hs.out hin rfl),hbl.setCell (lR_ _) _⟩
     case measure=>simp[intOf]<;>omega
   ·obtain rfl:i=n-q:=by omega
    have HE:=lH (shrInv_end Hs.out (by
     rw[HM.out];have h3:=val_lt Hlz.out;rw[Hdl.out]at h3;exact Nat.lt_of_le_of_lt (Nat.div_le_self _ _) h3))
    go_wp2_with fail
    refine(trim_any _ _ _ (hA.sl (n:=n-q) HE.out.1 HE.out.2.1 (lR_ _) (by omega))).mono ?_;rintro e w' ⟨v1,rfl,h1,rfl⟩;rw[HE.out.2.2]at h1;go_wp2
    go_ret2
    exact⟨_,rfl,⟨_,rfl,h1⟩,hbl⟩
theorem shr_any (v:Value)(xs:List Nat)(k:Int)(w:World)(h:Sl w v xs)(hx:xs.length≤8589934592):
  Calls Tryz.prog 186 #[v,.int .i64 k] w (Ret w (NumE (shrN (val xs) k) (shiftErr k))):=by
 by_cases hk:k<0∨1048576<k
 ·rw[shrN_no hk,shiftErr_no hk];exact shr_no v k w hk
 ·obtain⟨m,rfl⟩:∃m:Nat,k=m:=⟨k.toNat,by omega⟩;rw[shrN_yes (by omega),shiftErr_yes (by omega)];exact shr_yes v xs m w h hx (by omega)
def shortInv (n k r d:Nat)(os xs:List Nat):Prop:=
 os.length=n∧lims os∧r<d∧val (os.drop k)*d+r=val (xs.drop k)
theorem shortInv_top {n d:Nat}{xs:List Nat}(hn:xs.length=n)(hd:0<d):shortInv n n 0 d (List.replicate n 0) xs:=
 ⟨by simp,lims_replicate _,hd,by rw[List.drop_of_length_le (by simp),List.drop_of_length_le (by omega)];simp[val]⟩
theorem drop_set (xs:List Nat)(k x:Nat)(h:k<xs.length):(xs.set k x).drop k=x::xs.drop (k+1):=by
 rw[List.drop_eq_getElem_cons (by simpa using h)];simp[List.drop_set_of_lt]
theorem shortInv_step {n k r d z:Nat}{os xs:List Nat}(h:shortInv n (k+1) r d os xs)(hk:k<n)(hn:xs.length=n)(hx:lims xs)(hd:d<4294967296)(hz:z=xs.getD k 0+4294967296*r):
  z/d<4294967296∧shortInv n k (z % d) d (os.set k (z/d)) xs:=by
 obtain⟨h1,h2,h3,h4⟩:=h;have bx:=lims_getD hx k;have hq:z/d<4294967296:=by
  apply Nat.div_lt_of_lt_mul;have:r+1≤d:=h3;have:4294967296*(r+1)≤4294967296*d:=Nat.mul_le_mul_left _ this;rw[Nat.mul_add]at this;rw[Nat.mul_comm d];omega
 refine⟨hq,by simpa using h1,lims_set h2 _ _ hq,Nat.mod_lt _ (by omega),?_⟩;rw[drop_set _ _ _ (by omega),drop_step xs k (by omega),val_cons,←h4];have e:=Nat.div_add_mod z d;have e2:(z/d+4294967296*val (os.drop (k+1)))*d=d*(z/d)+4294967296*(val (os.drop (k+1))*d):=by grind
 rw[e2];omega
theorem shortInv_end {n r d:Nat}{os xs:List Nat}(h:shortInv n 0 r d os xs):lims os∧os.length=n∧val os=val xs/d∧r=val xs % d:=by
 obtain⟨h1,h2,h3,h4⟩:=h;simp only[List.drop_zero]at h4;refine⟨h2,h1,?_,?_⟩
 ·rw[←h4,Nat.mul_comm,Nat.mul_add_div (by omega),Nat.div_eq_of_lt h3,Nat.add_zero]
 ·rw[←h4,Nat.mul_comm,Nat.mul_add_mod,Nat.mod_eq_of_lt h3]
theorem or_high' {x y:Nat}(hx:x<4294967296)(hy:y<4294967296):bits .or .u64 ((y:Int)*4294967296) (x:Int)=((x+4294967296*y:Nat):Int):=by
 have e1:2^32=4294967296:=by decide
 have e2:((y:Int)*4294967296)=((y*4294967296:Nat):Int):=by omega
 rw[e2,u64_or_nat _ _ (by omega) (by omega),Nat.or_comm,←e1,or_low (by omega),e1];omega
theorem short_any (v:Value)(xs:List Nat)(d:Nat)(w:World)(h:Sl w v xs)(hx:xs.length≤8589934592)(hd0:1≤d)(hd:d<4294967296):
  Calls Tryz.prog 181 #[v,.int .u32 (d:Int)] w (Ret w (Num2 (val xs/d) (val xs % d))):=by
 obtain⟨ad,n,cap,rfl,hn,hnc,hm,ha,hs⟩:=h;have hn4:n≤8589934592:=by omega
 have Hn:=lH hn;clear hn hx;have Ha:=lH ha;clear ha
 go_enter Tryz.func181,Tryz.ntmps181
 go_wp2_with (at_make;refine wpList_make_u32 _ rfl _ _ _ rfl 150 Tryz.underlying28 Tryz.infoU32 _ n rfl rfl (by omega) (by omega) ?_;intro w0 hA0 hb0 _)
 go_wp2
 go_loopw [7,8] (fun rr i wr=>∃(k r:Nat) (os:List Nat),k≤n∧i= .int .i64 ((k:Int)-1)∧rr= .int .u64 ((r:Nat):Int)∧Arr wr w.heap.size os∧Hid (shortInv n k r d os xs)∧Below w.heap.size w wr) (fun _ i _=>(intOf i+1).toNat)
 case atStart=>exact⟨n,0,_,lR_ _,rfl,rfl,hA0,lH (shortInv_top Hn.out hd0),hb0⟩
 case round=>
  obtain⟨k,r,os,hk,rfl,rfl,hA,Hs,hbl⟩:=hrel;have⟨hol,_,hr,_⟩:=Hs.out;have Ol:=lH hol;clear hol;have hrb:r<4294967296:=by omega
  rcases eP_ k with hk0|hk0
  ·subst hk0;have HE:=lH (shortInv_end Hs.out);clear hr
   go_wp2_with fail
   refine(trim_any _ _ _ (hA.sl (n:=n) HE.out.1 HE.out.2.1 (lR_ _) (by omega))).mono ?_;rintro e w' ⟨v1,rfl,h1,rfl⟩;rw[HE.out.2.2.1]at h1
   go_wp2_with fail
   refine(of_any r _ (by omega)).mono ?_;rintro e w2 ⟨v2,rfl,h2,hb2⟩;unfold Num at h2;have h1':=h1.below hb2;rw[HE.out.2.2.2]at h2;go_wp2
   go_ret2
   exact⟨_,rfl,⟨_,_,rfl,h1',h2⟩,hbl.trans (hb2.mono hbl.size)⟩
  ·obtain⟨j,rfl⟩:∃j,k=j+1:=⟨k-1,by omega⟩;rw[show((j+1:Nat):Int)-1=(j:Int)from by omega];obtain⟨b,off,rfl,hbw,hc⟩:=hs (by omega);have c1:=(hbl.cell (p:=⟨b,off+j,none⟩) hbw).trans (hc j hk);have bx:=lims_getD Ha.out j;have HS:=shortInv_step (z:=xs.getD j 0+4294967296*r) Hs.out hk Hn.out Ha.out hd rfl;have ho:bits .or .u64 ((r:Int)*4294967296) ((xs[j]?.getD 0:Nat):Int)=((xs.getD j 0+4294967296*r:Nat):Int):=or_high' bx hrb;obtain⟨Z,hZ⟩:∃Z,Z=xs.getD j 0+4294967296*r:=⟨_,rfl⟩;rw[←hZ]at ho HS;have hZ0:Z<18446744073709551616:=by omega
   have ex:xs.getD j 0=xs[j]?.getD 0:=rfl;rw[ex]at bx c1;have HS':=lH HS;clear HS hZ ex;have c3:=hA.cell j (by have:=Ol.out;omega);have c4:=hA.frozen j;clear hs hc hr
   have HQ:Hid (IntKind.u64.wrap ((Z:Int)/(d:Int)) % 4294967296=((Z/d:Nat):Int)):=lH (by
    have e:(Z:Int)/(d:Int)=((Z/d:Nat):Int):=by simp
    have h3:=HS'.out.1;rw[e,wrap_u64];generalize Z/d=Q at h3 ⊢;omega)
   go_wp2
   go_roundw
   case rel=>exact⟨j,Z % d,_,by omega,rfl,congrArg (Value.int .u64) (Int.natCast_emod Z d).symm,by rw[HQ.out];exact hA.set j _,lH HS'.out.2,hbl.setCell (lR_ _) _⟩
   case measure=>simp[intOf]<;>omega
namespace Nt
structure Est (L lu lv u1 u2 u3 v1 v2 U V:Nat):Prop where
 lu_lt:lu<L
 lv_lt:lv<L
 hU:U=lu+L*(u3+4294967296*(u2+4294967296*u1))
 hV:V=lv+L*(v2+4294967296*v1)
 b1:u1<4294967296
 b2:u2<4294967296
 b3:u3<4294967296
 c1:v1<4294967296
 c2:v2<4294967296
 norm:2147483648≤v1
 lt:U<4294967296*V
def EstInv (u1 u2 v1 U V q r:Nat):Prop:=q*v1+r=u2+4294967296*u1∧U/V≤q∧q≤4294967297
variable {L lu lv u1 u2 u3 v1 v2 U V q r:Nat}
theorem Est.pos (h:Est L lu lv u1 u2 u3 v1 v2 U V):0<V:=by
 have:=h.lt;rcases eP_ V with h0|h0
 ·rw[h0]at this;omega
 ·exact h0
theorem Est.u1_le (h:Est L lu lv u1 u2 u3 v1 v2 U V):u1≤v1:=by
 rcases Nat.lt_or_ge v1 u1 with hlt|hge
 ·exfalso;have hL:0<L:=by have:=h.lu_lt;omega
  have h1:V<L*(v2+4294967296*v1+1):=by
   have:=h.lv_lt;rw[h.hV,Nat.mul_add L _ 1];omega
  have h2:L*(v2+4294967296*v1+1)≤L*(4294967296*(v1+1)):=Nat.mul_le_mul_left _ (by have:=h.c2;omega);have h3:L*(4294967296*(v1+1))≤L*(4294967296*u1):=Nat.mul_le_mul_left _ (Nat.mul_le_mul_left _ hlt);have h4:L*(4294967296*(4294967296*u1))≤U:=by
   rw[h.hU];have:L*(4294967296*(4294967296*u1))≤L*(u3+4294967296*(u2+4294967296*u1)):=Nat.mul_le_mul_left _ (by omega);omega
  have h5:L*(4294967296*(4294967296*u1))=4294967296*(L*(4294967296*u1)):=by grind
  have:=h.lt;omega
 ·exact hge
theorem Est.init (h:Est L lu lv u1 u2 u3 v1 v2 U V):EstInv u1 u2 v1 U V ((u2+4294967296*u1)/v1) ((u2+4294967296*u1) % v1):=by
 have hv1:0<v1:=by have:=h.norm;omega
 refine⟨by rw[Nat.mul_comm];exact Nat.div_add_mod _ _,?_,?_⟩
 ·rw[Nat.le_div_iff_mul_le hv1];have hL:0<L:=by have:=h.lu_lt;omega
  have h1:U/V*V≤U:=Nat.div_mul_le_self U V
  have h2:U/V*(L*(4294967296*v1))≤U/V*V:=Nat.mul_le_mul_left _ (by
   rw[h.hV];have:L*(4294967296*v1)≤L*(v2+4294967296*v1):=Nat.mul_le_mul_left _ (by omega);omega)
  have h3:U<L*(4294967296*(u2+4294967296*u1+1)):=by
   have e:L*(u3+4294967296*(u2+4294967296*u1)+1)≤L*(4294967296*(u2+4294967296*u1+1)):=Nat.mul_le_mul_left _ (by have:=h.b3;omega);rw[Nat.mul_add L _ 1]at e;have:=h.lu_lt;rw[h.hU];omega
  have e1:U/V*(L*(4294967296*v1))=L*(4294967296*(U/V*v1)):=by grind
  rw[e1]at h2;have h4:L*(4294967296*(U/V*v1))<L*(4294967296*(u2+4294967296*u1+1)):=by omega
  have h5:=Nat.lt_of_mul_lt_mul_left h4;omega
 ·have h1:=h.u1_le;have h2:=h.norm;have h3:=h.b2;have h4:(u2+4294967296*u1)/v1<4294967298:=by
   apply Nat.div_lt_of_lt_mul;omega
  omega
theorem Est.dec (h:Est L lu lv u1 u2 u3 v1 v2 U V)(hi:EstInv u1 u2 v1 U V q r)(hc:4294967296≤q∨r*4294967296+u3<q*v2):U/V<q:=by
 rcases hc with hc|hc
 ·have:U/V<4294967296:=Nat.div_lt_of_lt_mul (by rw[Nat.mul_comm];exact h.lt);omega
 ·obtain⟨h1,_,_⟩:=hi;rw[Nat.div_lt_iff_lt_mul h.pos];have e1:q*(v2+4294967296*v1)=q*v2+4294967296*(q*v1):=by grind
  have e2:u3+4294967296*(u2+4294967296*u1)+1≤q*(v2+4294967296*v1):=by rw[e1];omega
  have e3:L*(u3+4294967296*(u2+4294967296*u1)+1)≤L*(q*(v2+4294967296*v1)):=Nat.mul_le_mul_left _ e2;rw[Nat.mul_add L _ 1]at e3;have e4:q*(L*(v2+4294967296*v1))≤q*V:=Nat.mul_le_mul_left _ (by rw[h.hV];omega);have e5:L*(q*(v2+4294967296*v1))=q*(L*(v2+4294967296*v1)):=by grind
  have:=h.lu_lt;rw[h.hU];omega
theorem Est.step (h:Est L lu lv u1 u2 u3 v1 v2 U V)(hi:EstInv u1 u2 v1 U V q r)(hc:4294967296≤q∨r*4294967296+u3<q*v2):1≤q∧EstInv u1 u2 v1 U V (q-1) (r+v1):=by
 have hd:=h.dec hi hc;obtain⟨h1,h2,h3⟩:=hi;unfold EstInv;generalize U/V=Q at *
 refine⟨by omega,?_,by omega,by omega⟩;obtain⟨p,rfl⟩:∃p,q=p+1:=⟨q-1,by omega⟩;rw[Nat.add_mul]at h1;rw[Nat.add_sub_cancel];omega
theorem Est.done (h:Est L lu lv u1 u2 u3 v1 v2 U V)(hi:EstInv u1 u2 v1 U V q r)(hc:q*v2≤r*4294967296+u3):q≤U/V+1:=by
 obtain⟨h1,h2,h3⟩:=hi;rcases eP_ q with h0|h0
 ·rw[h0];exact zL_ _
 ·obtain⟨p,rfl⟩:∃p,q=p+1:=⟨q-1,by omega⟩;have:p≤U/V:=by
   rw[Nat.le_div_iff_mul_le h.pos];have e1:(p+1)*(v2+4294967296*v1)=(p+1)*v2+4294967296*((p+1)*v1):=by grind
   have e2:(p+1)*(v2+4294967296*v1)≤u3+4294967296*(u2+4294967296*u1):=by rw[e1];omega
   rw[Nat.add_mul]at e2;have hn:=h.norm;have e3:p*(v2+4294967296*v1+1)≤u3+4294967296*(u2+4294967296*u1):=by rw[Nat.mul_add];omega
   have e4:V≤L*(v2+4294967296*v1+1):=by rw[h.hV,Nat.mul_add L _ 1];have:=h.lv_lt;omega
   have e5:p*V≤p*(L*(v2+4294967296*v1+1)):=Nat.mul_le_mul_left _ e4;have e6:p*(L*(v2+4294967296*v1+1))=L*(p*(v2+4294967296*v1+1)):=by grind
   have e7:L*(p*(v2+4294967296*v1+1))≤L*(u3+4294967296*(u2+4294967296*u1)):=Nat.mul_le_mul_left _ e3;rw[h.hU];omega
  omega
theorem est_of {us vs:List Nat}{m:Nat}(hu:lims us)(hv:lims vs)(hul:us.length=m+3)(hvl:vs.length=m+2)(hn:2147483648≤vs.getD (m+1) 0)(hlt:val us<4294967296*val vs):
  Est (4294967296^m) (val (us.take m)) (val (vs.take m)) (us.getD (m+2) 0) (us.getD (m+1) 0) (us.getD m 0) (vs.getD (m+1) 0) (vs.getD m 0) (val us) (val vs) where
 lu_lt:=take_lt hu m
 lv_lt:=take_lt hv m
 hU:=by
  have e1:=val_take_step us m;have e2:=val_take_step us (m+1);have e3:=val_take_step us (m+2);rw[val_take_ge (k:=m+2+1) (by omega),e2,e1]at e3;rw[e3,Nat.pow_succ,Nat.pow_succ];grind
 hV:=by
  have e1:=val_take_step vs m;have e2:=val_take_step vs (m+1);rw[val_take_ge (k:=m+1+1) (by omega),e1]at e2;rw[e2,Nat.pow_succ];grind
 b1:=lims_getD hu _
 b2:=lims_getD hu _
 b3:=lims_getD hu _
 c1:=lims_getD hv _
 c2:=lims_getD hv _
 norm:=hn
 lt:=hlt
end Nt
def Estd (U V:Nat)(_:World)(v:Value):Prop:=∃q:Nat,v= .int .u64 (q:Int)∧U/V≤q∧q≤U/V+1
theorem estimate_any (u v:Value)(us vs:List Nat)(n:Nat)(w:World)(h:Sl w u us)(h':Sl w v vs)(hul:us.length=n+1)(hvl:vs.length=n)(hn2:2≤n)
  (hnorm:2147483648≤vs.getD (n-1) 0) (hlt:val us<4294967296*val vs):
  Calls Tryz.prog 185 #[u,v] w (Ret w (Estd (val us) (val vs))):=by
 have E:=est_of (m:=n-2) h.lims h'.lims (by omega) (by omega) (by rw[show n-2+1=n-1 by omega];exact hnorm) hlt;rw[show n-2+1=n-1 by omega,show n-2+2=n by omega]at E;obtain⟨ad,k,cap,rfl,hk,hnc,hm,ha,hs⟩:=h;obtain⟨ad',k',cap',rfl,hk',hnc',hm',hb,hs'⟩:=h';obtain⟨b,off,rfl,hbw,hc⟩:=hs (by omega);obtain⟨b',off',rfl,hbw',hc'⟩:=hs' (by omega);have a1:=hc n (by omega);have a2:=hc (n-1) (by omega);have a3:=hc (n-2) (by omega);have a4:=hc' (n-1) (by omega);have a5:=hc' (n-2) (by omega);have hkn:n<k:=by omega
 have hkn':k'≤n:=by omega
 obtain rfl:k'=n:=by omega
 clear hs hs' hc hc' hk hk' hnorm hlt ha hb hul hvl;generalize val (us.take (k'-2))=lu at *
 generalize val (vs.take (k'-2))=lv at *
 generalize 4294967296^(k'-2)=L at *
 generalize us.getD k' 0=u1 at *
 generalize us.getD (k'-1) 0=u2 at *
 generalize us.getD (k'-2) 0=u3 at *
 generalize vs.getD (k'-1) 0=v1 at *
 generalize vs.getD (k'-2) 0=v2 at *
 generalize val us=U at *
 generalize val vs=V at *
 have HE:=lH E;have hb1:=E.b1;have hb2:=E.b2;have hb3:=E.b3;have hc1:=E.c1;have hc2:=E.c2;have hv1:=E.norm;have HI:=lH E.init;have hq:=E.init.2.2;have ho:bits .or .u64 ((u1:Int)*4294967296) (u2:Int)=((u2+4294967296*u1:Nat):Int):=or_high' hb2 hb1;obtain⟨T,hT⟩:∃T,T=u2+4294967296*u1:=⟨_,rfl⟩;rw[←hT]at ho HI hq;have hT0:T<18446744073709551616:=by omega
 have HT:=lH hT;have hr:T % v1<4294967296:=Nat.lt_of_lt_of_le (Nat.mod_lt _ (by omega)) (by omega)
 have HW:Hid (IntKind.u64.wrap ((T:Int)/(v1:Int))=((T/v1:Nat):Int)):=lH (by
  have e:(T:Int)/(v1:Int)=((T/v1:Nat):Int):=by simp
  rw[e,wrap_u64];generalize T/v1=Q at hq ⊢;omega)
 have Hr:=lH hr;have Hq:=lH hq;clear E hT hr hq
 go_enter Tryz.func185,Tryz.ntmps185
 go_wp2_with fail
 go_quiet (fail)
 go_wp2_with fail
 go_quiet (fail)
 go_wp2_with fail
 clear ho
 go_loopw [7,8] (fun q r wr=>∃Q R:Nat,q= .int .u64 (Q:Int)∧r= .int .u64 (R:Int)∧R<4294967296∧Q≤4294967297∧Hid (EstInv u1 u2 v1 U V Q R)∧Below w.heap.size w wr) (fun q _ _=>(intOf q).toNat)
 case atStart=>exact⟨_,_,congrArg (Value.int .u64) HW.out,congrArg (Value.int .u64) (Int.natCast_emod T v1).symm,Hr.out,Hq.out,HI,below_drewN (below_drewN (bR_ _ _) _) _⟩
 case round=>
  obtain⟨q,r,rfl,rfl,hr,hq,Hi,hbl⟩:=hrel;have d3:=(hbl.cell (p:=⟨b,off+(k'-2),none⟩) hbw).trans a3;have d4:=(hbl.cell (p:=⟨b',off'+(k'-1),none⟩) hbw').trans a4;have d5:=(hbl.cell (p:=⟨b',off'+(k'-2),none⟩) hbw').trans a5;clear a1 a2 a3 a4 a5;have D4:=lH d4;clear d4;have HR:Hid (r*4294967296+u3<18446744073709551616):=lH (by omega)
  by_cases hqB:4294967296≤q
  ·have HS:=lH (HE.out.step Hi.out (Or.inl hqB));have hq1:=HS.out.1;have hv1:=HE.out.norm
   have FIN:∀(h:4294967296≤r+v1),q-1≤U/V+1:=fun h=>HE.out.done HS.out.2 (by
    have h1:(q-1)*v2≤4294967296*4294967295:=Nat.mul_le_mul (by omega) (by omega);omega)
   have HL:=lH HS.out.2.2.1;have ht:decide ((4294967296:Int)≤(q:Int))=true:=by simp;omega
   clear hb1 hb2 hb3 hc2 hv1 hT0 d3 d5 hqB
   by_cases hbr:4294967296≤r+v1
   ·have HF:=lH (FIN hbr);have ht2:decide ((4294967296:Int)≤(r:Int)+(v1:Int))=true:=by simp;omega
    clear hbr FIN
    go_wp2_with fail
    go_quiet (fail)
    clear ht;have d4:=D4.out;go_wp2
    go_ret
    exact⟨_,rfl,⟨q-1,congrArg (Value.int .u64) (by omega),HL.out,HF.out⟩,below_drewN hbl _⟩
   ·have Hbr:=lH hbr;have ht2:decide ((4294967296:Int)≤(r:Int)+(v1:Int))=false:=by simp;omega
    clear hbr FIN
    go_wp2_with fail
    go_quiet (fail)
    clear ht;have d4:=D4.out;go_wp2
    go_roundw
    case rel=>exact⟨q-1,r+v1,congrArg (Value.int .u64) (by omega),congrArg (Value.int .u64) (by omega),by have:=Hbr.out;omega,by omega,lH HS.out.2,below_drewN hbl _⟩
    case measure=>simp[intOf]<;>omega
  ·have ht:decide ((4294967296:Int)≤(q:Int))=false:=by simp;omega
   have hm:=mul_bound (x:=q) (y:=v2) (by omega) (by omega);have ho:bits .or .u64 ((r:Int)*4294967296) (u3:Int)=((u3+4294967296*r:Nat):Int):=or_high' hb3 hr;obtain⟨X,hX⟩:∃X,X=u3+4294967296*r:=⟨_,rfl⟩;rw[←hX]at ho;have hcast:((q*v2:Nat):Int)=(q:Int)*(v2:Int):=Int.natCast_mul q v2
   by_cases hgt:X<q*v2
   ·have HS:=lH (HE.out.step Hi.out (Or.inr (by omega)));have hq1:=HS.out.1
    have FIN:∀(h:4294967296≤r+v1),q-1≤U/V+1:=fun h=>HE.out.done HS.out.2 (by
     have h1:(q-1)*v2≤4294967296*4294967295:=Nat.mul_le_mul (by omega) (by omega);omega)
    have HL:=lH HS.out.2.2.1;have ht3:decide ((X:Int)<(q:Int)*(v2:Int))=true:=by simp;omega
    clear hb1 hb2 hv1 hT0 hqB hgt hcast hX
    by_cases hbr:4294967296≤r+v1
    ·have HF:=lH (FIN hbr);have ht2:decide ((4294967296:Int)≤(r:Int)+(v1:Int))=true:=by simp;omega
     clear hbr FIN
     go_wp2_with fail
     go_quiet (fail)
     clear ht ht3 hm ho d3 d5 hb3 hc2;have d4:=D4.out;go_wp2
     go_ret
     exact⟨_,rfl,⟨q-1,congrArg (Value.int .u64) (by omega),HL.out,HF.out⟩,below_drewN hbl _⟩
    ·have Hbr:=lH hbr;have ht2:decide ((4294967296:Int)≤(r:Int)+(v1:Int))=false:=by simp;omega
     clear hbr FIN
     go_wp2_with fail
     go_quiet (fail)
     clear ht ht3 hm ho d3 d5 hb3 hc2;have d4:=D4.out;go_wp2
     go_roundw
     case rel=>exact⟨q-1,r+v1,congrArg (Value.int .u64) (by omega),congrArg (Value.int .u64) (by omega),by have:=Hbr.out;omega,by omega,lH HS.out.2,below_drewN hbl _⟩
     case measure=>simp[intOf]<;>omega
   ·have HD:=lH (HE.out.done Hi.out (by omega));have HL:=lH Hi.out.2.1;have ht3:decide ((X:Int)<(q:Int)*(v2:Int))=false:=by simp;omega
    clear hb1 hb2 hv1 hT0 hqB hgt hcast hX
    go_wp2_with fail
    go_quiet (fail)
    clear ht ht3 hm ho d3 d5 hb3 hc2;go_wp2
    go_ret
    exact⟨_,rfl,⟨q,rfl,HL.out,HD.out⟩,below_drewN hbl _⟩
namespace Nt
def keeps (j:Nat)(os os':List Nat):Prop:=∀t,j≤t→os'.getD t 0=os.getD t 0
def redA (i k q c bw:Nat)(os os' vs:List Nat):Prop:=
 os'.length=os.length∧lims os'∧c<4294967296∧bw≤1∧keeps (i+k) os os'∧
  val os'+4294967296^i*(q*val (vs.take k))=val os+4294967296^(i+k)*(c+bw)
theorem redA_zero {i q:Nat}{os vs:List Nat}(h:lims os):redA i 0 q 0 0 os os vs:=
 ⟨rfl,h,by decide,by decide,fun _ _=>rfl,by simp[val]⟩
theorem redA_step {i k q c bw d u z x b':Nat}{os os' vs:List Nat}(h:redA i k q c bw os os' vs)(hik:i+k<os.length)(hq:q≤4294967296)(hv:lims vs)
  (hd:d=vs.getD k 0) (hu:u=os'.getD (i+k) 0) (hz:z=c+q*d) (hx:x+z % 4294967296+bw=u+4294967296*b') (hx1:x<4294967296) (hb:b'≤1):
  redA i (k+1) q (z/4294967296) b' os (os'.set (i+k) x) vs:=by
 obtain⟨h1,h2,h3,h4,h5,h6⟩:=h;have hd1:=lims_getD hv k;rw[←hd]at hd1;have hqd:q*d≤4294967296*4294967295:=Nat.mul_le_mul hq (by omega);refine⟨by simpa using h1,lims_set h2 _ _ hx1,by omega,hb,fun t ht=> ?_,?_⟩
 ·rw[getD_set_ne (by omega)];exact h5 t (by omega)
 ·have e:=val_set (xs:=os') (k:=i+k) (x:=x) (by omega);rw[←hu]at e;rw[val_take_step vs,←hd];have e1:4294967296^i*(q*(val (vs.take k)+4294967296^k*d))=4294967296^i*(q*val (vs.take k))+4294967296^(i+k)*(q*d):=by
   rw[Nat.pow_add];grind
  have e2:4294967296^(i+(k+1))*(z/4294967296+b')=4294967296^(i+k)*(4294967296*(z/4294967296)+4294967296*b'):=by
   rw[←Nat.add_assoc,Nat.pow_succ];grind
  have e3:4294967296^(i+k)*(x+z % 4294967296+bw)=4294967296^(i+k)*(u+4294967296*b'):=by rw[hx]
  have e4:4294967296^(i+k)*z=4294967296^(i+k)*(4294967296*(z/4294967296))+4294967296^(i+k)*(z % 4294967296):=by
   rw[←Nat.mul_add];congr 1;omega
  have e5:4294967296^(i+k)*z=4294967296^(i+k)*c+4294967296^(i+k)*(q*d):=by rw[hz,Nat.mul_add]
  rw[e1,e2];rw[Nat.mul_add]at h6 e3;rw[Nat.mul_add]at e3;rw[Nat.mul_add (4294967296^(i+k)) u]at e3;rw[Nat.mul_add (4294967296^(i+k)) (4294967296*(z/4294967296))];omega
theorem val_upto {os:List Nat}{j:Nat}(hj:j<os.length)(hz:val (os.drop (j+1))=0):val os=val (os.take j)+4294967296^j*os.getD j 0:=by
 have e:=val_take_drop os (j+1) hj;rw[hz,Nat.mul_zero,Nat.add_zero,val_take_succ hj]at e;exact e
theorem drop_keeps {j:Nat}{os os':List Nat}(h:keeps j os os')(hl:os'.length=os.length):os'.drop j=os.drop j:=by
 apply List.ext_getElem
 ·simp[hl]
 ·intro t h1 h2;simp only[List.getElem_drop];have:=h (j+t) (by omega);simp only[List.length_drop]at h1 h2;simpa [List.getD,show j+t<os'.length by omega,show j+t<os.length by omega]using this
structure Red (i n q:Nat)(os vs:List Nat):Prop where
 los:lims os
 lvs:lims vs
 len:i+n<os.length
 vlen:vs.length=n
 top:val (os.drop (i+n+1))=0
 lo:val (os.drop i)/val vs≤q
 hi:q≤val (os.drop i)/val vs+1
 vpos:0<val vs
 qlt:val (os.drop i)/val vs<4294967296
variable {i n q c bw:Nat} {os os' vs:List Nat}
theorem Red.split (h:Red i n q os vs):val os=val (os.take i)+4294967296^i*val (os.drop i):=val_take_drop os i (by have:=h.len;omega)
theorem redA_facts (h:Red i n q os vs)(ha:redA i n q c bw os os' vs):
  val os'=val (os'.take (i+n))+4294967296^(i+n)*os.getD (i+n) 0∧val (os'.take (i+n))<4294967296^(i+n)∧val (os.take i)<4294967296^i∧
  val os'+4294967296^i*(q*val vs)=val os+4294967296^(i+n)*(c+bw):=by
 obtain⟨h1,h2,h3,h4,h5,h6⟩:=ha;have hlen:=h.len;have hd:os'.drop (i+n+1)=os.drop (i+n+1):=drop_keeps (fun t ht=>h5 t (by omega)) h1;have e:=val_upto (os:=os') (j:=i+n) (by omega) (by rw[hd];exact h.top);rw[h5 (i+n) (lR_ _)]at e;rw[val_take_ge (xs:=vs) (by have:=h.vlen;omega)]at h6;exact⟨e,take_lt h2 _,take_lt h.los _,h6⟩
theorem redA_yes (h:Red i n q os vs)(ha:redA i n q c bw os os' vs){x:Nat}(hx:x+c+bw=os.getD (i+n) 0):
  q=val (os.drop i)/val vs∧lims (os'.set (i+n) x)∧(os'.set (i+n) x).length=os.length∧val (os'.set (i+n) x)+4294967296^i*(q*val vs)=val os:=by
 obtain⟨f1,f2,f3,f4⟩:=redA_facts h ha;obtain⟨h1,h2,_,_,h5,_⟩:=ha;have hlen:=h.len;have hu:=lims_getD h.los (i+n);have e:=val_set (xs:=os') (k:=i+n) (x:=x) (by omega);rw[h5 (i+n) (lR_ _)]at e;have e2:4294967296^(i+n)*os.getD (i+n) 0=4294967296^(i+n)*x+4294967296^(i+n)*(c+bw):=by rw[←hx,←Nat.mul_add];congr 1;omega
 have hval:val (os'.set (i+n) x)+4294967296^i*(q*val vs)=val os:=by omega
 refine⟨?_,lims_set h2 _ _ (by omega),by simpa using h1,hval⟩;have hq:q≤val (os.drop i)/val vs:=by
  rw[Nat.le_div_iff_mul_le h.vpos];have hs:=h.split;have h3:4294967296^i*(q*val vs)<4294967296^i*(val (os.drop i)+1):=by rw[Nat.mul_add];omega
  have:=Nat.lt_of_mul_lt_mul_left h3;omega
 exact Nat.le_antisymm hq h.lo
theorem redA_no (h:Red i n q os vs)(ha:redA i n q c bw os os' vs)(hx:os.getD (i+n) 0<c+bw):
  q=val (os.drop i)/val vs+1∧c+bw=os.getD (i+n) 0+1:=by
 obtain⟨f1,f2,f3,f4⟩:=redA_facts h ha;have hs:=h.split;obtain⟨m,hm⟩:∃m,c+bw=os.getD (i+n) 0+1+m:=⟨c+bw-(os.getD (i+n) 0+1),by omega⟩;have hvn:val vs<4294967296^n:=by have:=val_lt h.lvs;rwa [h.vlen]at this
 have e1:4294967296^(i+n)*(c+bw)=4294967296^(i+n)*os.getD (i+n) 0+4294967296^(i+n)+4294967296^(i+n)*m:=by rw[hm,Nat.mul_add,Nat.mul_add,Nat.mul_one]
 have e2:4294967296^(i+n)=4294967296^i*4294967296^n:=Nat.pow_add _ _ _;have hgt:val (os.drop i)/val vs<q:=by
  rw[Nat.div_lt_iff_lt_mul h.vpos];have h3:4294967296^i*val (os.drop i)<4294967296^i*(q*val vs):=by omega
  exact Nat.lt_of_mul_lt_mul_left h3
 have hq:q=val (os.drop i)/val vs+1:=Nat.le_antisymm h.hi hgt;refine⟨hq,?_⟩;have h4:q*val vs≤val (os.drop i)+val vs:=by
  rw[hq,Nat.add_mul,Nat.one_mul];have:=Nat.div_mul_le_self (val (os.drop i)) (val vs);omega
 have h5:4294967296^i*(q*val vs)≤4294967296^i*(val (os.drop i)+val vs):=Nat.mul_le_mul_left _ h4;rw[Nat.mul_add]at h5;have h6:4294967296^i*(val vs+1)≤4294967296^i*4294967296^n:=Nat.mul_le_mul_left _ hvn;rw[Nat.mul_add,←e2]at h6;have hp:0<4294967296^i:=Nat.pow_pos (by decide);rcases eP_ m with h0|h0
 ·omega
 ·exfalso;have h7:4294967296^(i+n)*1≤4294967296^(i+n)*m:=Nat.mul_le_mul_left _ h0;omega
def redB (i k c:Nat)(os os' vs:List Nat):Prop:=
 os'.length=os.length∧lims os'∧c≤1∧keeps (i+k) os os'∧val os'+4294967296^(i+k)*c=val os+4294967296^i*val (vs.take k)
theorem redB_zero {i:Nat}{os vs:List Nat}(h:lims os):redB i 0 0 os os vs:=
 ⟨rfl,h,by decide,fun _ _=>rfl,by simp[val]⟩
theorem redB_step {i k c d u z:Nat}{os os' vs:List Nat}(h:redB i k c os os' vs)(hik:i+k<os.length)(hv:lims vs)
  (hd:d=vs.getD k 0) (hu:u=os'.getD (i+k) 0) (hz:z=c+(u+d)):
  redB i (k+1) (z/4294967296) os (os'.set (i+k) (z % 4294967296)) vs:=by
 obtain⟨h1,h2,h3,h5,h6⟩:=h;have hd1:=lims_getD hv k;have hu1:=lims_getD h2 (i+k);rw[←hd]at hd1;rw[←hu]at hu1;refine⟨by simpa using h1,lims_set h2 _ _ (by omega),by omega,fun t ht=> ?_,?_⟩
 ·rw[getD_set_ne (by omega)];exact h5 t (by omega)
 ·have e:=val_set (xs:=os') (k:=i+k) (x:=z % 4294967296) (by omega);rw[←hu]at e;rw[val_take_step vs,←hd];have e1:4294967296^i*(val (vs.take k)+4294967296^k*d)=4294967296^i*val (vs.take k)+4294967296^(i+k)*d:=by
   rw[Nat.pow_add];grind
  have e2:4294967296^(i+(k+1))*(z/4294967296)=4294967296^(i+k)*(4294967296*(z/4294967296)):=by
   rw[←Nat.add_assoc,Nat.pow_succ,Nat.mul_assoc]
  have e4:4294967296^(i+k)*z=4294967296^(i+k)*(4294967296*(z/4294967296))+4294967296^(i+k)*(z % 4294967296):=by
   rw[←Nat.mul_add];congr 1;omega
  have e5:4294967296^(i+k)*z=4294967296^(i+k)*c+(4294967296^(i+k)*u+4294967296^(i+k)*d):=by rw[hz,Nat.mul_add,Nat.mul_add]
  rw[e1,e2];omega
theorem redB_end (h:Red i n q os vs)(ha:redA i n q c bw os os' vs)(hx:os.getD (i+n) 0<c+bw){os2:List Nat}{c2:Nat}
  (hb:redB i n c2 (os'.set (i+n) 4294967295) os2 vs):
  c2=1∧os2.getD (i+n) 0=4294967295∧lims (os2.set (i+n) 0)∧(os2.set (i+n) 0).length=os.length∧
   val (os2.set (i+n) 0)+4294967296^i*(val (os.drop i)/val vs*val vs)=val os:=by
 obtain⟨hq,hcb⟩:=redA_no h ha hx;obtain⟨f1,f2,f3,f4⟩:=redA_facts h ha;obtain⟨h1,h2,_,_,h5,_⟩:=ha;obtain⟨g1,g2,g3,g4,g5⟩:=hb;have hlen:=h.len;have hs:=h.split;rw[List.length_set]at g1;rw[val_take_ge (xs:=vs) (by have:=h.vlen;omega)]at g5;have hd2:os2.drop (i+n+1)=os.drop (i+n+1):=by
  have e1:=drop_keeps (j:=i+n+1) (os:=os'.set (i+n) 4294967295) (os':=os2) (fun t ht=>g4 t (by omega)) (by simpa using g1);rw[e1,List.drop_set_of_lt (by omega)];exact drop_keeps (fun t ht=>h5 t (by omega)) h1
 have ht2:os2.getD (i+n) 0=4294967295:=by rw[g4 (i+n) (lR_ _),getD_set_eq (by omega)]
 have e2:=val_upto (os:=os2) (j:=i+n) (by omega) (by rw[hd2];exact h.top);have hT:=take_lt g2 (i+n);rw[ht2]at e2;have e3:=val_set (xs:=os') (k:=i+n) (x:=4294967295) (by omega);rw[h5 (i+n) (lR_ _)]at e3;have e4:=val_set (xs:=os2) (k:=i+n) (x:=0) (by omega);rw[ht2]at e4;rw[hcb,Nat.mul_add]at f4;rw[hq,Nat.add_mul,Nat.one_mul,Nat.mul_add]at f4;have hmod:val (os.drop i)/val vs*val vs+val (os.drop i) % val vs=val (os.drop i):=by
  rw[Nat.mul_comm];exact Nat.div_add_mod _ _
 have hlt:val (os.drop i) % val vs<val vs:=Nat.mod_lt _ h.vpos;have hvn:val vs<4294967296^n:=by have:=val_lt h.lvs;rwa [h.vlen]at this
 have e5:4294967296^(i+n)=4294967296^i*4294967296^n:=Nat.pow_add _ _ _;have h6:4294967296^i*(val (os.drop i) % val vs+1)≤4294967296^i*4294967296^n:=Nat.mul_le_mul_left _ (by omega);rw[Nat.mul_add,←e5]at h6;have h7:4294967296^i*(val (os.drop i)/val vs*val vs)+4294967296^i*(val (os.drop i) % val vs)=4294967296^i*val (os.drop i):=by rw[←Nat.mul_add,hmod]
 have hp:0<4294967296^(i+n):=Nat.pow_pos (by decide);have hc2:c2=1:=by
  rcases eP_ c2 with h0|h0
  ·exfalso;subst h0;omega
  ·omega
 subst hc2;exact⟨rfl,ht2,lims_set g2 _ _ (by decide),by rw[List.length_set];omega,by omega⟩
end Nt
structure Chg (b:Nat)(w w':World):Prop where
 os:w'.os=w.os
 tape:w'.tape=w.tape
 output:w'.output=w.output
 size:w'.heap.size=w.heap.size
 block:∀k,k≠b→w'.heap[k]? =w.heap[k]?
theorem Chg.refl (b:Nat)(w:World):Chg b w w:=⟨rfl,rfl,rfl,rfl,fun _ _=>rfl⟩
theorem Chg.setCell {b i:Nat}{w w':World}(h:Chg b w w')(u:Value):Chg b w (w'.setCell ⟨b,i,none⟩ u):=
 ⟨h.os,h.tape,h.output,by simpa using h.size,fun k hk=>(Below.heap_setCell w' ⟨b,i,none⟩ u k hk).trans (h.block k hk)⟩
theorem Chg.cell {b:Nat}{w w':World}(h:Chg b w w'){p:Addr}(hp:p.block≠b):w'.cell? p=w.cell? p:=World.cell?_of_block (w:=w) (h.block p.block hp)
def Reduced (b i:Nat)(os vs:List Nat)(w:World)(e:Ending)(w':World):Prop:=
 ∃os',e= .returned (.int .u32 ((val (os.drop i)/val vs:Nat):Int))∧Arr w' b os'∧lims os'∧os'.length=os.length∧val os'+4294967296^i*(val (os.drop i)/val vs*val vs)=val os∧Chg b w w'
theorem redA_stepI {i k q c bw d u:Nat}{os os' vs:List Nat}(h:redA i k q c bw os os' vs)(hik:i+k<os.length)(hq:q≤4294967296)(hv:lims vs)
  (hd:d=vs.getD k 0) (hu:u=os'.getD (i+k) 0) (Z S:Int) (hZ:Z=(c:Int)+(q:Int)*(d:Int)) (hS:S=IntKind.u64.wrap (IntKind.u64.wrap ((u:Int)-Z % 4294967296)-(bw:Int))):
  redA i (k+1) q (Z/4294967296).toNat (S/9223372036854775808).toNat os (os'.set (i+k) (S % 4294967296).toNat) vs:=by
 have hu1:=lims_getD h.2.1 (i+k);have hb1:=h.2.2.2.1;rw[←hu]at hu1;obtain⟨z,hz⟩:∃z,z=c+q*d:=⟨_,rfl⟩;have hZz:Z=(z:Int):=by rw[hZ,hz];simp
 have e1:(Z/4294967296).toNat=z/4294967296:=by omega
 simp only[wrap_u64]at hS;rw[e1];exact redA_step h hik hq hv hd hu hz (by omega) (by omega) (by omega)
theorem redB_stepI {i k c d u:Nat}{os os' vs:List Nat}(h:redB i k c os os' vs)(hik:i+k<os.length)(hv:lims vs)
  (hd:d=vs.getD k 0) (hu:u=os'.getD (i+k) 0) (Z:Int) (hZ:Z=(c:Int)+((u:Int)+(d:Int))):
  redB i (k+1) (Z/4294967296).toNat os (os'.set (i+k) (Z % 4294967296).toNat) vs:=by
 have e1:(Z/4294967296).toNat=(c+(u+d))/4294967296:=by omega
 have e2:(Z % 4294967296).toNat=(c+(u+d)) % 4294967296:=by omega
 rw[e1,e2];exact redB_step h hik hv hd hu rfl
theorem reduce_any (b i capu n q:Nat)(v:Value)(bv ov capv:Nat)(os vs:List Nat)(w:World)(hv:v= .slice (some ⟨bv,ov,none⟩) n capv)(hA:Arr w b os)(hne:bv≠b)
  (hvc:∀j,j<n→w.cell? ⟨bv,ov+j,none⟩=some (.int .u32 ((vs.getD j 0:Nat):Int))) (R:Red i n q os vs) (hq:q≤4294967296) (hn:n≤8589934592) (hn0:0<n):
  Calls Tryz.prog 184 #[.slice (some ⟨b,i,none⟩) (n+1) capu,v,.int .u64 (q:Int)] w (Reduced b i os vs w):=by
 subst hv;have HR:=lH R;have hlen:=R.len;have Hvc:=lH hvc;have HA:=lH hA;clear R hvc hA
 go_enter Tryz.func184,Tryz.ntmps184
 go_wp2
 go_loopw [7,8,17] (fun cy bo j wr=>∃k c bw os',k≤n∧j= .int .i64 ((k:Nat):Int)∧cy= .int .u64 ((c:Nat):Int)∧bo= .int .u64 ((bw:Nat):Int)∧Arr wr b os'∧Hid (redA i k q c bw os os' vs)∧Chg b w wr) (fun _ _ j _=>n-(intOf j).toNat)
 case atStart=>exact⟨0,0,0,os,zL_ _,rfl,rfl,rfl,HA.out,lH (redA_zero HR.out.los),Chg.refl _ _⟩
 case round=>
  obtain⟨k,c,bw,os',hk,rfl,rfl,rfl,hA,Hs,hch⟩:=hrel;have⟨hol,hos,hcb,hbw,_⟩:=Hs.out;have Ol:=lH hol;clear hol
  by_cases hkn:k<n
  ·have c1:=(hch.cell (p:=⟨bv,ov+k,none⟩) hne).trans (Hvc.out k hkn);have bd:=lims_getD HR.out.lvs k;have bu:=lims_getD hos (i+k);have c3:=hA.cell (i+k) (by rw[Ol.out];omega);have c4:=hA.frozen (i+k);obtain⟨d,hd⟩:∃d,d=vs.getD k 0:=⟨_,rfl⟩;obtain⟨u,hu⟩:∃u,u=os'.getD (i+k) 0:=⟨_,rfl⟩;rw[←hd]at c1 bd;rw[←hu]at c3 bu;have hqd:=mul_bound' hq bd;have Hd:=lH hd;clear hd;have Hu:=lH hu;clear hu hos;go_wp2
   go_roundw
   case rel=>
    exact⟨k+1,_,_,_,by omega,by go_num,congrArg (Value.int .u64) (Int.toNat_of_nonneg (by omega)).symm,congrArg (Value.int .u64) (Int.toNat_of_nonneg (by simp only[wrap_u64];omega)).symm,hA.setI (i+k) _ (by omega),lH (redA_stepI Hs.out (by omega) hq HR.out.lvs Hd.out Hu.out _ _ rfl rfl),hch.setCell _⟩
   case measure=>simp[intOf]<;>omega
  ·obtain rfl:k=n:=by omega
   have c3:=hA.cell (i+k) (by rw[Ol.out];omega);have c4:=hA.frozen (i+k);have hkeep:os'.getD (i+k) 0=os.getD (i+k) 0:=Hs.out.2.2.2.2.1 (i+k) (lR_ _);have bu:=lims_getD HR.out.los (i+k);rw[hkeep]at c3;obtain⟨u,hu⟩:∃u,u=os.getD (i+k) 0:=⟨_,rfl⟩;rw[←hu]at c3 bu;have Hu:=lH hu;clear hu hkeep hos
   by_cases hge:c+bw≤u
   ·have ht:((((u:Int)-(c:Int)-(bw:Int))/9223372036854775808)==0)=true:=by rw[beq_iff_eq];omega
    have hY:=lH (redA_yes HR.out Hs.out (x:=u-c-bw) (by rw[←Hu.out];omega))
    have HQ:Hid ((q:Int) % 4294967296=((val (os.drop i)/val vs:Nat):Int)):=lH (by
     have h1:=HR.out.qlt;rw[←hY.out.1]at h1 ⊢;omega)
    go_wp2
    go_ret
    refine⟨_,by show Ending.returned (Value.int _ _)=_;rw[HQ.out],?_,hY.out.2.1,hY.out.2.2.1,?_,hch.setCell _⟩
    ·have:=hA.setI (i+k) ((u:Int)-(c:Int)-(bw:Int)) (by omega)
     rwa [show((u:Int)-(c:Int)-(bw:Int)).toNat=u-c-bw by omega]at this
    ·have:=hY.out.2.2.2;have h2:=hY.out.1;rw[←h2];exact this
   ·have hno:=redA_no HR.out Hs.out (by rw[←Hu.out];omega);have hx:IntKind.u64.wrap (IntKind.u64.wrap ((u:Int)-(c:Int))-(bw:Int))=18446744073709551615:=by
     have:=hno.2;rw[←Hu.out]at this;simp only[wrap_u64];omega
    have HN:=lH hno;clear hno;have hq1:1≤q:=by rw[HN.out.1];exact Nat.succ_pos _
    have Hge:=lH hge;clear hge;have hA1:Arr (wr.setCell ⟨b,i+k,none⟩ (.int .u32 4294967295)) b (os'.set (i+k) 4294967295):=hA.set (i+k) 4294967295;have HA1:=lH hA1;clear hA1;obtain⟨wo,hwo⟩:∃wo:World,wo=wr.setCell ⟨b,i+k,none⟩ (.int .u32 4294967295):=⟨_,rfl⟩;have hch1:Chg b w wo:=by rw[hwo];exact hch.setCell _
    go_wp2_with fail
    rw[←hwo]at HA1 ⊢;clear hwo
    go_loopw [7,72] (fun cy j wr=>∃m c2 os2,m≤k∧j= .int .i64 ((m:Nat):Int)∧cy= .int .u64 ((c2:Nat):Int)∧Arr wr b os2∧Hid (redB i m c2 (os'.set (i+k) 4294967295) os2 vs)∧Chg b w wr) (fun _ j _=>k-(intOf j).toNat)
    case atStart=>exact⟨0,0,_,zL_ _,rfl,rfl,HA1.out,lH (redB_zero (lims_set Hs.out.2.1 _ _ (by decide))),hch1⟩
    case round=>
     clear hA c3 c4 hx hch hch1;obtain⟨m,c2,os2,hm,rfl,rfl,hA2,Hs2,hch⟩:=hrel;have⟨hol2,hos2,hcb2,hkeep2,_⟩:=Hs2.out;have Ol2:Hid (os2.length=os.length):=lH (by rw[hol2,List.length_set];exact Ol.out);clear hol2
     by_cases hmk:m<k
     ·have c1:=(hch.cell (p:=⟨bv,ov+m,none⟩) hne).trans (Hvc.out m hmk);have bd:=lims_getD HR.out.lvs m;have bu2:=lims_getD hos2 (i+m);have c3:=hA2.cell (i+m) (by rw[Ol2.out];omega);have c4:=hA2.frozen (i+m);obtain⟨d,hd⟩:∃d,d=vs.getD m 0:=⟨_,rfl⟩;obtain⟨u2,hu2⟩:∃u2,u2=os2.getD (i+m) 0:=⟨_,rfl⟩;rw[←hd]at c1 bd;rw[←hu2]at c3 bu2;have Hd:=lH hd;clear hd;have Hu2:=lH hu2;clear hu2 hos2 hkeep2;go_wp2
      go_roundw
      case rel=>
       exact⟨m+1,_,_,by omega,by go_num,congrArg (Value.int .u64) (Int.toNat_of_nonneg (by omega)).symm,hA2.setI (i+m) _ (by omega),lH (redB_stepI Hs2.out (by rw[List.length_set,Ol.out];omega) HR.out.lvs Hd.out Hu2.out _ rfl),hch.setCell _⟩
      case measure=>simp[intOf]<;>omega
     ·obtain rfl:m=k:=by omega
      have hE:=redB_end HR.out Hs.out (by rw[←Hu.out];have:=Hge.out;omega) Hs2.out;obtain⟨hc2,ht2,hE⟩:=hE;subst hc2;have HE:=lH hE;clear hE;have c3:=hA2.cell (i+m) (by rw[Ol2.out];omega);have c4:=hA2.frozen (i+m);rw[ht2]at c3;clear ht2 hos2 hkeep2
      have HQ:Hid (((q:Int)-1)=((val (os.drop i)/val vs:Nat):Int)):=lH (by
       have h1:=HR.out.qlt;have h2:=HN.out.1;generalize val (os.drop i)/val vs=Q at h1 h2 ⊢;omega)
      go_wp2
      go_ret
      refine⟨_,by show Ending.returned (Value.int _ _)=_;rw[HQ.out],?_,HE.out.1,HE.out.2.1,HE.out.2.2,hch.setCell _⟩;exact hA2.set (i+m) 0
namespace Nt
def dmInv (na m U0 V k:Nat)(us out:List Nat):Prop:=
 us.length=na+1∧lims us∧out.length=m∧lims out∧val us+4294967296^k*(V*val (out.drop k))=U0∧val (us.drop k)<V
theorem drop_set_cons (xs:List Nat)(k x:Nat)(h:k<xs.length):(xs.set k x).drop k=x::xs.drop (k+1):=by
 rw[List.drop_eq_getElem_cons (by simpa using h)];simp[List.drop_set_of_lt]
theorem val_drop' {xs:List Nat}(h:lims xs)(i:Nat)(hi:i≤xs.length):val (xs.drop i)=val xs/4294967296^i:=by
 have e:=val_take_drop xs i hi;have hl:=take_lt h i;have hp:0<4294967296^i:=Nat.pow_pos (by decide);rw[e,Nat.add_mul_div_left _ _ hp,Nat.div_eq_of_lt hl,Nat.zero_add]
theorem drop_cons_val (xs:List Nat)(i:Nat)(hi:i<xs.length):val (xs.drop i)=xs.getD i 0+4294967296*val (xs.drop (i+1)):=by
 rw[List.drop_eq_getElem_cons hi,val_cons];simp[List.getD,hi]
theorem dmInv_top {na m n U0 V:Nat}{us:List Nat}(hl:us.length=na+1)(hu:lims us)(hv:val us=U0)(hm:m+n=na+1)(hV:4294967296^n≤2*V)(hU:2*U0<4294967296*4294967296^na):
  dmInv na m U0 V m us (List.replicate m 0):=by
 refine⟨hl,hu,by simp,lims_replicate m,by simp[List.drop_replicate,val,hv],?_⟩;rw[val_drop' hu m (by omega),hv,Nat.div_lt_iff_lt_mul (Nat.pow_pos (by decide))];have e:4294967296*4294967296^na=4294967296^m*4294967296^n:=by rw[←Nat.pow_add,hm,Nat.pow_succ,Nat.mul_comm]
 have h2:4294967296^m*4294967296^n≤4294967296^m*(2*V):=Nat.mul_le_mul_left _ hV;have e3:4294967296^m*(2*V)=2*(V*4294967296^m):=by grind
 omega
theorem dmInv_round {na m n U0 V j:Nat}{us out:List Nat}(h:dmInv na m U0 V (j+1) us out)(hj:j<m)(hm:m+n=na+1)(hVn:V<4294967296^n):
  val (us.drop (j+n+1))=0∧val (us.drop j)<4294967296*V:=by
 obtain⟨h1,h2,h3,h4,h5,h6⟩:=h;constructor
 ·have e:us.drop (j+n+1)=(us.drop (j+1)).drop n:=by rw[List.drop_drop];congr 1;omega
  rw[e,val_drop' (lims_drop h2 _) n (by simp;omega)];exact Nat.div_eq_of_lt (by omega)
 ·rw[drop_cons_val us j (by omega)];have:=lims_getD h2 j;omega
theorem dmInv_step {na m U0 V j:Nat}{us us' out:List Nat}(h:dmInv na m U0 V (j+1) us out)(hj:j<m)(hjn:j≤na)(hV:0<V)(hq:val (us.drop j)/V<4294967296)
  (hl:us'.length=us.length) (hu:lims us') (hv:val us'+4294967296^j*(val (us.drop j)/V*V)=val us):
  dmInv na m U0 V j us' (out.set j (val (us.drop j)/V)):=by
 obtain⟨h1,h2,h3,h4,h5,h6⟩:=h;refine⟨by omega,hu,by simpa using h3,lims_set h4 _ _ hq,?_,?_⟩
 ·rw[drop_set_cons _ _ _ (by omega),val_cons];have e1:4294967296^j*(V*(val (us.drop j)/V+4294967296*val (out.drop (j+1))))=4294967296^j*(val (us.drop j)/V*V)+4294967296^(j+1)*(V*val (out.drop (j+1))):=by
   rw[Nat.pow_succ];grind
  rw[e1];omega
 ·rw[val_drop' hu j (by omega),Nat.div_lt_iff_lt_mul (Nat.pow_pos (by decide))];have hs:=val_take_drop us j (by omega);have hlt:=take_lt h2 j;have hm:=Nat.div_add_mod (val (us.drop j)) V;have hr:=Nat.mod_lt (val (us.drop j)) hV;have e2:4294967296^j*(val (us.drop j)/V*V)+4294967296^j*(val (us.drop j) % V)=4294967296^j*val (us.drop j):=by
   rw[←Nat.mul_add];congr 1;rw[Nat.mul_comm];exact hm
  have h7:4294967296^j*(val (us.drop j) % V+1)≤4294967296^j*V:=Nat.mul_le_mul_left _ hr;rw[Nat.mul_add]at h7;rw[Nat.mul_comm V];omega
theorem dmInv_end {na m U0 V:Nat}{us out:List Nat}(h:dmInv na m U0 V 0 us out):val out=U0/V∧val us=U0 % V:=by
 obtain⟨h1,h2,h3,h4,h5,h6⟩:=h;simp only[List.drop_zero,Nat.pow_zero,Nat.one_mul]at h5 h6;have hV:0<V:=by omega
 constructor
 ·rw[←h5,Nat.add_mul_div_left _ _ hV,Nat.div_eq_of_lt h6,Nat.zero_add]
 ·rw[←h5,Nat.add_mul_mod_self_left,Nat.mod_eq_of_lt h6]
theorem norm_shift {b n s:Nat}(hn:sz b=n)(h2:0<n)(hlo:2147483648≤(limbs b).getD (n-1) 0*2^s)(hhi:((limbs b).getD (n-1) 0+1)*2^s≤4294967296):
  2^s*b<4294967296^n∧4294967296^n≤2*(2^s*b)∧sz (2^s*b)=n∧2147483648≤(limbs (2^s*b)).getD (n-1) 0:=by
 have hb:0<b:=by
  rcases eP_ b with h|h
  ·rw[h,sz_zero]at hn;omega
  ·exact h
 have e:=val_take_step (limbs b) (n-1);have hlt:=take_lt (lims_limbs b) (n-1);have hlen:(limbs b).length=n:=hn;rw[show n-1+1=n by omega,val_take_ge (k:=n) (by omega),val_limbs]at e;have hpn:4294967296^n=4294967296^(n-1)*4294967296:=by rw[←Nat.pow_succ];congr 1;omega
 generalize (limbs b).getD (n-1) 0=t at *
 generalize val ((limbs b).take (n-1))=lo at *
 have h1:b<4294967296^(n-1)*(t+1):=by rw[Nat.mul_add];omega
 have hup:2^s*b<4294967296^n:=by
  have h3:2^s*b<2^s*(4294967296^(n-1)*(t+1)):=Nat.mul_lt_mul_of_pos_left h1 (Nat.pow_pos (by decide));have e3:2^s*(4294967296^(n-1)*(t+1))=4294967296^(n-1)*((t+1)*2^s):=by grind
  have h4:4294967296^(n-1)*((t+1)*2^s)≤4294967296^(n-1)*4294967296:=Nat.mul_le_mul_left _ hhi;omega
 have hdn:4294967296^(n-1)*2147483648≤2^s*b:=by
  have h3:2^s*(4294967296^(n-1)*t)≤2^s*b:=Nat.mul_le_mul_left _ (by omega);have e3:2^s*(4294967296^(n-1)*t)=4294967296^(n-1)*(t*2^s):=by grind
  have h4:4294967296^(n-1)*2147483648≤4294967296^(n-1)*(t*2^s):=Nat.mul_le_mul_left _ hlo;omega
 have hsz:sz (2^s*b)=n:=by
  have h5:=sz_le hup;rcases Nat.lt_or_ge (sz (2^s*b)) n with h6|h6
  ·exfalso;have h7:=lt_pow_sz (2^s*b);have h8:4294967296^sz (2^s*b)≤4294967296^(n-1):=Nat.pow_le_pow_right (by decide) (by omega);have hp:0<4294967296^(n-1):=Nat.pow_pos (by decide);omega
  ·omega
 refine⟨hup,by omega,hsz,?_⟩;generalize 2^s*b=V at *
 have e5:=val_take_step (limbs V) (n-1);have hlt5:=take_lt (lims_limbs V) (n-1);have hlen5:(limbs V).length=n:=hsz;rw[show n-1+1=n by omega,val_take_ge (k:=n) (by omega),val_limbs]at e5;generalize (limbs V).getD (n-1) 0=t5 at *
 have h9:4294967296^(n-1)*2147483648<4294967296^(n-1)*(t5+1):=by rw[Nat.mul_add _ t5];omega
 have:=Nat.lt_of_mul_lt_mul_left h9;omega
end Nt
theorem bitLenAux_spec:∀(f x:Nat),x<2^f→x<2^Lib.bitLenAux f x∧(0<x→2^Lib.bitLenAux f x≤2*x)
 |0,x,h=>by simp at h;subst h;simp[Lib.bitLenAux]
 |f+1,x,h=>by
  by_cases h0:x=0
  ·subst h0;simp[Lib.bitLenAux]
  ·have ih:=bitLenAux_spec f (x/2) (by rw[Nat.pow_succ]at h;omega);simp only[Lib.bitLenAux,if_neg h0];rw[Nat.add_comm 1,Nat.pow_succ];refine⟨by omega,fun _=> ?_⟩;rcases eP_ (x/2)with hz|hz
   ·rw[hz];have:Lib.bitLenAux f 0=0:=by cases f<;>simp[Lib.bitLenAux]
    rw[this];omega
   ·have:=ih.2 hz;omega
theorem bitLen_spec {x:Nat}(h:x<18446744073709551616):x<2^Lib.bitLen x∧(0<x→2^Lib.bitLen x≤2*x):=bitLenAux_spec 64 x h
theorem lead_spec {t:Nat}(h0:0<t)(h:t<4294967296):∃s:Nat,(32:Int)-(Lib.bitLen t:Int)=(s:Int)∧s≤31∧2147483648≤t*2^s∧(t+1)*2^s≤4294967296:=by
 obtain⟨h1,h2⟩:=bitLen_spec (x:=t) (by omega);have h3:=h2 h0;generalize Lib.bitLen t=l at *
 have hl:l≤32:=by
  rcases Nat.lt_or_ge 32 l with h4|h4
  ·exfalso;have h5:2^33≤2^l:=Nat.pow_le_pow_right (by decide) h4;have e:2^33=8589934592:=by decide
   omega
  ·exact h4
 have hl0:1≤l:=by
  rcases eP_ l with h4|h4
  ·subst h4;simp at h1;omega
  ·exact h4
 refine⟨32-l,by omega,by omega,?_,?_⟩
 ·have e:2^l*2^(32-l)=4294967296:=by rw[←Nat.pow_add,show l+(32-l)=32 by omega]
  have h6:2^l*2^(32-l)≤2*t*2^(32-l):=Nat.mul_le_mul_right _ h3;rw[Nat.mul_assoc]at h6;omega
 ·have e:2^l*2^(32-l)=4294967296:=by rw[←Nat.pow_add,show l+(32-l)=32 by omega]
  have h6:(t+1)*2^(32-l)≤2^l*2^(32-l):=Nat.mul_le_mul_right _ h1;omega
theorem trim_fin_len {n k:Nat}{xs:List Nat}(hx:lims xs)(hn:xs.length=n)(hk:k≤n)(hk0:0<k)(hv:val (xs.take k)=val xs)(hne:xs.getD (k-1) 0≠0):k=sz (val xs):=by
 unfold sz;rw[←hv,limbs_val (lims_take hx k) (Or.inr (by simpa [List.getD,List.getElem?_take,show min k xs.length-1=k-1 by omega,show k-1<k by omega]using hne))];simp;omega
theorem trim_at (b off n cap:Nat)(xs:List Nat)(w:World)(h:Sl w (.slice (some ⟨b,off,none⟩) n cap) xs)(hpos:0<val xs):
  Calls Tryz.prog 151 #[.slice (some ⟨b,off,none⟩) n cap] w fun e w'=>e= .returned (.slice (some ⟨b,off,none⟩) (sz (val xs)) cap)∧Hid (Sl w (.slice (some ⟨b,off,none⟩) (sz (val xs)) cap) (limbs (val xs)))∧w=w':=by
 obtain⟨ad,n',cap',hv,hn,hnc,hm,hx,hs⟩:=h;injection hv with e1 e2 e3;subst e1 e2 e3;have Hn:=lH hn;clear hn;have Hx:=lH hx;clear hx;have Hp:=lH hpos;clear hpos
 go_enter Tryz.func151,Tryz.ntmps151
 go_wp2
 go_loop [3] (fun t=>∃k:Nat,k≤n∧t= .int .i64 k∧Hid (val (xs.take k)=val xs)) (fun t=>(intOf t).toNat)
 case atStart=>exact⟨n,lR_ _,rfl,lH (val_take_ge (by rw[Hn.out];exact lR_ _))⟩
 case round=>
  obtain⟨k,hk,rfl,Hv⟩:=hrel;have hk0:0<k:=by
   rcases eP_ k with h0|h0
   ·subst h0;have h1:=Hv.out;have h2:=Hp.out;simp[val]at h1;omega
   ·exact h0
  obtain⟨b',off',hb',hbw,hc⟩:=hs (by omega);injection hb' with hb';injection hb' with e4 e5;subst e4 e5;have hck:=hc (k-1) (by omega);have Hc:=lH hc;clear hc hs;go_wp2
  ·go_round
   case rel=>
    refine⟨k-1,by omega,by go_num,?_⟩;have h0:xs.getD (k-1) 0=0:=by have:=(by assumption:((((xs[k-1]?.getD 0:Nat):Int)==0)=true));simpa [List.getD]using this
    have:=val_take_step xs (k-1);rw[show k-1+1=k by omega,h0,Hv.out]at this;exact lH (by omega)
   case measure=>simp[intOf];omega
  ·go_ret
   have h0:xs.getD (k-1) 0≠0:=by have:=(by assumption:((((xs[k-1]?.getD 0:Nat):Int)==0)=false));simpa [List.getD]using this
   have hsz:=trim_fin_len Hx.out Hn.out hk hk0 Hv.out h0;refine⟨by rw[←hsz];rfl,?_,rfl⟩;rw[←hsz];exact lH (trim_fin Hx.out Hn.out hk hk0 hnc hm hbw Hc.out Hv.out h0)
structure Most (N b:Nat)(w w':World):Prop where
 os:w'.os=w.os
 tape:w'.tape=w.tape
 output:w'.output=w.output
 size:w.heap.size≤w'.heap.size
 block:∀k,k<N→k≠b→w'.heap[k]? =w.heap[k]?
theorem Most.refl (N b:Nat)(w:World):Most N b w w:=⟨rfl,rfl,rfl,lR_ _,fun _ _ _=>rfl⟩
theorem Most.below {N b M:Nat}{w w' w2:World}(h:Most N b w w')(hb:Below M w' w2)(hM:N≤M):Most N b w w2:=
 ⟨hb.os.trans h.os,hb.tape.trans h.tape,hb.output.trans h.output,tL_ h.size hb.size,fun k hk hn=>(hb.block k (by omega)).trans (h.block k hk hn)⟩
theorem Most.chg {N b:Nat}{w w' w2:World}(h:Most N b w w')(hc:Chg b w' w2):Most N b w w2:=
 ⟨hc.os.trans h.os,hc.tape.trans h.tape,hc.output.trans h.output,by rw[hc.size];exact h.size,fun k hk hn=>(hc.block k hn).trans (h.block k hk hn)⟩
theorem Most.setCell {N b c i:Nat}{w w':World}(h:Most N b w w')(hc:N≤c)(u:Value):Most N b w (w'.setCell ⟨c,i,none⟩ u):=
 ⟨h.os,h.tape,h.output,by simpa using h.size,fun k hk hn=>(Below.heap_setCell w' ⟨c,i,none⟩ u k (by show k≠c;omega)).trans (h.block k hk hn)⟩
theorem Most.cell {N b:Nat}{w w':World}(h:Most N b w w'){p:Addr}(hp:p.block<N)(hn:p.block≠b):w'.cell? p=w.cell? p:=World.cell?_of_block (w:=w) (h.block p.block hp hn)
theorem Most.toBelow {N b B:Nat}{w w':World}(h:Most N b w w')(hN:B≤N)(hb:B≤b):Below B w w':=
 ⟨h.os,h.tape,h.output,h.size,fun k hk=>h.block k (by omega) (by omega)⟩
theorem Sl.most {N b bv o n c:Nat}{w w':World}{xs:List Nat}(h:Sl w (.slice (some ⟨bv,o,none⟩) n c) xs)(hm:Most N b w w')(hne:bv≠b)(hN:w.heap.size≤N):Sl w' (.slice (some ⟨bv,o,none⟩) n c) xs:=by
 obtain⟨ad,n',cap,hv,hl,hc,hmm,hx,hs⟩:=h;refine⟨ad,n',cap,hv,hl,hc,hmm,hx,fun h0=> ?_⟩;obtain⟨b',off,ha,hbs,hcell⟩:=hs h0;have hbb:b'=bv:=by
  injection hv with e1 _ _;rw[ha]at e1;injection e1 with e1;injection e1 with e2 _ _;exact e2.symm
 subst hbb;exact⟨b',off,ha,Nat.lt_of_lt_of_le hbs hm.size,fun i hi=>(hm.cell (p:=⟨b',off+i,none⟩) (Nat.lt_of_lt_of_le hbs hN) hne).trans (hcell i hi)⟩
theorem Sl.cellsAt {bv o n c:Nat}{w:World}{xs:List Nat}(h:Sl w (.slice (some ⟨bv,o,none⟩) n c) xs):∀j,j<n→w.cell? ⟨bv,o+j,none⟩=some (.int .u32 ((xs.getD j 0:Nat):Int)):=by
 intro j hj;obtain⟨ad,n',cap,hv,hl,hc,hmm,hx,hs⟩:=h;injection hv with e1 e2 e3;subst e2;obtain⟨b',off,ha,hbs,hcell⟩:=hs (by omega);rw[ha]at e1;injection e1 with e1;injection e1 with e4 e5 _;subst e4 e5;exact hcell j hj
theorem Arr.chg {b c:Nat}{w w':World}{xs:List Nat}(h:Arr w b xs)(hc:Chg c w w')(hne:b≠c):Arr w' b xs:=by
 obtain⟨cur,e,hh,r⟩:=h;exact⟨cur,e,(hc.block b hne).trans hh,r⟩
theorem div_zero (v v':Value)(xs ys:List Nat)(w:World)(h:Sl w v xs)(h':Sl w v' ys)(h0:val ys=0):
  Calls Tryz.prog 155 #[v,v'] w (Ret w (Num2E 0 0 3)):=by
 go_enter Tryz.func155,Tryz.ntmps155
 go_wp2_with fail
 refine(trim_any _ xs _ h).mono ?_;rintro e w' ⟨v1,rfl,h1,rfl⟩
 go_wp2_with fail
 refine(trim_any _ ys _ h').mono ?_;rintro e w' ⟨v2,rfl,h2,rfl⟩;rw[h0,limbs_zero]at h2;obtain⟨ad,n,cap,rfl,hn,-⟩:=h2;have:n=0:=by simpa using hn.symm
 subst this;clear hn h h' h0 h1;go_wp2
 go_ret3
 exact⟨_,rfl,⟨_,_,rfl,by rw[limbs_zero];exact Sl.nil _,by rw[limbs_zero];exact Sl.nil _⟩,bR_ _ _⟩
theorem div_less (v v':Value)(xs ys:List Nat)(w:World)(h:Sl w v xs)(h':Sl w v' ys)(hlt:val xs<val ys):
  Calls Tryz.prog 155 #[v,v'] w (Ret w (Num2E 0 (val xs) 0)):=by
 have hp:=sz_pos (Nat.lt_of_le_of_lt (zL_ _) hlt);unfold sz at hp
 go_enter Tryz.func155,Tryz.ntmps155
 go_wp2_with fail
 refine(trim_any _ xs _ h).mono ?_;rintro e w' ⟨v1,rfl,h1,rfl⟩
 go_wp2_with fail
 refine(trim_any _ ys _ h').mono ?_;rintro e w' ⟨v2,rfl,h2,rfl⟩;have H2:=lH h2;obtain⟨ad,n,cap,rfl,hn,-⟩:=h2;have hne:((n:Int)==0)=false:=by simp;omega
 clear hn h h' hp
 go_wp2_with fail
 refine(cmp_any _ _ _ _ _ h1 H2.out).mono ?_;rintro e wc ⟨v3,rfl,h3,hbc⟩;unfold Val at h3;subst h3;have h1:=h1.below hbc;rw[val_limbs,val_limbs,cmpN_lt hlt];clear hlt
 go_wp2_with fail
 refine(make_any _ _ _ h1).mono ?_;rintro e w2 ⟨v4,rfl,h4,hb4⟩;unfold Num at h4;rw[val_limbs]at h4;go_wp2
 go_ret3
 exact⟨_,rfl,⟨_,_,rfl,by rw[limbs_zero];exact Sl.nil _,h4⟩,hbc.trans (hb4.mono hbc.size)⟩
theorem cmp_not_neg {a b:Nat}(h:b≤a):decide (cmpN a b<0)=false:=by
 have:0≤cmpN a b:=by
  rcases Nat.lt_or_ge b a with h'|h'
  ·rw[cmpN_gt h'];decide
  ·rw[cmpN_eq (by omega)];decide
 simp;exact this
theorem div_short (v v':Value)(xs ys:List Nat)(w:World)(h:Sl w v xs)(h':Sl w v' ys)(hx:xs.length≤4294967296)(hle:val ys≤val xs)(h1:sz (val ys)=1):
  Calls Tryz.prog 155 #[v,v'] w (Ret w (Num2E (val xs/val ys) (val xs % val ys) 0)):=by
 have hla:=sz_val h.lims;unfold sz at hla h1;have hcd:=cmp_not_neg hle;have hb0:0<val ys:=by
  rcases eP_ (val ys)with h0|h0
  ·rw[h0,limbs_zero]at h1;cases h1
  ·exact h0
 have Hva:=lH (val_limbs (val xs));have Hvb:=lH (val_limbs (val ys))
 go_enter Tryz.func155,Tryz.ntmps155
 go_wp2_with fail
 refine(trim_any _ xs _ h).mono ?_;rintro e w' ⟨v1,rfl,g1,rfl⟩
 go_wp2_with fail
 refine(trim_any _ ys _ h').mono ?_;rintro e w' ⟨v2,rfl,g2,rfl⟩;clear h h' hle;generalize val xs=a at *
 generalize val ys=b at *
 generalize limbs a=ls at *
 generalize limbs b=ms at *
 have hd1:val ms=ms.getD 0 0:=by
  have e:=val_take_step ms 0;rw[val_take_ge (by omega)]at e;simpa [val]using e
 have hd2:=lims_getD g2.lims 0;have hd3:1≤ms.getD 0 0:=by have:=Hvb.out;omega
 obtain⟨d,hd⟩:∃d,d=ms.getD 0 0:=⟨_,rfl⟩;have G2:=lH g2;obtain⟨ad,n,cap,rfl,hn,-,-,-,hs⟩:=g2;obtain⟨b1,off,rfl,hbw,hc⟩:=hs (by omega);have c1:=hc 0 (by omega);rw[Nat.add_zero,←hd]at c1;rw[←hd]at hd1 hd2 hd3;obtain rfl:n=1:=by omega
 have Hd1:=lH hd1;have Hl:Hid (ls.length≤8589934592):=lH (by omega);clear hn hs hc hd hd1 hla h1 hb0
 go_wp2_with fail
 refine(cmp_any _ _ _ _ _ g1 G2.out).mono ?_;rintro e wc ⟨v3,rfl,h3,hbc⟩;unfold Val at h3;subst h3;rw[Hva.out,Hvb.out];generalize cmpN a b=cm at *
 have g1:=g1.below hbc;have c1:=(hbc.cell (p:=⟨b1,off,none⟩) hbw).trans c1
 go_wp2_with fail
 refine(short_any _ ls d _ g1 Hl.out hd3 hd2).mono ?_;rintro e w2 ⟨v4,rfl,h4,hb4⟩;obtain⟨q,r,rfl,hq,hr⟩:=h4;rw[Hva.out,←Hd1.out,Hvb.out]at hq hr;go_wp2
 go_ret3
 exact⟨_,rfl,⟨_,_,rfl,hq,hr⟩,hbc.trans (hb4.mono hbc.size)⟩
theorem div_long (v v':Value)(xs ys:List Nat)(w:World)(h:Sl w v xs)(h':Sl w v' ys)(hx:xs.length≤4294967296)(hle:val ys≤val xs)(h1:2≤sz (val ys)):
  Calls Tryz.prog 155 #[v,v'] w (Ret w (Num2E (val xs/val ys) (val xs % val ys) 0)):=by
 have hla:=sz_val h.lims;have hsz:=sz_mono hle;have hcd:=cmp_not_neg hle;have hb0:0<val ys:=by
  rcases eP_ (val ys)with h0|h0
  ·rw[h0,sz_zero]at h1;cases h1
  ·exact h0
 have HL:=lH (limbs_last hb0);have Hva:=lH (val_limbs (val xs));have Hvb:=lH (val_limbs (val ys))
 go_enter Tryz.func155,Tryz.ntmps155
 go_wp2_with fail
 refine(trim_any _ xs _ h).mono ?_;rintro e w' ⟨v1,rfl,g1,rfl⟩
 go_wp2_with fail
 refine(trim_any _ ys _ h').mono ?_;rintro e w' ⟨v2,rfl,g2,rfl⟩;clear h h' hle;generalize val xs=a at *
 generalize val ys=b at *
 have G1:=lH g1;have G2:=lH g2;obtain⟨ad,n,cap,rfl,hn,-,-,-,hs⟩:=g2;have hnn:2≤n:=by unfold sz at h1;omega
 obtain⟨b1,off,rfl,hbw,hc⟩:=hs (by omega);have c1:=hc (n-1) (by omega);obtain⟨ad0,na,cap0,rfl,hna,-⟩:=g1;have hnan:n≤na:=by unfold sz at hsz;omega
 have hna4:na≤4294967296:=by unfold sz at hla;omega
 have Hna:Hid ((limbs a).length=na):=lH hna;have Hn:Hid (sz b=n):=lH hn;have ht:=lims_getD (lims_limbs b) (n-1);have ht0:0<(limbs b).getD (n-1) 0:=by have:=HL.out;rw[hn]at this;omega
 obtain⟨s,hse,hs31,hlo,hhi⟩:=lead_spec ht0 ht;have HS:=lH (norm_shift Hn.out (by omega) hlo hhi);obtain⟨t,hT⟩:∃t,t=(limbs b).getD (n-1) 0:=⟨_,rfl⟩;rw[←hT]at c1 ht hse;have Hse:=lH hse;have hn0:((n:Int)==0)=false:=by simp;omega
 have hn1:((n:Int)==1)=false:=by simp;omega
 clear hla hsz hb0 h1 hs hc hn hna ht0 hlo hhi hse hT
 go_wp2_with fail
 refine(cmp_any _ _ _ _ _ G1.out G2.out).mono ?_;rintro e wc ⟨v3,rfl,h3,hbc⟩;unfold Val at h3;subst h3;rw[Hva.out,Hvb.out];generalize cmpN a b=cm at *
 have g1:=G1.out.below hbc;have g2:=G2.out.below hbc;have c1:=(hbc.cell (p:=⟨b1,off+(n-1),none⟩) hbw).trans c1
 go_wp2_with fail
 refine(Tryz.bits_LeadingZeros32 _ _ (by omega) (by omega)).mono ?_;rintro e w2 ⟨rfl,rfl⟩;rw[Int.toNat_natCast,Hse.out]
 go_wp2_with fail
 refine(left_any _ _ s _ g1 (by have:=Hna.out;omega) hs31).mono ?_;rintro e wu ⟨vu,rfl,⟨bu,us,hvu,hbu,hAu,hlu,hul,huv⟩,hb5⟩;rw[Hna.out]at hvu hul;rw[Hva.out]at huv;subst hvu;have g2:=g2.below hb5;have hlb:(limbs b).length=n:=Hn.out
 go_wp2_with fail
 refine(left_any _ _ s _ g2 (by rw[hlb];omega) hs31).mono ?_;rintro e wv ⟨vv,rfl,⟨bv,os2,hvv,hbv,hAv,hlv,hvl,hvv2⟩,hb6⟩;rw[hlb]at hvv hvl;rw[Hvb.out]at hvv2;subst hvv;have hbuv:bv≠bu:=by have:=hAu.lt;omega
 have hAu:=hAu.below hb6 hAu.lt;have hVpos:0<val os2:=by
  rw[hvv2];have h3:=HS.out.2.1;have h4:0<4294967296^n:=Nat.pow_pos (by decide);omega
 have HV0:=lH (hAv.sl (cap:=n+1) hlv (n+1) hvl (lR_ _) (by omega));have Hb6:=lH ((hbc.trans (hb5.mono hbc.size)).trans (hb6.mono (tL_ hbc.size hb5.size)));have Hbu:=lH (tL_ hbc.size hbu);have Hwv:Hid (w.heap.size≤wv.heap.size):=lH (tL_ hbc.size (tL_ hb5.size hb6.size));have HbuN:Hid (bu<wv.heap.size):=lH hAu.lt;have Hul:=lH hul;have Hlu:=lH hlu;have Huv:=lH huv;have HAu:=lH hAu;clear g1 g2 c1 hlb hAv hlv hvl hbu hbv hlu hul huv hAu hb5 hb6 hbc hbw
 go_wp2_with fail
 refine(trim_at bv 0 (n+1) (n+1) os2 wv HV0.out hVpos).mono ?_;rintro e w' ⟨rfl,HV,rfl⟩;rw[hvv2,HS.out.2.2.1]at HV ⊢;have Hnorm:=lH HS.out.2.2.2;have HVn:=lH HS.out.1;have HVn2:=lH HS.out.2.1;have HVval:=lH (val_limbs (2^s*b));have HVlen:Hid ((limbs (2^s*b)).length=n):=lH HS.out.2.2.1;have HVpos:Hid (0<2^s*b):=lH (by rw[←hvv2];exact hVpos);obtain⟨m,hm⟩:∃m,m+n=na+1:=⟨na+1-n,by omega⟩;have Hm:=lH hm;have hm1:m+n≤na+1:=by omega
 have hm2:na+1≤m+n:=by omega
 have HU:Hid (2*(2^s*a)<4294967296*4294967296^na):=lH (by
  have h3:=lt_pow_sz a;have h4:sz a=na:=Hna.out;rw[h4]at h3;have h5:2^s≤2^31:=Nat.pow_le_pow_right (by decide) hs31;have h6:2^s*a<2^s*4294967296^na:=Nat.mul_lt_mul_of_pos_left h3 (Nat.pow_pos (by decide));have h7:2^s*4294967296^na≤2^31*4294967296^na:=Nat.mul_le_mul_right _ h5;have e31:2^31=2147483648:=by decide
  rw[e31]at h7;omega)
 have HQ:Hid (2^s*a/(2^s*b)=a/b):=lH (Nat.mul_div_mul_left _ _ (Nat.pow_pos (by decide)));have HM:Hid (2^s*a % (2^s*b)=2^s*(a % b)):=lH (Nat.mul_mod_mul_left _ _ _);clear hm hvv2 hVpos HV0 HS;generalize 2^s*b=V at *
 generalize 2^s*a=U0 at *
 generalize limbs V=vs at *
 go_wp2_with (at_make;refine wpList_make_u32 _ rfl _ _ _ rfl 150 Tryz.underlying28 Tryz.infoU32 _ m rfl rfl (by omega) (by omega) ?_;intro w0 hA0 hb0 _)
 have HT:=lH (dmInv_top (na:=na) (m:=m) (n:=n) Hul.out Hlu.out Huv.out Hm.out HVn2.out HU.out);have hAu0:=HAu.out.below hb0 HbuN.out;have HM0:Hid (Most wv.heap.size bu wv w0):=lH ((Most.refl _ _ _).below hb0 (lR_ _));clear g2 hAu hcd hn0 hn1;go_wp2
 go_loopw [13] (fun i wr=>∃k us out,k≤m∧i= .int .i64 ((k:Int)-1)∧Arr wr bu us∧Arr wr wv.heap.size out∧Hid (dmInv na m U0 V k us out)∧Hid (Most wv.heap.size bu wv wr)) (fun i _=>(intOf i+1).toNat)
 case atStart=>exact⟨m,us,_,lR_ _,rfl,hAu0,hA0,HT,HM0⟩
 case round=>
  clear hAu0 hA0 hb0;obtain⟨k,us1,out,hk,rfl,hAu,hAo,Hi,Hmo⟩:=hrel;rcases eP_ k with hk0|hk0
  ·subst hk0;have hE:=dmInv_end Hi.out;rw[HQ.out,HM.out]at hE;have HE:=lH hE;clear hE;have HS0:=lH (hAu.sl (cap:=na+1) Hi.out.2.1 (na+1) Hi.out.1 (lR_ _) (by omega));have hul4:us1.length≤8589934592:=by have:=Hi.out.1;omega
   have Hul4:=lH hul4;clear hul4
   go_wp2_with fail
   refine(shr_any _ us1 (s:Int) _ HS0.out Hul4.out).mono ?_;rintro e w5 ⟨v5,rfl,⟨v6,rfl,h6⟩,hb7⟩;rw[HE.out.2,shrN_yes (by omega),Nat.mul_div_cancel_left _ (Nat.pow_pos (by decide))]at h6;rw[shiftErr_yes (by omega)];have HO:=lH ((hAo.below hb7 hAo.lt).sl (cap:=m) Hi.out.2.2.2.1 m Hi.out.2.2.1 (lR_ _) (by omega));have HB:=lH (Hb6.out.trans (((Hmo.out.below hb7 Hmo.out.size).toBelow Hwv.out Hbu.out)));clear hAu hAo hb7
   go_wp2_with fail
   refine(trim_any _ out _ HO.out).mono ?_;rintro e w' ⟨v7,rfl,h7,rfl⟩;rw[HE.out.1]at h7;go_wp2
   go_ret3
   exact⟨_,rfl,⟨_,_,rfl,h7,h6⟩,HB.out⟩
  ·obtain⟨j,rfl⟩:∃j,k=j+1:=⟨k-1,by omega⟩;rw[show((j+1:Nat):Int)-1=(j:Int)from by omega];have HR:=lH (dmInv_round Hi.out (by omega) Hm.out HVn.out);have hul1:us1.length=na+1:=Hi.out.1;have HS1:=lH (hAu.slPart (off:=j) (n:=n+1) (cap:=na+1-j) Hi.out.2.1 (by omega) (by omega) (by omega));have HSv:=lH (HV.out.most Hmo.out hbuv (lR_ _));have hcj:¬na+1=j:=by omega
   have HW:Hid (val ((us1.drop j).take (n+1))=val (us1.drop j)):=lH (by
    have e:=val_take_drop (us1.drop j) (n+1) (by simp;omega);rw[List.drop_drop,show j+(n+1)=j+n+1 by omega,HR.out.1]at e;omega)
   have Hul1:=lH hul1;clear hul1;have hvpos:0<val vs:=by rw[HVval.out];exact HVpos.out
   have hqlt:val (us1.drop j)/val vs<4294967296:=by
    rw[Nat.div_lt_iff_lt_mul hvpos,HVval.out];exact HR.out.2
   have Hvpos:=lH hvpos;have Hqlt:=lH hqlt;clear hvpos hqlt
   go_wp2_with fail
   rw[show j+n+1-j=n+1 by omega];refine(estimate_any _ _ _ vs n _ HS1.out HSv.out (by have:=Hul1.out;simp;omega) HVlen.out hnn Hnorm.out (by rw[HW.out,HVval.out];exact HR.out.2)).mono ?_;rintro e we ⟨vq,rfl,⟨q,rfl,hq1,hq2⟩,hbe⟩;rw[HW.out]at hq1 hq2;have hq4:q≤4294967296:=by have:=Hqlt.out;omega
   have HRed:Hid (Red j n q us1 vs):=lH ⟨Hi.out.2.1,HV.out.lims,by have:=Hul1.out;omega,HVlen.out,HR.out.1,hq1,hq2,Hvpos.out,Hqlt.out⟩;have HCv:=lH (HSv.out.below hbe).cellsAt;have HAu1:=lH (hAu.below hbe hAu.lt);have HAo1:=lH (hAo.below hbe hAo.lt);have Hmo1:=lH (Hmo.out.below hbe Hmo.out.size);clear hAu hAo hbe hq1 hq2
   go_wp2_with fail
   refine(reduce_any bu j (na+1-j) n q _ bv 0 (n+1) us1 vs we rfl HAu1.out hbuv HCv.out HRed.out hq4 (by omega) (by omega)).mono ?_;rintro e w3 ⟨us2,rfl,hA2,hl2,hlen2,hv2,hch⟩;have hne:wv.heap.size≠bu:=by have:=HbuN.out;omega
   have hAo3:=HAo1.out.chg hch hne;have c3:=hAo3.cell j (by have:=Hi.out.2.2.1;omega);have c4:=hAo3.frozen j;have HST:=dmInv_step Hi.out (by omega) (by omega) HVpos.out (by rw[←HVval.out];exact Hqlt.out) hlen2 hl2 (by rw[←HVval.out];exact hv2);rw[←HVval.out]at HST;obtain⟨Qn,hQn⟩:∃Qn,Qn=val (us1.drop j)/val vs:=⟨_,rfl⟩;rw[←hQn]at HST ⊢;have HST':=lH HST;have HA2:=lH (hA2.other (b':=wv.heap.size) (i:=j) (u:= .int .u32 (Qn:Int)) hne.symm);have HAo3:=lH (hAo3.set j Qn);have Hmo3:=lH ((Hmo1.out.chg hch).setCell (c:=wv.heap.size) (i:=j) (lR_ _) (.int .u32 (Qn:Int)));clear HST hQn hA2 hAo3 hl2 hlen2 hv2 hch;go_wp2
   go_roundw
   case rel=>exact⟨j,us2,_,by omega,rfl,HA2.out,HAo3.out,by rw[HVval.out]at HST';exact HST',Hmo3⟩
   case measure=>simp[intOf]<;>omega
def dmR (a b:Nat):Nat:=if b=0 then 0 else a % b
def dmE (b:Nat):Int:=if b=0 then 3 else 0
theorem dmR_pos {a b:Nat}(h:0<b):dmR a b=a % b:=by simp[dmR,Nat.ne_of_gt h]
theorem dmE_pos {b:Nat}(h:0<b):dmE b=0:=by simp[dmE,Nat.ne_of_gt h]
theorem divmod_any (v v':Value)(xs ys:List Nat)(w:World)(h:Sl w v xs)(h':Sl w v' ys)(hx:xs.length≤4294967296):
  Calls Tryz.prog 155 #[v,v'] w (Ret w (Num2E (val xs/val ys) (dmR (val xs) (val ys)) (dmE (val ys)))):=by
 rcases eP_ (val ys)with h0|h0
 ·have:=div_zero v v' xs ys w h h' h0;rw[h0];simpa [dmR,dmE]using this
 ·rw[dmR_pos h0,dmE_pos h0];rcases Nat.lt_or_ge (val xs) (val ys)with hlt|hle
  ·rw[Nat.div_eq_of_lt hlt,Nat.mod_eq_of_lt hlt];exact div_less v v' xs ys w h h' hlt
  ·have h1:=sz_pos h0
   by_cases h2:sz (val ys)=1
   ·exact div_short v v' xs ys w h h' hx hle h2
   ·exact div_long v v' xs ys w h h' hx hle (by omega)
def uintN (n:Nat):Nat:=if n<18446744073709551616 then n else 0
def uintB (n:Nat):Bool:=decide (n<18446744073709551616)
def UintP (n:Nat)(_:World)(v:Value):Prop:=v= .tuple #[.int .u64 ((uintN n:Nat):Int),.bool (uintB n)]
theorem sz_le_two {n:Nat}:sz n≤2↔n<18446744073709551616:=by
 have e:4294967296^2=18446744073709551616:=by decide
 constructor
 ·intro h;have h1:=lt_pow_sz n;have h2:4294967296^sz n≤4294967296^2:=Nat.pow_le_pow_right (by decide) h;omega
 ·intro h;exact sz_le (by rw[e];exact h)
theorem or_step {t d k:Nat}(hk:k≤1)(ht:t<4294967296^k)(hd:d<4294967296):
  bits .or .u64 (t:Int) (IntKind.u64.wrap ((d:Int)*2^(32*k)))=((t+4294967296^k*d:Nat):Int):=by
 rcases eP_ k with h0|h0
 ·subst h0;have:t=0:=by simpa using ht
  subst this;have e:(d:Int)*2^(32*0)=(d:Int):=by simp
  have e2:IntKind.u64.wrap (d:Int)=(d:Int):=by rw[wrap_u64];omega
  rw[e,e2,show((0:Nat):Int)=0 from rfl];have:=u64_or_nat 0 d (by decide) (by omega);simpa using this
 ·obtain rfl:k=1:=by omega
  have e:(d:Int)*2^(32*1)=(d:Int)*4294967296:=by rfl
  have e2:IntKind.u64.wrap ((d:Int)*4294967296)=(d:Int)*4294967296:=by rw[wrap_u64];omega
  rw[e,e2];have:=or_high (x:=t) (y:=d) (by simpa using ht) hd;rw[this,Nat.pow_one]
theorem uint_any (v:Value)(xs:List Nat)(w:World)(h:Sl w v xs):Calls Tryz.prog 180 #[v] w (Ret w (UintP (val xs))):=by
 have H2:=lH (sz_le_two (n:=val xs));have Hva:=lH (val_limbs (val xs))
 go_enter Tryz.func180,Tryz.ntmps180
 go_wp2_with fail
 refine(trim_any _ xs _ h).mono ?_;rintro e w' ⟨v1,rfl,h1,rfl⟩;clear h;generalize val xs=a at *
 have Hn:Hid ((limbs a).length=sz a):=lH rfl;generalize limbs a=ls at *
 obtain⟨ad,n,cap,rfl,hn,hnc,hm,hx,hs⟩:=h1;have Hl:=lH hn;clear hn;have Hx:=lH hx;clear hx
 by_cases h2:2<n
 ·have HF:Hid (uintN a=0∧uintB a=false):=lH (by
   have h3:¬a<18446744073709551616:=fun h=>by
    have:=H2.out.2 h;have h4:=Hn.out;have h5:=Hl.out;omega
   simp[uintN,uintB,h3])
  clear hs;go_wp2
  go_ret2
  refine⟨_,rfl,?_,bR_ _ _⟩;unfold UintP;rw[HF.out.1,HF.out.2];rfl
 ·have HF:Hid (uintN a=a∧uintB a=true):=lH (by
   have h3:a<18446744073709551616:=H2.out.1 (by have h4:=Hn.out;have h5:=Hl.out;omega);simp[uintN,uintB,h3])
  go_wp2
  go_loop [4,14] (fun x i=>∃k t:Nat,k≤n∧i= .int .i64 ((k:Nat):Int)∧x= .int .u64 ((t:Nat):Int)∧Hid (t=val (ls.take k))) (fun _ i=>n-(intOf i).toNat)
  case atStart=>exact⟨0,0,by omega,rfl,rfl,lH rfl⟩
  case round=>
   obtain⟨k,t,hk,rfl,rfl,Ht⟩:=hrel
   by_cases hkn:k<n
   ·obtain⟨b,off,rfl,hbw,hc⟩:=hs (by omega);have c1:=hc k hkn;have bd:=lims_getD Hx.out k;obtain⟨d,hd⟩:∃d,d=ls.getD k 0:=⟨_,rfl⟩;rw[←hd]at c1 bd;have HO:=lH (or_step (t:=t) (d:=d) (k:=k) (by omega) (by rw[Ht.out];exact take_lt Hx.out k) bd);have Hd:=lH hd;clear hd hc hs;go_wp2
    go_round
    case rel=>exact⟨k+1,_,by omega,by go_num,congrArg (Value.int .u64) HO.out,lH (by rw[val_take_step,←Ht.out,←Hd.out])⟩
    case measure=>simp[intOf]<;>omega
   ·obtain rfl:k=n:=by omega
    have HT:Hid (t=a):=lH (by rw[Ht.out,val_take_ge (by have:=Hl.out;omega),Hva.out]);clear hs;go_wp2
    go_ret2
    refine⟨_,rfl,?_,bR_ _ _⟩;unfold UintP;rw[HF.out.1,HF.out.2,←HT.out];rfl
def blen (n:Nat):Nat:=if n=0 then 0 else Nat.log2 n+1
theorem blen_zero:blen 0=0:=rfl
theorem blen_uniq {n k:Nat}(h0:0<n)(h1:n<2^k)(h2:2^k≤2*n):blen n=k:=by
 unfold blen;rw[if_neg (by omega)];have h3:=Nat.log2_self_le (Nat.ne_of_gt h0);have h4:= @Nat.lt_log2_self n;have h5:Nat.log2 n<k:=(Nat.pow_lt_pow_iff_right (by decide:1<2)).1 (by omega);have h6:k<Nat.log2 n+2:=(Nat.pow_lt_pow_iff_right (by decide:1<2)).1 (by rw[show Nat.log2 n+2=(Nat.log2 n+1)+1 from rfl,Nat.pow_succ];omega);omega
theorem blen_top {n:Nat}(h0:0<n):blen n=32*(sz n-1)+Lib.bitLen ((limbs n).getD (sz n-1) 0):=by
 have hp:=sz_pos h0;have hne:=limbs_last h0;have hlt:=lims_getD (lims_limbs n) (sz n-1);have e:=val_take_step (limbs n) (sz n-1);have ht:=take_lt (lims_limbs n) (sz n-1);rw[show sz n-1+1=sz n by omega,val_take_ge (k:=sz n) (by unfold sz;omega),val_limbs]at e;have hne':(limbs n).getD (sz n-1) 0≠0:=hne;generalize (limbs n).getD (sz n-1) 0=t at *
 obtain⟨h1,h2⟩:=bitLen_spec (x:=t) (by omega);have h3:=h2 (by omega);have e32:2^(32*(sz n-1))=4294967296^(sz n-1):=by rw[Nat.pow_mul]
 apply blen_uniq h0
 ·rw[Nat.pow_add,e32];have h4:4294967296^(sz n-1)*(t+1)≤4294967296^(sz n-1)*2^Lib.bitLen t:=Nat.mul_le_mul_left _ h1;rw[Nat.mul_add]at h4;omega
 ·rw[Nat.pow_add,e32];have h4:4294967296^(sz n-1)*2^Lib.bitLen t≤4294967296^(sz n-1)*(2*t):=Nat.mul_le_mul_left _ h3;have e4:4294967296^(sz n-1)*(2*t)=2*(4294967296^(sz n-1)*t):=by grind
  omega
theorem bitLen_le {t:Nat}(h:t<4294967296):Lib.bitLen t≤32:=by
 rcases eP_ t with h0|h0
 ·subst h0;decide
 ·obtain⟨s,hs,_⟩:=lead_spec h0 h;omega
theorem bits_any (v:Value)(xs:List Nat)(w:World)(h:Sl w v xs)(hx:xs.length≤8589934592):Calls Tryz.prog 113 #[v] w (Ret w (Val (.int .i64 ((blen (val xs):Nat):Int)))):=by
 have hla:=sz_val h.lims
 go_enter Tryz.func113,Tryz.ntmps113
 go_wp2_with fail
 refine(trim_any _ xs _ h).mono ?_;rintro e w' ⟨v1,rfl,h1,rfl⟩;clear h;generalize val xs=a at *
 rcases eP_ a with h0|h0
 ·subst h0;rw[limbs_zero]at h1;obtain⟨ad,n,cap,rfl,hn,-⟩:=h1;have:n=0:=by simpa using hn.symm
  subst this;clear hn hla;rw[blen_zero];go_wp2
  go_ret
  exact⟨_,rfl,rfl,bR_ _ _⟩
 ·have HT:=lH (blen_top h0);have hp:=sz_pos h0;have hlt:=lims_getD (lims_limbs a) (sz a-1);obtain⟨ad,n,cap,rfl,hn,hnc,hm,hx,hs⟩:=h1;obtain rfl:n=sz a:=hn.symm;obtain⟨b,off,rfl,hbw,hc⟩:=hs hp;have c1:=hc (sz a-1) (by omega);obtain⟨t,ht⟩:∃t,t=(limbs a).getD (sz a-1) 0:=⟨_,rfl⟩;rw[←ht]at c1 hlt HT;have hb32:=bitLen_le hlt;generalize blen a=bl at *
  generalize sz a=n at *
  have hne:((n:Int)==0)=false:=by simp;omega
  clear hc hs ht hn hx h0
  go_wp2_with fail
  refine(Tryz.bits_Len32 _ _ (by omega) (by omega)).mono ?_;rintro e w2 ⟨rfl,rfl⟩;rw[Int.toNat_natCast];generalize Lib.bitLen t=l at *
  go_wp2
  go_ret
  refine⟨_,rfl,?_,bR_ _ _⟩;show Value.int _ _=Value.int _ _;rw[HT.out]
  congr 1
  omega
theorem Sl.uniq {w:World}{v:Value}{xs ys:List Nat}(h:Sl w v xs)(h':Sl w v ys):xs=ys:=by
 obtain⟨ad,n,cap,hv,hl,_,_,_,hs⟩:=h;obtain⟨ad',n',cap',hv',hl',_,_,_,hs'⟩:=h';rw[hv]at hv';injection hv' with e1 e2 e3;subst e1 e2 e3;refine list_ext_getD (by omega) fun i hi=> ?_;obtain⟨b,off,ha,_,hc⟩:=hs (by omega);obtain⟨b',off',ha',_,hc'⟩:=hs' (by omega);rw[ha]at ha';injection ha' with ha';injection ha' with e4 e5 _;subst e4 e5;have h1:=hc i (by omega);have h2:=hc' i (by omega);rw[h1]at h2;injection h2 with h2;injection h2 with _ h2;omega
noncomputable def numOf (w:World)(v:Value):Nat:=open Classical in if h:∃n,Sl w v (limbs n)then h.choose else 0
theorem numOf_eq {w:World}{v:Value}{n:Nat}(h:Sl w v (limbs n)):numOf w v=n:=by
 unfold numOf;have hex:∃n,Sl w v (limbs n):=⟨n,h⟩;rw[dif_pos hex];exact limbs_inj (hex.choose_spec.uniq h)
theorem gcd_swap {x y:Nat}:Nat.gcd y (x % y)=Nat.gcd x y:=by
 rw[Nat.gcd_comm x y,Nat.gcd_rec y x,Nat.gcd_comm]
theorem gcd_any (v v':Value)(xs ys:List Nat)(w:World)(h:Sl w v xs)(h':Sl w v' ys)(hx:xs.length≤4294967296)(hy:ys.length≤4294967296):
  Calls Tryz.prog 154 #[v,v'] w (Ret w (Num (Nat.gcd (val xs) (val ys)))):=by
 have hla:=sz_val h.lims;have hlb:=sz_val h'.lims
 go_enter Tryz.func154,Tryz.ntmps154
 go_wp2_with fail
 refine(trim_any _ xs _ h).mono ?_;rintro e w' ⟨v1,rfl,h1,rfl⟩
 go_wp2_with fail
 refine(trim_any _ ys _ h').mono ?_;rintro e w' ⟨v2,rfl,h2,rfl⟩;clear h h';obtain⟨G,hG⟩:∃G,G=Nat.gcd (val xs) (val ys):=⟨_,rfl⟩;rw[←hG];have H0:Hid (sz (val xs)≤4294967296∧sz (val ys)≤4294967296):=lH (by omega);generalize val xs=a at *
 generalize val ys=b at *
 have HG:=lH hG;clear hG hla hlb;have H1:=lH h1;clear h1;have H2:=lH h2;clear h2
 go_wp2_with fail
 go_loopw [0,1] (fun va vb wr=>∃x y:Nat,Hid (Sl wr va (limbs x))∧Hid (Sl wr vb (limbs y))∧Hid (sz x≤4294967296∧sz y≤4294967296)∧Hid (G=Nat.gcd x y)∧Below w.heap.size w wr) (fun _ vb wr=>numOf wr vb)
 case atStart=>exact⟨a,b,H1,H2,H0,HG,bR_ _ _⟩
 case round=>
  obtain⟨x,y,HX,HY,Hs,Hg,hbl⟩:=hrel;have HYb:=HY;obtain⟨ad,n,cap,rfl,hn,-⟩:=HY.out;have Hn:Hid (sz y=n):=lH hn;clear hn HY
  by_cases h2:2<n
  ·have hy0:0<y:=by
    rcases eP_ y with h0|h0
    ·have:=Hn.out;rw[h0,sz_zero]at this;omega
    ·exact h0
   have Hy0:=lH hy0;clear hy0
   go_wp2_with fail
   refine(divmod_any _ _ (limbs x) (limbs y) _ HX.out HYb.out Hs.out.1).mono ?_;rintro e w2 ⟨v3,rfl,⟨q,r,rfl,-,hr⟩,hb2⟩;rw[val_limbs,val_limbs,dmR_pos Hy0.out]at hr;have HY2:=lH (HYb.out.below hb2);have HR:=lH hr;have HB:=lH (hbl.trans (hb2.mono hbl.size));have HN:=lH (numOf_eq HYb.out);clear hr hb2 hbl;go_wp2
   go_roundw
   case rel=>
    exact⟨y,x % y,HY2,HR,lH ⟨Hs.out.2,tL_ (sz_mono (Nat.le_of_lt (Nat.mod_lt x Hy0.out))) Hs.out.2⟩,lH (by rw[gcd_swap];exact Hg.out),HB.out⟩
   case measure=>
    show numOf _ _<numOf _ _;rw[numOf_eq HR.out];rw[show numOf wr _=y from HN.out];exact Nat.mod_lt x Hy0.out
  ·by_cases h0:n=0
   ·subst h0;have hy0:y=0:=sz_eq_zero.1 Hn.out;subst hy0;have HG2:Hid (G=x):=lH (by rw[Hg.out,Nat.gcd_zero_right])
    go_wp2_with fail
    refine(make_any _ _ _ HX.out).mono ?_;rintro e w2 ⟨v3,rfl,h3,hb2⟩;unfold Num at h3;rw[val_limbs,←HG2.out]at h3;have HB:=hbl.trans (hb2.mono hbl.size);clear hb2 hbl;go_wp2
    go_ret
    exact⟨_,rfl,by rw[←HG.out];exact h3,HB⟩
   ·have hne:((n:Int)==0)=false:=by simp;exact h0
    have hy0:0<y:=by
     rcases eP_ y with h0'|h0'
     ·have:=Hn.out;rw[h0',sz_zero]at this;omega
     ·exact h0'
    have hy64:y<18446744073709551616:=sz_le_two.1 (by have:=Hn.out;omega);have Hy0:=lH hy0;clear hy0;have Hy64:=lH hy64;clear hy64
    go_wp2_with fail
    refine(divmod_any _ _ (limbs x) (limbs y) _ HX.out HYb.out Hs.out.1).mono ?_;rintro e w2 ⟨v3,rfl,⟨q,r,rfl,-,hr⟩,hb2⟩;rw[val_limbs,val_limbs,dmR_pos Hy0.out]at hr;have HY2:=lH (HYb.out.below hb2);have HR:=lH hr;have HB:=lH (hbl.trans (hb2.mono hbl.size));clear hr hb2 hbl
    go_wp2_with fail
    refine(uint_any _ (limbs y) _ HY2.out).mono ?_;rintro e w3 ⟨v4,rfl,h4,hb3⟩;unfold UintP at h4;subst h4;have HR2:=lH (HR.out.below hb3);have HB2:=lH (HB.out.trans (hb3.mono HB.out.size));clear hb3
    go_wp2_with fail
    refine(uint_any _ (limbs (x % y)) _ HR2.out).mono ?_;rintro e w4 ⟨v5,rfl,h5,hb4⟩;unfold UintP at h5;subst h5;have HB3:=lH (HB2.out.trans (hb4.mono HB2.out.size));clear hb4;have hr64:x % y<18446744073709551616:=by have:=Nat.mod_lt x Hy0.out;have:=Hy64.out;omega
    have e1:uintN (val (limbs y))=y:=by rw[val_limbs];exact if_pos Hy64.out
    have e2:uintN (val (limbs (x % y)))=x % y:=by rw[val_limbs];exact if_pos hr64
    have Hr64:=lH hr64;clear hr64;rw[e1,e2];clear e1 e2;have HG3:Hid (G=Nat.gcd y (x % y)):=lH (by rw[gcd_swap];exact Hg.out);obtain⟨z,hz⟩:∃z,z=x % y:=⟨_,rfl⟩;rw[←hz]at HG3 Hr64 ⊢;clear hz;generalize uintB (val (limbs y))=b1;generalize uintB (val (limbs (x % y)))=b2;clear HX HYb HY2 HR HR2 HB HB2 Hs Hg Hy0 Hn
    go_wp2_with fail
    go_loopw [11,13] (fun p q wr=>∃x y:Nat,p= .int .u64 (x:Int)∧q= .int .u64 (y:Int)∧x<18446744073709551616∧y<18446744073709551616∧Hid (G=Nat.gcd x y)∧Hid (Below w.heap.size w wr)) (fun _ q _=>(intOf q).toNat)
    case atStart=>exact⟨y,z,rfl,rfl,Hy64.out,Hr64.out,HG3,HB3⟩
    case round=>
     obtain⟨p,q,rfl,rfl,hp,hq,HG4,HB4⟩:=hrel
     by_cases hq0:q=0
     ·subst hq0;have HP:Hid (p=G):=lH (by rw[HG4.out,Nat.gcd_zero_right])
      go_wp2_with fail
      refine(of_any p _ hp).mono ?_;rintro e w5 ⟨v6,rfl,h6,hb6⟩;unfold Num at h6;rw[HP.out]at h6;have HB5:=HB4.out.trans (hb6.mono HB4.out.size);clear hb6;go_wp2
      go_ret
      exact⟨_,rfl,by rw[←HG.out];exact h6,HB5⟩
     ·have hq1:1≤q:=by omega
      have HMq:Hid (p % q<q∧G=Nat.gcd q (p % q)):=lH ⟨Nat.mod_lt p (by omega),by rw[gcd_swap];exact HG4.out⟩;go_wp2
      go_quiet (fail)
      go_wp2
      go_roundw
      case rel=>exact⟨q,p % q,rfl,congrArg (Value.int .u64) (Int.natCast_emod p q).symm,hq,by have:=HMq.out.1;omega,lH HMq.out.2,lH (below_drewN HB4.out _)⟩
      case measure=>
       have e:((p:Int) % (q:Int))=((p % q:Nat):Int):=by simp
       simp only[intOf];rw[e];have:=HMq.out.1;omega
theorem rcmp_any (v v':Value)(xs ys:List Nat)(w:World)(h:Sl w v xs)(h':Sl w v' ys):
  Calls Tryz.prog 192 #[v,v'] w (Ret w (Val (.int .i64 (cmpN (val xs) (val ys))))):=by
 have hxl:=h.len;have hyl:=h'.len;have Hx:=lH h.lims;have Hy:=lH h'.lims;have H:=lH h;have H':=lH h';obtain⟨ad,n,cap,rfl,hn,-⟩:=h;obtain⟨ad',n',cap',rfl,hn',-⟩:=h';have hb:n≤1099511627776:=by omega
 have hb':n'≤1099511627776:=by omega
 have Hn:=lH hn;have Hn':=lH hn';obtain⟨m,hm⟩:∃m:Nat,m=max n n':=⟨_,rfl⟩;have Hm:Hid (xs.length≤m∧ys.length≤m):=lH (by omega);have hmb:m≤1099511627776:=by omega
 have hmax:max (n:Int) (n':Int)=(m:Int):=by omega
 clear hn hn' hxl hyl hm
 go_enter Tryz.func192,Tryz.ntmps192
 go_wp2_with fail
 go_loop [5] (fun i=>∃k:Nat,k≤m∧i= .int .i64 ((k:Int)-1)∧Hid (agree xs ys k)) (fun i=>(intOf i+1).toNat)
 case atStart=>exact⟨m,lR_ _,rfl,lH (agree_top Hm.out.1 Hm.out.2)⟩
 case round=>
  obtain⟨k,hk,rfl,Hs⟩:=hrel;rcases eP_ k with hk0|hk0
  ·subst hk0;have HF:Hid (cmpN (val xs) (val ys)=0):=lH (cmpN_eq (agree_zero Hs.out));go_wp2
   go_ret
   refine⟨_,rfl,?_,bR_ _ _⟩;show Value.int _ _=Value.int _ _;rw[HF.out]
  ·obtain⟨j,rfl⟩:∃j,k=j+1:=⟨k-1,by omega⟩;rw[show((j+1:Nat):Int)-1=(j:Int)from by omega];obtain⟨x,hx⟩:∃x,x=xs.getD j 0:=⟨_,rfl⟩;obtain⟨y,hy⟩:∃y,y=ys.getD j 0:=⟨_,rfl⟩;have L1:=lH (limb_any _ xs j w H.out (by omega));have L2:=lH (limb_any _ ys j w H'.out (by omega));rw[←hx]at L1;rw[←hy]at L2;have Hx':=lH hx;clear hx;have Hy':=lH hy;clear hy;rcases Nat.lt_trichotomy x y with hlt|heq|hgt
   ·have HF:Hid (cmpN (val xs) (val ys)= -1):=lH (cmpN_lt (agree_lt Hs.out Hx.out (by rw[←Hx'.out,←Hy'.out];exact hlt)))
    go_wp2_with fail
    refine L1.out.mono ?_;rintro e w' ⟨rfl,rfl⟩
    go_wp2_with fail
    refine L2.out.mono ?_;rintro e w' ⟨rfl,rfl⟩;go_wp2
    go_ret
    refine⟨_,rfl,?_,bR_ _ _⟩;show Value.int _ _=Value.int _ _;rw[HF.out]
   ·subst heq;have HA:=lH (agree_step Hs.out (by rw[←Hx'.out,←Hy'.out]))
    go_wp2_with fail
    refine L1.out.mono ?_;rintro e w' ⟨rfl,rfl⟩
    go_wp2_with fail
    refine L2.out.mono ?_;rintro e w' ⟨rfl,rfl⟩
    go_wp2_with fail
    refine L1.out.mono ?_;rintro e w' ⟨rfl,rfl⟩
    go_wp2_with fail
    refine L2.out.mono ?_;rintro e w' ⟨rfl,rfl⟩;go_wp2
    go_round
    case rel=>exact⟨j,by omega,by go_num,HA⟩
    case measure=>simp[intOf]<;>omega
   ·have HF:Hid (cmpN (val xs) (val ys)=1):=lH (cmpN_gt (agree_gt Hs.out Hy.out (by rw[←Hx'.out,←Hy'.out];exact hgt)))
    go_wp2_with fail
    refine L1.out.mono ?_;rintro e w' ⟨rfl,rfl⟩
    go_wp2_with fail
    refine L2.out.mono ?_;rintro e w' ⟨rfl,rfl⟩
    go_wp2_with fail
    refine L1.out.mono ?_;rintro e w' ⟨rfl,rfl⟩
    go_wp2_with fail
    refine L2.out.mono ?_;rintro e w' ⟨rfl,rfl⟩;go_wp2
    go_ret
    refine⟨_,rfl,?_,bR_ _ _⟩;show Value.int _ _=Value.int _ _;rw[HF.out]
def raddInv (k c:Nat)(os xs ys:List Nat):Prop:=os.length=k∧lims os∧c≤1∧val os+4294967296^k*c=val (xs.take k)+val (ys.take k)
theorem raddInv_zero (xs ys:List Nat):raddInv 0 0 [] xs ys:=⟨rfl,lims_nil,by decide,by simp[val]⟩
theorem raddInv_step {k c:Nat}{os xs ys:List Nat}(h:raddInv k c os xs ys)(hx:lims xs)(hy:lims ys)(z:Int)(hz:z=(c:Int)+((xs.getD k 0:Nat)+(ys.getD k 0:Nat))):
  raddInv (k+1) (z/4294967296).toNat (os++[(z % 4294967296).toNat]) xs ys:=by
 obtain⟨h1,h2,h3,h4⟩:=h;have b1:=lims_getD hx k;have b2:=lims_getD hy k;refine⟨by simp[h1],lims_append h2 (lims_cons (by omega) lims_nil),by omega,?_⟩;rw[val_snoc,h1,val_take_step xs,val_take_step ys,Nat.pow_succ];have:=add_step (o:=val os) (x:=val (xs.take k)+val (ys.take k)) (y:=xs.getD k 0+ys.getD k 0) (p:=4294967296^k) (c:=c) (d:=(z % 4294967296).toNat) (o':=(z/4294967296).toNat) h4 (by omega);rw[this,Nat.mul_add];omega
theorem raddInv_end {k c:Nat}{os xs ys:List Nat}(h:raddInv k c os xs ys)(hx:xs.length≤k)(hy:ys.length≤k):lims (os++[c])∧(os++[c]).length=k+1∧val (os++[c])=val xs+val ys:=by
 obtain⟨h1,h2,h3,h4⟩:=h;refine⟨lims_append h2 (lims_cons (by omega) lims_nil),by simp[h1],?_⟩;rw[val_snoc,h1,h4,val_take_ge hx,val_take_ge hy]
theorem radd_any (v v':Value)(xs ys:List Nat)(w:World)(h:Sl w v xs)(h':Sl w v' ys)(hxl:xs.length≤4294967296)(hyl:ys.length≤4294967296):
  Calls Tryz.prog 165 #[v,v'] w (Ret w (Num (val xs+val ys))):=by
 have Hx:=lH h.lims;have Hy:=lH h'.lims;have H:=lH h;have H':=lH h';obtain⟨ad,n,cap,rfl,hn,-⟩:=h;obtain⟨ad',n',cap',rfl,hn',-⟩:=h';have hb:n≤4294967296:=by omega
 have hb':n'≤4294967296:=by omega
 have Hn:=lH hn;have Hn':=lH hn';clear hn hn' hxl hyl
 go_enter Tryz.func165,Tryz.ntmps165
 go_wp2_with fail
 go_loopw [5,6,7] (fun o cy i wr=>∃(k c:Nat) (os:List Nat),k≤4294967296∧i= .int .i64 (k:Int)∧cy= .int .u64 (c:Int)∧Hid (OwnU wr w.heap.size 150 o os)∧Hid (raddInv k c os xs ys)∧Hid (Below w.heap.size w wr)) (fun _ _ i _=>4294967296-(intOf i).toNat)
 case atStart=>exact⟨0,0,[],by omega,rfl,rfl,lH (OwnU.nil _ _ _),lH (raddInv_zero _ _),lH (bR_ _ _)⟩
 case round=>
  obtain⟨k,c,os,hk,rfl,rfl,HO,Hs,Hbl⟩:=hrel;have hc1:=Hs.out.2.2.1;obtain⟨x,hx⟩:∃x,x=xs.getD k 0:=⟨_,rfl⟩;obtain⟨y,hy⟩:∃y,y=ys.getD k 0:=⟨_,rfl⟩;have bx:=lims_getD Hx.out k;have by':=lims_getD Hy.out k;have L1:=lH (limb_any _ xs k _ (H.out.below Hbl.out) (by omega));have L2:=lH (limb_any _ ys k _ (H'.out.below Hbl.out) (by omega));rw[←hx]at L1 bx;rw[←hy]at L2 by';have Hx':=lH hx;clear hx;have Hy':=lH hy;clear hy;have Hosl:Hid (os.length≤1099511627776):=lH (by have:=Hs.out.1;omega)
  by_cases hkn:k<n∨k<n'
  ·have hk4:k<4294967296:=by omega
   by_cases hkn1:k<n
   ·clear hkn
    go_wp2_with fail
    refine L1.out.mono ?_;rintro e w' ⟨rfl,rfl⟩
    go_wp2_with fail
    refine L2.out.mono ?_;rintro e w' ⟨rfl,rfl⟩
    go_wp2_with (at_builtin;refine wpList_push_u32 _ rfl _ _ _ _ rfl 150 Tryz.underlying27 Tryz.underlying27 Tryz.infoU32 w.heap.size _ os rfl (HO.out.below ((bR_ _ _).alloc (lR_ _) _) (lR_ _)) _ 1 (((c:Int)+((x:Int)+(y:Int))) % 4294967296) rfl (by simp) (by omega) Hosl.out (by have:=Hbl.out.size;simp;omega) ?_;intro v3 w3 h3 hb3)
    go_wp2
    go_roundw
    case rel=>
     exact⟨k+1,_,_,by omega,by go_num,congrArg (Value.int .u64) (Int.toNat_of_nonneg (by omega)).symm,lH h3,lH (raddInv_step Hs.out Hx.out Hy.out _ (by rw[←Hx'.out,←Hy'.out])),lH ((Hbl.out.alloc Hbl.out.size _).trans hb3)⟩
    case measure=>simp[intOf]<;>omega
   ·have hkn2:k<n':=by omega
    clear hkn
    go_wp2_with fail
    refine L1.out.mono ?_;rintro e w' ⟨rfl,rfl⟩
    go_wp2_with fail
    refine L2.out.mono ?_;rintro e w' ⟨rfl,rfl⟩
    go_wp2_with (at_builtin;refine wpList_push_u32 _ rfl _ _ _ _ rfl 150 Tryz.underlying27 Tryz.underlying27 Tryz.infoU32 w.heap.size _ os rfl (HO.out.below ((bR_ _ _).alloc (lR_ _) _) (lR_ _)) _ 1 (((c:Int)+((x:Int)+(y:Int))) % 4294967296) rfl (by simp) (by omega) Hosl.out (by have:=Hbl.out.size;simp;omega) ?_;intro v3 w3 h3 hb3)
    go_wp2
    go_roundw
    case rel=>
     exact⟨k+1,_,_,by omega,by go_num,congrArg (Value.int .u64) (Int.toNat_of_nonneg (by omega)).symm,lH h3,lH (raddInv_step Hs.out Hx.out Hy.out _ (by rw[←Hx'.out,←Hy'.out])),lH ((Hbl.out.alloc Hbl.out.size _).trans hb3)⟩
    case measure=>simp[intOf]<;>omega
  ·have hk1:¬k<n:=by omega
   have hk2:¬k<n':=by omega
   have HE:=lH (raddInv_end Hs.out (by have:=Hn.out;omega) (by have:=Hn'.out;omega));clear hkn L1 L2
   go_wp2_with (at_builtin;refine wpList_push_u32 _ rfl _ _ _ _ rfl 150 Tryz.underlying27 Tryz.underlying27 Tryz.infoU32 w.heap.size _ os rfl (HO.out.below ((bR_ _ _).alloc (lR_ _) _) (lR_ _)) _ 1 ((c:Int)) rfl (by simp) (by omega) Hosl.out (by have:=Hbl.out.size;simp;omega) ?_;intro v3 w3 h3 hb3)
   rw[Int.toNat_natCast]at h3;have HB:=lH ((Hbl.out.alloc Hbl.out.size _).trans hb3);clear hb3
   go_wp2_with fail
   refine(rmake_any _ _ _ (h3.sl HE.out.1 (by rw[HE.out.2.1];omega))).mono ?_;rintro e w4 ⟨v4,rfl,h4,hb4⟩;rw[HE.out.2.2]at h4;have HB2:=HB.out.trans (hb4.mono HB.out.size);clear hb4;go_wp2
   go_ret
   exact⟨_,rfl,h4,HB2⟩
def rsubInv (k c:Nat)(os xs ys:List Nat):Prop:=os.length=k∧lims os∧c≤1∧val os+val (ys.take k)=val (xs.take k)+4294967296^k*c
theorem rsubInv_zero (xs ys:List Nat):rsubInv 0 0 [] xs ys:=⟨rfl,lims_nil,by decide,by simp[val]⟩
theorem rsubInv_step {k c o d:Nat}{os xs ys:List Nat}(h:rsubInv k c os xs ys)(hx:lims xs)(hy:lims ys)(hd:d+ys.getD k 0+c=xs.getD k 0+4294967296*o)(hd1:d<4294967296):
  rsubInv (k+1) o (os++[d]) xs ys:=by
 obtain⟨h1,h2,h3,h4⟩:=h;have b1:=lims_getD hx k;have b2:=lims_getD hy k;refine⟨by simp[h1],lims_append h2 (lims_cons hd1 lims_nil),by omega,?_⟩;rw[val_snoc,h1,val_take_step xs,val_take_step ys,Nat.pow_succ];have e:4294967296^k*(d+ys.getD k 0+c)=4294967296^k*(xs.getD k 0+4294967296*o):=by rw[hd]
 rw[Nat.mul_add,Nat.mul_add,Nat.mul_add,←Nat.mul_assoc]at e;omega
theorem rsubInv_end {n c:Nat}{os xs ys:List Nat}(h:rsubInv n c os xs ys)(hx:lims xs)(hn:xs.length=n)(hle:val ys≤val xs):lims os∧os.length=n∧val os=val xs-val ys:=by
 obtain⟨h1,h2,h3,h4⟩:=h;refine⟨h2,h1,?_⟩;have hxl:=val_lt hx;rw[hn]at hxl;have hyt:val (ys.take n)=val ys:=by
  rcases Nat.lt_or_ge n ys.length with hlt|hge
  ·have e:=val_take_drop ys n (by omega);have:val (ys.drop n)=0:=by
    rcases eP_ (val (ys.drop n))with h0|h0
    ·exact h0
    ·have:4294967296^n*1≤4294967296^n*val (ys.drop n):=Nat.mul_le_mul_left _ h0;omega
   rw[this]at e;omega
  ·exact val_take_ge hge
 rw[hyt,val_take_ge (xs:=xs) (by omega)]at h4;have:=val_lt h2;rw[h1]at this;have hc:c=0:=by
  rcases eP_ c with h|h
  ·exact h
  ·have:c=1:=by omega
   subst this;omega
 subst hc;omega
def NumEF (B n:Nat)(err:Int)(w:World)(v:Value):Prop:=∃a,v= .tuple #[a,.int .i64 err]∧Sl w a (limbs n)∧FreshS B a
theorem rsub_noF (v v':Value)(xs ys:List Nat)(w:World)(h:Sl w v xs)(h':Sl w v' ys)(hlt:val xs<val ys):
  Calls Tryz.prog 166 #[v,v'] w (Ret w (NumEF w.heap.size 0 2)):=by
 go_enter Tryz.func166,Tryz.ntmps166
 go_wp2_with fail
 refine(rcmp_any _ _ _ _ _ h h').mono ?_;rintro e wc ⟨v3,rfl,h3,hbc⟩;unfold Val at h3;subst h3;rw[cmpN_lt hlt];clear hlt;go_wp2
 go_ret2
 exact⟨_,rfl,⟨_,rfl,by rw[limbs_zero];exact Sl.nil _,FreshS.nil _⟩,hbc⟩
theorem rsub_yesF (v v':Value)(xs ys:List Nat)(w:World)(h:Sl w v xs)(h':Sl w v' ys)(hxl:xs.length≤4294967296)(hle:val ys≤val xs):
  Calls Tryz.prog 166 #[v,v'] w (Ret w (NumEF w.heap.size (val xs-val ys) 0)):=by
 have hcd:=cmp_not_neg hle;have Hle:=lH hle;clear hle;have Hx:=lH h.lims;have Hy:=lH h'.lims;have H:=lH h;have H':=lH h';obtain⟨ad,n,cap,rfl,hn,-⟩:=h;have hb:n≤4294967296:=by omega
 have Hn:=lH hn;clear hn hxl h'
 go_enter Tryz.func166,Tryz.ntmps166
 go_wp2_with fail
 refine(rcmp_any _ _ _ _ _ H.out H'.out).mono ?_;rintro e wc ⟨v3,rfl,h3,hbc⟩;unfold Val at h3;subst h3;generalize cmpN (val xs) (val ys)=cm at *
 have Hbc:=lH hbc;clear hbc;have Hc:=lH (H.out.below Hbc.out);have Hc':=lH (H'.out.below Hbc.out)
 go_wp2_with fail
 go_loopw [6,7,8,9,10] (fun o bo i _ _ wr=>∃(k c:Nat) (os:List Nat),k≤n∧i= .int .i64 (k:Int)∧bo= .int .u64 (c:Int)∧Hid (OwnU wr wc.heap.size 150 o os)∧Hid (rsubInv k c os xs ys)∧Hid (Below wc.heap.size wc wr)) (fun _ _ i _ _ _=>n-(intOf i).toNat)
 case atStart=>exact⟨0,0,[],by omega,rfl,rfl,lH (OwnU.nil _ _ _),lH (rsubInv_zero _ _),lH (bR_ _ _)⟩
 case round=>
  obtain⟨k,c,os,hk,rfl,rfl,HO,Hs,Hbl⟩:=hrel;have hc1:=Hs.out.2.2.1;have Hosl:Hid (os.length≤1099511627776):=lH (by have:=Hs.out.1;omega)
  by_cases hkn:k<n
  ·obtain⟨x,hx⟩:∃x,x=xs.getD k 0:=⟨_,rfl⟩;obtain⟨y,hy⟩:∃y,y=ys.getD k 0:=⟨_,rfl⟩;have bx:=lims_getD Hx.out k;have by':=lims_getD Hy.out k;have L1:=lH (limb_any _ xs k _ (Hc.out.below Hbl.out) (by omega));have L2:=lH (limb_any _ ys k _ (Hc'.out.below Hbl.out) (by omega));rw[←hx]at L1 bx;rw[←hy]at L2 by';have Hx':=lH hx;clear hx;have Hy':=lH hy;clear hy
   by_cases hlt:x<y+c
   ·have Hlt:=lH hlt
    go_wp2_with fail
    refine L1.out.mono ?_;rintro e w' ⟨rfl,rfl⟩
    go_wp2_with fail
    refine L2.out.mono ?_;rintro e w' ⟨rfl,rfl⟩
    go_wp2_with (at_builtin;refine wpList_push_u32 _ rfl _ _ _ _ rfl 150 Tryz.underlying27 Tryz.underlying27 Tryz.infoU32 wc.heap.size _ os rfl (HO.out.below ((bR_ _ _).alloc (lR_ _) _) (lR_ _)) _ 1 ((x:Int)+4294967296-((y:Int)+(c:Int))) rfl (by simp) (by omega) Hosl.out (by have:=Hbl.out.size;simp;omega) ?_;intro v3 w3 h3 hb3)
    go_wp2
    go_roundw
    case rel=>
     exact⟨k+1,1,_,by omega,by go_num,rfl,lH h3,lH (rsubInv_step Hs.out Hx.out Hy.out (by rw[←Hx'.out,←Hy'.out];omega) (by omega)),lH ((Hbl.out.alloc Hbl.out.size _).trans hb3)⟩
    case measure=>simp[intOf]<;>omega
   ·have hge:y+c≤x:=by omega
    go_wp2_with fail
    refine L1.out.mono ?_;rintro e w' ⟨rfl,rfl⟩
    go_wp2_with fail
    refine L2.out.mono ?_;rintro e w' ⟨rfl,rfl⟩
    go_wp2_with (at_builtin;refine wpList_push_u32 _ rfl _ _ _ _ rfl 150 Tryz.underlying27 Tryz.underlying27 Tryz.infoU32 wc.heap.size _ os rfl (HO.out.below ((bR_ _ _).alloc (lR_ _) _) (lR_ _)) _ 1 ((x:Int)-((y:Int)+(c:Int))) rfl (by simp) (by omega) Hosl.out (by have:=Hbl.out.size;simp;omega) ?_;intro v3 w3 h3 hb3)
    go_wp2
    go_roundw
    case rel=>
     exact⟨k+1,0,_,by omega,by go_num,rfl,lH h3,lH (rsubInv_step Hs.out Hx.out Hy.out (by rw[←Hx'.out,←Hy'.out];omega) (by omega)),lH ((Hbl.out.alloc Hbl.out.size _).trans hb3)⟩
    case measure=>simp[intOf]<;>omega
  ·obtain rfl:k=n:=by omega
   have HE:=lH (rsubInv_end Hs.out Hx.out Hn.out Hle.out)
   go_wp2_with fail
   refine(rmake_anyF _ _ _ (HO.out.sl HE.out.1 Hosl.out)).mono ?_;rintro e w4 ⟨v4,rfl,⟨h4,hf4⟩,hb4⟩;rw[HE.out.2.2]at h4;have hf5:=hf4.mono (tL_ Hbc.out.size Hbl.out.size);clear hf4;have HB2:=Hbc.out.trans ((Hbl.out.trans (hb4.mono Hbl.out.size)).mono Hbc.out.size);clear hb4;go_wp2
   go_ret2
   exact⟨_,rfl,⟨_,rfl,h4,hf5⟩,HB2⟩
theorem rsub_anyF (v v':Value)(xs ys:List Nat)(w:World)(h:Sl w v xs)(h':Sl w v' ys)(hx:xs.length≤4294967296):
  Calls Tryz.prog 166 #[v,v'] w (Ret w (NumEF w.heap.size (val xs-val ys) (subErr (val xs) (val ys)))):=by
 rcases Nat.lt_or_ge (val xs) (val ys)with hlt|hle
 ·rw[subErr_lt hlt,show val xs-val ys=0 by omega];exact rsub_noF v v' xs ys w h h' hlt
 ·rw[subErr_le hle];exact rsub_yesF v v' xs ys w h h' hx hle
theorem rsub_any (v v':Value)(xs ys:List Nat)(w:World)(h:Sl w v xs)(h':Sl w v' ys)(hx:xs.length≤4294967296):
  Calls Tryz.prog 166 #[v,v'] w (Ret w (NumE (val xs-val ys) (subErr (val xs) (val ys)))):=
 (rsub_anyF v v' xs ys w h h' hx).mono fun _ _ ⟨u,h1,⟨a,h2,h3,_⟩,h4⟩=>⟨u,h1,⟨a,h2,h3⟩,h4⟩
theorem limb_q (v:Value)(xs:List Nat)(i:Nat)(w:World)(h:Sl w v xs)(hi:i≤1099511627780)(n:Nat):
  Calls Tryz.prog 164 #[v,.int .i64 (i:Int)] (w.drewN n) fun e w'=>e= .returned (.int .u32 ((xs.getD i 0:Nat):Int))∧w'=w.drewN n:=
 (limb_any v xs i (w.drewN n) (h.below (below_drewN (bR_ _ _) n)) hi).mono fun _ _ h=>⟨h.1,h.2.symm⟩
theorem rmul_any (v v':Value)(xs ys:List Nat)(w:World)(h:Sl w v xs)(h':Sl w v' ys)(hxl:xs.length≤4294967296)(hyl:ys.length≤4294967296):
  Calls Tryz.prog 131 #[v,v'] w (Ret w (Num (val xs*val ys))):=by
 have Hx:=lH h.lims;have Hy:=lH h'.lims;have H':=lH h';obtain⟨ad,n,cap,rfl,hn,-,-,-,hs⟩:=h;obtain⟨ad',m,cap',rfl,hm,-⟩:=h';have hb:n≤4294967296:=by omega
 have hb':m≤4294967296:=by omega
 have Hn:=lH hn;have Hm:=lH hm;clear hn hm hxl hyl
 go_enter Tryz.func131,Tryz.ntmps131
 go_wp2_with (at_make;refine wpList_make_u32 _ rfl _ _ _ rfl 150 Tryz.underlying27 Tryz.infoU32 _ (n+(m+1)) rfl rfl (by omega) (by omega) ?_;intro w0 hA0 hb0 _)
 go_wp2
 go_loopw [6,7,8] (fun i _ _ wr=>∃k os,k≤n∧i= .int .i64 ((k:Nat):Int)∧Arr wr w.heap.size os∧Hid (mulOut n (m+1) k os xs ys)∧Hid (Below w.heap.size w wr)) (fun i _ _ _=>n-(intOf i).toNat)
 case atStart=>exact⟨0,_,zL_ _,rfl,hA0,lH (mulOut_zero _ _ _ _),lH hb0⟩
 case round=>
  obtain⟨i,os,hi,rfl,hA,Hs,Hbl⟩:=hrel
  by_cases hin:i<n
  ·obtain⟨b1,off,rfl,hbw,hc⟩:=hs (by omega);have C1:=lH (hc i hin);have bx:=lims_getD Hx.out i;obtain⟨x,hx⟩:∃x,x=xs.getD i 0:=⟨_,rfl⟩;rw[←hx]at bx C1;have Hx':=lH hx;clear hx hc hs;obtain⟨wo,rfl⟩:∃wo:World,wo=wr:=⟨_,rfl⟩;go_wp2
   go_loopw [7,8] (fun cy j wr=>∃k c os,k≤m+1∧j= .int .i64 ((k:Nat):Int)∧cy= .int .u64 ((c:Nat):Int)∧Arr wr w.heap.size os∧Hid (mulIn n (m+1) i k c os xs ys)∧Hid (Below w.heap.size w wr)) (fun _ j _=>m+1-(intOf j).toNat)
   case atStart=>exact⟨0,0,os,zL_ _,rfl,rfl,hA,lH (mulIn_zero Hs.out),Hbl⟩
   case round=>
    clear hA Hs Hbl;obtain⟨k,c,os,hk,rfl,rfl,hA,Hs,Hbl⟩:=hrel;have⟨hol,hos,_,hcb,_⟩:=Hs.out;have Ol:=lH hol;clear hol
    by_cases hkm:k≤m
    ·have by':=lims_getD Hy.out k;have bo:=lims_getD hos (i+k);obtain⟨y,hy⟩:∃y,y=ys.getD k 0:=⟨_,rfl⟩;obtain⟨u,hu⟩:∃u,u=os.getD (i+k) 0:=⟨_,rfl⟩;have c1:=(Hbl.out.cell (p:=⟨b1,off+i,none⟩) hbw).trans C1.out;have c3:=hA.cell (i+k) (by rw[Ol.out];omega);have c4:=hA.frozen (i+k);have L2:=lH (limb_q _ ys k _ (H'.out.below Hbl.out) (by omega));rw[←hy]at by' L2;rw[←hu]at bo c3;have Hy':=lH hy;clear hy;have Hu:=lH hu;clear hu;have hxy:=mul_bound bx by';clear hos
     go_wp2_with fail
     go_quiet ((go_at_call 164;exact Calls.quiet_of_same (L2.out _)))
     go_wp2
     go_roundw
     case rel=>
      exact⟨k+1,_,_,by omega,by go_num,congrArg (Value.int .u64) (Int.toNat_of_nonneg (by omega)).symm,hA.drewN.setI (i+k) _ (by omega),lH (mulIn_stepI Hs.out (by omega) hin Hx'.out Hy'.out Hu.out Hx.out Hy.out _ rfl),lH ((below_drewN Hbl.out _).setCell (lR_ _) _)⟩
     case measure=>simp[intOf]<;>omega
    ·obtain rfl:k=m+1:=by omega
     have hD:=mulIn_done Hs.out Hx.out Hy.out (by have:=Hm.out;omega);obtain⟨hc0,hO⟩:=hD;subst hc0;have HO:=lH hO;clear hO hos;go_wp2
     go_roundw
     case rel=>exact⟨i+1,_,by omega,by go_num,hA,HO,Hbl⟩
     case measure=>simp[intOf]<;>omega
  ·obtain rfl:i=n:=by omega
   have HE:=lH (mulOut_end Hs.out (by have:=Hn.out;omega))
   go_wp2_with fail
   refine(rmake_any _ _ _ (hA.sl (n:=i+(m+1)) HE.out.1 HE.out.2.1 (lR_ _) (by omega))).mono ?_;rintro e w4 ⟨v1,rfl,h1,hb4⟩;rw[HE.out.2.2]at h1;have HB:=Hbl.out.trans (hb4.mono Hbl.out.size);clear hb4;go_wp2
   go_ret
   exact⟨_,rfl,h1,HB⟩
def rshlInv (q r k c:Nat)(os xs:List Nat):Prop:=os.length=q+k∧lims os∧c<2^r∧val os+4294967296^(q+k)*c=4294967296^q*(2^r*val (xs.take k))
theorem rshlInv_zero (q r:Nat)(xs:List Nat):rshlInv q r 0 0 (List.replicate q 0) xs:=
 ⟨by simp,lims_replicate _,Nat.pow_pos (by decide),by simp[val,val_replicate]⟩
theorem rshlInv_step {q r k c x:Nat}{os xs:List Nat}(h:rshlInv q r k c os xs)(hx:lims xs)(he:x=xs.getD k 0):
  rshlInv q r (k+1) ((c+x*2^r)/4294967296) (os++[(c+x*2^r) % 4294967296]) xs:=by
 obtain⟨h1,h2,h3,h4⟩:=h;have bx:=lims_getD hx k;rw[←he]at bx;refine⟨by simp[h1];omega,lims_append h2 (lims_cons (by omega) lims_nil),?_,?_⟩
 ·apply Nat.div_lt_of_lt_mul;have h5:(x+1)*2^r≤4294967296*2^r:=Nat.mul_le_mul_right _ bx;rw[Nat.add_mul]at h5;omega
 ·rw[val_snoc,h1,val_take_step xs,←he];have e1:4294967296^q*(2^r*(val (xs.take k)+4294967296^k*x))=4294967296^q*(2^r*val (xs.take k))+4294967296^(q+k)*(x*2^r):=by
   rw[Nat.pow_add];grind
  have e2:4294967296^(q+(k+1))*((c+x*2^r)/4294967296)=4294967296^(q+k)*(4294967296*((c+x*2^r)/4294967296)):=by
   rw[←Nat.add_assoc,Nat.pow_succ,Nat.mul_assoc]
  have e3:4294967296^(q+k)*((c+x*2^r) % 4294967296)+4294967296^(q+k)*(4294967296*((c+x*2^r)/4294967296))=4294967296^(q+k)*c+4294967296^(q+k)*(x*2^r):=by
   rw[←Nat.mul_add,←Nat.mul_add];congr 1;omega
  rw[e1,e2];omega
theorem rshlInv_end {q r n c K:Nat}{os xs:List Nat}(h:rshlInv q r n c os xs)(hr:r≤31)(hn:xs.length≤n)(hK:K=32*q+r):lims (os++[c])∧(os++[c]).length=q+n+1∧val (os++[c])=val xs*2^K:=by
 obtain⟨h1,h2,h3,h4⟩:=h;have h31:2^r≤2^31:=Nat.pow_le_pow_right (by decide) hr;have e31:2^31=2147483648:=by decide
 refine⟨lims_append h2 (lims_cons (by omega) lims_nil),by simp[h1],?_⟩;rw[val_snoc,h1,h4,val_take_ge hn,hK,Nat.pow_add,Nat.pow_mul];have e32:(2:Nat)^32=4294967296:=by decide
 rw[e32];grind
theorem or_shl {c x r:Nat}(hc:c<2^r)(hx:x<4294967296)(hr:r≤31):bits .or .u64 (c:Int) (IntKind.u64.wrap ((x:Int)*2^r))=((c+x*2^r:Nat):Int)∧c+x*2^r<18446744073709551616:=by
 have h31:2^r≤2^31:=Nat.pow_le_pow_right (by decide) hr;have e31:2^31=2147483648:=by decide
 have h2:x*2^r≤4294967295*2^31:=Nat.mul_le_mul (by omega) h31;rw[wrap_shl hx (by omega),u64_or_nat _ _ (by omega) (shl_bound hx (by omega)),or_low hc];exact⟨rfl,by omega⟩
theorem rshl_any (v:Value)(xs:List Nat)(K:Nat)(w:World)(h:Sl w v xs)(hxl:xs.length≤4294967296)(hK:K≤1048576):
  Calls Tryz.prog 195 #[v,.int .i64 (K:Int)] w (Ret w (Num (val xs*2^K))):=by
 have Hx:=lH h.lims;obtain⟨ad,n,cap,rfl,hn,-,-,-,hs⟩:=h;have hb:n≤4294967296:=by omega
 have Hn:=lH hn;obtain⟨q,hq⟩:∃q,q=K/32:=⟨_,rfl⟩;obtain⟨r,hr⟩:∃r,r=K % 32:=⟨_,rfl⟩;have e1:((K:Int)/32)=(q:Int):=by omega
 have e2:((K:Int) % 32)=(r:Int):=by omega
 have hqk:q≤32768:=by omega
 have hr31:r≤31:=by omega
 have HK2:Hid (K=32*q+r):=lH (by omega);clear hn hxl hq hr
 go_enter Tryz.func195,Tryz.ntmps195
 go_wp2_with (at_make;refine wpList_makeown_u32 _ rfl _ _ _ rfl 150 Tryz.underlying27 Tryz.infoU32 _ q rfl rfl (by omega) (by omega) ?_;intro w0 v0 h0 hb0)
 go_wp2_with fail
 go_loopw [5,6,7] (fun o cy i wr=>∃(k c:Nat) (os:List Nat),k≤n∧i= .int .i64 (k:Int)∧cy= .int .u64 (c:Int)∧Hid (OwnU wr w.heap.size 150 o os)∧Hid (rshlInv q r k c os xs)∧Hid (Below w.heap.size w wr)) (fun _ _ i _=>n-(intOf i).toNat)
 case atStart=>exact⟨0,0,_,by omega,rfl,rfl,lH h0,lH (rshlInv_zero _ _ _),lH hb0⟩
 case round=>
  obtain⟨k,c,os,hk,rfl,rfl,HO,Hs,Hbl⟩:=hrel;have Hosl:Hid (os.length≤1099511627776):=lH (by have:=Hs.out.1;omega)
  have Hc:Hid (c<2147483648):=lH (by
   have h1:=Hs.out.2.2.1;have h31:2^r≤2^31:=Nat.pow_le_pow_right (by decide) hr31;have e31:2^31=2147483648:=by decide
   omega)
  by_cases hkn:k<n
  ·obtain⟨b1,off,rfl,hbw,hc⟩:=hs (by omega);have c1:=(Hbl.out.cell (p:=⟨b1,off+k,none⟩) hbw).trans (hc k hkn);obtain⟨x,hx⟩:∃x,x=xs.getD k 0:=⟨_,rfl⟩;have bx:=lims_getD Hx.out k;rw[←hx]at c1 bx;have Hx':=lH hx;clear hx hc hs;have hO:=or_shl Hs.out.2.2.1 bx hr31;have HST:=lH (rshlInv_step Hs.out Hx.out Hx'.out);obtain⟨Z,hZ⟩:∃Z,Z=c+x*2^r:=⟨_,rfl⟩;rw[←hZ]at hO HST;obtain⟨hO1,hO2⟩:=hO;clear hZ
   go_wp2_with (at_builtin;refine wpList_push_u32 _ rfl _ _ _ _ rfl 150 Tryz.underlying27 Tryz.underlying27 Tryz.infoU32 w.heap.size _ os rfl (HO.out.below ((bR_ _ _).alloc (lR_ _) _) (lR_ _)) _ 1 ((Z:Int) % 4294967296) rfl (by simp) (by omega) Hosl.out (by have:=Hbl.out.size;simp;omega) ?_;intro v3 w3 h3 hb3)
   go_wp2
   go_roundw
   case rel=>
    exact⟨k+1,_,_,by omega,by go_num,congrArg (Value.int .u64) (Int.natCast_ediv Z 4294967296).symm,lH h3,lH (by rw[show((Z:Int) % 4294967296).toNat=Z % 4294967296 by omega];exact HST.out),lH ((Hbl.out.alloc Hbl.out.size _).trans hb3)⟩
   case measure=>simp[intOf]<;>omega
  ·obtain rfl:k=n:=by omega
   have HE:=lH (rshlInv_end Hs.out hr31 (by have:=Hn.out;omega) HK2.out);have hcb:=Hc.out;clear hs
   go_wp2_with (at_builtin;refine wpList_push_u32 _ rfl _ _ _ _ rfl 150 Tryz.underlying27 Tryz.underlying27 Tryz.infoU32 w.heap.size _ os rfl (HO.out.below ((bR_ _ _).alloc (lR_ _) _) (lR_ _)) _ 1 (c:Int) rfl (by simp) (by omega) Hosl.out (by have:=Hbl.out.size;simp;omega) ?_;intro v3 w3 h3 hb3)
   rw[Int.toNat_natCast]at h3;have HB:=lH ((Hbl.out.alloc Hbl.out.size _).trans hb3);clear hb3
   go_wp2_with fail
   refine(rmake_any _ _ _ (h3.sl HE.out.1 (by rw[HE.out.2.1];omega))).mono ?_;rintro e w4 ⟨v4,rfl,h4,hb4⟩;rw[HE.out.2.2]at h4;have HB2:=HB.out.trans (hb4.mono HB.out.size);clear hb4;go_wp2
   go_ret
   exact⟨_,rfl,h4,HB2⟩
theorem base_alloc {B:Nat}{w:World}(h:B≤w.heap.size)(o:Obj):B≤(w.alloc o).heap.size:=by simp;omega
theorem val_of_one {ls:List Nat}(h:ls.length=1):val ls=ls.getD 0 0:=by
 have e:=val_take_step ls 0;rw[val_take_ge (by omega)]at e;simpa [val]using e
theorem val_of_two {ls:List Nat}(h:ls.length=2):val ls=ls.getD 0 0+4294967296*ls.getD 1 0:=by
 have e:=val_take_step ls 1;have e0:=val_take_step ls 0;rw[val_take_ge (by omega),e0]at e;simpa [val]using e
theorem ruint_any (v:Value)(xs:List Nat)(w:World)(h:Sl w v xs):Calls Tryz.prog 193 #[v] w (Ret w (UintP (val xs))):=by
 have H2:=lH (sz_le_two (n:=val xs));have Hva:=lH (val_limbs (val xs))
 go_enter Tryz.func193,Tryz.ntmps193
 go_wp2_with fail
 refine(rmake_any _ xs _ h).mono ?_;rintro e w1 ⟨v1,rfl,h1,hb1⟩;unfold Num at h1;clear h;generalize val xs=a at *
 have Hn:Hid ((limbs a).length=sz a):=lH rfl;generalize limbs a=ls at *
 obtain⟨ad,n,cap,rfl,hn,hnc,hm,hx,hs⟩:=h1;have Hl:=lH hn;clear hn;have Hx:=lH hx;clear hx;have Hb1:=lH hb1;clear hb1
 by_cases h2:2<n
 ·have HF:Hid (uintN a=0∧uintB a=false):=lH (by
   have h3:¬a<18446744073709551616:=fun h=>by
    have:=H2.out.2 h;have h4:=Hn.out;have h5:=Hl.out;omega
   simp[uintN,uintB,h3])
  have t0:((n:Int)==0)=false:=by simp;omega
  have t1:((n:Int)==1)=false:=by simp;omega
  have t2:((n:Int)==2)=false:=by simp;omega
  clear hs;go_wp2
  go_ret2
  refine⟨_,rfl,?_,Hb1.out⟩;unfold UintP;rw[HF.out.1,HF.out.2];rfl
 ·have HF:Hid (uintN a=a∧uintB a=true):=lH (by
   have h3:a<18446744073709551616:=H2.out.1 (by have h4:=Hn.out;have h5:=Hl.out;omega);simp[uintN,uintB,h3])
  by_cases h0:n=0
  ·subst h0;have HA:Hid (a=0):=lH (sz_eq_zero.1 (by rw[←Hn.out];exact Hl.out));clear hs;go_wp2
   go_ret2
   refine⟨_,rfl,?_,Hb1.out⟩;unfold UintP;rw[HF.out.1,HF.out.2,HA.out];rfl
  ·by_cases h1:n=1
   ·subst h1;have HA:Hid (a=ls.getD 0 0):=lH (by rw[←Hva.out];exact val_of_one Hl.out);have bx:=lims_getD Hx.out 0;obtain⟨b,off,rfl,hbw,hc⟩:=hs (by omega);have c1:=hc 0 (by omega);rw[Nat.add_zero,←HA.out]at c1;rw[←HA.out]at bx;clear hs hc;go_wp2
    go_ret2
    refine⟨_,rfl,?_,Hb1.out⟩;unfold UintP;rw[HF.out.1,HF.out.2];rfl
   ·obtain rfl:n=2:=by omega
    have HA:Hid (a=ls.getD 0 0+4294967296*ls.getD 1 0):=lH (by rw[←Hva.out];exact val_of_two Hl.out);have bx:=lims_getD Hx.out 0;have by':=lims_getD Hx.out 1;obtain⟨b,off,rfl,hbw,hc⟩:=hs (by omega);have c1:=hc 0 (by omega);have c2:=hc 1 (by omega);rw[Nat.add_zero]at c1;obtain⟨x,hx⟩:∃x,x=ls.getD 0 0:=⟨_,rfl⟩;obtain⟨y,hy⟩:∃y,y=ls.getD 1 0:=⟨_,rfl⟩;rw[←hx]at c1 bx HA;rw[←hy]at c2 by' HA;have ho:=or_high bx by';rw[←HA.out]at ho;clear hs hc hx hy;go_wp2
    go_quiet (fail)
    go_wp2
    go_ret2
    refine⟨_,rfl,?_,below_drewN Hb1.out _⟩;unfold UintP;rw[HF.out.1,HF.out.2];rfl
theorem blen_spec (n:Nat):n<2^blen n∧(0<n→2^blen n≤2*n):=by
 unfold blen;split
 ·rename_i h;subst h;exact⟨by decide,fun h=>absurd h (by decide)⟩
 ·rename_i h;have h3:=Nat.log2_self_le h;have h4:= @Nat.lt_log2_self n;exact⟨h4,fun _=>by rw[Nat.pow_succ];omega⟩
theorem blen_half {n:Nat}(h:0<n):blen n=blen (n/2)+1:=by
 obtain⟨h1,h2⟩:=blen_spec (n/2);apply blen_uniq h
 ·rw[Nat.pow_succ];omega
 ·rw[Nat.pow_succ];rcases eP_ (n/2)with h0|h0
  ·rw[h0,blen_zero];omega
  ·have:=h2 h0;omega
theorem blen_limbs {n:Nat}(h0:0<n):blen n=32*(sz n-1)+blen ((limbs n).getD (sz n-1) 0):=by
 rw[blen_top h0];have hne:(limbs n).getD (sz n-1) 0≠0:=limbs_last h0;have hlt:=lims_getD (lims_limbs n) (sz n-1);generalize (limbs n).getD (sz n-1) 0=t at *
 obtain⟨h1,h2⟩:=bitLen_spec (x:=t) (by omega);rw[blen_uniq (by omega) h1 (h2 (by omega))]
theorem rbits_any (v:Value)(xs:List Nat)(w:World)(h:Sl w v xs)(hx:xs.length≤8589934592):Calls Tryz.prog 194 #[v] w (Ret w (Val (.int .i64 ((blen (val xs):Nat):Int)))):=by
 have hla:=sz_val h.lims
 go_enter Tryz.func194,Tryz.ntmps194
 go_wp2_with fail
 refine(rmake_any _ xs _ h).mono ?_;rintro e w1 ⟨v1,rfl,h1,hb1⟩;unfold Num at h1;have Hb1:=lH hb1;clear hb1;clear h;generalize val xs=a at *
 rcases eP_ a with h0|h0
 ·subst h0;rw[limbs_zero]at h1;obtain⟨ad,n,cap,rfl,hn,-⟩:=h1;have:n=0:=by simpa using hn.symm
  subst this;clear hn hla;rw[blen_zero];go_wp2
  go_ret
  exact⟨_,rfl,rfl,Hb1.out⟩
 ·have HT:=lH (blen_limbs h0);have hp:=sz_pos h0;have hlt:=lims_getD (lims_limbs a) (sz a-1);obtain⟨ad,n,cap,rfl,hn,hnc,hm,hx,hs⟩:=h1;obtain rfl:n=sz a:=hn.symm;obtain⟨b,off,rfl,hbw,hc⟩:=hs hp;have c1:=hc (sz a-1) (by omega);obtain⟨t,ht⟩:∃t,t=(limbs a).getD (sz a-1) 0:=⟨_,rfl⟩;rw[←ht]at c1 hlt HT;have hbl:blen t≤32:=by
   obtain⟨s1,s2⟩:=blen_spec t;rcases Nat.lt_or_ge 32 (blen t)with h|h
   ·exfalso;have h5:2^33≤2^blen t:=Nat.pow_le_pow_right (by decide) h;have e:2^33=8589934592:=by decide
    rcases eP_ t with hz|hz
    ·rw[hz,blen_zero]at h;omega
    ·have:=s2 hz;omega
   ·exact h
  have Hbl:=lH hbl;generalize blen a=bl at *
  generalize sz a=n at *
  have hne:((n:Int)==0)=false:=by simp;omega
  clear hc hs ht hn hx h0 hbl
  go_wp2_with fail
  go_loop [3,4] (fun k x=>∃j y:Nat,k= .int .i64 (32*((n:Int)-1)+(j:Int))∧x= .int .u32 (y:Int)∧j≤32∧y<4294967296∧Hid (blen t=j+blen y)) (fun _ x=>(intOf x).toNat)
  case atStart=>exact⟨0,t,congrArg (Value.int .i64) (by omega),rfl,by omega,hlt,lH (by omega)⟩
  case round=>
   obtain⟨j,y,rfl,rfl,hj,hy,Hs⟩:=hrel;rcases eP_ y with hy0|hy0
   ·subst hy0;have HF:Hid (bl=32*(n-1)+j):=lH (by rw[HT.out,Hs.out,blen_zero,Nat.add_zero]);clear c1;go_wp2
    go_ret
    refine⟨_,rfl,?_,Hb1.out⟩;show Value.int _ _=Value.int _ _;rw[HF.out]
    congr 1
    omega
   ·have HH:=lH (blen_half hy0);have hj2:j+1≤32:=by have:=HH.out;have:=Hs.out;have:=Hbl.out;omega
    clear c1;go_wp2
    go_round
    case rel=>exact⟨j+1,y/2,congrArg (Value.int .i64) (by omega),congrArg (Value.int .u32) (by omega),hj2,by omega,lH (by have:=HH.out;have:=Hs.out;omega)⟩
    case measure=>simp[intOf]<;>omega
namespace Nt
theorem pow32 (p s:Nat):2^(32*p+s)=4294967296^p*2^s:=by
 have e32:(2:Nat)^32=4294967296:=by decide
 rw[Nat.pow_add,Nat.pow_mul,e32]
theorem limb_of {xs:List Nat}(h:lims xs){p:Nat}(hp:p<xs.length):xs.getD p 0=val xs/4294967296^p % 4294967296:=by
 rw[←val_drop' h p (by omega),drop_cons_val xs p hp];have:=lims_getD h p;omega
theorem half_even {B m s:Nat}(h:B % 2^(s+1)=0)(x:Nat):(x+B*m)/2^s % 2=x/2^s % 2:=by
 obtain⟨c,hc⟩:∃c,B=2^(s+1)*c:=⟨B/2^(s+1),by have:=Nat.div_add_mod B (2^(s+1));omega⟩;have e:x+B*m=x+2^s*(2*(c*m)):=by rw[hc,Nat.pow_succ];grind
 rw[e,Nat.add_mul_div_left _ _ (Nat.pow_pos (by decide))];omega
theorem bit_of {xs:List Nat}(h:lims xs){p s:Nat}(hp:p<xs.length)(hs:s≤31):xs.getD p 0/2^s % 2=val xs/2^(32*p+s) % 2:=by
 rw[pow32,←Nat.div_div_eq_div_mul,←val_drop' h p (by omega),drop_cons_val xs p hp];have hB:4294967296 % 2^(s+1)=0:=by
  have e:4294967296=2^(s+1)*2^(31-s):=by rw[←Nat.pow_add,show s+1+(31-s)=32 by omega]
  rw[e];exact Nat.mul_mod_right _ _
 rw[half_even hB]
theorem bit_step (A j:Nat):A/2^j=2*(A/2^(j+1))+A/2^j % 2:=by
 have e:A/2^(j+1)=A/2^j/2:=by rw[Nat.pow_succ,Nat.div_div_eq_div_mul]
 rw[e];omega
theorem div_step {m V b:Nat}(hV:0<V)(hb:b<2):
  (2*(m % V)+b<V→(2*m+b)/V=2*(m/V)∧(2*m+b) % V=2*(m % V)+b)∧
  (V≤2*(m % V)+b→(2*m+b)/V=2*(m/V)+1∧(2*m+b) % V=2*(m % V)+b-V):=by
 have e:=Nat.div_add_mod m V;have hr:=Nat.mod_lt m hV;generalize m/V=Q at *
 generalize m % V=R at *
 constructor
 ·intro h;have e2:2*m+b=(2*R+b)+V*(2*Q):=by rw[←e];grind
  rw[e2];exact⟨by rw[Nat.add_mul_div_left _ _ hV,Nat.div_eq_of_lt h,Nat.zero_add],by rw[Nat.add_mul_mod_self_left,Nat.mod_eq_of_lt h]⟩
 ·intro h;have e3:V*(2*Q)=2*(V*Q):=by grind
  have e2:2*m+b=(2*R+b-V)+V*(2*Q+1):=by rw[Nat.mul_add,Nat.mul_one,←e];omega
  have hlt:2*R+b-V<V:=by omega
  rw[e2];exact⟨by rw[Nat.add_mul_div_left _ _ hV,Nat.div_eq_of_lt hlt,Nat.zero_add],by rw[Nat.add_mul_mod_self_left,Nat.mod_eq_of_lt hlt]⟩
def bitsInv (n k Q:Nat)(qs:List Nat):Prop:=qs.length=n∧lims qs∧val qs=2^k*Q
theorem bitsInv_zero (n k:Nat):bitsInv n k 0 (List.replicate n 0):=⟨by simp,lims_replicate n,by rw[val_replicate,Nat.mul_zero]⟩
theorem bitsInv_even {n j Q:Nat}{qs:List Nat}(h:bitsInv n (j+1) Q qs):bitsInv n j (2*Q) qs:=by
 obtain⟨h1,h2,h3⟩:=h;exact⟨h1,h2,by rw[h3,Nat.pow_succ];grind⟩
theorem bitsInv_limb {n p s Q:Nat}{qs:List Nat}(h:bitsInv n (32*p+s+1) Q qs)(hp:p<n)(hs:s≤31):∃m,qs.getD p 0=2^(s+1)*m∧2^(s+1)*m+2^s<4294967296:=by
 obtain⟨h1,h2,h3⟩:=h;have e:=limb_of h2 (p:=p) (by omega);have hb:=lims_getD h2 p;rw[h3,show 32*p+s+1=32*p+(s+1) by omega,pow32,Nat.mul_assoc,Nat.mul_div_cancel_left _ (Nat.pow_pos (by decide))]at e;have e32:4294967296=2^(s+1)*2^(31-s):=by rw[←Nat.pow_add,show s+1+(31-s)=32 by omega]
 rw[e32,Nat.mul_mod_mul_left]at e;refine⟨_,e,?_⟩;have hm:Q % 2^(31-s)<2^(31-s):=Nat.mod_lt _ (Nat.pow_pos (by decide));have h4:2^(s+1)*(Q % 2^(31-s)+1)≤2^(s+1)*2^(31-s):=Nat.mul_le_mul_left _ hm;rw[←e32,Nat.mul_add]at h4;have:0<2^s:=Nat.pow_pos (by decide);have e5:2^(s+1)=2^s*2:=Nat.pow_succ _ _;omega
theorem bitsInv_odd {n p s Q:Nat}{qs:List Nat}(h:bitsInv n (32*p+s+1) Q qs)(hp:p<n)(hs:s≤31):bitsInv n (32*p+s) (2*Q+1) (qs.set p (qs.getD p 0+2^s)):=by
 obtain⟨m,hm,hlt⟩:=bitsInv_limb h hp hs;obtain⟨h1,h2,h3⟩:=h;refine⟨by simpa using h1,lims_set h2 _ _ (by rw[hm];exact hlt),?_⟩;have e:=val_set (xs:=qs) (k:=p) (x:=qs.getD p 0+2^s) (by omega);rw[Nat.mul_add]at e;have e2:2^(32*p+s)*(2*Q+1)=2^(32*p+s+1)*Q+4294967296^p*2^s:=by
  rw[Nat.mul_add,Nat.mul_one,←pow32,Nat.pow_succ];grind
 omega
end Nt
theorem rdiv_zero (v v':Value)(xs ys:List Nat)(w:World)(h:Sl w v xs)(h':Sl w v' ys)(h0:val ys=0):
  Calls Tryz.prog 168 #[v,v'] w (Ret w (Num2E 0 0 3)):=by
 have hy:uintN (val ys)=0∧uintB (val ys)=true:=by rw[h0];exact⟨rfl,rfl⟩
 obtain⟨hy1,hy2⟩:=hy
 go_enter Tryz.func168,Tryz.ntmps168
 go_wp2_with fail
 refine(ruint_any _ xs _ h).mono ?_;rintro e w1 ⟨v1,rfl,h1,hb1⟩;unfold UintP at h1;subst h1;have h'1:=h'.below hb1
 go_wp2_with fail
 refine(ruint_any _ ys _ h'1).mono ?_;rintro e w2 ⟨v2,rfl,h2,hb2⟩;unfold UintP at h2;subst h2;rw[hy1,hy2];have HB:=hb1.trans (hb2.mono hb1.size);clear hb1 hb2 hy1 hy2 h0 h h' h'1;go_wp2
 go_ret3
 exact⟨_,rfl,⟨_,_,rfl,by rw[limbs_zero];exact Sl.nil _,by rw[limbs_zero];exact Sl.nil _⟩,HB⟩
theorem rdiv_small (v v':Value)(xs ys:List Nat)(w:World)(h:Sl w v xs)(h':Sl w v' ys)(h0:0<val ys)(hx:val xs<18446744073709551616)(hy:val ys<18446744073709551616):
  Calls Tryz.prog 168 #[v,v'] w (Ret w (Num2E (val xs/val ys) (val xs % val ys) 0)):=by
 have hx12:uintN (val xs)=val xs∧uintB (val xs)=true:=by simp[uintN,uintB,hx]
 have hy12:uintN (val ys)=val ys∧uintB (val ys)=true:=by simp[uintN,uintB,hy]
 obtain⟨hx1,hx2⟩:=hx12;obtain⟨hy1,hy2⟩:=hy12
 go_enter Tryz.func168,Tryz.ntmps168
 go_wp2_with fail
 refine(ruint_any _ xs _ h).mono ?_;rintro e w1 ⟨v1,rfl,h1,hb1⟩;unfold UintP at h1;subst h1;have h'1:=h'.below hb1
 go_wp2_with fail
 refine(ruint_any _ ys _ h'1).mono ?_;rintro e w2 ⟨v2,rfl,h2,hb2⟩;unfold UintP at h2;subst h2;rw[hy1,hy2];have HB:=lH (hb1.trans (hb2.mono hb1.size));clear hb1 hb2 hy1 hy2 hx1 hx2 h h' h'1;generalize val xs=x at *
 generalize val ys=y at *
 have hne:((y:Int)==0)=false:=by simp;omega
 have HR:=lH (Nat.lt_of_le_of_lt (Nat.div_le_self x y) hx);have HM:=lH (Nat.lt_trans (Nat.mod_lt x h0) hy);have Hn:=lH (show(Tryz.f98.name== "runtime.NumGoroutine")=false from by kernel_rfl);obtain⟨q,hq⟩:∃q,q=x/y:=⟨_,rfl⟩;obtain⟨r,hr⟩:∃r,r=x % y:=⟨_,rfl⟩;rw[←hq]at HR;rw[←hr]at HM;have w1:IntKind.u64.wrap ((x:Int)/(y:Int))=(q:Int):=by
  have e:(x:Int)/(y:Int)=((x/y:Nat):Int):=by simp
  have:=HR.out;rw[e,←hq,wrap_u64];omega
 have w2:(x:Int).tmod (y:Int)=(r:Int):=by rw[hr,Int.tmod_eq_emod_of_nonneg (by omega)];simp
 have Hq:=lH hq;have Hr:=lH hr;have hyne:¬y=0:=by omega
 clear h0 hq hr hx hy
 go_wp2_with fail
 go_region_law (first
  |(refine step_is 98 rfl ?_;refine step_call1 rfl 98 (.tmp 35) _ rfl Tryz.func98 Hn.out rfl rfl (rof_any q _ HR.out) ?_;intro v3 w3 h3 hb3)
  |(refine step_is 98 rfl ?_;refine step_call1 rfl 98 (.tmp 39) _ rfl Tryz.func98 Hn.out rfl rfl (rof_any r _ HM.out) ?_;intro v4 w4 h4 hb4))
 all_goals
  have h3':=h3.below hb4;have HB2:=HB.out.trans (((bR_ _ _).drew.trans hb3).mono HB.out.size);have HB3:=HB2.trans (hb4.mono HB2.size);rw[Hq.out]at h3';unfold Num at h4;rw[Hr.out]at h4;clear hb3 hb4 h3 HB2 w1 w2;go_wp2
  go_ret3
  exact⟨_,rfl,⟨_,_,rfl,h3',h4⟩,HB3⟩
theorem rshl_one (v:Value)(xs:List Nat)(w:World)(h:Sl w v xs)(hxl:xs.length≤4294967296):
  Calls Tryz.prog 195 #[v,.int .i64 1] w (Ret w (Num (val xs*2))):=rshl_any v xs 1 w h hxl (by decide)
theorem and_one (x:Nat)(h:x<4294967296):bits .and .u32 (x:Int) 1=((x % 2:Nat):Int):=by
 have:=u32_and_nat x 1 h (by decide);rw[Nat.and_one_is_mod]at this;exact this
theorem cmp_ge {a b:Nat}(h:b≤a):decide (0≤cmpN a b)=true:=by
 rcases Nat.lt_or_ge b a with h'|h'
 ·rw[cmpN_gt h'];decide
 ·rw[cmpN_eq (by omega)];decide
theorem cmp_nge {a b:Nat}(h:a<b):decide (0≤cmpN a b)=false:=by rw[cmpN_lt h];decide
theorem rdiv_big (v v':Value)(xs ys:List Nat)(w:World)(h:Sl w v xs)(h':Sl w v' ys)(hxl:xs.length≤2147483648)(hyl:ys.length≤2147483648)(h0:0<val ys)
  (hbig:uintB (val ys)=false∨(uintB (val ys)=true∧uintB (val xs)=false)):
  Calls Tryz.prog 168 #[v,v'] w (Ret w (Num2E (val xs/val ys) (val xs % val ys) 0)):=by
 have hT1:uintB (val ys)=true→((uintN (val ys):Nat):Int)≠0:=fun hb=>by
  have:val ys<18446744073709551616:=by simpa [uintB]using hb
  simp[uintN,this];omega
 go_enter Tryz.func168,Tryz.ntmps168
 go_wp2_with fail
 refine(ruint_any _ xs _ h).mono ?_;rintro e w1 ⟨v1,rfl,h1,hb1⟩;unfold UintP at h1;subst h1;have h1:=h.below hb1;have h'1:=h'.below hb1
 go_wp2_with fail
 refine(ruint_any _ ys _ h'1).mono ?_;rintro e w2 ⟨v2,rfl,h2,hb2⟩;unfold UintP at h2;subst h2;have HX:=lH (h1.below hb2);have HY:=lH (h'1.below hb2);have HB:=lH (hb1.trans (hb2.mono hb1.size));have Hyl:=lH hyl;have H0:=lH h0;have HXl:=lH HX.out.lims;have hbl:blen (val xs)≤68719476736:=by
  rcases eP_ (val xs)with hz|hz
  ·rw[hz,blen_zero];omega
  ·rw[blen_top hz];have h3:=sz_val h.lims;have h4:=bitLen_le (lims_getD (lims_limbs (val xs)) (sz (val xs)-1));omega
 have HBL:Hid (blen (val xs)≤32*xs.length):=lH (by
  rcases eP_ (val xs)with hz|hz
  ·rw[hz,blen_zero];omega
  ·rw[blen_top hz];have h3:=sz_val h.lims;have h3':=sz_pos hz;have h4:=bitLen_le (lims_getD (lims_limbs (val xs)) (sz (val xs)-1));omega)
 have HBS:=lH (blen_spec (val xs));have hxl8:Hid (xs.length≤8589934592):=lH (by omega);obtain⟨ad,n,cap,rfl,hn,hnc,hm,-,hs⟩:=HX.out;have hn4:n≤2147483648:=by omega
 have Hn:=lH hn;clear h h' h1 h'1 hb1 hb2 hxl hyl h0 hn;generalize hA:val xs=A at *
 generalize hV:val ys=V at *
 have HA:=lH hA;have HV:=lH hV;clear hA hV;have hcase:(uintB A=true∧uintB V=false)∨(uintB A=false∧uintB V=false)∨(uintB A=false∧uintB V=true∧(((uintN V:Nat):Int)==0)=false):=by
  rcases hbig with hb|⟨hb1,hb2⟩
  ·rcases Bool.eq_false_or_eq_true (uintB A)with ha|ha
   ·exact Or.inl ⟨ha,hb⟩
   ·exact Or.inr (Or.inl ⟨ha,hb⟩)
  ·exact Or.inr (Or.inr ⟨hb2,hb1,by simpa using hT1 hb1⟩)
 clear hbig hT1;rcases hcase with⟨e1,e2⟩|⟨e1,e2⟩|⟨e1,e2,e3⟩
 all_goals
  go_wp2_with (at_make;refine wpList_make_u32 _ rfl _ _ _ rfl 150 Tryz.underlying27 Tryz.infoU32 _ n rfl rfl (by omega) (by omega) ?_;intro w0 hA0 hb0 _)
  have HX0:=lH ((HX.out.below hb0).below ((bR_ _ _).alloc (lR_ _) (.cells #[] 150)));have HB0:=lH (hb0.alloc hb0.size (.cells #[] 150));have HAr0:=lH (hA0.below ((bR_ w0.heap.size w0).alloc (lR_ _) (.cells #[] 150)) hA0.lt);clear hb0 hA0
  go_wp2_with fail
  refine(rbits_any _ xs _ HX0.out hxl8.out).mono ?_;rintro e w4 ⟨v4,rfl,h4,hb4⟩;unfold Val at h4;subst h4;rw[HA.out];have HB4:=lH (HB0.out.trans (hb4.mono HB0.out.size));have HAr4:=lH (HAr0.out.below hb4 HAr0.out.lt)
  have HN0:Hid (∀g,Sl w4 (.slice g 0 0) (limbs (A/2^blen A % V))):=lH fun g=>by
   rw[Nat.div_eq_of_lt HBS.out.1,Nat.zero_mod,limbs_zero];exact⟨_,0,0,rfl,rfl,lR_ _,by decide,lims_nil,fun h=>absurd h (by decide)⟩
  have HI0:Hid (bitsInv n (blen A) (A/2^blen A/V) (List.replicate n 0)):=lH (by
   rw[Nat.div_eq_of_lt HBS.out.1,Nat.zero_div];exact bitsInv_zero _ _)
  have HBL2:Hid (blen A≤32*n):=lH (by rw[←Hn.out];exact HBL.out);clear hb4 HX0 HB0 HAr0
  go_wp2_with fail
  go_loopw [12,13] (fun r i wr=>∃(k:Nat) (qs:List Nat),k≤68719476736∧i= .int .i64 ((k:Int)-1)∧Hid (k≤32*n)∧Hid (Sl wr r (limbs (A/2^k % V)))∧Hid (Arr wr w2.heap.size qs)∧Hid (bitsInv n k (A/2^k/V) qs)∧Hid (Below w2.heap.size w2 wr)) (fun _ i _=>(intOf i+1).toNat)
  case atStart=>exact⟨blen A,_,hbl,rfl,HBL2,lH (HN0.out _),HAr4,HI0,HB4⟩
  case round=>
   clear HN0 HAr4 HI0 HB4 hbl;obtain⟨k,qs,hk,rfl,Hk,HR,HAr,HI,HBl⟩:=hrel;rcases eP_ k with hk0|hk0
   ·subst hk0;rw[Nat.pow_zero,Nat.div_one]at HR HI;have HQ:Hid (val qs=A/V):=lH (by rw[HI.out.2.2,Nat.pow_zero,Nat.one_mul])
    go_wp2_with fail
    refine(rmake_any _ qs _ (HAr.out.sl (n:=n) HI.out.2.1 HI.out.1 (lR_ _) (by omega))).mono ?_;rintro e w5 ⟨v5,rfl,h5,hb5⟩;rw[HQ.out]at h5;have HR5:=lH (HR.out.below hb5);have HB5:=lH (HB.out.trans ((HBl.out.trans (hb5.mono HBl.out.size)).mono HB.out.size));clear hb5;go_wp2
    go_ret3
    exact⟨_,rfl,⟨_,_,rfl,h5,HR5.out⟩,HB5.out⟩
   ·obtain⟨j,rfl⟩:∃j,k=j+1:=⟨k-1,by omega⟩;rw[show((j+1:Nat):Int)-1=(j:Int)from by omega];obtain⟨p,hp⟩:∃p,p=j/32:=⟨_,rfl⟩;obtain⟨s,hsr⟩:∃s,s=j % 32:=⟨_,rfl⟩;have f1:(j:Int)/32=(p:Int):=by omega
    have f2:(j:Int) % 32=(s:Int):=by omega
    have f3:IntKind.i64.wrap ((j:Int)/32)=(p:Int):=by rw[IntKind.wrap_i64];omega
    have f4:(j:Int).tmod 32=(s:Int):=by rw[Int.tmod_eq_emod_of_nonneg (by omega)];omega
    have hpn:p<n:=by have:=Hk.out;omega
    have hs31:s≤31:=by omega
    have Hj:Hid (j=32*p+s):=lH (by omega);have hjk:j≤68719476736:=by omega
    obtain⟨b1,off,rfl,hbw,hc⟩:=hs (by omega);have bx:=lims_getD HXl.out p;have hbit:=bit_of HXl.out (p:=p) (s:=s) (by rw[Hn.out];exact hpn) hs31;obtain⟨x,hx⟩:∃x,x=xs.getD p 0:=⟨_,rfl⟩;have C1:=lH (hc p hpn);rw[←hx]at bx hbit C1;rw[HA.out,←Hj.out]at hbit;obtain⟨bt,hbt⟩:∃bt,bt=A/2^j % 2:=⟨_,rfl⟩;rw[←hbt]at hbit;have hb2:bt<2:=by omega
    have ha:bits .and .u32 ((x:Int)/2^s) 1=(bt:Int):=by
     have h1:=and_one (x/2^s) (Nat.lt_of_le_of_lt (Nat.div_le_self _ _) bx);rw[hbit]at h1;rw[←h1];congr 1
    have HDS:=lH (div_step (m:=A/2^(j+1)) (V:=V) (b:=bt) H0.out hb2);have HBJ:=lH (bit_step A j);rw[←hbt]at HBJ;have HRV:Hid (A/2^(j+1) % V<V):=lH (Nat.mod_lt _ H0.out);generalize A/2^(j+1)=m at *
    have HszV:Hid (sz V≤2147483648):=lH (by rw[←HV.out];exact tL_ (sz_val HY.out.lims) Hyl.out)
    have Hsz1:Hid ((limbs (m % V)).length≤4294967296):=lH (by
     have h1:sz (m % V)≤sz V:=sz_mono (Nat.le_of_lt HRV.out);have:=HszV.out;unfold sz at *;omega)
    have Hsz2:Hid ((limbs (m % V*2)).length≤2147483652):=lH (by
     have h1:sz (m % V)≤sz V:=sz_mono (Nat.le_of_lt HRV.out);have h2:=sz_mul (m % V) 2;have h3:sz 2≤1:=sz_le (by decide);have:=HszV.out;unfold sz at *;omega)
    have Hsz3:Hid ((limbs (2*(m % V)+bt)).length≤2147483656):=lH (by
     have h2:=sz_add (m % V*2) bt;have h3:sz bt≤1:=sz_le (by omega);have:=Hsz2.out;rw[Nat.mul_comm 2];unfold sz at *;omega)
    clear hbt hbit hx hc hk Hk hsr hp
    go_wp2_with fail
    refine(rshl_one _ (limbs (m % V)) _ HR.out Hsz1.out).mono ?_;rintro e w5 ⟨v5,rfl,h5,hb5⟩;unfold Num at h5;rw[val_limbs]at h5;have HB5:=lH (HBl.out.trans (hb5.mono HBl.out.size));have HAr5:=lH (HAr.out.below hb5 HAr.out.lt);have c1:=(HB5.out.cell (p:=⟨b1,off+p,none⟩) hbw).trans C1.out;have H5:=lH (h5.below ((bR_ _ _).alloc (lR_ _) (.cells #[.int .u32 (bt:Int)] 150)));have S1:=sl_one w5 150 (bt:Int) (by omega);rw[Int.toNat_natCast]at S1;have HS1:=lH S1;clear S1 h5 hb5
    go_wp2_with fail
    refine(radd_any _ _ _ [bt] _ H5.out HS1.out (by have:=Hsz2.out;omega) (by simp)).mono ?_;rintro e w6 ⟨v6,rfl,h6,hb6⟩;unfold Num at h6;rw[val_limbs,show m % V*2+val [bt]=2*(m % V)+bt by simp only[val];omega]at h6;have HB6:=lH ((HB5.out.alloc HB5.out.size _).trans (hb6.mono (base_alloc HB5.out.size _)));have HAr6:=lH ((HAr5.out.below ((bR_ _ _).alloc (lR_ _) _) HAr5.out.lt).below hb6 (by have:=HAr5.out.lt;simp;omega));have H6:=lH h6;have HY6:=lH (HY.out.below HB6.out);clear h6 hb6 c1
    go_wp2_with fail
    refine(rcmp_any _ _ _ _ _ H6.out HY6.out).mono ?_;rintro e w7 ⟨v7,rfl,h7,hb7⟩;unfold Val at h7;subst h7;rw[val_limbs,HV.out];have HB7:=lH (HB6.out.trans (hb7.mono HB6.out.size));have HAr7:=lH (HAr6.out.below hb7 HAr6.out.lt);have H7:=lH (H6.out.below hb7);have HY7:=lH (HY6.out.below hb7);clear hb7;rcases Nat.lt_or_ge (2*(m % V)+bt) V with hlt|hge
    ·have hcd:=cmp_nge hlt;have HD:=lH (HDS.out.1 hlt);have Hlt:=lH hlt;clear hlt;generalize cmpN (2*(m % V)+bt) V=cm at *
     go_wp2
     go_roundw
     case rel=>
      refine⟨j,qs,hjk,rfl,lH (by have:=Hj.out;omega),lH ?_,HAr7,lH ?_,HB7⟩
      ·rw[HBJ.out,HD.out.2];exact H7.out
      ·rw[HBJ.out,HD.out.1];exact bitsInv_even HI.out
     case measure=>simp[intOf]<;>omega
    ·have hcd:=cmp_ge hge;have HD:=lH (HDS.out.2 hge);have Hge:=lH hge;clear hge;generalize cmpN (2*(m % V)+bt) V=cm at *
     go_wp2_with fail
     refine(rsub_anyF _ _ _ _ _ H7.out HY7.out (by have:=Hsz3.out;omega)).mono ?_;rintro e w8 ⟨v8,rfl,⟨v9,rfl,h9,hf9⟩,hb8⟩;rw[val_limbs,HV.out]at h9;have HB8:=lH (HB7.out.trans (hb8.mono HB7.out.size));have HAr8:=lH (HAr7.out.below hb8 HAr7.out.lt);have H9:=lH h9;have Hf9:=lH hf9;have Hlt7:=lH HAr7.out.lt;clear h9 hf9 hb8;have c3:=HAr8.out.cell p (by rw[HI.out.1];exact hpn);have c4:=HAr8.out.frozen p;have bu:=lims_getD HI.out.2.1 p;have HIj:Hid (bitsInv n (32*p+s+1) (m/V) qs):=lH (by rw[←Hj.out];exact HI.out);obtain⟨u,hu⟩:∃u,u=qs.getD p 0:=⟨_,rfl⟩;rw[←hu]at c3 bu;have Hu:=lH hu;clear hu
     have HOr:Hid (bits .or .u32 (u:Int) ((2:Int)^s % 4294967296)=((qs.getD p 0+2^s:Nat):Int)):=lH (by
      obtain⟨mm,hm1,hm2⟩:=bitsInv_limb HIj.out hpn hs31;have h31:2^s≤2^31:=Nat.pow_le_pow_right (by decide) hs31;have e31:2^31=2147483648:=by decide
      have e1:(2:Int)^s % 4294967296=((2^s:Nat):Int):=by
       have:((2^s:Nat):Int)=(2:Int)^s:=by simp
       rw[←this];generalize 2^s=P at h31 ⊢;omega
      have hps:0<2^s:=Nat.pow_pos (by decide);rw[e1,Hu.out,u32_or_nat _ _ (by omega) (by omega),hm1,Nat.or_comm,Nat.mul_comm,or_low (by rw[Nat.pow_succ];omega),Nat.add_comm])
     go_wp2_with fail
     go_region
     have HW:=lH ((HB8.out.setCell (p:=⟨w2.heap.size,p,none⟩) (lR_ _) (.int .u32 (bits .or .u32 (u:Int) ((2:Int)^s % 4294967296)))).drew);have HS9:Hid (Sl (w8.setCell ⟨w2.heap.size,p,none⟩ (.int .u32 (bits .or .u32 (u:Int) ((2:Int)^s % 4294967296)))).drew v9 (limbs (2*(m % V)+bt-V))):=lH ((H9.out.older Hf9.out Hlt7.out).drew)
     have HA9:Hid (Arr (w8.setCell ⟨w2.heap.size,p,none⟩ (.int .u32 (bits .or .u32 (u:Int) ((2:Int)^s % 4294967296)))).drew w2.heap.size (qs.set p (qs.getD p 0+2^s))):=lH (by
      rw[HOr.out];exact(HAr8.out.set p _).drew)
     clear c3 c4;go_wp2
     go_roundw
     case rel=>
      refine⟨j,_,hjk,rfl,lH (by have:=Hj.out;omega),lH ?_,HA9,lH ?_,HW⟩
      ·rw[HBJ.out,HD.out.2];exact HS9.out
      ·rw[HBJ.out,HD.out.1,Hj.out];exact bitsInv_odd HIj.out hpn hs31
     case measure=>simp[intOf]<;>omega
theorem uintB_eq (n:Nat):uintB n=true↔n<18446744073709551616:=by simp[uintB]
theorem rdivmod_any (v v':Value)(xs ys:List Nat)(w:World)(h:Sl w v xs)(h':Sl w v' ys)(hxl:xs.length≤2147483648)(hyl:ys.length≤2147483648):
  Calls Tryz.prog 168 #[v,v'] w (Ret w (Num2E (val xs/val ys) (dmR (val xs) (val ys)) (dmE (val ys)))):=by
 rcases eP_ (val ys)with h0|h0
 ·have:=rdiv_zero v v' xs ys w h h' h0;rw[h0];simpa [dmR,dmE]using this
 ·rw[dmR_pos h0,dmE_pos h0]
  by_cases hy:val ys<18446744073709551616
  ·by_cases hx:val xs<18446744073709551616
   ·exact rdiv_small v v' xs ys w h h' h0 hx hy
   ·exact rdiv_big v v' xs ys w h h' hxl hyl h0 (Or.inr ⟨(uintB_eq _).2 hy,by simpa [uintB]using hx⟩)
  ·exact rdiv_big v v' xs ys w h h' hxl hyl h0 (Or.inl (by simpa [uintB]using hy))
theorem rgcd_any (v v':Value)(xs ys:List Nat)(w:World)(h:Sl w v xs)(h':Sl w v' ys)(hx:xs.length≤2147483648)(hy:ys.length≤2147483648):
  Calls Tryz.prog 167 #[v,v'] w (Ret w (Num (Nat.gcd (val xs) (val ys)))):=by
 have hla:=sz_val h.lims;have hlb:=sz_val h'.lims
 go_enter Tryz.func167,Tryz.ntmps167
 go_wp2_with fail
 refine(rmake_any _ xs _ h).mono ?_;rintro e w1 ⟨v1,rfl,h1,hb1⟩;have h':=h'.below hb1
 go_wp2_with fail
 refine(rmake_any _ ys _ h').mono ?_;rintro e w2 ⟨v2,rfl,h2,hb2⟩;unfold Num at h1 h2;have H1:=lH (h1.below hb2);have H2:=lH h2;have HB0:=lH (hb1.trans (hb2.mono hb1.size));clear h h' h1 h2 hb1 hb2;obtain⟨G,hG⟩:∃G,G=Nat.gcd (val xs) (val ys):=⟨_,rfl⟩;have H0:Hid (sz (val xs)≤2147483648∧sz (val ys)≤2147483648):=lH (by omega);generalize val xs=a at *
 generalize val ys=b at *
 have HG:=lH hG;clear hG hla hlb
 go_wp2_with fail
 go_loopw [0,1] (fun va vb wr=>∃x y:Nat,Hid (Sl wr va (limbs x))∧Hid (Sl wr vb (limbs y))∧Hid (sz x≤2147483648∧sz y≤2147483648)∧Hid (G=Nat.gcd x y)∧Hid (Below w.heap.size w wr)) (fun _ vb wr=>numOf wr vb)
 case atStart=>exact⟨a,b,H1,H2,H0,HG,HB0⟩
 case round=>
  obtain⟨x,y,HX,HY,Hs,Hg,Hbl⟩:=hrel;have HYb:=HY;obtain⟨ad,n,cap,rfl,hn,-⟩:=HY.out;have Hn:Hid (sz y=n):=lH hn;clear hn HY
  by_cases h2:0<n
  ·have Hy0:Hid (0<y):=lH (by
    rcases eP_ y with h0|h0
    ·have:=Hn.out;rw[h0,sz_zero]at this;omega
    ·exact h0)
   go_wp2_with fail
   refine(rdivmod_any _ _ (limbs x) (limbs y) _ HX.out HYb.out Hs.out.1 Hs.out.2).mono ?_;rintro e w2 ⟨v3,rfl,⟨q,r,rfl,-,hr⟩,hb2⟩;rw[val_limbs,val_limbs,dmR_pos Hy0.out]at hr;have HY2:=lH (HYb.out.below hb2);have HR:=lH hr;have HB:=lH (Hbl.out.trans (hb2.mono Hbl.out.size));have HN:=lH (numOf_eq HYb.out);clear hr hb2;go_wp2
   go_roundw
   case rel=>
    exact⟨y,x % y,HY2,HR,lH ⟨Hs.out.2,tL_ (sz_mono (Nat.le_of_lt (Nat.mod_lt x Hy0.out))) Hs.out.2⟩,lH (by rw[gcd_swap];exact Hg.out),HB⟩
   case measure=>
    show numOf _ _<numOf _ _;rw[numOf_eq HR.out];rw[show numOf wr _=y from HN.out];exact Nat.mod_lt x Hy0.out
  ·have hy0:y=0:=sz_eq_zero.1 (by have:=Hn.out;omega);subst hy0;have HG2:Hid (a.gcd b=x):=lH (by rw[←HG.out,Hg.out,Nat.gcd_zero_right]);go_wp2
   go_ret
   exact⟨_,rfl,by rw[HG2.out];exact HX.out,Hbl.out⟩
abbrev b1 (x:Int):Obj:= .cells #[.int .u32 x] 150
abbrev b2 (x y:Int):Obj:= .cells #[.int .u32 x,.int .u32 y] 150
abbrev b3 (x y z:Int):Obj:= .cells #[.int .u32 x,.int .u32 y,.int .u32 z] 150
def Is (n L:Nat)(w:World)(v:Value):Prop:=∃xs,Sl w v xs∧val xs=n∧xs.length≤L
def Can (n L:Nat)(w:World)(v:Value):Prop:=Num n w v∧sz n≤L
def Can2E (n m L M:Nat)(err:Int)(w:World)(v:Value):Prop:=∃a b,v= .tuple #[a,b,.int .i64 err]∧Can n L w a∧Can m M w b
theorem Can.below {n L:Nat}{w w':World}{v:Value}(h:Can n L w v)(hb:Below w.heap.size w w'):Can n L w' v:=⟨Sl.below h.1 hb,h.2⟩
theorem Can.is {n L:Nat}{w:World}{v:Value}(h:Can n L w v):Is n L w v:=⟨limbs n,h.1,val_limbs n,h.2⟩
theorem Is.sz_le {n L:Nat}{w:World}{v:Value}(h:Is n L w v):sz n≤L:=by
 obtain⟨xs,⟨_,_,_,_,_,_,_,hl,_⟩,rfl,h3⟩:=h;exact tL_ (sz_val hl) h3
theorem dmR_le (a b:Nat):dmR a b≤a:=by unfold dmR;split;omega;exact Nat.mod_le _ _
theorem divmod_is {a b L M:Nat}{u v:Value}{w:World}(h:Is a L w u)(h':Is b M w v)(hL:L≤4294967296):
  Calls Tryz.prog 155 #[u,v] w (Ret w (Can2E (a/b) (dmR a b) L L (dmE b))):=by
 have hs:=h.sz_le;obtain⟨xs,h,rfl,hl⟩:=h;obtain⟨ys,h',rfl,hl'⟩:=h';refine(divmod_any _ _ _ _ _ h h' (by omega)).mono ?_;rintro e w' ⟨v,rfl,⟨q,r,rfl,hn,hm⟩,hb⟩;exact⟨_,rfl,⟨_,_,rfl,⟨hn,tL_ (sz_div _ _) hs⟩,hm,tL_ (sz_mono (dmR_le _ _)) hs⟩,hb⟩
theorem divmod_pos {a b L M:Nat}{u v:Value}{w:World}(hb:0<b)(h:Is a L w u)(h':Is b M w v)(hL:L≤4294967296):
  Calls Tryz.prog 155 #[u,v] w (Ret w (Can2E (a/b) (a % b) L L 0)):=by
 have:=divmod_is h h' hL
 rwa [dmR_pos hb,dmE_pos hb]at this
theorem uint_sl {xs:List Nat}{B:Bool}{U:Int}{u:Value}{w:World}(hU:((uintN (val xs):Nat):Int)=U)(hB:uintB (val xs)=B)(h:Sl w u xs):
  Calls Tryz.prog 180 #[u] w (Ret w (Val (.tuple #[.int .u64 U,.bool B]))):=by rw[←hB,←hU];exact uint_any _ _ _ h
theorem of_can {x:Nat}{w:World}(hx:x<18446744073709551616):Calls Tryz.prog 119 #[.int .u64 (x:Int)] w (Ret w (Can x 2)):=by
 refine(of_any x w hx).mono ?_;rintro e w' ⟨v,rfl,hn,hb⟩;exact⟨_,rfl,⟨hn,sz_le (by simpa using hx)⟩,hb⟩
theorem uint_can {x L:Nat}{u:Value}{w:World}(hx:x<18446744073709551616)(h:Can x L w u):
  Calls Tryz.prog 180 #[u] w (Ret w (Val (.tuple #[.int .u64 (x:Int),.bool true]))):=
 uint_sl (by rw[val_limbs];simp[uintN,hx]) (by rw[val_limbs];simp[uintB,hx]) h.1
def iv (neg:Bool)(m:Nat):Int:=if neg then -(m:Int)else m
theorem iv_abs (neg:Bool)(m:Nat):(iv neg m).natAbs=m:=by unfold iv;split<;>omega
theorem iv_lt (neg:Bool)(m:Nat):decide (iv neg m<0)=(neg&&decide (0<m)):=by
 unfold iv;cases neg<;>simp
theorem iv_not (neg:Bool)(m:Nat):iv (!neg) m= -iv neg m:=by cases neg<;>simp[iv]
theorem iv_mul (na nb:Bool)(ma mb:Nat):iv (!na==nb) (ma*mb)=iv na ma*iv nb mb:=by
 cases na<;>cases nb<;>simp[iv,Int.natCast_mul,Int.neg_mul,Int.mul_neg]
theorem iv_add (na:Bool)(ma mb:Nat):iv na (ma+mb)=iv na ma+iv na mb:=by
 cases na<;>simp[iv]<;>omega
theorem iv_sub (na:Bool){ma mb:Nat}(h:mb≤ma):iv na (ma-mb)=iv na ma+iv (!na) mb:=by
 cases na<;>simp[iv]<;>omega
theorem iv_sub' (na:Bool){ma mb:Nat}(h:ma≤mb):iv (!na) (mb-ma)=iv na ma+iv (!na) mb:=by
 cases na<;>simp[iv]<;>omega
theorem cmpN_ge {a b:Nat}(h:b≤a):decide (cmpN a b<0)=false:=by
 unfold cmpN;rw[if_neg (by omega)];split<;>rfl
theorem iv_sign_0 {n:Bool}{m:Nat}(h:m=0):(iv n m).sign=0:=by subst h;cases n<;>rfl
theorem iv_sign_false {m:Nat}(h:0<m):(iv false m).sign=1:=by
 show(m:Int).sign=1;exact Int.sign_eq_one_of_pos (by omega)
theorem iv_sign_true {m:Nat}(h:0<m):(iv true m).sign= -1:=by
 show(-(m:Int)).sign= -1;exact Int.sign_eq_neg_one_of_neg (by omega)
theorem sub_sign_lt {y z:Int}(h:y.sign<z.sign):(y-z).sign= -1:=by
 apply Int.sign_eq_neg_one_of_neg
 rcases Int.lt_trichotomy y 0 with h1|h1|h1<;>rcases Int.lt_trichotomy z 0 with h2|h2|h2<;>
  simp[Int.sign_eq_neg_one_of_neg,Int.sign_eq_one_of_pos,h1,h2]at h<;>omega
theorem sub_sign_gt {y z:Int}(h:z.sign<y.sign):(y-z).sign=1:=by
 apply Int.sign_eq_one_of_pos
 rcases Int.lt_trichotomy y 0 with h1|h1|h1<;>rcases Int.lt_trichotomy z 0 with h2|h2|h2<;>
  simp[Int.sign_eq_neg_one_of_neg,Int.sign_eq_one_of_pos,h1,h2]at h<;>omega
theorem cmpN_sign (a b:Nat):cmpN a b=((a:Int)-b).sign:=by
 rcases Nat.lt_trichotomy a b with h|h|h
 ·rw[cmpN_lt h,Int.sign_eq_neg_one_of_neg (by omega)]
 ·rw[cmpN_eq h,h];simp
 ·rw[cmpN_gt h,Int.sign_eq_one_of_pos (by omega)]
theorem sign_neg_iff {y:Int}:y.sign<0↔y<0:=by
 rcases Int.lt_trichotomy y 0 with h1|h1|h1
 ·simp[Int.sign_eq_neg_one_of_neg h1,h1]
 ·simp[h1]
 ·simp[Int.sign_eq_one_of_pos h1];omega
theorem cmp_neg {na nb:Bool}{ma mb:Nat}(h:(iv na ma).sign<0)(hs:(iv na ma).sign=(iv nb mb).sign):cmpN mb ma=(iv na ma-iv nb mb).sign:=by
 have h2:(iv nb mb).sign<0:=hs▸h;rw[sign_neg_iff]at h h2;rw[cmpN_sign]
 congr 1
 cases na<;>cases nb<;>simp[iv]at h h2 ⊢ <;>omega
theorem cmp_pos {na nb:Bool}{ma mb:Nat}(h:¬(iv na ma).sign<0)(hs:(iv na ma).sign=(iv nb mb).sign):cmpN ma mb=(iv na ma-iv nb mb).sign:=by
 have h2:¬(iv nb mb).sign<0:=hs▸h;rw[sign_neg_iff]at h h2;rw[cmpN_sign]
 congr 1
 cases na<;>cases nb<;>simp[iv]at h h2 ⊢ <;>omega
theorem u64_wrap (n:Int):IntKind.u64.wrap n=n % 18446744073709551616:=rfl
theorem neg_arg {x:Int}(h1: -9223372036854775808≤x)(h2:x<0):IntKind.u64.wrap (-IntKind.u64.wrap x)=((x.natAbs:Nat):Int):=by
 rw[u64_wrap,u64_wrap];omega
theorem iv_of_neg {x:Int}(h:x<0):iv true x.natAbs=x:=by simp[iv];omega
theorem iv_of_pos {x:Int}(h:0≤x):iv false x.natAbs=x:=by simp[iv];omega
def un (d:Nat):Nat:=if d=0 then 1 else d
theorem un_pos (d:Nat):0<un d:=by unfold un;split<;>omega
theorem un_ne (d:Nat):un d≠0:=Nat.ne_of_gt (un_pos d)
def rv (neg:Bool)(n d:Nat):Rat:=mkRat (iv neg n) (un d)
def dn (q:Rat):Nat:=if q.den=1 then 0 else q.den
def Sm (L:Nat)(q:Rat):Prop:=sz q.num.natAbs≤L∧sz q.den≤L
theorem un_dn (q:Rat):un (dn q)=q.den:=by
 unfold un dn;have:=q.den_pos
 by_cases h:q.den=1
 ·rw[if_pos h,if_pos rfl,h]
 ·rw[if_neg h,if_neg (by omega)]
theorem num_sign (q:Rat):iv (decide (q<0)) q.num.natAbs=q.num:=by
 unfold iv
 by_cases h:q<0
 ·have:¬0≤q.num:=by rw[Rat.num_nonneg];exact Rat.not_le.mpr h
  simp[h];omega
 ·have:0≤q.num:=by rw[Rat.num_nonneg];exact Rat.not_lt.mp h
  simp[h];omega
theorem rv_self (q:Rat):rv (decide (q<0)) q.num.natAbs (dn q)=q:=by
 unfold rv;rw[num_sign,un_dn];exact Rat.mkRat_self q
theorem sz_zero_le (L:Nat):sz 0≤L:=by rw[sz_zero];exact zL_ _
theorem Sm.dn {L:Nat}{q:Rat}(h:Sm L q):sz (dn q)≤L:=by
 unfold Go.Proofs.YthdoopaenanibaaGreatDoor.dn;split
 ·exact sz_zero_le L
 ·exact h.2
theorem rv_neg (neg:Bool)(n d:Nat):rv (!neg) n d= -rv neg n d:=by unfold rv;rw[iv_not,Rat.neg_mkRat]
theorem mkRat_lt {z:Int}{d:Nat}(hd:0<d):mkRat z d<0↔z<0:=by
 rw[←Rat.not_le,←Rat.divInt_ofNat,Rat.divInt_nonneg_iff_of_pos_right (by omega)];omega
theorem iv_neg_iff {neg:Bool}{n:Nat}(hn:0<n):iv neg n<0↔neg=true:=by cases neg<;>simp[iv]<;>omega
theorem rat_num {neg:Bool}{n d:Nat}(hd:0<d):(mkRat (iv neg n) d).num.natAbs=n/Nat.gcd n d:=by
 rw[Rat.num_mkRat,if_neg (by omega),iv_abs,Nat.gcd_comm];have hdv:((Nat.gcd n d:Nat):Int)∣(n:Int):=by exact_mod_cast Nat.gcd_dvd_left n d
 cases neg
 ·simp[iv];rfl
 ·show(-(n:Int)/_).natAbs=_;rw[Int.neg_ediv_of_dvd hdv,Int.natAbs_neg];rfl
theorem rat_den {neg:Bool}{n d:Nat}(hd:0<d):(mkRat (iv neg n) d).den=d/Nat.gcd n d:=by
 rw[Rat.den_mkRat,if_neg (by omega),iv_abs,Nat.gcd_comm]
theorem un_of {d:Nat}(h:0<d):d=un d:=by unfold un;rw[if_neg (by omega)]
theorem mkRat_one (z:Int):mkRat z 1=(z:Rat):=Rat.ext (by rw[Rat.num_mkRat];simp) (by rw[Rat.den_mkRat];simp)
theorem div_sign (ba bb:Bool)(na nb:Nat)(h:0<nb):mkRat (iv (!ba==bb) na) nb=((iv ba na:Int):Rat)/((iv bb nb:Int):Rat):=by
 rw[←Rat.divInt_eq_div]
 cases bb
 ·rw[show(!ba==false)=ba by cases ba<;>rfl];show _=Rat.divInt (iv ba na) (nb:Int);rw[Rat.divInt_ofNat]
 ·rw[show(!ba==true)=(!ba) by cases ba<;>rfl,iv_not];show _=Rat.divInt (iv ba na) (-(nb:Int));rw[Rat.divInt_neg',Rat.divInt_ofNat]
theorem rv_sign (b:Bool)(n d:Nat):(iv b n).sign=(rv b n d).num.sign:=by
 have h:=mkRat_lt (z:=iv b n) (un_pos d);have h2:=Rat.mkRat_eq_zero (n:=iv b n) (un_ne d);rcases Int.lt_trichotomy (iv b n) 0 with h3|h3|h3
 ·rw[Int.sign_eq_neg_one_of_neg h3,Int.sign_eq_neg_one_of_neg];have:=h.2 h3;rw[←Rat.not_le,←Rat.num_nonneg]at this;unfold rv;omega
 ·unfold rv;rw[h3];simp
 ·rw[Int.sign_eq_one_of_pos h3,Int.sign_eq_one_of_pos];have h4:¬mkRat (iv b n) (un d)<0:=by rw[h];omega
  have h5:¬mkRat (iv b n) (un d)=0:=by rw[h2];omega
  rw[←Rat.num_eq_zero]at h5;rw[Rat.not_lt,←Rat.num_nonneg]at h4;unfold rv;omega
def cmpQ (a b:Rat):Int:=(a-b).num.sign
theorem sign_mkRat {z:Int}{d:Nat}(hd:0<d):(mkRat z d).num.sign=z.sign:=by
 have h:=mkRat_lt (z:=z) hd;have h2:=Rat.mkRat_eq_zero (n:=z) (Nat.ne_of_gt hd);rcases Int.lt_trichotomy z 0 with h3|h3|h3
 ·rw[Int.sign_eq_neg_one_of_neg h3,Int.sign_eq_neg_one_of_neg];have:=h.2 h3;rw[←Rat.not_le,←Rat.num_nonneg]at this;omega
 ·rw[h3];simp
 ·rw[Int.sign_eq_one_of_pos h3,Int.sign_eq_one_of_pos];have h4:¬mkRat z d<0:=by rw[h];omega
  have h5:¬mkRat z d=0:=by rw[h2];omega
  rw[←Rat.num_eq_zero]at h5;rw[Rat.not_lt,←Rat.num_nonneg]at h4;omega
theorem cmpQ_rv (ba bb:Bool)(na da nb db:Nat):cmpQ (rv ba na da) (rv bb nb db)=(iv ba na*(un db:Nat)-iv bb nb*(un da:Nat)).sign:=by
 unfold cmpQ rv;rw[Rat.sub_eq_add_neg,Rat.neg_mkRat,Rat.mkRat_add_mkRat _ _ (un_ne _) (un_ne _),sign_mkRat (Nat.mul_pos (un_pos _) (un_pos _)),Int.neg_mul,←Int.sub_eq_add_neg]
theorem sgn_mul_un (z:Int)(d:Nat):(z*(un d:Nat)).sign=z.sign:=by
 have:=un_pos d;rw[Int.sign_mul,Int.sign_eq_one_of_pos (a:=((un d:Nat):Int)) (by omega),Int.mul_one]
theorem cross_lt {x y:Int}{c d:Nat}(h:x.sign<y.sign):(x*(un c:Nat)-y*(un d:Nat)).sign= -1:=sub_sign_lt (by rw[sgn_mul_un,sgn_mul_un];exact h)
theorem cross_gt {x y:Int}{c d:Nat}(h:y.sign<x.sign):(x*(un c:Nat)-y*(un d:Nat)).sign=1:=sub_sign_gt (by rw[sgn_mul_un,sgn_mul_un];exact h)
theorem add_parts {ba bb bs:Bool}{na da nb db:Nat}(h:iv bs (iv ba na*(un db:Nat)+iv bb nb*(un da:Nat)).natAbs=iv ba na*(un db:Nat)+iv bb nb*(un da:Nat)):
  mkRat (iv bs (iv ba na*(un db:Nat)+iv bb nb*(un da:Nat)).natAbs) (un da*un db)=rv ba na da+rv bb nb db:=by
 rw[h];unfold rv;rw[Rat.mkRat_add_mkRat _ _ (un_ne _) (un_ne _)]
theorem mul_parts (ba bb:Bool)(na da nb db:Nat):mkRat (iv (!ba==bb) (na*nb)) (un da*un db)=rv ba na da*rv bb nb db:=by
 rw[iv_mul];unfold rv;rw[Rat.mkRat_mul_mkRat]
theorem div_parts (ba bb:Bool)(na da nb db:Nat)(h:0<nb):mkRat (iv (!ba==bb) (na*un db)) (un da*nb)=rv ba na da/rv bb nb db:=by
 have e:rv bb nb db*mkRat (iv (!ba==bb) (na*un db)) (un da*nb)=rv ba na da:=by
  unfold rv;rw[Rat.mkRat_mul_mkRat];have e1:iv bb nb*iv (!ba==bb) (na*un db)=iv ba na*((un db*nb:Nat):Int):=by
   cases ba<;>cases bb<;>simp[iv,Int.natCast_mul,Int.neg_mul,Int.mul_neg]<;>ac_rfl
  rw[e1,show un db*(un da*nb)=un da*(un db*nb) by ac_rfl];exact Rat.mkRat_mul_right (Nat.ne_of_gt (Nat.mul_pos (un_pos _) h))
 have h0:rv bb nb db≠0:=by
  unfold rv;rw[Ne,Rat.mkRat_eq_zero (un_ne _)]
  cases bb<;>simp[iv]<;>omega
 rw[←e,Rat.mul_comm,Rat.mul_div_cancel h0]
theorem cmpQ_le {a b:Rat}:cmpQ a b≤0↔a≤b:=by
 unfold cmpQ;have e:b-a= -(a-b):=(Rat.neg_sub a b).symm;rw[Rat.le_iff_sub_nonneg,e,←Rat.num_nonneg,Rat.neg_num];rcases Int.lt_trichotomy (a-b).num 0 with h|h|h
 ·rw[Int.sign_eq_neg_one_of_neg h];omega
 ·rw[h];simp
 ·rw[Int.sign_eq_one_of_pos h];omega
theorem cmpQ_ge {a b:Rat}:0≤cmpQ a b↔b≤a:=by
 unfold cmpQ;rw[Rat.le_iff_sub_nonneg,←Rat.num_nonneg];rcases Int.lt_trichotomy (a-b).num 0 with h|h|h
 ·rw[Int.sign_eq_neg_one_of_neg h];omega
 ·rw[h];simp
 ·rw[Int.sign_eq_one_of_pos h];omega
theorem num_pos {n d:Nat}(h:0<n):0<n/Nat.gcd n d:=Nat.div_pos (Nat.le_of_dvd h (Nat.gcd_dvd_left n d)) (Nat.gcd_pos_of_pos_left d h)
theorem den_zero {n d:Nat}(hz:n=0)(hd:0<d):(d/Nat.gcd n d==1)=true:=by
 rw[hz,Nat.gcd_zero_left,Nat.div_self hd];rfl
theorem zadd_parts {ba bb bs:Bool}{na da nb db:Nat}(h:iv bs (iv ba (na*un db)+iv bb (nb*un da)).natAbs=iv ba (na*un db)+iv bb (nb*un da)):
  mkRat (iv bs (iv ba (na*un db)+iv bb (nb*un da)).natAbs) (un da*un db)=rv ba na da+rv bb nb db:=by
 rw[h];unfold rv;rw[Rat.mkRat_add_mkRat _ _ (un_ne _) (un_ne _)]
 congr 1
 cases ba<;>cases bb<;>simp[iv,Int.natCast_mul,Int.neg_mul]
theorem val_inj:∀{xs ys:List Nat},lims xs→lims ys→xs.length=ys.length→val xs=val ys→xs=ys:=by
 intro xs
 induction xs with
 |nil=>intro ys _ _ h _;cases ys with|nil=>rfl|cons y ys=>simp at h
 |cons x xs ih=>
  intro ys h1 h2 hl hv
  cases ys with
  |nil=>simp at hl
  |cons y ys=>
   have a:=h1 x List.mem_cons_self;have b:=h2 y List.mem_cons_self;simp only[val]at hv;have e:x=y:=by omega
   subst e;rw[ih (fun z hz=>h1 z (List.mem_cons_of_mem _ hz)) (fun z hz=>h2 z (List.mem_cons_of_mem _ hz)) (by simpa using hl) (by omega)]
def vB (b:Bool)(xs ys:List Nat)(q:Rat):Bool:=b==decide (q<0)&&same xs (limbs q.num.natAbs)&&same ys (limbs (dn q))
theorem same_parts {xs:List Nat}{n:Nat}(h:lims xs):same xs (limbs n)=((xs.length==(limbs n).length)&&(cmpN (val xs) n==0)):=by
 unfold same
 by_cases e:xs=limbs n
 ·rw[decide_eq_true e,e,val_limbs,cmpN_eq rfl];simp
 ·rw[decide_eq_false e]
  symm
  rw[Bool.and_eq_false_iff]
  by_cases hl:xs.length=(limbs n).length
  ·right
   rw[beq_eq_false_iff_ne];intro hc;have hv:val xs=n:=by
    unfold cmpN at hc
    by_cases h1:val xs<n
    ·rw[if_pos h1]at hc;cases hc
    ·rw[if_neg h1]at hc
     by_cases h2:val xs=n
     ·exact h2
     ·rw[if_neg h2]at hc;cases hc
   exact e (val_inj h (lims_limbs n) hl (by rw[val_limbs];exact hv))
  ·left;simpa using hl
theorem vB_nil {b:Bool}{xs:List Nat}(h:lims xs):vB b xs [] (rv b (val xs) 0)=(canon xs&&(!b||decide (0<xs.length))):=by
 have e:rv b (val xs) 0=((iv b (val xs):Int):Rat):=by unfold rv;rw[show un 0=1 from rfl,mkRat_one]
 have e1:((iv b (val xs):Int):Rat).num.natAbs=val xs:=by rw[Rat.num_intCast,iv_abs]
 have e2:dn ((iv b (val xs):Int):Rat)=0:=by unfold dn;rw[Rat.den_intCast];rfl
 have e3:(((iv b (val xs):Int):Rat)<0)↔iv b (val xs)<0:=by rw[Rat.lt_iff];simp
 unfold vB;rw[e,e1,e2,limbs_zero]
 by_cases hc:canon xs=true
 ·have hl:limbs (val xs)=xs:=limbs_val h (by
   unfold canon at hc;simp only[Bool.or_eq_true,beq_iff_eq,bne_iff_ne]at hc;rcases hc with h1|h1
   ·left;exact List.length_eq_zero_iff.1 h1
   ·right;exact h1)
  rw[hl,hc,show same xs xs=true by simp[same],show same ([]:List Nat) []=true by simp[same]]
  cases b
  ·have:¬iv false (val xs)<0:=by simp[iv]
   rw[decide_eq_false (mt e3.1 this)];simp
  ·by_cases h0:0<xs.length
   ·have hv:0<val xs:=by
     rcases eP_ (val xs)with h1|h1
     ·rw[h1,limbs_zero]at hl;rw[←hl]at h0;simp at h0
     ·exact h1
    rw[decide_eq_true (e3.2 ((iv_neg_iff hv).2 rfl)),decide_eq_true h0];rfl
   ·have hx:xs=[]:=List.length_eq_zero_iff.1 (by omega);subst hx;have:¬iv true (val [])<0:=by simp[iv,val]
    rw[decide_eq_false (mt e3.1 this)];simp
 ·have hn:same xs (limbs (val xs))=false:=by
   unfold same;rw[decide_eq_false];intro h1;rw[h1,canon_limbs]at hc;exact hc rfl
  rw[hn,Bool.eq_false_iff.2 hc];simp
theorem vB_can (q:Rat):vB (decide (q<0)) (limbs q.num.natAbs) (limbs (dn q)) q=true:=by simp[vB,same]
theorem limbs_one:limbs 1=[1]:=by rw[limbs_pos (by decide)];simp[limbs_zero]
end Go.Proofs.YthdoopaenanibaaGreatDoor
namespace Go.Proofs.YthdoopaenanibaaGreatDoor.Lf
def smR (f:Nat→Rat):Nat→Rat
 |0=>0
 |n+1=>smR f n+f n
theorem smR_congr {f g:Nat→Rat}:∀{n:Nat},(∀j,j<n→f j=g j)→smR f n=smR g n
 |0,_=>rfl
 |n+1,h=>by rw[smR,smR,smR_congr fun j hj=>h j (by omega),h n (by omega)]
theorem smR_zero {f:Nat→Rat}{n:Nat}(h:∀j,j<n→f j=0):smR f n=0:=by
 induction n with
 |zero=>rfl
 |succ n ih=>rw[smR,ih fun j hj=>h j (by omega),h n (by omega)];grind
theorem smR_add (f g:Nat→Rat)(n:Nat):smR (fun j=>f j+g j) n=smR f n+smR g n:=by
 induction n with
 |zero=>rw[smR,smR,smR];grind
 |succ n ih=>rw[smR,smR,smR,ih];grind
theorem smR_mul (c:Rat)(f:Nat→Rat)(n:Nat):smR (fun j=>c*f j) n=c*smR f n:=by
 induction n with
 |zero=>rw[smR,smR];grind
 |succ n ih=>rw[smR,smR,ih];grind
theorem smR_sub (f g:Nat→Rat)(n:Nat):smR (fun j=>f j-g j) n=smR f n-smR g n:=by
 induction n with
 |zero=>rw[smR,smR,smR];grind
 |succ n ih=>rw[smR,smR,smR,ih];grind
theorem smR_at {f:Nat→Rat}{n e:Nat}(he:e<n):smR f n=smR (fun j=>if j=e then 0 else f j) n+f e:=by
 induction n with
 |zero=>omega
 |succ n ih=>
  rw[smR,smR]
  by_cases h:n=e
  ·subst h;rw[if_pos rfl,smR_congr (g:=f) (n:=n) (f:=fun j=>if j=n then 0 else f j) fun j hj=>if_neg (by omega)];grind
  ·rw[if_neg h,ih (by omega)];grind
theorem smR_single {f:Nat→Rat}{n e:Nat}(he:e<n)(h:∀j,j<n→j≠e→f j=0):smR f n=f e:=by
 rw[smR_at he,smR_zero fun j hj=> ?_]
 ·grind
 ·split
  ·rfl
  ·exact h j hj ‹_›
theorem smR_neg {f:Nat→Rat}{n:Nat}(h:smR f n<0):∃j,j<n∧f j<0:=by
 induction n with
 |zero=>rw[smR]at h;exact absurd h (by decide)
 |succ n ih=>
  rw[smR]at h;rcases Classical.em (smR f n<0)with h1|h1
  ·obtain⟨j,hj,hf⟩:=ih h1;exact⟨j,by omega,hf⟩
  ·exact⟨n,by omega,by grind⟩
theorem smR_nonneg {f:Nat→Rat}{n:Nat}(h:∀j,j<n→0≤f j):0≤smR f n:=by
 induction n with
 |zero=>rw[smR];exact Rat.le_refl
 |succ n ih=>rw[smR];have:=ih fun j hj=>h j (by omega);have:=h n (by omega);grind
abbrev gq (l:List Rat)(j:Nat):Rat:=l.getD j 0
abbrev gn (l:List Nat)(j:Nat):Nat:=l.getD j 0
def lv (N:List Nat)(l:List Rat)(v:Nat→Rat):Rat:=smR (fun j=>gq l j*v (gn N j)) N.length+gq l N.length
theorem lv_congr {N:List Nat}{l:List Rat}{v u:Nat→Rat}(h:∀x∈N,v x=u x):lv N l v=lv N l u:=by
 unfold lv;rw[smR_congr fun j hj=> ?_];rw[h _ ?_];rw[gn,List.getD_eq_getElem?_getD,List.getElem?_eq_getElem hj];exact List.getElem_mem _
theorem gn_set {N:List Nat}{e b j:Nat}(he:e<N.length):gn (N.set e b) j=if j=e then b else gn N j:=by
 unfold gn;rw[List.getD_eq_getElem?_getD,List.getD_eq_getElem?_getD,List.getElem?_set]
 by_cases h:e=j
 ·subst h;rw[if_pos rfl,if_pos rfl,if_pos he];rfl
 ·rw[if_neg h,if_neg (Ne.symm h)]
def sbL (l:List Rat)(e:Nat)(f:List Rat):List Rat:=(List.range l.length).map fun j=>(if j=e then 0 else gq l j)+gq l e*gq f j
theorem sbL_len (l:List Rat)(e:Nat)(f:List Rat):(sbL l e f).length=l.length:=by simp[sbL]
theorem sbL_at {l:List Rat}{e j:Nat}{f:List Rat}(h:j<l.length):gq (sbL l e f) j=(if j=e then 0 else gq l j)+gq l e*gq f j:=by
 unfold sbL gq;rw[List.getD_eq_getElem?_getD,List.getElem?_map,List.getElem?_range h];rfl
theorem lv_sb {N:List Nat}{l f:List Rat}{e b:Nat}{v:Nat→Rat}(he:e<N.length)(hl:l.length=N.length+1)(hf:lv (N.set e b) f v=v (gn N e)):lv (N.set e b) (sbL l e f) v=lv N l v:=by
 unfold lv at *
 rw[List.length_set]at *
 rw[sbL_at (by omega),if_neg (by omega)];have e1:smR (fun j=>gq (sbL l e f) j*v (gn (N.set e b) j)) N.length=smR (fun j=>(if j=e then 0 else gq l j*v (gn N j))+gq l e*(gq f j*v (gn (N.set e b) j))) N.length:=by
  refine smR_congr fun j hj=> ?_;rw[sbL_at (by omega),gn_set he];split<;>grind
 rw[e1,smR_add,smR_mul,smR_at (f:=fun j=>gq l j*v (gn N j)) he];grind
def pvL (old:List Rat)(e:Nat):List Rat:=(List.range old.length).map fun j=>if j=e then 1/gq old e else -gq old j/gq old e
theorem pvL_len (l:List Rat)(e:Nat):(pvL l e).length=l.length:=by simp[pvL]
theorem pvL_at {l:List Rat}{e j:Nat}(h:j<l.length):gq (pvL l e) j=if j=e then 1/gq l e else -gq l j/gq l e:=by
 unfold pvL gq;rw[List.getD_eq_getElem?_getD,List.getElem?_map,List.getElem?_range h];rfl
theorem div_eq' (a b:Rat):a/b=a*(1/b):=by rw[Rat.div_def,Rat.div_def,Rat.one_mul]
theorem one_div_mul {a:Rat}(h:a≠0):a*(1/a)=1:=by rw[Rat.div_def,Rat.one_mul];exact Rat.mul_inv_cancel a h
theorem lv_pv {N:List Nat}{l:List Rat}{e b:Nat}{v:Nat→Rat}(he:e<N.length)(hl:l.length=N.length+1)(ha:gq l e≠0):lv (N.set e b) (pvL l e) v=v (gn N e)↔v b=lv N l v:=by
 have hi:=one_div_mul ha;have key:gq l e*lv (N.set e b) (pvL l e) v=v b-lv N l v+gq l e*v (gn N e):=by
  unfold lv;rw[List.length_set,pvL_at (by omega),if_neg (by omega),smR_at (f:=fun j=>gq (pvL l e) j*v (gn (N.set e b) j)) he,smR_at (f:=fun j=>gq l j*v (gn N j)) he];have e1:gq l e*smR (fun j=>if j=e then 0 else gq (pvL l e) j*v (gn (N.set e b) j)) N.length= -smR (fun j=>if j=e then 0 else gq l j*v (gn N j)) N.length:=by
   rw[←smR_mul];have:∀x:Rat,-x=(-1)*x:=fun x=>by grind
   rw[this (smR _ _),←smR_mul];refine smR_congr fun j hj=> ?_;rw[gn_set he,pvL_at (by omega)]
   by_cases h:j=e
   ·rw[if_pos h,if_pos h];grind
   ·rw[if_neg h,if_neg h,if_neg h,if_neg h,div_eq'];grind
  rw[gn_set he,if_pos rfl,pvL_at (by omega),if_pos rfl,div_eq' (-gq l N.length)];grind
 constructor
 ·intro h;rw[h]at key;grind
 ·intro h;rw[h]at key;have:gq l e*(lv (N.set e b) (pvL l e) v-v (gn N e))=0:=by grind
  rcases Rat.mul_eq_zero.1 this with h1|h1
  ·exact absurd h1 ha
  ·grind
structure Dk where
 B:List Nat
 N:List Nat
 F:List (List Rat)
abbrev Dk.row (D:Dk)(i:Nat):List Rat:=D.F.getD i []
structure Dk.Wf (D:Dk):Prop where
 fl:D.F.length=D.B.length
 rl:∀i,i<D.B.length→(D.row i).length=D.N.length+1
 nd:(D.B++D.N).Nodup
def Dk.Sat (D:Dk)(v:Nat→Rat):Prop:=∀i,i<D.B.length→v (gn D.B i)=lv D.N (D.row i) v
def Dk.pv (D:Dk)(r e:Nat):Dk:=⟨D.B.set r (gn D.N e),D.N.set e (gn D.B r),(List.range D.F.length).map fun i=>if i=r then pvL (D.row r) e else sbL (D.row i) e (pvL (D.row r) e)⟩
theorem gn_mem {l:List Nat}{i:Nat}(h:i<l.length):gn l i∈l:=by
 rw[gn,List.getD_eq_getElem?_getD,List.getElem?_eq_getElem h];exact List.getElem_mem _
theorem gn_of_mem {l:List Nat}{x:Nat}(h:x∈l):∃i,i<l.length∧gn l i=x:=by
 obtain⟨i,hi,e⟩:=List.mem_iff_getElem.1 h;exact⟨i,hi,by rw[gn,List.getD_eq_getElem?_getD,List.getElem?_eq_getElem hi];exact e⟩
theorem gn_inj {l:List Nat}(h:l.Nodup){i j:Nat}(hi:i<l.length)(hj:j<l.length)(e:gn l i=gn l j):i=j:=by
 rw[gn,gn,List.getD_eq_getElem?_getD,List.getD_eq_getElem?_getD,List.getElem?_eq_getElem hi,List.getElem?_eq_getElem hj]at e;exact(List.getElem_inj h).1 e
theorem set_split {l:List Nat}{i x:Nat}(h:i<l.length):∃a b,l=a++gn l i::b∧l.set i x=a++x::b:=by
 refine⟨l.take i,l.drop (i+1),?_,?_⟩
 ·rw[gn,List.getD_eq_getElem?_getD,List.getElem?_eq_getElem h];simp
 ·rw[List.set_eq_take_append_cons_drop,if_pos h]
section
variable {D:Dk} {r e:Nat} {v:Nat→Rat}
theorem Dk.pv_row {i:Nat}(h:i<D.F.length):(D.pv r e).row i=if i=r then pvL (D.row r) e else sbL (D.row i) e (pvL (D.row r) e):=by
 unfold Dk.pv Dk.row;rw[List.getD_eq_getElem?_getD,List.getElem?_map,List.getElem?_range h];rfl
theorem Dk.pv_perm (hr:r<D.B.length)(he:e<D.N.length):((D.pv r e).B++(D.pv r e).N).Perm (D.B++D.N):=by
 obtain⟨a,b,h1,h2⟩:=set_split (x:=gn D.N e) hr;obtain⟨c,d,h3,h4⟩:=set_split (x:=gn D.B r) he;show(D.B.set r (gn D.N e)++D.N.set e (gn D.B r)).Perm _;rw[h2,h4];generalize gn D.B r=x at *
 generalize gn D.N e=y at *
 rw[h1,h3,List.perm_iff_count];intro z;simp only[List.count_append,List.count_cons];omega
theorem Dk.Wf.pv (h:D.Wf)(hr:r<D.B.length)(he:e<D.N.length):(D.pv r e).Wf:=by
 refine⟨by simp[Dk.pv,h.fl],fun i hi=> ?_,(Dk.pv_perm hr he).nodup_iff.2 h.nd⟩;have hi':i<D.B.length:=by simpa [Dk.pv]using hi
 rw[Dk.pv_row (by rw[h.fl];exact hi')];show _=(D.N.set e _).length+1;rw[List.length_set];split
 ·rw[pvL_len];exact h.rl r hr
 ·rw[sbL_len];exact h.rl i hi'
theorem Dk.Wf.sat_pv (h:D.Wf)(hr:r<D.B.length)(he:e<D.N.length)(ha:gq (D.row r) e≠0):(D.pv r e).Sat v↔D.Sat v:=by
 have hB:∀i,gn (D.B.set r (gn D.N e)) i=if i=r then gn D.N e else gn D.B i:=fun i=>gn_set hr
 have hlen:(D.pv r e).B.length=D.B.length:=by simp[Dk.pv]
 have hp:=lv_pv (b:=gn D.B r) (v:=v) he (h.rl r hr) ha;constructor
 ·intro k i hi;have kr:=k r (by rw[hlen];exact hr);have ki:=k i (by rw[hlen];exact hi);rw[Dk.pv_row (by rw[h.fl];exact hr),if_pos rfl]at kr;rw[Dk.pv_row (by rw[h.fl];exact hi)]at ki;simp only[Dk.pv]at kr ki;rw[hB,if_pos rfl]at kr;rw[hB]at ki
  by_cases e1:i=r
  ·subst e1;exact hp.1 kr.symm
  ·rw[if_neg e1,if_neg e1]at ki;rw[ki];exact lv_sb he (h.rl i hi) kr.symm
 ·intro k i hi;rw[hlen]at hi;rw[Dk.pv_row (by rw[h.fl];exact hi)];simp only[Dk.pv];rw[hB];have kr:=hp.2 (k r hr)
  by_cases e1:i=r
  ·rw[if_pos e1,if_pos e1];exact kr.symm
  ·rw[if_neg e1,if_neg e1,k i hi];exact(lv_sb he (h.rl i hi) kr).symm
def Dk.as (D:Dk)(y:Nat→Rat)(x:Nat):Rat:=if x∈D.N then y x else lv D.N (D.row (D.B.idxOf x)) y
theorem Dk.as_N {y:Nat→Rat}{x:Nat}(h:x∈D.N):D.as y x=y x:=if_pos h
theorem Dk.Wf.disj (h:D.Wf){x:Nat}(hb:x∈D.B):x∉D.N:=fun hn=>(List.nodup_append.1 h.nd).2.2 x hb x hn rfl
theorem Dk.Wf.ndB (h:D.Wf):D.B.Nodup:=(List.nodup_append.1 h.nd).1
theorem Dk.Wf.ndN (h:D.Wf):D.N.Nodup:=(List.nodup_append.1 h.nd).2.1
theorem Dk.Wf.as_B (h:D.Wf){y:Nat→Rat}{i:Nat}(hi:i<D.B.length):D.as y (gn D.B i)=lv D.N (D.row i) y:=by
 have hm:=gn_mem hi;rw[Dk.as,if_neg (h.disj hm)];have h1:D.B.idxOf (gn D.B i)<D.B.length:=List.idxOf_lt_length_of_mem hm;have h2:gn D.B (D.B.idxOf (gn D.B i))=gn D.B i:=by
  rw[gn,List.getD_eq_getElem?_getD,List.getElem?_eq_getElem h1];exact List.getElem_idxOf h1
 rw[gn_inj h.ndB h1 hi h2]
theorem Dk.Wf.as_sat (h:D.Wf)(y:Nat→Rat):D.Sat (D.as y):=fun i hi=>by
 rw[h.as_B hi];exact lv_congr fun x hx=>(Dk.as_N hx).symm
theorem Dk.Wf.sat_as (h:D.Wf)(hs:D.Sat v){x:Nat}(hx:x∈D.B∨x∈D.N):v x=D.as v x:=by
 rcases hx with hx|hx
 ·obtain⟨i,hi,rfl⟩:=gn_of_mem hx;rw[h.as_B hi];exact hs i hi
 ·exact(Dk.as_N hx).symm
theorem Dk.as_congr {y z:Nat→Rat}{x:Nat}(h:∀x∈D.N,y x=z x):D.as y x=D.as z x:=by
 unfold Dk.as;split
 ·exact h x ‹_›
 ·exact lv_congr h
theorem lv_zero (N:List Nat)(l:List Rat):lv N l (fun _=>0)=gq l N.length:=by
 unfold lv;rw[smR_zero fun j _=>Rat.mul_zero _];grind
def one1 (k:Nat):Nat→Rat:=fun x=>if x=k then 1 else 0
theorem lv_one {N:List Nat}{l:List Rat}{k:Nat}(hn:N.Nodup)(hk:k<N.length):lv N l (one1 (gn N k))=gq l k+gq l N.length:=by
 unfold lv;rw[smR_single hk fun j hj hne=> ?_]
 ·rw[one1,if_pos rfl];grind
 ·rw[one1,if_neg fun e=>hne (gn_inj hn hj hk e)];grind
end
structure Same (D D':Dk):Prop where
 w:D.Wf
 w':D'.Wf
 p:(D'.B++D'.N).Perm (D.B++D.N)
 l:D'.N.length=D.N.length
 s:∀v,D'.Sat v↔D.Sat v
theorem Same.refl {D:Dk}(h:D.Wf):Same D D:=⟨h,h,List.Perm.refl _,rfl,fun _=>Iff.rfl⟩
theorem Same.trans {D D' D'':Dk}(h:Same D D')(k:Same D' D''):Same D D'':=⟨h.w,k.w',k.p.trans h.p,k.l.trans h.l,fun v=>(k.s v).trans (h.s v)⟩
theorem Same.symm {D D':Dk}(h:Same D D'):Same D' D:=⟨h.w',h.w,h.p.symm,h.l.symm,fun v=>(h.s v).symm⟩
theorem Same.pv {D D':Dk}{r e:Nat}(h:Same D D')(hr:r<D'.B.length)(he:e<D'.N.length)(ha:gq (D'.row r) e≠0):Same D (D'.pv r e):=
 h.trans ⟨h.w',h.w'.pv hr he,Dk.pv_perm hr he,by simp[Dk.pv],fun v=>h.w'.sat_pv hr he ha⟩
theorem Same.mem {D D':Dk}(h:Same D D'){x:Nat}:x∈D'.B∨x∈D'.N↔x∈D.B∨x∈D.N:=by
 rw[←List.mem_append,←List.mem_append];exact h.p.mem_iff
theorem Same.as {D D':Dk}(h:Same D D')(hN:∀x,x∈D'.N↔x∈D.N){y:Nat→Rat}{x:Nat}(hx:x∈D.B∨x∈D.N):D'.as y x=D.as y x:=by
 have hs:D.Sat (D'.as y):=(h.s _).1 (h.w'.as_sat y);rw[h.w.sat_as hs hx];exact Dk.as_congr fun z hz=>Dk.as_N ((hN z).2 hz)
theorem Same.num {D D':Dk}(h:Same D D')(hN:∀x,x∈D'.N↔x∈D.N){i i':Nat}(hi:i<D.B.length)(hi':i'<D'.B.length)(hb:gn D'.B i'=gn D.B i):
  gq (D'.row i') D'.N.length=gq (D.row i) D.N.length∧∀k k',k<D.N.length→k'<D'.N.length→gn D'.N k'=gn D.N k→gq (D'.row i') k'=gq (D.row i) k:=by
 have h0:∀y:Nat→Rat,lv D'.N (D'.row i') y=lv D.N (D.row i) y:=fun y=>by
  have:=h.as hN (y:=y) (x:=gn D.B i) (.inl (gn_mem hi))
  rwa [←hb,h.w'.as_B hi',hb,h.w.as_B hi]at this
 have c0:=h0 fun _=>0;rw[lv_zero,lv_zero]at c0;refine⟨c0,fun k k' hk hk' e=> ?_⟩;have c1:=h0 (one1 (gn D.N k));rw[lv_one h.w.ndN hk,←e,lv_one h.w'.ndN hk']at c1;grind
theorem sub_len {l m:List Nat}(hn:l.Nodup)(h:∀x∈l,x∈m):l.length≤m.length:=by
 induction l generalizing m with
 |nil=>simp
 |cons a l ih=>
  obtain⟨h1,h2⟩:=List.nodup_cons.1 hn;have ha:=h a (by simp);have:=ih (m:=m.erase a) h2 fun x hx=>(List.mem_erase_of_ne fun e=>h1 (by rw[←e];exact hx)).2 (h x (by simp[hx]));rw[List.length_erase_of_mem ha]at this;have:=List.length_pos_of_mem ha;simp only[List.length_cons];omega
theorem sub_eq {l m:List Nat}(hn:l.Nodup)(h:∀x∈l,x∈m)(hl:m.length≤l.length){x:Nat}(hx:x∈m):x∈l:=by
 by_cases h1:x∈l
 ·exact h1
 ·have:=sub_len (l:=x::l) (m:=m) (List.nodup_cons.2 ⟨h1,hn⟩) fun y hy=>by
   rcases List.mem_cons.1 hy with h2|h2
   ·subst h2;exact hx
   ·exact h y h2
  simp only[List.length_cons]at this;omega
open Go.RowKit Nt
abbrev nx (xs:List Nat):V:= .a (.d (.lm xs))
abbrev bx (b:Bool):V:= .a (.d (.lit (.bool b)))
abbrev u1 (xs:List Nat):D:= .sl 1 (xs.map fun x=>[.lit (.int .u32 (x:Nat))])
theorem lm_u1 {xs:List Nat}:WkA (.d (.lm xs)) (.d (u1 xs)):=fun γ h M w r k=>by
 cases k with
 |lm _ _ hs hm=>
  obtain⟨ad,n,cap,rfl,h1,h2,h3,h4,h5⟩:=hs;subst h1;have q:RdD M w (u1 xs) (.slice ad (xs.map fun x=>[D.lit (.int .u32 (x:Nat))]).length cap):=by
   refine RdD.sl 1 _ ad cap (fun i _=> .int .u32 ((xs.getD i 0:Nat):Int)) (by simpa using h2) (by simpa using h3) (fun h0=> ?_) ?_ (fun _ _=>rfl) ?_
   ·obtain⟨b,o,rfl,hb,hc⟩:=h5 (by simpa using h0);refine⟨b,o,rfl,fun i row j d hi hj=> ?_⟩;rw[List.getElem?_map]at hi;obtain⟨x,hx,rfl⟩:=Option.map_eq_some_iff.1 hi;have hl:=(List.getElem?_eq_some_iff.1 hx).1;have hj0:j=0:=by
     have:=(List.getElem?_eq_some_iff.1 hj).1;simpa using this
    subst hj0;rw[Nat.mul_one,Nat.add_zero];exact⟨hm b o _ _ rfl i hl,hc i hl⟩
   ·intro i row hi;rw[List.getElem?_map]at hi;obtain⟨x,hx,rfl⟩:=Option.map_eq_some_iff.1 hi;rfl
   ·intro i row j d hi hj;rw[List.getElem?_map]at hi;obtain⟨x,hx,rfl⟩:=Option.map_eq_some_iff.1 hi;have hj0:j=0:=by
     have:=(List.getElem?_eq_some_iff.1 hj).1;simpa using this
    subst hj0;injection hj with hj;subst hj;rw[show xs.getD i 0=x by rw[List.getD_eq_getElem?_getD,hx];rfl];exact .lit _
  rw[List.length_map]at q;exact q
theorem u1_lm {xs:List Nat}(hl:lims xs):WkA (.d (u1 xs)) (.d (.lm xs)):=fun γ h M w r k=>by
 generalize e:u1 xs=d at k
 cases k with
 |lit v=>cases e
 |lm _ _ _ _=>cases e
 |sl k rows ad cap vs hc hll h0 hk h1 hr=>
  injection e with e1 e2;subst e1 e2;have hlen:(xs.map fun x=>[D.lit (.int .u32 (x:Nat))]).length=xs.length:=by simp
  rw[hlen]at hc hll h0;show RdD M w (.lm xs) _;rw[hlen]
  have hv:∀i,i<xs.length→vs i 0= .int .u32 ((xs.getD i 0:Nat):Int):=fun i hi=>by
   have:=hr i [D.lit (.int .u32 (xs[i]:Nat))] 0 _ (by rw[List.getElem?_map,List.getElem?_eq_getElem hi];rfl) rfl;rw[lit_inv this,List.getD_eq_getElem?_getD,List.getElem?_eq_getElem hi];rfl
  refine .lm xs _ ⟨ad,_,cap,rfl,rfl,hc,hll,hl,fun hp=> ?_⟩ fun b o l c ev i hi hm=> ?_
  ·obtain⟨b,o,rfl,hcell⟩:=h0 hp;refine⟨b,o,rfl,?_,fun i hi=> ?_⟩
   ·exact World.block_lt_of_cell? _ _ (hcell 0 [D.lit (.int .u32 (xs[0]:Nat))] 0 _ (by rw[List.getElem?_map,List.getElem?_eq_getElem hp];rfl) rfl).2
   ·have:=(hcell i [D.lit (.int .u32 (xs[i]:Nat))] 0 _ (by rw[List.getElem?_map,List.getElem?_eq_getElem hi];rfl) rfl).2;rw[Nat.mul_one,Nat.add_zero,hv i hi]at this;exact this
  ·injection ev with e1 e2 e3;subst e2 e3;obtain⟨b',o',e4,hcell⟩:=h0 (by omega);rw[e4]at e1;injection e1 with e1;injection e1 with e5 e6;subst e5 e6;have:=(hcell i [D.lit (.int .u32 (xs[i]:Nat))] 0 _ (by rw[List.getElem?_map,List.getElem?_eq_getElem hi];rfl) rfl).1;rw[Nat.mul_one,Nat.add_zero]at this;exact this hm
theorem wk_nil:WkA (.d (.lit (.slice none 0 0))) (.d (.nat 0)):=fun _ _ _ _ _ q=>by rw[lit_inv q];exact nat0_ok
theorem LV.no {P:Program}{F:FuncId}{args:List V}{v:V}(h:∀γ M w rs,¬All2 (RdV γ (look []) M w) args rs):LV P F args v:=⟨_,_,⟨rfl,rfl⟩,fun γ M w rs hr ha=>absurd ha (h γ M w rs)⟩
theorem Val.ov {u r:Value}{w:World}(k:Val u w r):OV w (vl u) r:=k
section
variable {xs ys:List Nat} {a b:Nat}
theorem num_ov {n:Nat}{w:World}{v:Value}(h:Num n w v):OV w (.a (.d (.nat n))) v:=h
theorem numE_ov {n:Nat}{e:Int}{w:World}{v:Value}(h:NumE n e w v):OV w (.tup [.s (.d (.nat n)),.s (.d (.lit (.int .i64 e)))]) v:=by
 obtain⟨x,rfl,q⟩:=h;exact⟨[x,_],rfl,q,rfl,trivial⟩
theorem num2E_ov {n m:Nat}{e:Int}{w:World}{v:Value}(h:Num2E n m e w v):OV w (.tup [.s (.d (.nat n)),.s (.d (.nat m)),.s (.d (.lit (.int .i64 e)))]) v:=by
 obtain⟨x,y,rfl,q,q2⟩:=h;exact⟨[x,y,_],rfl,q,q2,rfl,trivial⟩
theorem ln_make (e:val xs=a):LV Tryz.prog 127 [nx xs] (nx (limbs a)):=e▸lv_of fun γ M w rs ha=>by
 obtain⟨r,rfl,k⟩:=all2_1 ha;exact Calls.ret (make_any _ _ w (rd_sl k)) fun _ _=>num_ov
theorem lr_make (e:val xs=a):LV Tryz.prog 137 [nx xs] (nx (limbs a)):=e▸lv_of fun γ M w rs ha=>by
 obtain⟨r,rfl,k⟩:=all2_1 ha;exact Calls.ret (rmake_any _ _ w (rd_sl k)) fun _ _=>num_ov
theorem ln_bits (h:xs.length≤4294967296)(e:val xs=a):LV Tryz.prog 113 [nx xs] (vl (.int .i64 (blen a:Nat))):=e▸lv_of fun γ M w rs ha=>by
 obtain⟨r,rfl,k⟩:=all2_1 ha;exact Calls.ret (bits_any _ _ w (rd_sl k) (by omega)) fun _ _=>Val.ov
theorem ln_valid:LV Tryz.prog 120 [nx xs] (vl (.bool (canon xs))):=lv_of fun γ M w rs ha=>by
 obtain⟨r,rfl,k⟩:=all2_1 ha;exact Calls.ret (valid_any _ _ w (rd_sl k)) fun _ _=>Val.ov
theorem ln_of (h:a<18446744073709551616):LV Tryz.prog 119 [vl (.int .u64 (a:Nat))] (nx (limbs a)):=lv_of fun γ M w rs ha=>by
 obtain⟨r,rfl,k⟩:=all2_1 ha;rw[show r= .int .u64 (a:Nat)from lit_inv k];exact Calls.ret (of_any a w h) fun _ _=>num_ov
theorem lr_of (h:a<18446744073709551616):LV Tryz.prog 98 [vl (.int .u64 (a:Nat))] (nx (limbs a)):=lv_of fun γ M w rs ha=>by
 obtain⟨r,rfl,k⟩:=all2_1 ha;rw[show r= .int .u64 (a:Nat)from lit_inv k];exact Calls.ret (rof_any a w h) fun _ _=>num_ov
theorem ln_cmp (e:val xs=a)(e2:val ys=b):LV Tryz.prog 121 [nx xs,nx ys] (vl (.int .i64 (cmpN a b))):=e▸e2▸lv_of fun γ M w rs ha=>by
 obtain⟨r,s,rfl,k,k2⟩:=all2_2 ha;exact Calls.ret (cmp_any _ _ _ _ w (rd_sl k) (rd_sl k2)) fun _ _=>Val.ov
theorem lr_same:LV Tryz.prog 49 [nx xs,nx ys] (vl (.bool (same xs ys))):=lv_of fun γ M w rs ha=>by
 obtain⟨r,s,rfl,k,k2⟩:=all2_2 ha;exact Calls.ret (same_any _ _ _ _ w (rd_sl k) (rd_sl k2)) fun _ _=>Val.ov
theorem ln_add (h:xs.length≤4294967296)(h':ys.length≤4294967296)(e:val xs=a)(e2:val ys=b):LV Tryz.prog 187 [nx xs,nx ys] (nx (limbs (a+b))):=e▸e2▸lv_of fun γ M w rs ha=>by
 obtain⟨r,s,rfl,k,k2⟩:=all2_2 ha;exact Calls.ret (add_any _ _ _ _ w (rd_sl k) (rd_sl k2) h h') fun _ _=>num_ov
theorem lr_add (h:xs.length≤4294967296)(h':ys.length≤4294967296)(e:val xs=a)(e2:val ys=b):LV Tryz.prog 165 [nx xs,nx ys] (nx (limbs (a+b))):=e▸e2▸lv_of fun γ M w rs ha=>by
 obtain⟨r,s,rfl,k,k2⟩:=all2_2 ha;exact Calls.ret (radd_any _ _ _ _ w (rd_sl k) (rd_sl k2) h h') fun _ _=>num_ov
theorem ln_mul (h:xs.length≤4294967296)(h':ys.length≤4294967296)(e:val xs=a)(e2:val ys=b):LV Tryz.prog 116 [nx xs,nx ys] (nx (limbs (a*b))):=e▸e2▸lv_of fun γ M w rs ha=>by
 obtain⟨r,s,rfl,k,k2⟩:=all2_2 ha;exact Calls.ret (mul_any _ _ _ _ w (rd_sl k) (rd_sl k2) h h') fun _ _=>num_ov
theorem lr_mul (h:xs.length≤4294967296)(h':ys.length≤4294967296)(e:val xs=a)(e2:val ys=b):LV Tryz.prog 131 [nx xs,nx ys] (nx (limbs (a*b))):=e▸e2▸lv_of fun γ M w rs ha=>by
 obtain⟨r,s,rfl,k,k2⟩:=all2_2 ha;exact Calls.ret (rmul_any _ _ _ _ w (rd_sl k) (rd_sl k2) h h') fun _ _=>num_ov
theorem ln_sub (h:xs.length≤4294967296)(e:val xs=a)(e2:val ys=b):LV Tryz.prog 188 [nx xs,nx ys] (.tup [.s (.d (.nat (a-b))),.s (.d (.lit (.int .i64 (subErr a b))))]):=e▸e2▸lv_of fun γ M w rs ha=>by
 obtain⟨r,s,rfl,k,k2⟩:=all2_2 ha;exact Calls.ret (sub_any _ _ _ _ w (rd_sl k) (rd_sl k2) h) fun _ _=>numE_ov
theorem lr_sub (h:xs.length≤4294967296)(e:val xs=a)(e2:val ys=b):LV Tryz.prog 166 [nx xs,nx ys] (.tup [.s (.d (.nat (a-b))),.s (.d (.lit (.int .i64 (subErr a b))))]):=e▸e2▸lv_of fun γ M w rs ha=>by
 obtain⟨r,s,rfl,k,k2⟩:=all2_2 ha;exact Calls.ret (rsub_any _ _ _ _ w (rd_sl k) (rd_sl k2) h) fun _ _=>numE_ov
theorem ln_div (h:xs.length≤4294967296)(e:val xs=a)(e2:val ys=b)(hb:0<b):LV Tryz.prog 155 [nx xs,nx ys] (.tup [.s (.d (.nat (a/b))),.s (.d (.nat (a % b))),.s (.d (.lit (.int .i64 0)))]):=by
 subst e e2;refine lv_of fun γ M w rs ha=> ?_;obtain⟨r,s,rfl,k,k2⟩:=all2_2 ha;have:=divmod_any _ _ _ _ w (rd_sl k) (rd_sl k2) h;rw[dmR_pos hb,dmE_pos hb]at this;exact Calls.ret this fun _ _=>num2E_ov
theorem lr_div (h:xs.length≤2147483648)(h':ys.length≤2147483648)(e:val xs=a)(e2:val ys=b)(hb:0<b):LV Tryz.prog 168 [nx xs,nx ys] (.tup [.s (.d (.nat (a/b))),.s (.d (.nat (a % b))),.s (.d (.lit (.int .i64 0)))]):=by
 subst e e2;refine lv_of fun γ M w rs ha=> ?_;obtain⟨r,s,rfl,k,k2⟩:=all2_2 ha;have:=rdivmod_any _ _ _ _ w (rd_sl k) (rd_sl k2) h h';rw[dmR_pos hb,dmE_pos hb]at this;exact Calls.ret this fun _ _=>num2E_ov
theorem ln_gcd (h:xs.length≤4294967296)(h':ys.length≤4294967296)(e:val xs=a)(e2:val ys=b):LV Tryz.prog 154 [nx xs,nx ys] (nx (limbs (Nat.gcd a b))):=e▸e2▸lv_of fun γ M w rs ha=>by
 obtain⟨r,s,rfl,k,k2⟩:=all2_2 ha;exact Calls.ret (gcd_any _ _ _ _ w (rd_sl k) (rd_sl k2) h h') fun _ _=>num_ov
theorem lr_gcd (h:xs.length≤2147483648)(h':ys.length≤2147483648)(e:val xs=a)(e2:val ys=b):LV Tryz.prog 167 [nx xs,nx ys] (nx (limbs (Nat.gcd a b))):=e▸e2▸lv_of fun γ M w rs ha=>by
 obtain⟨r,s,rfl,k,k2⟩:=all2_2 ha;exact Calls.ret (rgcd_any _ _ _ _ w (rd_sl k) (rd_sl k2) h h') fun _ _=>num_ov
end
theorem sl_one1 (w:World)(t:TypeId):Sl (w.alloc (.cells #[.int .u32 1] t)) (.slice (some ⟨w.heap.size,0,none⟩) 1 1) (limbs 1):=by
 rw[limbs_one];exact sl_one w t 1 (by decide)
theorem ln_one:LV Tryz.prog 118 [] (nx (limbs 1)):=lv_of fun γ M w rs ha=>by
 obtain rfl:rs=[]:=by cases rs with|nil=>rfl|cons _ _=>exact ha.elim
 go_enter Tryz.func118,Tryz.ntmps118
 go_wp2
 go_ret
 exact⟨_,rfl,sl_one1 _ _,(bR_ _ _).alloc (lR_ _) _⟩
theorem ln_unit {n:Nat}:LV Tryz.prog 153 [nx (limbs n)] (bx (n==1)):=by
 refine LV.wk (gs:=[.a (.d (u1 (limbs n)))]) ?_ ⟨fun γ h M w r k=>lm_u1 γ h M w r k,trivial⟩;refine LX_run (m:=0) (n0:=0) mix Tryz.func153 rfl rfl rfl rfl ?_;conv=>whnf
 refine bs (fun h=> ?_) (fun h=> ?_)
 ·conv=>whnf
  have h1:((limbs n).length:Int)=1:=by simpa using h
  obtain⟨x,hx⟩:∃x,limbs n=[x]:=by
   match hm:limbs n with
   |[x]=>exact⟨x,rfl⟩
   |[]=>rw[hm]at h1;simp at h1
   |_::_::_=>rw[hm]at h1;simp at h1;omega
  have hn:n=x:=by rw[←val_limbs n,hx];simp[val]
  refine .mk (0) ([D.lit (.int .u32 (x:Nat))]) (rfl) (by rw[hx];rfl) ?_;conv=>whnf
  conv=>whnf
  have e:(((x:Nat):Int)==1)=(n==1):=by rw[hn,Bool.eq_iff_iff];simp;omega
  refine bs (fun g=> ?_) (fun g=> ?_)
  ·conv=>whnf
   rw[show(n==1)=true by rw[←e];simpa using g];exact .q ⟨rfl,rfl⟩
  ·conv=>whnf
   rw[show(n==1)=false by rw[←e];simpa using g];exact .q ⟨rfl,rfl⟩
 ·conv=>whnf
  have e:(n==1)=false:=by
   rw[beq_eq_false_iff_ne];rintro rfl;rw[limbs_one]at h;simp at h
  rw[e];exact .q ⟨rfl,rfl⟩
abbrev rI (b:Bool)(xs:List Nat):V:= .agg [.d (.lit (.bool b)),.d (.lm xs)]
abbrev cI (z:Int):V:=rI (decide (z<0)) (limbs z.natAbs)
theorem iv_self (z:Int):iv (decide (z<0)) z.natAbs=z:=by
 unfold iv;by_cases h:z<0<;>simp[h]<;>omega
theorem cI_iv (b:Bool)(n:Nat):cI (iv b n)=rI (b&&decide (0<(limbs n).length)) (limbs n):=by
 have:decide (0<(limbs n).length)=decide (0<n):=by
  rw[decide_eq_decide];have:= @sz_eq_zero n;unfold sz at this;omega
 rw[this,cI,iv_lt,iv_abs]
section
variable {b c:Bool} {xs ys:List Nat} {m n:Nat}
theorem li_make (e:val xs=n):LV Tryz.prog 114 [bx b,nx xs] (cI (iv b n)):=by
 rw[cI_iv];refine LX_run (m:=0) (n0:=0) mix Tryz.func114 rfl rfl rfl rfl ?_;conv=>whnf
 refine .c (ln_make e) ?_;conv=>whnf
 cases b
 ·conv=>whnf
  exact .q ⟨rfl,rfl⟩
 ·conv=>whnf
  refine bs (fun h=> ?_) (fun h=> ?_)
  ·conv=>whnf
   rw[show decide (0<(limbs n).length)=true by simpa using h];exact .q ⟨rfl,rfl⟩
  ·conv=>whnf
   rw[show decide (0<(limbs n).length)=false by simpa using h];exact .q ⟨rfl,rfl⟩
theorem lri_make (e:val xs=n):LV Tryz.prog 97 [bx b,nx xs] (cI (iv b n)):=by
 rw[cI_iv];refine LX_run (m:=0) (n0:=0) mix Tryz.func97 rfl rfl rfl rfl ?_;conv=>whnf
 refine .c (lr_make e) ?_;conv=>whnf
 cases b
 ·conv=>whnf
  exact .q ⟨rfl,rfl⟩
 ·conv=>whnf
  refine bs (fun h=> ?_) (fun h=> ?_)
  ·conv=>whnf
   rw[show decide (0<(limbs n).length)=true by simpa using h];exact .q ⟨rfl,rfl⟩
  ·conv=>whnf
   rw[show decide (0<(limbs n).length)=false by simpa using h];exact .q ⟨rfl,rfl⟩
theorem li_sign (e:val xs=n)(h:xs.length≤4294967296):LV Tryz.prog 70 [rI b xs] (vl (.int .i64 (iv b n).sign)):=by
 have hb:blen n=0↔n=0:=by unfold blen;split<;>omega
 refine LX_run (m:=0) (n0:=0) mix Tryz.func70 rfl rfl rfl rfl ?_;conv=>whnf
 refine .c (ln_bits h e) ?_;conv=>whnf
 refine bs (fun h0=> ?_) (fun h0=> ?_)
 ·conv=>whnf
  have:n=0:=hb.1 (by simpa using h0);rw[iv_sign_0 this];exact .q ⟨rfl,rfl⟩
 ·have h1:0<n:=by have:=mt hb.2 (show ¬blen n=0 by simpa using h0);omega
  cases b
  ·conv=>whnf
   rw[iv_sign_false h1];exact .q ⟨rfl,rfl⟩
  ·conv=>whnf
   rw[iv_sign_true h1];exact .q ⟨rfl,rfl⟩
theorem len0 {n:Nat}:(((limbs n).length:Int)==0)=(n==0):=by
 have:= @sz_eq_zero n;unfold sz at this;rw[Bool.eq_iff_iff];simp only[beq_iff_eq];omega
theorem lri_sign (e:val xs=n):LV Tryz.prog 169 [rI b xs] (vl (.int .i64 (iv b n).sign)):=by
 cases b
 ·refine LX_run (m:=0) (n0:=0) mix Tryz.func169 rfl rfl rfl rfl ?_;conv=>whnf
  refine .c (show LV _ _ _ (rI false (limbs n))from cI_iv false n▸lri_make (b:=false) e) ?_;conv=>whnf
  refine bs (fun h0=> ?_) (fun h0=> ?_)
  ·conv=>whnf
   rw[iv_sign_0 (by simpa [len0]using h0)];exact .q ⟨rfl,rfl⟩
  ·conv=>whnf
   rw[iv_sign_false (Nat.pos_of_ne_zero (by simpa [len0]using h0))];exact .q ⟨rfl,rfl⟩
 ·refine LX_run (m:=0) (n0:=0) mix Tryz.func169 rfl rfl rfl rfl ?_;conv=>whnf
  refine .c (show LV _ _ _ (rI (decide (0<(limbs n).length)) (limbs n))from cI_iv true n▸lri_make (b:=true) e) ?_;conv=>whnf
  refine bs (fun h0=> ?_) (fun h0=> ?_)
  ·conv=>whnf
   rw[iv_sign_0 (by simpa [len0]using h0)];exact .q ⟨rfl,rfl⟩
  ·conv=>whnf
   have h1:=Nat.pos_of_ne_zero (n:=n) (by simpa [len0]using h0);refine bT (decide_eq_true (show 0<sz n from sz_pos h1)) ?_;conv=>whnf
   rw[iv_sign_true h1];exact .q ⟨rfl,rfl⟩
theorem cmpN_iv (b c:Bool)(m n:Nat):(if(iv b m).sign<(iv c n).sign then(-1:Int)else if(iv c n).sign<(iv b m).sign then 1 else if(iv b m).sign<0 then cmpN n m else cmpN m n)=(iv b m-iv c n).sign:=by
 split
 ·next h=>rw[sub_sign_lt h]
 ·split
  ·next h=>rw[sub_sign_gt h]
  ·split
   ·next h=>exact cmp_neg h (by omega)
   ·next h=>exact cmp_pos h (by omega)
theorem li_cmp (e:val xs=m)(e2:val ys=n)(h:xs.length≤4294967296)(h':ys.length≤4294967296):LV Tryz.prog 84 [rI b xs,rI c ys] (vl (.int .i64 (iv b m-iv c n).sign)):=by
 rw[←cmpN_iv];refine LX_run (m:=0) (n0:=0) mix Tryz.func84 rfl rfl rfl rfl ?_;conv=>whnf
 refine .c (li_sign e h) ?_;conv=>whnf
 refine .c (li_sign e2 h') ?_;conv=>whnf
 refine .mk (by kernel_rfl) ?_;conv=>whnf
 refine bs (fun h1=> ?_) (fun h1=> ?_)
 ·conv=>whnf
  rw[if_pos (by simpa using h1)];exact .q ⟨rfl,rfl⟩
 ·conv=>whnf
  rw[if_neg (by simpa using h1)];refine bs (fun h2=> ?_) (fun h2=> ?_)
  ·conv=>whnf
   rw[if_pos (by simpa using h2)];exact .q ⟨rfl,rfl⟩
  ·conv=>whnf
   rw[if_neg (by simpa using h2)];refine bs (fun h3=> ?_) (fun h3=> ?_)
   ·conv=>whnf
    rw[if_pos (by simpa using h3)];refine .c (ln_cmp e2 e) ?_;conv=>whnf
    exact .q ⟨rfl,rfl⟩
   ·conv=>whnf
    rw[if_neg (by simpa using h3)];refine .c (ln_cmp e e2) ?_;conv=>whnf
    exact .q ⟨rfl,rfl⟩
theorem cmpN_lt {a b:Nat}(h:a<b):decide (cmpN a b<0)=true:=by unfold cmpN;rw[if_pos h];rfl
theorem li_add (e:val xs=m)(e2:val ys=n)(h:xs.length≤4294967296)(h':ys.length≤4294967296):LV Tryz.prog 156 [rI b xs,rI c ys] (cI (iv b m+iv c n)):=by
 by_cases hbc:b=c
 ·subst hbc;rw[←iv_add]
  cases b
  ·refine LX_run (m:=0) (n0:=0) mix Tryz.func156 rfl rfl rfl rfl ?_;conv=>whnf
   refine .c (ln_add h h' e e2) ?_;conv=>whnf
   refine .c (li_make (b:=false) (val_limbs _)) ?_;conv=>whnf
   refine .mk (by kernel_rfl) ?_;conv=>whnf
   exact .q ⟨rfl,rfl⟩
  ·refine LX_run (m:=0) (n0:=0) mix Tryz.func156 rfl rfl rfl rfl ?_;conv=>whnf
   refine .c (ln_add h h' e e2) ?_;conv=>whnf
   refine .c (li_make (b:=true) (val_limbs _)) ?_;conv=>whnf
   refine .mk (by kernel_rfl) ?_;conv=>whnf
   exact .q ⟨rfl,rfl⟩
 ·cases b<;>cases c<;>first|exact absurd rfl hbc|skip
  ·rcases Nat.lt_or_ge m n with hl|hl
   ·rw[show iv false m+iv true n=iv true (n-m)from(iv_sub' false (Nat.le_of_lt hl)).symm];refine LX_run (m:=0) (n0:=0) mix Tryz.func156 rfl rfl rfl rfl ?_;conv=>whnf
    refine .c (ln_cmp e e2) ?_;conv=>whnf
    refine bT (cmpN_lt hl) ?_;conv=>whnf
    refine .c (ln_sub h' e2 e) ?_;conv=>whnf
    refine .c (li_make (b:=true) (val_limbs _)) ?_;conv=>whnf
    exact .q ⟨rfl,rfl⟩
   ·rw[show iv false m+iv true n=iv false (m-n)from(iv_sub false hl).symm];refine LX_run (m:=0) (n0:=0) mix Tryz.func156 rfl rfl rfl rfl ?_;conv=>whnf
    refine .c (ln_cmp e e2) ?_;conv=>whnf
    refine bF (cmpN_ge hl) ?_;conv=>whnf
    refine .c (ln_sub h e e2) ?_;conv=>whnf
    refine .c (li_make (b:=false) (val_limbs _)) ?_;conv=>whnf
    exact .q ⟨rfl,rfl⟩
  ·rcases Nat.lt_or_ge m n with hl|hl
   ·rw[show iv true m+iv false n=iv false (n-m)from(iv_sub' true (Nat.le_of_lt hl)).symm];refine LX_run (m:=0) (n0:=0) mix Tryz.func156 rfl rfl rfl rfl ?_;conv=>whnf
    refine .c (ln_cmp e e2) ?_;conv=>whnf
    refine bT (cmpN_lt hl) ?_;conv=>whnf
    refine .c (ln_sub h' e2 e) ?_;conv=>whnf
    refine .c (li_make (b:=false) (val_limbs _)) ?_;conv=>whnf
    exact .q ⟨rfl,rfl⟩
   ·rw[show iv true m+iv false n=iv true (m-n)from(iv_sub true hl).symm];refine LX_run (m:=0) (n0:=0) mix Tryz.func156 rfl rfl rfl rfl ?_;conv=>whnf
    refine .c (ln_cmp e e2) ?_;conv=>whnf
    refine bF (cmpN_ge hl) ?_;conv=>whnf
    refine .c (ln_sub h e e2) ?_;conv=>whnf
    refine .c (li_make (b:=true) (val_limbs _)) ?_;conv=>whnf
    exact .q ⟨rfl,rfl⟩
theorem lri_add (e:val xs=m)(e2:val ys=n)(h:xs.length≤4294967296)(h':ys.length≤4294967296):LV Tryz.prog 133 [rI b xs,rI c ys] (cI (iv b m+iv c n)):=by
 by_cases hbc:b=c
 ·subst hbc;rw[←iv_add]
  cases b
  ·refine LX_run (m:=0) (n0:=0) mix Tryz.func133 rfl rfl rfl rfl ?_;conv=>whnf
   refine .c (lr_add h h' e e2) ?_;conv=>whnf
   refine .c (lri_make (b:=false) (val_limbs _)) ?_;conv=>whnf
   refine .mk (by kernel_rfl) ?_;conv=>whnf
   exact .q ⟨rfl,rfl⟩
  ·refine LX_run (m:=0) (n0:=0) mix Tryz.func133 rfl rfl rfl rfl ?_;conv=>whnf
   refine .c (lr_add h h' e e2) ?_;conv=>whnf
   refine .c (lri_make (b:=true) (val_limbs _)) ?_;conv=>whnf
   refine .mk (by kernel_rfl) ?_;conv=>whnf
   exact .q ⟨rfl,rfl⟩
 ·cases b<;>cases c<;>first|exact absurd rfl hbc|skip
  ·rcases Nat.lt_or_ge m n with hl|hl
   ·rw[show iv false m+iv true n=iv true (n-m)from(iv_sub' false (Nat.le_of_lt hl)).symm];have es:subErr m n=2:=if_pos hl;refine LX_run (m:=0) (n0:=0) mix Tryz.func133 rfl rfl rfl rfl ?_;conv=>whnf
    refine .c (es▸lr_sub h e e2) ?_;conv=>whnf
    refine .c (lr_sub h' e2 e) ?_;conv=>whnf
    refine .c (lri_make (b:=true) (val_limbs _)) ?_;conv=>whnf
    exact .q ⟨rfl,rfl⟩
   ·rw[show iv false m+iv true n=iv false (m-n)from(iv_sub false hl).symm];have es:subErr m n=0:=if_neg (by omega);refine LX_run (m:=0) (n0:=0) mix Tryz.func133 rfl rfl rfl rfl ?_;conv=>whnf
    refine .c (es▸lr_sub h e e2) ?_;conv=>whnf
    refine .c (lri_make (b:=false) (val_limbs _)) ?_;conv=>whnf
    exact .q ⟨rfl,rfl⟩
  ·rcases Nat.lt_or_ge m n with hl|hl
   ·rw[show iv true m+iv false n=iv false (n-m)from(iv_sub' true (Nat.le_of_lt hl)).symm];have es:subErr m n=2:=if_pos hl;refine LX_run (m:=0) (n0:=0) mix Tryz.func133 rfl rfl rfl rfl ?_;conv=>whnf
    refine .c (es▸lr_sub h e e2) ?_;conv=>whnf
    refine .c (lr_sub h' e2 e) ?_;conv=>whnf
    refine .c (lri_make (b:=false) (val_limbs _)) ?_;conv=>whnf
    exact .q ⟨rfl,rfl⟩
   ·rw[show iv true m+iv false n=iv true (m-n)from(iv_sub true hl).symm];have es:subErr m n=0:=if_neg (by omega);refine LX_run (m:=0) (n0:=0) mix Tryz.func133 rfl rfl rfl rfl ?_;conv=>whnf
    refine .c (es▸lr_sub h e e2) ?_;conv=>whnf
    refine .c (lri_make (b:=true) (val_limbs _)) ?_;conv=>whnf
    exact .q ⟨rfl,rfl⟩
theorem li_mul (e:val xs=m)(e2:val ys=n)(h:xs.length≤4294967296)(h':ys.length≤4294967296):LV Tryz.prog 128 [rI b xs,rI c ys] (cI (iv b m*iv c n)):=by
 rw[←iv_mul]
 cases b<;>cases c
 ·refine LX_run (m:=0) (n0:=0) mix Tryz.func128 rfl rfl rfl rfl ?_;conv=>whnf
  refine .c (ln_mul h h' e e2) ?_;conv=>whnf
  refine .c (li_make (b:=false) (val_limbs _)) ?_;conv=>whnf
  refine .mk (by kernel_rfl) ?_;conv=>whnf
  exact .q ⟨rfl,rfl⟩
 ·refine LX_run (m:=0) (n0:=0) mix Tryz.func128 rfl rfl rfl rfl ?_;conv=>whnf
  refine .c (ln_mul h h' e e2) ?_;conv=>whnf
  refine .c (li_make (b:=true) (val_limbs _)) ?_;conv=>whnf
  refine .mk (by kernel_rfl) ?_;conv=>whnf
  exact .q ⟨rfl,rfl⟩
 ·refine LX_run (m:=0) (n0:=0) mix Tryz.func128 rfl rfl rfl rfl ?_;conv=>whnf
  refine .c (ln_mul h h' e e2) ?_;conv=>whnf
  refine .c (li_make (b:=true) (val_limbs _)) ?_;conv=>whnf
  refine .mk (by kernel_rfl) ?_;conv=>whnf
  exact .q ⟨rfl,rfl⟩
 ·refine LX_run (m:=0) (n0:=0) mix Tryz.func128 rfl rfl rfl rfl ?_;conv=>whnf
  refine .c (ln_mul h h' e e2) ?_;conv=>whnf
  refine .c (li_make (b:=false) (val_limbs _)) ?_;conv=>whnf
  refine .mk (by kernel_rfl) ?_;conv=>whnf
  exact .q ⟨rfl,rfl⟩
theorem of_pos {z:Int}(h1:0≤z)(h2:z<9223372036854775808):IntKind.u64.wrap z=((z.natAbs:Nat):Int):=by rw[u64_wrap];omega
theorem of_neg {z:Int}(h1: -9223372036854775808≤z)(h2:z<0):IntKind.u64.wrap (0-IntKind.u64.wrap z)=((z.natAbs:Nat):Int):=by rw[Int.zero_sub];exact neg_arg h1 h2
theorem u64_lt {z:Int}(h1: -9223372036854775808≤z)(h2:z<9223372036854775808):z.natAbs<18446744073709551616:=by omega
theorem li_of {z:Int}(h1: -9223372036854775808≤z)(h2:z<9223372036854775808):LV Tryz.prog 74 [vl (.int .i64 z)] (cI z):=by
 have hu:=u64_lt h1 h2;refine LX_run (m:=0) (n0:=0) mix Tryz.func74 rfl rfl rfl rfl ?_;conv=>whnf
 refine bs (fun g=> ?_) (fun g=> ?_)
 ·have g':z<0:=by simpa using g
  rw[cI,decide_eq_true g'];conv=>whnf
  refine Cn.as (ln_of (a:=z.natAbs) hu) rfl ⟨WkV.int (of_neg h1 g'),trivial⟩ rfl rfl ?_;conv=>whnf
  exact .q ⟨rfl,rfl⟩
 ·have g':¬z<0:=by simpa using g
  rw[cI,decide_eq_false g'];conv=>whnf
  refine Cn.as (ln_of (a:=z.natAbs) hu) rfl ⟨WkV.int (of_pos (Int.not_lt.1 g') h2),trivial⟩ rfl rfl ?_;conv=>whnf
  exact .q ⟨rfl,rfl⟩
theorem lri_of {z:Int}(h1: -9223372036854775808≤z)(h2:z<9223372036854775808):LV Tryz.prog 55 [vl (.int .i64 z)] (cI z):=by
 have hu:=u64_lt h1 h2
 by_cases g':z<0
 ·have k:=lri_make (b:=true) (val_limbs z.natAbs);rw[iv_of_neg g']at k;refine LX_run (m:=0) (n0:=0) mix Tryz.func55 rfl rfl rfl rfl ?_;conv=>whnf
  refine bT (decide_eq_true g') ?_;conv=>whnf
  refine Cn.as (lr_of (a:=z.natAbs) hu) rfl ⟨WkV.int (of_neg h1 g'),trivial⟩ rfl rfl ?_;conv=>whnf
  refine .c (k) ?_;conv=>whnf
  exact .q ⟨rfl,rfl⟩
 ·have k:=lri_make (b:=false) (val_limbs z.natAbs);rw[iv_of_pos (Int.not_lt.1 g')]at k;refine LX_run (m:=0) (n0:=0) mix Tryz.func55 rfl rfl rfl rfl ?_;conv=>whnf
  refine bF (decide_eq_false g') ?_;conv=>whnf
  refine Cn.as (lr_of (a:=z.natAbs) hu) rfl ⟨WkV.int (of_pos (Int.not_lt.1 g') h2),trivial⟩ rfl rfl ?_;conv=>whnf
  refine .c (k) ?_;conv=>whnf
  exact .q ⟨rfl,rfl⟩
end
abbrev rawD (b:Bool)(xs ys:List Nat):List D:=[.lit (.bool b),.lm xs,.lm ys]
abbrev rawV (b:Bool)(xs ys:List Nat):V:= .agg [.d (.lit (.bool b)),.d (.lm xs),.d (.lm ys)]
abbrev ratD (q:Rat):List D:=rawD (decide (q<0)) (limbs q.num.natAbs) (limbs (dn q))
abbrev ratV (q:Rat):V:=rawV (decide (q<0)) (limbs q.num.natAbs) (limbs (dn q))
def RQ (x:V)(q:Rat):Prop:=∃b xs ys,WkV x (rawV b xs ys)∧rv b (val xs) (val ys)=q∧xs.length≤100000000∧ys.length≤100000000
def Bt (k:Nat)(q:Rat):Prop:=q.num.natAbs≤2^k∧q.den≤2^k
theorem sz_pow2 {n k:Nat}(h:n≤2^k):sz n≤k/32+1:=by
 refine sz_le (Nat.lt_of_le_of_lt h ?_);rw[show 4294967296=2^32 from rfl,←Nat.pow_mul];exact Nat.pow_lt_pow_right (by decide) (by omega)
theorem Bt.sm {k:Nat}{q:Rat}(h:Bt k q)(hk:k≤3000000000):Sm 100000000 q:=⟨tL_ (sz_pow2 h.1) (by omega),tL_ (sz_pow2 h.2) (by omega)⟩
theorem RQ.can {k:Nat}{q:Rat}(h:Bt k q)(hk:k≤3000000000):RQ (ratV q) q:=by
 refine⟨_,_,_,vR_ _,?_,(h.sm hk).1,(h.sm hk).dn⟩;rw[val_limbs,val_limbs];exact rv_self q
theorem RQ.raw {b:Bool}{xs ys:List Nat}{q:Rat}(h:rv b (val xs) (val ys)=q)(h1:xs.length≤100000000)(h2:ys.length≤100000000):RQ (rawV b xs ys) q:=⟨_,_,_,vR_ _,h,h1,h2⟩
theorem rv_zero:rv false (val []) (val [])=0:=by decide
theorem ratV_zero:ratV 0=rawV false [] []:=by
 have h1:decide ((0:Rat)<0)=false:=by decide
 have h2:limbs (0:Rat).num.natAbs=[]:=by rw[show(0:Rat).num.natAbs=0 from rfl,limbs_zero]
 have h3:limbs (dn 0)=[]:=by rw[show dn 0=0 from rfl,limbs_zero]
 unfold ratV;rw[h1,h2,h3]
theorem ratV_z:ratV 0=rawV false (limbs 0) (limbs 0):=by rw[ratV_zero,limbs_zero]
theorem mk_zero (b:Bool)(d:Nat):mkRat (iv b 0) d=0:=by rw[show iv b 0=0 by cases b<;>rfl,Rat.zero_mkRat]
theorem mk_neg {b:Bool}{n d:Nat}(hn:0<n)(hd:0<d):decide (mkRat (iv b n) d<0)=b:=by rw[Bool.eq_iff_iff];simp only[decide_eq_true_eq];rw[mkRat_lt hd,iv_neg_iff hn]
theorem mk_dn {b:Bool}{n d:Nat}(hd:0<d):dn (mkRat (iv b n) d)=if d/Nat.gcd n d=1 then 0 else d/Nat.gcd n d:=by unfold dn;rw[rat_den hd]
theorem back1 {b:Bool}{n d:Nat}(hn:0<n)(hd:0<d)(h:d/Nat.gcd n d=1):ratV (mkRat (iv b n) d)=rawV b (limbs (n/Nat.gcd n d)) (limbs 0):=by
 unfold ratV;rw[mk_neg hn hd,rat_num hd,mk_dn hd,if_pos h]
theorem back2 {b:Bool}{n d:Nat}(hn:0<n)(hd:0<d)(h:d/Nat.gcd n d≠1):ratV (mkRat (iv b n) d)=rawV b (limbs (n/Nat.gcd n d)) (limbs (d/Nat.gcd n d)):=by
 unfold ratV;rw[mk_neg hn hd,rat_num hd,mk_dn hd,if_neg h]
theorem rdV_raw {γ:Gh}{h:Hp}{M:MS}{w:World}{r:Value}{b:Bool}{xs ys:List Nat}(k:RdV γ h M w (rawV b xs ys) r):∃s t,r= .agg #[.bool b,s,t]∧Sl w s xs∧Sl w t ys:=by
 obtain⟨vs,rfl,h1⟩:=k
 match vs,h1 with
 |[p,s,t],h1=>exact⟨s,t,by rw[show p= .bool b from lit_inv h1.1],rd_sl h1.2.1,rd_sl h1.2.2.1⟩
 |[],h1=>exact h1.elim
 |[_],h1=>exact h1.2.elim
 |[_,_],h1=>exact h1.2.2.elim
 |_::_::_::_::_,h1=>exact h1.2.2.2.elim
theorem lims_raw {γ:Gh}{h:Hp}{M:MS}{w:World}{r:Value}{b:Bool}{xs ys:List Nat}(k:RdV γ h M w (rawV b xs ys) r):lims xs∧lims ys:=let ⟨_,_,_,h1,h2⟩:=rdV_raw k;⟨h1.lims,h2.lims⟩
section
variable {P:Program} {F:FuncId} {x y v:V} {a b:Rat}
structure Rl (b:Bool)(xs ys:List Nat)(q:Rat):Prop where
 e:rv b (val xs) (val ys)=q
 n:xs.length≤100000000
 d:ys.length≤100000000
 ln:lims xs
 ld:lims ys
theorem Rl.sn {b:Bool}{xs ys:List Nat}{q:Rat}(h:Rl b xs ys q):(limbs (val xs)).length≤100000000:=tL_ (sz_val h.ln) h.n
theorem Rl.su {b:Bool}{xs ys:List Nat}{q:Rat}(h:Rl b xs ys q):sz (un (val ys))≤100000000:=by
 unfold un;split
 ·exact tL_ (sz_le (k:=1) (by decide)) (by decide)
 ·exact tL_ (sz_val h.ld) h.d
theorem rq1 (hx:RQ x a)(h:∀b xs ys,Rl b xs ys a→LV P F [rawV b xs ys] v):LV P F [x] v:=by
 obtain⟨b,xs,ys,h1,h2,h3,h4⟩:=hx;refine LV.wk (gs:=[rawV b xs ys]) ?_ ⟨h1,trivial⟩
 by_cases hl:lims xs∧lims ys
 ·exact h b xs ys ⟨h2,h3,h4,hl.1,hl.2⟩
 ·exact LV.no fun γ M w rs k=>hl (by obtain⟨r,rfl,k'⟩:=all2_1 k;exact lims_raw k')
theorem rq2 (hx:RQ x a)(hy:RQ y b)(h:∀c xs ys c' xs' ys',Rl c xs ys a→Rl c' xs' ys' b→LV P F [rawV c xs ys,rawV c' xs' ys'] v):LV P F [x,y] v:=by
 obtain⟨c,xs,ys,h1,h2,h3,h4⟩:=hx;obtain⟨c',xs',ys',h1',h2',h3',h4'⟩:=hy;refine LV.wk (gs:=[rawV c xs ys,rawV c' xs' ys']) ?_ ⟨h1,h1',trivial⟩
 by_cases hl:(lims xs∧lims ys)∧lims xs'∧lims ys'
 ·exact h _ _ _ _ _ _ ⟨h2,h3,h4,hl.1.1,hl.1.2⟩ ⟨h2',h3',h4',hl.2.1,hl.2.2⟩
 ·exact LV.no fun γ M w rs k=>hl (by obtain⟨r,s,rfl,k1,k2⟩:=all2_2 k;exact⟨lims_raw k1,lims_raw k2⟩)
end
section
variable {b c:Bool} {xs ys xs' ys':List Nat} {m n d:Nat} {p q:Rat}
theorem lq_under (h:Rl b xs ys q):LV Tryz.prog 117 [rawV b xs ys] (nx (if val ys=0 then limbs 1 else ys)):=by
 have hb:blen (val ys)=0↔val ys=0:=by unfold blen;split<;>omega
 have:=h.d;refine LX_run (m:=0) (n0:=0) mix Tryz.func117 rfl rfl rfl rfl ?_;conv=>whnf
 refine .c (ln_bits (by omega) rfl) ?_;conv=>whnf
 refine bs (fun h0=> ?_) (fun h0=> ?_)
 ·conv=>whnf
  rw[if_pos (hb.1 (by simpa using h0))];refine .c (ln_one) ?_;conv=>whnf
  exact .q ⟨rfl,rfl⟩
 ·conv=>whnf
  rw[if_neg (mt hb.2 (by simpa using h0))];exact .q ⟨rfl,rfl⟩
theorem und_val {ys:List Nat}:val (if val ys=0 then limbs 1 else ys)=un (val ys):=by
 unfold un;split
 ·exact val_limbs 1
 ·rfl
theorem und_len {ys:List Nat}(h:ys.length≤100000000):(if val ys=0 then limbs 1 else ys).length≤100000000:=by
 split
 ·rw[limbs_one];decide
 ·exact h
theorem lq_quot (e:val xs=n)(e2:val ys=d)(hd:0<d)(hn:(limbs n).length≤1000000000)(hdl:(limbs d).length≤1000000000):LV Tryz.prog 115 [bx b,nx xs,nx ys] (ratV (mkRat (iv b n) d)):=by
 have hg:=Nat.gcd_pos_of_pos_right n hd;rcases eP_ n with h0|h0
 ·rw[h0,mk_zero,ratV_z];refine LX_run (m:=0) (n0:=0) mix Tryz.func115 rfl rfl rfl rfl ?_;conv=>whnf
  refine .c (ln_make e) ?_;conv=>whnf
  refine bT (by rw[len0,h0];rfl) ?_;conv=>whnf
  exact .q ⟨rfl,rfl⟩
 ·refine LX_run (m:=0) (n0:=0) mix Tryz.func115 rfl rfl rfl rfl ?_;conv=>whnf
  refine .c (ln_make e) ?_;conv=>whnf
  refine bF (by rw[len0];simp;omega) ?_;conv=>whnf
  refine .c (ln_make e2) ?_;conv=>whnf
  refine .c (ln_unit) ?_;conv=>whnf
  refine bs (fun hu=> ?_) (fun hu=> ?_)
  ·have hu:d=1:=by simpa using hu
   have k:=back1 (b:=b) h0 hd (by rw[hu,Nat.gcd_one_right]);rw[show n/Nat.gcd n d=n by rw[hu,Nat.gcd_one_right,Nat.div_one]]at k;rw[k]
   cases b
   all_goals conv=>whnf
   all_goals exact .q ⟨rfl,rfl⟩
  ·have hu:d≠1:=by simpa using hu
   conv=>whnf
   refine .c (ln_gcd (by omega) (by omega) (val_limbs _) (val_limbs _)) ?_;conv=>whnf
   refine .c (ln_unit) ?_;conv=>whnf
   refine bs (fun hg1=> ?_) (fun hg1=> ?_)
   ·have hg1:Nat.gcd n d=1:=by simpa using hg1
    have k:=back2 (b:=b) h0 hd (by rw[hg1,Nat.div_one];exact hu);rw[hg1,Nat.div_one,Nat.div_one]at k;rw[k];conv=>whnf
    refine .c (ln_unit) ?_;conv=>whnf
    refine bF (by simpa using hu) ?_;conv=>whnf
    cases b
    all_goals conv=>whnf
    all_goals exact .q ⟨rfl,rfl⟩
   ·have hg1:Nat.gcd n d≠1:=by simpa using hg1
    conv=>whnf
    refine .c (ln_div (by omega) (val_limbs _) (val_limbs _) hg) ?_;conv=>whnf
    refine .c (ln_div (by omega) (val_limbs _) (val_limbs _) hg) ?_;conv=>whnf
    refine .c (ln_unit) ?_;conv=>whnf
    refine bs (fun hu1=> ?_) (fun hu1=> ?_)
    ·have hu1:d/Nat.gcd n d=1:=by simpa using hu1
     rw[back1 h0 hd hu1]
     cases b
     all_goals conv=>whnf
     all_goals exact⟨_,_,⟨rfl,rfl⟩,WkV.agg ⟨aR_ _,aR_ _,wk_nil,trivial⟩,rfl,trivial,rfl⟩
    ·have hu1:d/Nat.gcd n d≠1:=by simpa using hu1
     rw[back2 h0 hd hu1]
     cases b
     all_goals conv=>whnf
     all_goals exact .q ⟨rfl,rfl⟩
theorem Rl.neg (h:Rl b xs ys q):Rl (!b) xs ys (-q):=⟨by rw[rv_neg,h.e],h.n,h.d,h.ln,h.ld⟩
theorem Rl.szn (h:Rl b xs ys q):sz (val xs)≤100000000:=h.sn
theorem lq_canon (h:Rl b xs ys q):LV Tryz.prog 82 [rawV b xs ys] (ratV q):=by
 have hs:=h.sn;have hu:=h.su;unfold sz at hu;rw[←h.e]
 cases b
 all_goals refine LX_run (m:=0) (n0:=0) mix Tryz.func82 rfl rfl rfl rfl ?_
           conv=>whnf
 all_goals refine .c (lq_under h) ?_
           conv=>whnf
 all_goals refine .c (lq_quot rfl und_val (un_pos _) (by omega) (by omega)) ?_
           conv=>whnf
 all_goals try (refine Nc.mk (by kernel_rfl) ?_;conv=>whnf)
 all_goals exact .q ⟨rfl,rfl⟩
theorem lq_neg (h:Rl b xs ys q):LV Tryz.prog 40 [rawV b xs ys] (ratV (-q)):=by
 cases b
 all_goals refine LX_run (m:=0) (n0:=0) mix Tryz.func40 rfl rfl rfl rfl ?_
           conv=>whnf
 all_goals refine .c (lq_canon h.neg) ?_
           conv=>whnf
 all_goals try (refine Nc.mk (by kernel_rfl) ?_;conv=>whnf)
 all_goals exact .q ⟨rfl,rfl⟩
theorem lq_signed (h:Rl b xs ys q):LV Tryz.prog 71 [rawV b xs ys] (cI (iv b (val xs))):=by
 cases b
 all_goals refine LX_run (m:=0) (n0:=0) mix Tryz.func71 rfl rfl rfl rfl ?_
           conv=>whnf
 all_goals refine .c (li_make rfl) ?_
           conv=>whnf
 all_goals try (refine Nc.mk (by kernel_rfl) ?_;conv=>whnf)
 all_goals exact .q ⟨rfl,rfl⟩
theorem lq_sign (h:Rl b xs ys q):LV Tryz.prog 25 [rawV b xs ys] (vl (.int .i64 q.num.sign)):=by
 have hs:=h.sn;have k:=li_sign (b:=decide (iv b (val xs)<0)) (val_limbs (iv b (val xs)).natAbs) (by rw[iv_abs];omega);rw[iv_self,rv_sign b (val xs) (val ys),h.e]at k;refine LX_run (m:=0) (n0:=0) mix Tryz.func25 rfl rfl rfl rfl ?_;conv=>whnf
 refine .c (lq_signed h) ?_;conv=>whnf
 refine .c (k) ?_;conv=>whnf
 try (refine Nc.mk (by kernel_rfl) ?_;conv=>whnf)
 exact .q ⟨rfl,rfl⟩
abbrev cIA (z:Int):List A:=[.d (.lit (.bool (decide (z<0)))),.d (.nat z.natAbs)]
theorem lq_cross {q':Rat}(h:Rl b xs ys q)(h':Rl c xs' ys' q'):LV Tryz.prog 83 [rawV b xs ys,rawV c xs' ys']
  (.tup [.g (cIA (iv b (val xs)*(un (val ys'):Nat))),.g (cIA (iv c (val xs')*(un (val ys):Nat)))]):=by
 have hs:=h.sn;have hs':=h'.sn;have hd:=und_len h.d;have hd':=und_len h'.d;have k1:=li_mul (b:=decide (iv b (val xs)<0)) (c:=false) (val_limbs (iv b (val xs)).natAbs) (und_val (ys:=ys')) (by rw[iv_abs];omega) (by omega);have k2:=li_mul (b:=decide (iv c (val xs')<0)) (c:=false) (val_limbs (iv c (val xs')).natAbs) (und_val (ys:=ys)) (by rw[iv_abs];omega) (by omega);rw[iv_self]at k1 k2;refine LX_run (m:=0) (n0:=0) mix Tryz.func83 rfl rfl rfl rfl ?_;conv=>whnf
 refine .c (lq_under h) ?_;conv=>whnf
 refine .c (lq_under h') ?_;conv=>whnf
 refine .mk (by kernel_rfl) ?_;conv=>whnf
 refine .c (lq_signed h) ?_;conv=>whnf
 refine .c (k1) ?_;conv=>whnf
 refine .c (lq_signed h') ?_;conv=>whnf
 refine .c (k2) ?_;conv=>whnf
 try (refine Nc.mk (by kernel_rfl) ?_;conv=>whnf)
 exact .q ⟨rfl,rfl⟩
end
end Go.Proofs.YthdoopaenanibaaGreatDoor.Lf
