/- Texts Ba LfA LfB LfC LfD LfE of this proof, in this order. -/
import Derived.WalkKit
import Derived.WalkSpells
import Derived.WalkLawsBesides
import Derived.Lib.Hide
import Derived.BigQuiet
import Derived.Deep.QuietTactic
import Derived.Shelf.Small.Bits
import Derived.Test.YthdoopaenanibaaGreatDoorProg
set_option linter.unusedVariables false
set_option linter.unusedSimpArgs false
set_option maxRecDepth 100000
set_option maxHeartbeats 4000000
namespace Go.Proofs.YthdoopaenanibaaGreatDoor
abbrev sI := @List.setIfInBounds_toArray
abbrev sZ := @List.set_cons_zero
abbrev sS := @List.set_cons_succ
abbrev lR_ := @Nat.le_refl
abbrev tL_ := @Nat.le_trans
abbrev zL_ := @Nat.zero_le
abbrev mG_ := @List.mem_of_getElem?
abbrev eP_ := @Nat.eq_zero_or_pos
abbrev bR_ := @Go.RowKit.Below.refl
abbrev lH := @Lib.hid
abbrev cM := @Calls.mono
namespace Nt
def val:List Nat→Nat
 |[]=>0
 |x::xs=>x+4294967296*val xs
def lims (xs:List Nat):Prop:=∀x∈xs,x<4294967296
def limbs (n:Nat):List Nat:=if h:n=0 then []else n % 4294967296::limbs (n/4294967296)
termination_by n
decreasing_by exact Nat.div_lt_self (Nat.pos_of_ne_zero h) (by decide)
theorem limbs_zero:limbs 0=[]:=by rw[limbs];simp
theorem limbs_pos {n:Nat}(h:0<n):limbs n=n % 4294967296::limbs (n/4294967296):=by
 rw[limbs];simp[Nat.ne_of_gt h]
theorem val_cons (x:Nat)(xs:List Nat):val (x::xs)=x+4294967296*val xs:=rfl
theorem val_append (xs ys:List Nat):val (xs++ys)=val xs+4294967296^xs.length*val ys:=by
 induction xs with
 |nil=>simp[val]
 |cons x xs ih=>simp only[List.cons_append,val_cons,ih,List.length_cons,Nat.pow_succ];grind
theorem lims_nil:lims []:=fun x h=>by cases h
theorem lims_cons {x:Nat}{xs:List Nat}(h:x<4294967296)(hs:lims xs):lims (x::xs):=by
 intro y hy;cases hy with
 |head=>exact h
 |tail _ hy=>exact hs y hy
theorem lims_tail {x:Nat}{xs:List Nat}(h:lims (x::xs)):lims xs:=fun y hy=>h y (List.mem_cons_of_mem _ hy)
theorem lims_head {x:Nat}{xs:List Nat}(h:lims (x::xs)):x<4294967296:=h x (List.mem_cons_self ..)
theorem lims_take {xs:List Nat}(h:lims xs)(k:Nat):lims (xs.take k):=fun y hy=>h y (List.mem_of_mem_take hy)
theorem lims_drop {xs:List Nat}(h:lims xs)(k:Nat):lims (xs.drop k):=fun y hy=>h y (List.mem_of_mem_drop hy)
theorem lims_append {xs ys:List Nat}(h:lims xs)(h':lims ys):lims (xs++ys):=fun y hy=>by
 rcases List.mem_append.1 hy with hy|hy
 ·exact h y hy
 ·exact h' y hy
theorem lims_set {xs:List Nat}(h:lims xs)(k x:Nat)(hx:x<4294967296):lims (xs.set k x):=fun y hy=>by
 rcases List.mem_or_eq_of_mem_set hy with hy|hy
 ·exact h y hy
 ·rw[hy];exact hx
theorem lims_getD {xs:List Nat}(h:lims xs)(k:Nat):xs.getD k 0<4294967296:=by
 rw[List.getD]
 cases hk:xs[k]? with
 |none=>simp
 |some x=>simpa using h x (mG_ hk)
theorem lims_replicate (n:Nat):lims (List.replicate n 0):=fun y hy=>by
 rw[(List.mem_replicate.1 hy).2];decide
theorem val_lt {xs:List Nat}(h:lims xs):val xs<4294967296^xs.length:=by
 induction xs with
 |nil=>simp[val]
 |cons x xs ih=>
  have:=ih (lims_tail h);have:=lims_head h;rw[val_cons,List.length_cons,Nat.pow_succ];omega
theorem take_succ_getD (xs:List Nat)(k:Nat)(h:k<xs.length):xs.take (k+1)=xs.take k++[xs.getD k 0]:=by
 rw[List.take_succ_eq_append_getElem h];simp[List.getD,h]
theorem val_take_succ {xs:List Nat}{k:Nat}(h:k<xs.length):val (xs.take (k+1))=val (xs.take k)+4294967296^k*xs.getD k 0:=by
 rw[take_succ_getD xs k h,val_append,List.length_take,Nat.min_eq_left (by omega)];simp[val]
theorem val_take_ge {xs:List Nat}{k:Nat}(h:xs.length≤k):val (xs.take k)=val xs:=by rw[List.take_of_length_le h]
theorem val_take_step (xs:List Nat)(k:Nat):val (xs.take (k+1))=val (xs.take k)+4294967296^k*xs.getD k 0:=by
 by_cases h:k<xs.length
 ·exact val_take_succ h
 ·rw[val_take_ge (by omega),val_take_ge (by omega)];simp[List.getD,show xs.length≤k by omega]
theorem val_take_drop (xs:List Nat)(k:Nat)(hk:k≤xs.length):val xs=val (xs.take k)+4294967296^k*val (xs.drop k):=by
 conv=>lhs;rw[←List.take_append_drop k xs]
 rw[val_append,List.length_take,Nat.min_eq_left hk]
theorem val_replicate (n:Nat):val (List.replicate n 0)=0:=by
 induction n with
 |zero=>rfl
 |succ n ih=>rw[List.replicate_succ,val_cons,ih]
theorem val_limbs (n:Nat):val (limbs n)=n:=by
 induction n using Nat.strongRecOn with
 |ind n ih=>
  by_cases h:n=0
  ·subst h;rw[limbs_zero];rfl
  ·rw[limbs_pos (Nat.pos_of_ne_zero h),val_cons,ih _ (Nat.div_lt_self (Nat.pos_of_ne_zero h) (by decide))];omega
theorem lims_limbs (n:Nat):lims (limbs n):=by
 induction n using Nat.strongRecOn with
 |ind n ih=>
  by_cases h:n=0
  ·subst h;rw[limbs_zero];exact lims_nil
  ·rw[limbs_pos (Nat.pos_of_ne_zero h)];exact lims_cons (Nat.mod_lt _ (by decide)) (ih _ (Nat.div_lt_self (Nat.pos_of_ne_zero h) (by decide)))
theorem limbs_val {xs:List Nat}(h:lims xs)(hc:xs=[]∨xs.getD (xs.length-1) 0≠0):limbs (val xs)=xs:=by
 induction xs with
 |nil=>exact limbs_zero
 |cons x xs ih=>
  have hx:=lims_head h;have ht:=lims_tail h;have hc:(x::xs).getD xs.length 0≠0:=by
   rcases hc with hc|hc
   ·cases hc
   ·simpa using hc
  have hpos:0<val (x::xs):=by
   rw[val_cons]
   cases xs with
   |nil=>simp at hc;omega
   |cons y ys=>
    have e:=ih ht (Or.inr (by simpa using hc));have:val (y::ys)≠0:=by
     intro h0;rw[h0,limbs_zero]at e;cases e
    omega
  rw[limbs_pos hpos,val_cons];have e1:(x+4294967296*val xs) % 4294967296=x:=by omega
  have e2:(x+4294967296*val xs)/4294967296=val xs:=by omega
  rw[e1,e2]
  congr 1
  cases xs with
  |nil=>exact limbs_zero
  |cons y ys=>exact ih ht (Or.inr (by simpa using hc))
theorem limbs_inj {a b:Nat}(h:limbs a=limbs b):a=b:=by
 have:=congrArg val h;rwa [val_limbs,val_limbs]at this
theorem limbs_ne_nil {n:Nat}(h:0<n):limbs n≠[]:=by rw[limbs_pos h];simp
theorem limbs_last {n:Nat}(h:0<n):(limbs n).getD ((limbs n).length-1) 0≠0:=by
 induction n using Nat.strongRecOn with
 |ind n ih=>
  rw[limbs_pos h]
  by_cases hd:n/4294967296=0
  ·rw[hd,limbs_zero];simp;omega
  ·have:=ih _ (Nat.div_lt_self h (by decide)) (Nat.pos_of_ne_zero hd);have hne:=limbs_ne_nil (Nat.pos_of_ne_zero hd);have hl:0<(limbs (n/4294967296)).length:=List.length_pos_iff.2 hne;have e:(n % 4294967296::limbs (n/4294967296)).length-1=((limbs (n/4294967296)).length-1)+1:=by simp;omega
   rw[e];simpa [List.getD]using this
def sz (n:Nat):Nat:=(limbs n).length
theorem sz_zero:sz 0=0:=by simp[sz,limbs_zero]
theorem sz_pos {n:Nat}(h:0<n):0<sz n:=by unfold sz;rw[limbs_pos h];simp
theorem sz_eq_zero {n:Nat}:sz n=0↔n=0:=by
 constructor
 ·intro h
  cases eP_ n with
  |inl h0=>exact h0
  |inr hp=>exact absurd (sz_pos hp) (by omega)
 ·rintro rfl;exact sz_zero
theorem lt_pow_sz (n:Nat):n<4294967296^sz n:=by
 have:=val_lt (lims_limbs n);rwa [val_limbs]at this
theorem pow_le_of_sz {n k:Nat}(h:k<sz n):4294967296^k≤n:=by
 have hn:0<n:=by
  cases eP_ n with
  |inl h0=>rw[h0,sz_zero]at h;omega
  |inr hp=>exact hp
 have hl:=limbs_last hn;have e:=val_take_step (limbs n) ((limbs n).length-1);have hpos:=sz_pos hn;unfold sz at h hpos;rw[show(limbs n).length-1+1=(limbs n).length by omega,List.take_length,val_limbs]at e;have h1:4294967296^k≤4294967296^((limbs n).length-1):=Nat.pow_le_pow_right (by decide) (by omega);have h2:4294967296^((limbs n).length-1)*1≤4294967296^((limbs n).length-1)*(limbs n).getD ((limbs n).length-1) 0:=Nat.mul_le_mul_left _ (Nat.pos_of_ne_zero hl);omega
theorem sz_le {n k:Nat}(h:n<4294967296^k):sz n≤k:=by
 rcases Nat.lt_or_ge k (sz n)with h'|h'
 ·exact absurd (pow_le_of_sz h') (by omega)
 ·exact h'
theorem sz_mono {a b:Nat}(h:a≤b):sz a≤sz b:=sz_le (Nat.lt_of_le_of_lt h (lt_pow_sz b))
theorem sz_add (a b:Nat):sz (a+b)≤max (sz a) (sz b)+1:=by
 apply sz_le;have ha:=lt_pow_sz a;have hb:=lt_pow_sz b;have h1:4294967296^sz a≤4294967296^max (sz a) (sz b):=Nat.pow_le_pow_right (by decide) (by omega);have h2:4294967296^sz b≤4294967296^max (sz a) (sz b):=Nat.pow_le_pow_right (by decide) (by omega);rw[Nat.pow_succ];omega
theorem sz_mul (a b:Nat):sz (a*b)≤sz a+sz b:=by
 apply sz_le;rw[Nat.pow_add];exact Nat.mul_lt_mul'' (lt_pow_sz a) (lt_pow_sz b)
theorem sz_val {xs:List Nat}(h:lims xs):sz (val xs)≤xs.length:=sz_le (val_lt h)
theorem sz_div (a b:Nat):sz (a/b)≤sz a:=sz_mono (Nat.div_le_self a b)
theorem take_lt {xs:List Nat}(h:lims xs)(k:Nat):val (xs.take k)<4294967296^k:=by
 have h1:=val_lt (lims_take h k);have h2:4294967296^(xs.take k).length≤4294967296^k:=Nat.pow_le_pow_right (by decide) (by simp;omega);omega
theorem top_lt {xs ys:List Nat}{k:Nat}(h:lims xs)(hlt:xs.getD k 0<ys.getD k 0):val (xs.take (k+1))<val (ys.take (k+1)):=by
 have h1:=take_lt h k;have e1:=val_take_step xs k;have e2:=val_take_step ys k;have h3:4294967296^k*(xs.getD k 0+1)≤4294967296^k*ys.getD k 0:=Nat.mul_le_mul_left _ hlt;rw[Nat.mul_add]at h3;omega
def cmpN (a b:Nat):Int:=if a<b then -1 else if a=b then 0 else 1
theorem cmpN_lt {a b:Nat}(h:a<b):cmpN a b= -1:=by simp[cmpN,h]
theorem cmpN_gt {a b:Nat}(h:b<a):cmpN a b=1:=by simp[cmpN,show ¬a<b by omega,show ¬a=b by omega]
theorem cmpN_eq {a b:Nat}(h:a=b):cmpN a b=0:=by simp[cmpN,h]
def agree (xs ys:List Nat)(k:Nat):Prop:=val xs+val (ys.take k)=val ys+val (xs.take k)
theorem agree_top {xs ys:List Nat}{k:Nat}(h:xs.length≤k)(h':ys.length≤k):agree xs ys k:=by
 unfold agree;rw[val_take_ge h,val_take_ge h',Nat.add_comm]
theorem agree_zero {xs ys:List Nat}(h:agree xs ys 0):val xs=val ys:=by
 unfold agree at h;simpa [val]using h
theorem agree_step {xs ys:List Nat}{k:Nat}(h:agree xs ys (k+1))(he:xs.getD k 0=ys.getD k 0):agree xs ys k:=by
 unfold agree at *;rw[val_take_step,val_take_step,he]at h;omega
theorem agree_lt {xs ys:List Nat}{k:Nat}(h:agree xs ys (k+1))(hx:lims xs)(hlt:xs.getD k 0<ys.getD k 0):val xs<val ys:=by
 have:=top_lt hx hlt;unfold agree at h;omega
theorem agree_gt {xs ys:List Nat}{k:Nat}(h:agree xs ys (k+1))(hy:lims ys)(hlt:ys.getD k 0<xs.getD k 0):val ys<val xs:=by
 have:=top_lt hy hlt;unfold agree at h;omega
theorem limbs_len_lt {a b:Nat}(h:(limbs a).length<(limbs b).length):a<b:=by
 rcases Nat.lt_or_ge a b with h'|h'
 ·exact h'
 ·have:=sz_mono h';unfold sz at this;omega
theorem take_set_succ (xs:List Nat)(k x:Nat)(h:k<xs.length):(xs.set k x).take (k+1)=xs.take k++[x]:=by
 rw[take_succ_getD _ _ (by simpa using h),List.take_set_of_le (lR_ _)];simp[List.getD,h]
theorem val_set_take {xs:List Nat}{k x:Nat}(h:k<xs.length):val ((xs.set k x).take (k+1))=val (xs.take k)+4294967296^k*x:=by
 rw[take_set_succ _ _ _ h,val_append,List.length_take,Nat.min_eq_left (by omega)];simp[val]
theorem val_snoc (xs:List Nat)(x:Nat):val (xs++[x])=val xs+4294967296^xs.length*x:=by rw[val_append];simp[val]
theorem add_step {o x y p c d o':Nat}(h:o+p*c=x)(h':d+o'*4294967296=c+y):(o+p*d)+p*4294967296*o'=x+p*y:=by
 have e:p*(d+o'*4294967296)=p*(c+y):=by rw[h']
 rw[Nat.mul_add,Nat.mul_add]at e;have e2:p*(o'*4294967296)=p*4294967296*o':=by grind
 omega
theorem val_set {xs:List Nat}{k x:Nat}(h:k<xs.length):val (xs.set k x)+4294967296^k*xs.getD k 0=val xs+4294967296^k*x:=by
 have e1:=val_take_drop (xs.set k x) (k+1) (by simp;omega);have e2:=val_take_drop xs (k+1) h;rw[val_set_take h,List.drop_set_of_lt (by omega)]at e1;rw[val_take_succ h]at e2;omega
theorem getD_set_eq {xs:List Nat}{k x:Nat}(h:k<xs.length):(xs.set k x).getD k 0=x:=by simp[List.getD,h]
theorem getD_set_ne {xs:List Nat}{k j x:Nat}(h:k≠j):(xs.set k x).getD j 0=xs.getD j 0:=by simp[List.getD,h]
theorem getD_replicate (n j:Nat):(List.replicate n 0).getD j 0=0:=by
 simp only[List.getD,List.getElem?_replicate];split<;>rfl
def mulOut (n m i:Nat)(os xs ys:List Nat):Prop:=
 os.length=n+m∧lims os∧(∀j,i+m≤j→os.getD j 0=0)∧val os=val (xs.take i)*val ys
def mulIn (n m i k c:Nat)(os xs ys:List Nat):Prop:=
 os.length=n+m∧lims os∧(∀j,i+m≤j→os.getD j 0=0)∧c<4294967296∧
  val os+4294967296^(i+k)*c=val (xs.take i)*val ys+4294967296^i*(xs.getD i 0*val (ys.take k))
theorem mulOut_zero (n m:Nat)(xs ys:List Nat):mulOut n m 0 (List.replicate (n+m) 0) xs ys:=
 ⟨by simp,lims_replicate _,fun j _=>getD_replicate _ _,by simp[val_replicate,val]⟩
theorem mulIn_zero {n m i:Nat}{os xs ys:List Nat}(h:mulOut n m i os xs ys):mulIn n m i 0 0 os xs ys:=by
 obtain⟨h1,h2,h3,h4⟩:=h;exact⟨h1,h2,h3,by decide,by simp[h4,val]⟩
theorem mulIn_step {n m i k c x y o:Nat}{os xs ys:List Nat}(h:mulIn n m i k c os xs ys)(hk:k<m)(hi:i<n)(hx:x=xs.getD i 0)(hy:y=ys.getD k 0)(ho:o=os.getD (i+k) 0)
  (hlx:lims xs) (hly:lims ys) (z:Nat) (hz:z=c+(x*y+o)):mulIn n m i (k+1) (z/4294967296) (os.set (i+k) (z % 4294967296)) xs ys:=by
 obtain⟨h1,h2,h3,h4,h5⟩:=h;have b1:=lims_getD hlx i;have b2:=lims_getD hly k;have b3:=lims_getD h2 (i+k);rw[←hx]at b1;rw[←hy]at b2;rw[←ho]at b3;have hxy:x*y≤4294967295*4294967295:=Nat.mul_le_mul (by omega) (by omega);refine⟨by simpa using h1,lims_set h2 _ _ (by omega),fun j hj=> ?_,by omega,?_⟩
 ·rw[getD_set_ne (by omega)];exact h3 j hj
 ·have e:=val_set (xs:=os) (k:=i+k) (x:=z % 4294967296) (by omega);rw[←ho]at e;rw[val_take_step ys,←hy,←hx,Nat.mul_add,Nat.mul_add]at *
  rw[←hx]at h5;have e2:4294967296^(i+(k+1))=4294967296^(i+k)*4294967296:=by rw[←Nat.add_assoc,Nat.pow_succ]
  have e3:4294967296^i*(x*(4294967296^k*y))=4294967296^(i+k)*(x*y):=by rw[Nat.pow_add];grind
  have e4:4294967296^(i+k)*z=4294967296^(i+k)*(z % 4294967296)+4294967296^(i+k)*4294967296*(z/4294967296):=by
   rw[Nat.mul_assoc,←Nat.mul_add];congr 1;omega
  have e5:4294967296^(i+k)*z=4294967296^(i+k)*c+(4294967296^(i+k)*(x*y)+4294967296^(i+k)*o):=by rw[hz,Nat.mul_add,Nat.mul_add]
  rw[e2,e3];omega
theorem mulOut_step {n m i c:Nat}{os xs ys:List Nat}(h:mulIn n m i m c os xs ys)(hi:i<n)(hm:ys.length≤m):mulOut n m (i+1) (os.set (i+m) c) xs ys:=by
 obtain⟨h1,h2,h3,h4,h5⟩:=h;refine⟨by simpa using h1,lims_set h2 _ _ h4,fun j hj=> ?_,?_⟩
 ·rw[getD_set_ne (by omega)];exact h3 j (by omega)
 ·have e:=val_set (xs:=os) (k:=i+m) (x:=c) (by omega);rw[h3 (i+m) (by omega)]at e;rw[val_take_step xs,Nat.add_mul];rw[val_take_ge hm]at h5;have e3:4294967296^i*xs.getD i 0*val ys=4294967296^i*(xs.getD i 0*val ys):=Nat.mul_assoc _ _ _;omega
theorem mulIn_done {n m i c:Nat}{os xs ys:List Nat}(h:mulIn n m i m c os xs ys)(hxs:lims xs)(hys:lims ys)(hm:ys.length<m):c=0∧mulOut n m (i+1) os xs ys:=by
 obtain⟨h1,h2,h3,h4,h5⟩:=h;rw[val_take_ge (xs:=ys) (by omega)]at h5;have e1:val (xs.take i)*val ys+4294967296^i*(xs.getD i 0*val ys)=val (xs.take (i+1))*val ys:=by
  rw[val_take_step xs,Nat.add_mul,Nat.mul_assoc]
 rw[e1]at h5;have hc:c=0:=by
  rcases eP_ c with h|h
  ·exact h
  ·exfalso;have b1:=take_lt hxs (i+1);have b2:=val_lt hys;have b3:4294967296^ys.length≤4294967296^(m-1):=Nat.pow_le_pow_right (by decide) (by omega);have b4:val (xs.take (i+1))*val ys<4294967296^(i+1)*4294967296^(m-1):=Nat.mul_lt_mul'' b1 (by omega);rw[←Nat.pow_add,show i+1+(m-1)=i+m by omega]at b4;have b5:4294967296^(i+m)*1≤4294967296^(i+m)*c:=Nat.mul_le_mul_left _ h;omega
 subst hc;exact⟨rfl,h1,h2,fun j hj=>h3 j (by omega),by simpa using h5⟩
theorem mulOut_end {n m:Nat}{os xs ys:List Nat}(h:mulOut n m n os xs ys)(hn:xs.length≤n):lims os∧os.length=n+m∧val os=val xs*val ys:=by
 obtain⟨h1,h2,h3,h4⟩:=h;exact⟨h2,h1,by rw[h4,val_take_ge hn]⟩
end Nt
open Go.RowKit Nt
def u32 (x:Nat):Value:= .int .u32 (x:Int)
def Sl (w:World)(v:Value)(xs:List Nat):Prop:=
 ∃ad n cap,v= .slice ad n cap∧xs.length=n∧n≤cap∧n≤1099511627776∧lims xs∧
  (0<n→∃b off,ad=some ⟨b,off,none⟩∧b<w.heap.size∧∀i,i<n→w.cell? ⟨b,off+i,none⟩=some (.int .u32 ((xs.getD i 0:Nat):Int)))
theorem Sl.lims {w:World}{v:Value}{xs:List Nat}(h:Sl w v xs):lims xs:=by
 obtain⟨_,_,_,_,_,_,_,h,_⟩:=h;exact h
theorem Sl.len {w:World}{v:Value}{xs:List Nat}(h:Sl w v xs):xs.length≤1099511627776:=by
 obtain⟨_,_,_,_,h,_,h',_,_⟩:=h;omega
theorem Sl.nil (w:World):Sl w (.slice none 0 0) []:=
 ⟨none,0,0,rfl,rfl,lR_ _,by decide,lims_nil,fun h=>absurd h (by decide)⟩
theorem Sl.below {w w':World}{v:Value}{xs:List Nat}(h:Sl w v xs)(hb:Below w.heap.size w w'):Sl w' v xs:=by
 obtain⟨ad,n,cap,hv,hl,hc,hm,hx,hs⟩:=h;refine⟨ad,n,cap,hv,hl,hc,hm,hx,fun h0=> ?_⟩;obtain⟨b,off,ha,hbs,hcell⟩:=hs h0;exact⟨b,off,ha,Nat.lt_of_lt_of_le hbs hb.size,fun i hi=>(hb.cell (p:=⟨b,off+i,none⟩) hbs).trans (hcell i hi)⟩
theorem Sl.drew {w:World}{v:Value}{xs:List Nat}(h:Sl w v xs):Sl w.drew v xs:=h.below (bR_ _ _).drew
def Arr (w:World)(b:Nat)(xs:List Nat):Prop:=
 ∃cur e,w.heap[b]? =some (.cells cur e (0,0))∧∀i,i<xs.length→cur[i]? =some (.int .u32 ((xs.getD i 0:Nat):Int))
theorem Arr.lt {w:World}{b:Nat}{xs:List Nat}(h:Arr w b xs):b<w.heap.size:=by
 obtain⟨cur,e,hh,_⟩:=h;exact lt_of_block hh
theorem Arr.cell {w:World}{b:Nat}{xs:List Nat}(h:Arr w b xs)(i:Nat)(hi:i<xs.length):w.cell? ⟨b,i,none⟩=some (.int .u32 ((xs.getD i 0:Nat):Int)):=by
 obtain⟨cur,e,hh,hc⟩:=h;simp[World.cell?,hh,hc i hi]
theorem Arr.frozen {w:World}{b:Nat}{xs:List Nat}(h:Arr w b xs)(i:Nat):w.frozen? ⟨b,i,none⟩=false:=by
 obtain⟨cur,e,hh,hc⟩:=h;simp[World.frozen?,hh]
theorem Arr.set {w:World}{b:Nat}{xs:List Nat}(h:Arr w b xs)(i:Nat)(x:Nat):Arr (w.setCell ⟨b,i,none⟩ (.int .u32 (x:Int))) b (xs.set i x):=by
 obtain⟨cur,e,hh,hc⟩:=h;refine⟨cur.setIfInBounds i (.int .u32 (x:Int)),e,heap_setCell_same w b i cur e _ hh,fun j hj=> ?_⟩;rw[List.length_set]at hj;have hcj:=hc j hj;rw[Array.getElem?_setIfInBounds]
 by_cases hij:i=j
 ·subst hij;have hlt:i<cur.size:=by
   rcases Nat.lt_or_ge i cur.size with h|h
   ·exact h
   ·rw[Array.getElem?_eq_none h]at hcj;cases hcj
  simp[hlt,List.getD,hj]
 ·rw[if_neg hij,hcj];simp[List.getD,hij]
theorem Arr.setI {w:World}{b:Nat}{xs:List Nat}(h:Arr w b xs)(i:Nat)(z:Int)(hz:0≤z):Arr (w.setCell ⟨b,i,none⟩ (.int .u32 z)) b (xs.set i z.toNat):=by
 have:=h.set i z.toNat
 rwa [Int.toNat_of_nonneg hz]at this
theorem Arr.below {w w':World}{b B:Nat}{xs:List Nat}(h:Arr w b xs)(hb:Below B w w')(hlt:b<B):Arr w' b xs:=by
 obtain⟨cur,e,hh,hc⟩:=h;exact⟨cur,e,(hb.block b hlt).trans hh,hc⟩
theorem Arr.drew {w:World}{b:Nat}{xs:List Nat}(h:Arr w b xs):Arr w.drew b xs:=h
theorem Arr.drewN {w:World}{b n:Nat}{xs:List Nat}(h:Arr w b xs):Arr (w.drewN n) b xs:=h
theorem Arr.other {w:World}{b b' i:Nat}{u:Value}{xs:List Nat}(h:Arr w b xs)(hne:b≠b'):Arr (w.setCell ⟨b',i,none⟩ u) b xs:=by
 obtain⟨cur,e,hh,hc⟩:=h;exact⟨cur,e,(Below.heap_setCell w ⟨b',i,none⟩ u b hne).trans hh,hc⟩
theorem Arr.sl {w:World}{b cap:Nat}{xs:List Nat}(h:Arr w b xs)(hx:Nt.lims xs)(n:Nat)(hn:xs.length=n)(hc:n≤cap)(hm:n≤1099511627776):Sl w (.slice (some ⟨b,0,none⟩) n cap) xs:=
 ⟨_,n,cap,rfl,hn,hc,hm,hx,fun _=>⟨b,0,rfl,h.lt,fun i hi=>by rw[Nat.zero_add];exact h.cell i (by omega)⟩⟩
theorem Arr.slPart {w:World}{b cap off n:Nat}{xs:List Nat}(h:Arr w b xs)(hx:Nt.lims xs)(hn:off+n≤xs.length)(hc:n≤cap)(hm:n≤1099511627776):Sl w (.slice (some ⟨b,off,none⟩) n cap) ((xs.drop off).take n):=
 ⟨_,n,cap,rfl,by simp;omega,hc,hm,lims_take (lims_drop hx off) n,fun _=>⟨b,off,rfl,h.lt,fun i hi=>by
  rw[h.cell (off+i) (by omega)];simp[List.getD,hi]⟩⟩
theorem sl_one (w:World)(e:TypeId)(a:Int)(ha:0≤a∧a<4294967296):Sl (w.alloc (.cells #[.int .u32 a] e)) (.slice (some ⟨w.heap.size,0,none⟩) 1 1) [a.toNat]:=
 ⟨_,1,1,rfl,rfl,lR_ _,by decide,lims_cons (by omega) lims_nil,fun _=>⟨w.heap.size,0,rfl,by simp,fun i hi=>by
  match i,hi with
  |0,_=>simp;omega⟩⟩
theorem sl_two (w:World)(e:TypeId)(a b:Int)(ha:0≤a∧a<4294967296)(hb:0≤b∧b<4294967296):
  Sl (w.alloc (.cells #[.int .u32 a,.int .u32 b] e)) (.slice (some ⟨w.heap.size,0,none⟩) 2 2) [a.toNat,b.toNat]:=
 ⟨_,2,2,rfl,rfl,lR_ _,by decide,lims_cons (by omega) (lims_cons (by omega) lims_nil),fun _=>⟨w.heap.size,0,rfl,by simp,fun i hi=>by
  match i,hi with
  |0,_=>simp;omega
  |1,_=>simp;omega⟩⟩
def Ret (w:World)(P:World→Value→Prop)(e:Ending)(w':World):Prop:=
 ∃v,e= .returned v∧P w' v∧Below w.heap.size w w'
def Num (n:Nat)(w:World)(v:Value):Prop:=Sl w v (limbs n)
def Num2 (n m:Nat)(w:World)(v:Value):Prop:=∃a b,v= .tuple #[a,b]∧Sl w a (limbs n)∧Sl w b (limbs m)
def NumE (n:Nat)(err:Int)(w:World)(v:Value):Prop:=∃a,v= .tuple #[a,.int .i64 err]∧Sl w a (limbs n)
def Num2E (n m:Nat)(err:Int)(w:World)(v:Value):Prop:=∃a b,v= .tuple #[a,b,.int .i64 err]∧Sl w a (limbs n)∧Sl w b (limbs m)
def Val (u:Value)(_:World)(v:Value):Prop:=v=u
theorem wpList_make_u32 {P:Program}(w:World){ops:Array Oper}{rest:List Oper}{o:Oper}{a:Act}{Q:Exit→Act→World→Prop}
  (hg:o.guard=none) (l c:Operand) (t:TypeId) (hop:o.op=Op.makeSlice t l c) (e:TypeId)
  (h1:P.underlying t=some (.slice e)) (h2:(P.info? e).map (fun i=>(i.zero,i.size,i.bytes))=some (some (.int .u32 0),1,4))
  (L:Int) (n:Nat) (hl:a.eval l= .int .i64 L) (hc:a.eval c= .int .i64 L) (hL:L=(n:Int)) (hn:n≤1099511627776)
  (hK:∀w',Arr w' w.heap.size (List.replicate n 0)→Below w.heap.size w w'→w'.heap.size=w.heap.size+1→wpList P ops Q rest (a.put o.dst (.slice (some ⟨w.heap.size,0,none⟩) n n)) w'):
  wpList P ops Q (o::rest) a w:=by
 obtain⟨i0,hi,hz0,hz1,hz2⟩:=info_parts h2;refine wpList_plain hg fun K hK'=> ?_;subst hL;have hrun:=run_make (P:=P) w t e i0 (.int .u32 0) h1 hi hz0 .i64 .i64 (n:Int) (n:Int) (by omega) (Int.le_refl _) (by rw[hz2];omega) (by omega);simp only[Int.toNat_natCast]at hrun;unfold Oper.wp;simp[execOp,hop,hl,hc,hrun,Result.andThen];refine hK' _ _ (hK _ ?_ ?_ ?_)
 ·refine⟨_,e,heap_alloc_new w _,fun i hi=> ?_⟩;simp only[List.length_replicate]at hi;simp[hz1,Value.cells,madeCells,hi,List.getD,Nat.mod_one]
 ·exact(bR_ _ _).alloc (lR_ _) _
 ·simp
theorem append_types {P:Program}(w:World)(t t' e e' ty:TypeId)(args:Array Value)(h1:P.underlying t=some (.slice e))(h1':P.underlying t'=some (.slice e')):
  (Builtin.append_ #[t,t'] ty args).run P w=(Builtin.append_ #[t,t] ty args).run P w:=by
 simp only[Builtin.append_];rcases args with⟨_|⟨a,_|⟨b,r⟩⟩⟩<;>simp[run_underlying h1]
 cases a<;>simp[sizeOf,typeInfo]
 rename_i ad n c
 cases hi:P.info? e<;>simp[run_underlying h1,run_underlying h1']
def OwnU (w:World)(base:Nat)(e:TypeId)(v:Value)(xs:List Nat):Prop:=
 w.ownsRow base e 1 v xs.length (xs.map fun(x:Nat)=>Value.int .u32 (x:Int))
theorem OwnU.nil (w:World)(base:Nat)(e:TypeId):OwnU w base e (.slice none 0 0) []:=by unfold OwnU;exact World.ownsRow_nil w base e 1
theorem OwnU.sl {w:World}{base:Nat}{e:TypeId}{v:Value}{xs:List Nat}(h:OwnU w base e v xs)(hx:lims xs)(hm:xs.length≤1099511627776):Sl w v xs:=by
 obtain⟨_,⟨hv,hn⟩|⟨g,cap,cur,hv,hb,hh,hnc,hcm,hcs,ht⟩⟩:=h
 ·obtain rfl:xs=[]:=List.eq_nil_of_length_eq_zero hn;rw[hv];exact Sl.nil w
 ·refine⟨_,_,cap,hv,rfl,hnc,hm,hx,fun h0=>⟨g,0,rfl,lt_of_block hh,fun i hi=> ?_⟩⟩;have:cur[i]? =some (.int .u32 ((xs.getD i 0:Nat):Int)):=by
   have e1:(cur.toList.take (xs.length*1))[i]? =cur[i]?:=by
    rw[List.getElem?_take,if_pos (by omega)];simp
   rw[←e1,ht];simp[List.getD,hi]
  simp[World.cell?,hh,this]
theorem OwnU.below {w w':World}{B base:Nat}{e:TypeId}{v:Value}{xs:List Nat}(h:OwnU w base e v xs)(hb:Below B w w')(hlt:w.heap.size≤B):OwnU w' base e v xs:=by
 obtain⟨h1,⟨hv,hn⟩|⟨g,cap,cur,hv,hbg,hh,r⟩⟩:=h
 ·exact⟨h1,.inl ⟨hv,hn⟩⟩
 ·exact⟨h1,.inr ⟨g,cap,cur,hv,hbg,(hb.block g (Nat.lt_of_lt_of_le (lt_of_block hh) hlt)).trans hh,r⟩⟩
theorem wpList_push_u32 {P:Program}(w:World){ops:Array Oper}{rest:List Oper}{o:Oper}{a:Act}{Q:Exit→Act→World→Prop}
  (hg:o.guard=none) (s x:Operand) (t t':TypeId) (ho:o.op= .call {callee:= .builtin .append,args:= #[s,x],argTypes:= #[t,t']})
  (e:TypeId) (h1:P.underlying t=some (.slice e)) (h1':P.underlying t'=some (.slice e)) (h2:(P.info? e).map (fun i=>(i.zero,i.size,i.bytes))=some (some (.int .u32 0),1,4))
  (base:Nat) (v:Value) (xs:List Nat) (hs:a.eval s=v) (hown:OwnU w base e v xs) (g c:Nat) (y:Int) (hx:a.eval x= .slice (some ⟨g,0,none⟩) 1 c)
  (hcell:w.cell? ⟨g,0,none⟩=some (.int .u32 y)) (hy0:0≤y) (hm:xs.length≤1099511627776) (hbase:base≤w.heap.size)
  (h:∀v' w',OwnU w' base e v' (xs++[y.toNat])→Below base w w'→wpList P ops Q rest (a.put o.dst v') w'):wpList P ops Q (o::rest) a w:=by
 obtain⟨i0,hi,hz0,hz1,hz2⟩:=info_parts h2;refine wpList_plain hg fun K hK'=> ?_;obtain⟨v',w',hr,r1,r2,_⟩:=run_append_own (P:=P) w base t o.type e i0 (.int .u32 0) 1 4 h1 hi hz0 hz1 hz2 rfl (by decide) v xs.length _ hown
  ⟨g,0,none⟩ 1 c [.int .u32 y] rfl (by
   intro j u hj
   match j,hj with
   |0,hj=>simp at hj;subst hj;simpa [Addr.add]using hcell) (by intro u hu;simp at hu;subst hu;rfl) (by unfold maxLen;omega) (by omega) hbase
 have hlt:∀k,v.ownBlock=some k→base≤k:=fun k hk=>(hown.lt k hk).1;rw[←append_types w t t' e e o.type _ h1 h1']at hr;unfold Oper.wp execOp;simp only[ho,resolve,invoke,builtin,Sem.run_bind,Sem.run_pure,Result.andThen_ok,List.map_toArray,List.map_cons,List.map_nil,hs,hx,hr];refine hK' _ _ (h v' w' ?_ ((bR_ _ _).grown r2 hbase hlt));unfold OwnU;rw[List.length_append,List.map_append];simpa [Int.toNat_of_nonneg hy0]using r1
def FreshS (B:Nat)(v:Value):Prop:=∀b off n c,v= .slice (some ⟨b,off,none⟩) n c→0<n→B≤b
theorem FreshS.mono {B B':Nat}{v:Value}(h:FreshS B v)(hB:B'≤B):FreshS B' v:=fun b off n c hv hn=>tL_ hB (h b off n c hv hn)
theorem FreshS.nil (B:Nat):FreshS B (.slice none 0 0):=fun b off n c hv _=>by injection hv with h;cases h
theorem Sl.older {w:World}{v:Value}{xs:List Nat}{B b i:Nat}{u:Value}(h:Sl w v xs)(hf:FreshS B v)(hb:b<B):Sl (w.setCell ⟨b,i,none⟩ u) v xs:=by
 obtain⟨ad,n,cap,hv,hl,hc,hm,hx,hs⟩:=h;refine⟨ad,n,cap,hv,hl,hc,hm,hx,fun h0=> ?_⟩;obtain⟨b',off,ha,hbs,hcell⟩:=hs h0;have hge:=hf b' off n cap (by rw[hv,ha]) h0;refine⟨b',off,ha,by simpa using hbs,fun j hj=> ?_⟩;rw[World.cell?_setCell_other w (a:=⟨b,i,none⟩) (b:=⟨b',off+j,none⟩) (v:=u) (by intro e;injection e with e1;omega)];exact hcell j hj
theorem wpList_copy_u32F {P:Program}(w:World){ops:Array Oper}{rest:List Oper}{o:Oper}{a:Act}{Q:Exit→Act→World→Prop}
  (hg:o.guard=none) (s x:Operand) (t t':TypeId) (ho:o.op= .call {callee:= .builtin .append,args:= #[s,x],argTypes:= #[t,t']})
  (e:TypeId) (h1:P.underlying t=some (.slice e)) (h1':P.underlying t'=some (.slice e)) (h2:(P.info? e).map (fun i=>(i.zero,i.size,i.bytes))=some (some (.int .u32 0),1,4))
  (g:Nat) (hs:a.eval s= .slice (some ⟨g,0,none⟩) 0 0) (v:Value) (xs:List Nat) (hx:a.eval x=v) (hv:Sl w v xs)
  (h:∀v' w',Sl w' v' xs→FreshS w.heap.size v'→Below w.heap.size w w'→wpList P ops Q rest (a.put o.dst v') w'):wpList P ops Q (o::rest) a w:=by
 obtain⟨i0,hi,hz0,hz1,hz2⟩:=info_parts h2;obtain⟨ad,n,cap,rfl,hn,hnc,hm,hl,hc⟩:=hv;refine wpList_plain hg fun K hK'=> ?_;have key:∃v' w',(Builtin.append_ #[t,t] o.type #[.slice (some ⟨g,0,none⟩) 0 0,.slice ad n cap]).run P w= .ok v' w'∧Sl w' v' xs∧FreshS w.heap.size v'∧Below w.heap.size w w':=by
  by_cases h0:n=0
  ·subst h0;obtain rfl:xs=[]:=List.eq_nil_of_length_eq_zero hn;refine⟨.slice (some ⟨g,0,none⟩) 0 0,w,?_,⟨_,0,0,rfl,rfl,lR_ _,by decide,lims_nil,fun h=>absurd h (by decide)⟩,fun b off n c hv hn=>by injection hv with _ h2 _;omega,bR_ _ _⟩
   cases ad<;>simp[Builtin.append_,run_underlying h1,sizeOf,typeInfo,hi,Builtin.lenOf,Builtin.firstCells,loadCells,loadCellsFrom,storeCells]
  ·obtain⟨b,off,rfl,hb,hcell⟩:=hc (by omega)
   have hr:=run_append_grow (P:=P) w t o.type e i0 (.int .u32 0) h1 hi hz0 ⟨g,0,none⟩ 0 0 [] (by simp) (by intro j u hj;simp at hj) ⟨b,off,none⟩ n cap (xs.map fun(x:Nat)=>Value.int .u32 (x:Int)) (by rw[hz1];simp[hn]) (by
    intro j u hj;have hjn:j<n:=by
     have:=(List.getElem?_eq_some_iff.1 hj).1;simp at this;omega
    rw[Addr.add_lit,hcell j hjn,←hj];simp[List.getD,show j<xs.length by omega]) (by omega) (by omega) (growslice_fits (by omega) (by rw[hz2];omega))
   refine⟨_,_,hr,?_,fun b off n c hv _=>by injection hv with h1 _ _;injection h1 with h1;injection h1 with h1 _ _;omega,?_⟩
   ·have hge:=grownCap_ge w (0+n) 0 e;refine⟨_,0+n,_,rfl,by omega,hge,by omega,hl,fun _=>⟨w.heap.size,0,rfl,?_,fun i hi=> ?_⟩⟩
    ·simp
    ·rw[show 0+i=i from Nat.zero_add i];refine(World.cell?_alloc_new w.drew _ e i).trans ?_;have hi':i<xs.length:=by omega
     simp[Array.getElem?_append,hi',List.getD]
   ·exact((bR_ _ _).drew).alloc (lR_ _) _
 obtain⟨v',w',hr,r1,r3,r2⟩:=key;rw[←append_types w t t' e e o.type _ h1 h1']at hr;unfold Oper.wp execOp;simp only[ho,resolve,invoke,builtin,Sem.run_bind,Sem.run_pure,Result.andThen_ok,List.map_toArray,List.map_cons,List.map_nil,hs,hx,hr];exact hK' _ _ (h v' w' r1 r3 r2)
theorem wpList_copy_u32 {P:Program}(w:World){ops:Array Oper}{rest:List Oper}{o:Oper}{a:Act}{Q:Exit→Act→World→Prop}
  (hg:o.guard=none) (s x:Operand) (t t':TypeId) (ho:o.op= .call {callee:= .builtin .append,args:= #[s,x],argTypes:= #[t,t']})
  (e:TypeId) (h1:P.underlying t=some (.slice e)) (h1':P.underlying t'=some (.slice e)) (h2:(P.info? e).map (fun i=>(i.zero,i.size,i.bytes))=some (some (.int .u32 0),1,4))
  (g:Nat) (hs:a.eval s= .slice (some ⟨g,0,none⟩) 0 0) (v:Value) (xs:List Nat) (hx:a.eval x=v) (hv:Sl w v xs)
  (h:∀v' w',Sl w' v' xs→Below w.heap.size w w'→wpList P ops Q rest (a.put o.dst v') w'):wpList P ops Q (o::rest) a w:=
 wpList_copy_u32F w hg s x t t' ho e h1 h1' h2 g hs v xs hx hv fun v' w' a _ b=>h v' w' a b
theorem wpList_makeown_u32 {P:Program}(w:World){ops:Array Oper}{rest:List Oper}{o:Oper}{a:Act}{Q:Exit→Act→World→Prop}
  (hg:o.guard=none) (l c:Operand) (t:TypeId) (hop:o.op=Op.makeSlice t l c) (e:TypeId)
  (h1:P.underlying t=some (.slice e)) (h2:(P.info? e).map (fun i=>(i.zero,i.size,i.bytes))=some (some (.int .u32 0),1,4))
  (L:Int) (n:Nat) (hl:a.eval l= .int .i64 L) (hc:a.eval c= .int .i64 L) (hL:L=(n:Int)) (hn:n≤1099511627776)
  (hK:∀w' v,OwnU w' w.heap.size e v (List.replicate n 0)→Below w.heap.size w w'→wpList P ops Q rest (a.put o.dst v) w'):
  wpList P ops Q (o::rest) a w:=by
 obtain⟨i0,hi,hz0,hz1,hz2⟩:=info_parts h2;refine wpList_plain hg fun K hK'=> ?_;subst hL;obtain⟨w',hrun,r1,r2⟩:=run_make_full (P:=P) w w.heap.size t e i0 (.int .u32 0) 1 h1 hi hz0 hz1 .i64 .i64 n (by rw[hz2];omega) (by unfold maxLen;omega) (lR_ _);unfold Oper.wp;simp[execOp,hop,hl,hc,hrun,Result.andThen];refine hK' _ _ (hK _ _ ?_ ((bR_ _ _).grown r2 (lR_ _) (fun k h=>by cases h)));unfold OwnU;have e1:(madeCells (Value.int .u32 0).cells (n*1)).toList=(List.replicate n 0).map fun(x:Nat)=>Value.int .u32 (x:Int):=by
  rw[Nat.mul_one];show(madeCells #[Value.int .u32 0] n).toList=_;rw[toList_madeCells_one];simp
 rw[List.length_replicate,←e1];exact r1
end Go.Proofs.YthdoopaenanibaaGreatDoor
namespace Go.Proofs
open Go.Shelf
def Tryz.lays128_ren:Go.Shelf.Ren:=⟨fun|128=>152|n=>n,fun|51=>150|3=>3|4=>4|46=>192|5=>5|9=>9|n=>n,fun|n=>n⟩
theorem Tryz.lays128:Go.Proofs.Lays.n128 Tryz.prog Tryz.lays128_ren:={
 mixed:=by kernel_rfl
 f128:=Tryz.func152.trans (congrArg some (by kernel_rfl))
 t3:=Tryz.underlying3
 a3:=Tryz.isAgg3
 z3:=Tryz.sizeOf3
 v3:=Tryz.zeroValue3
 t4:=Tryz.underlying4
 a4:=Tryz.isAgg4
 z4:=Tryz.sizeOf4
 v4:=Tryz.zeroValue4
 t5:=Tryz.underlying5
 a5:=Tryz.isAgg5
 z5:=Tryz.sizeOf5
 v5:=Tryz.zeroValue5
 t9:=Tryz.underlying9
 a9:=Tryz.isAgg9
 z9:=Tryz.sizeOf9
 v9:=Tryz.zeroValue9
 t46:=Tryz.underlying192
 a46:=Tryz.isAgg192
 z46:=Tryz.sizeOf192
 v46:=Tryz.zeroValue192
 t51:=Tryz.underlying150
 a51:=Tryz.isAgg150
 z51:=Tryz.sizeOf150
 v51:=Tryz.zeroValue150}
theorem Tryz.bits_Len32 (x:Int)(w:World)(h0:0≤x)(h1:x≤4294967295):
  Calls Tryz.prog 152 #[.int .u32 x] w fun e w'=>e= .returned (.int .i64 (Lib.bitLen x.toNat))∧w'=w:=Any.bits_Len32 Tryz.lays128 x w h0 h1
def Tryz.lays133_ren:Go.Shelf.Ren:=⟨fun|133=>182|128=>152|n=>n,fun|51=>150|3=>3|4=>4|46=>192|5=>5|9=>9|n=>n,fun|n=>n⟩
theorem Tryz.lays133:Go.Proofs.Lays.n133 Tryz.prog Tryz.lays133_ren:={
 mixed:=by kernel_rfl
 f128:=Tryz.func152.trans (congrArg some (by kernel_rfl))
 f133:=Tryz.func182.trans (congrArg some (by kernel_rfl))
 t3:=Tryz.underlying3
 a3:=Tryz.isAgg3
 z3:=Tryz.sizeOf3
 v3:=Tryz.zeroValue3
 t4:=Tryz.underlying4
 a4:=Tryz.isAgg4
 z4:=Tryz.sizeOf4
 v4:=Tryz.zeroValue4
 t5:=Tryz.underlying5
 a5:=Tryz.isAgg5
 z5:=Tryz.sizeOf5
 v5:=Tryz.zeroValue5
 t9:=Tryz.underlying9
 a9:=Tryz.isAgg9
 z9:=Tryz.sizeOf9
 v9:=Tryz.zeroValue9
 t46:=Tryz.underlying192
 a46:=Tryz.isAgg192
 z46:=Tryz.sizeOf192
 v46:=Tryz.zeroValue192
 t51:=Tryz.underlying150
 a51:=Tryz.isAgg150
 z51:=Tryz.sizeOf150
 v51:=Tryz.zeroValue150}
theorem Tryz.bits_LeadingZeros32 (x:Int)(w:World)(h0:0≤x)(h1:x≤4294967295):
  Calls Tryz.prog 182 #[.int .u32 x] w fun e w'=>e= .returned (.int .i64 (32-(Lib.bitLen x.toNat:Int)))∧w'=w:=Any.bits_LeadingZeros32 Tryz.lays133 x w h0 h1
end Go.Proofs
namespace Go.Proofs.YthdoopaenanibaaGreatDoor.Lf
open Go.RowKit Nt
def look {β:Type}:List (Nat×β)→Nat→Option β
 |[],_=>none
 |(e,v)::r,d=>if e=d then some v else look r d
inductive D where
 |lit (v:Value)
 |lm (xs:List Nat)
 |sl (k:Nat) (xs:List (List D))
abbrev D.nat (n:Nat):D:= .lm (limbs n)
abbrev MS:=Nat→Nat→Prop
def Fx (M:MS)(w:World)(b i:Nat)(v:Value):Prop:=¬M b i∧w.cell? ⟨b,i,none⟩=some v
inductive RdD (M:MS) (w:World):D→Value→Prop
 |lit (v:Value):RdD M w (.lit v) v
 |lm (xs:List Nat) (v:Value) (h:Sl w v xs) (hm:∀b o l c,v= .slice (some ⟨b,o,none⟩) l c→∀i,i<l→¬M b (o+i)):RdD M w (.lm xs) v
 |sl (k:Nat) (xs:List (List D)) (ad:Option Addr) (cap:Nat) (vs:Nat→Nat→Value) (hc:xs.length≤cap) (hl:xs.length≤1099511627776)
   (h0:0<xs.length→∃b o,ad=some ⟨b,o,none⟩∧∀(i:Nat) (row:List D) (j:Nat) (d:D),xs[i]? =some row→row[j]? =some d→Fx M w b (o+i*k+j) (vs i j))
   (hk:∀(i:Nat) (row:List D),xs[i]? =some row→row.length=k)
   (h1:∀i j,(vs i j).oneCell'=true)
   (hr:∀(i:Nat) (row:List D) (j:Nat) (d:D),xs[i]? =some row→row[j]? =some d→RdD M w d (vs i j)):RdD M w (.sl k xs) (.slice ad xs.length cap)
inductive BA where
 |d (x:D)
 |ptr (key off:Nat)
 |g (xs:List D)
 |e (row:List D) (off:Nat)
inductive A where
 |d (x:D)
 |ptr (key off:Nat)
 |own (key k:Nat) (xs:List (List D))
 |elt (row:List D) (off:Nat)
 |fn (f:Fn) (first caps:List BA)
 |tab (key n:Nat)
 |mp (key:Nat)
 |full (k:Nat) (xs:List (List D))
 |th (key n:Nat)
 |tp (key n i:Nat)
 |row (key a n:Nat) (f:Bool)
 |rp (key a off:Nat)
 |one (key a n:Nat) (f:Bool)
inductive W where
 |s (x:A)
 |g (xs:List A)
inductive V where
 |a (x:A)
 |agg (xs:List A)
 |tup (xs:List W)
structure MPred where
 p:MS→World→Obj→Prop
 st:∀(M M':MS) (w w':World) (o:Obj),(∀b i v,Fx M w b i v→Fx M' w' b i v)→p M w o→p M' w' o
inductive Ent where
 |gone
 |box (t:TypeId) (cs:List A)
 |arr (e:TypeId) (k n:Nat)
 |tab (e:TypeId) (k:Nat) (rows:List (List D))
 |mp (φ:MPred)
 |tt (e0 e:TypeId) (k:Nat) (o:List (Sum (Nat×Nat×Bool) D)) (ar:List (List (List D)))
def All2 {α β:Type}(R:α→β→Prop):List α→List β→Prop
 |[],[]=>True
 |x::xs,y::ys=>R x y∧All2 R xs ys
 |_,_=>False
theorem All2.imp {α β:Type}{R S:α→β→Prop}(h:∀x y,R x y→S x y):∀{xs:List α} {ys:List β},All2 R xs ys→All2 S xs ys
 |[],[],_=>trivial
 |_::_,_::_,k=>⟨h _ _ k.1,All2.imp h k.2⟩
 |[],_::_,k=>k.elim
 |_::_,[],k=>k.elim
theorem All2.len {α β:Type}{R:α→β→Prop}:∀{xs:List α} {ys:List β},All2 R xs ys→xs.length=ys.length
 |[],[],_=>rfl
 |_::_,_::_,k=>congrArg (· +1) (All2.len k.2)
 |[],_::_,k=>k.elim
 |_::_,[],k=>k.elim
theorem All2.get {α β:Type}{R:α→β→Prop}:∀{xs:List α} {ys:List β},All2 R xs ys→∀{i:Nat} {x:α},xs[i]? =some x→∃y,ys[i]? =some y∧R x y
 |[],[],_,i,x,h=>by simp at h
 |x::xs,y::ys,k,0,z,h=>by simp at h;subst h;exact⟨y,rfl,k.1⟩
 |x::xs,y::ys,k,i+1,z,h=>by simp at h ⊢;exact All2.get k.2 h
 |[],_::_,k,_,_,_=>k.elim
 |_::_,[],k,_,_,_=>k.elim
theorem All2.of_get {α β:Type}{R:α→β→Prop}:∀{xs:List α} {ys:List β},xs.length=ys.length→(∀(i:Nat) (x:α) (y:β),xs[i]? =some x→ys[i]? =some y→R x y)→All2 R xs ys
 |[],[],_,_=>trivial
 |x::xs,y::ys,hl,h=>⟨h 0 x y rfl rfl,All2.of_get (by simpa using hl) fun i a b ha hb=>h (i+1) a b (by simpa using ha) (by simpa using hb)⟩
 |[],_::_,hl,_=>by simp at hl
 |_::_,[],hl,_=>by simp at hl
theorem All2.app {α β:Type}{R:α→β→Prop}:∀{xs:List α} {ys:List β} {xs':List α} {ys':List β},All2 R xs ys→All2 R xs' ys'→All2 R (xs++xs') (ys++ys')
 |[],[],_,_,_,k=>k
 |_::_,_::_,_,_,h,k=>⟨h.1,All2.app h.2 k⟩
 |[],_::_,_,_,h,_=>h.elim
 |_::_,[],_,_,h,_=>h.elim
theorem All2.take {α β:Type}{R:α→β→Prop}:∀{xs:List α} {ys:List β} (n:Nat),All2 R xs ys→All2 R (xs.take n) (ys.take n)
 |_,_,0,_=>by simp[All2]
 |[],[],_+1,_=>by simp[All2]
 |_::_,_::_,n+1,h=>⟨h.1,All2.take n h.2⟩
 |[],_::_,_,h=>h.elim
 |_::_,[],_,h=>h.elim
theorem All2.drop {α β:Type}{R:α→β→Prop}:∀{xs:List α} {ys:List β} (n:Nat),All2 R xs ys→All2 R (xs.drop n) (ys.drop n)
 |_,_,0,h=>by simpa using h
 |[],[],_+1,_=>by simp[All2]
 |_::_,_::_,n+1,h=>by simpa using All2.drop n h.2
 |[],_::_,_,h=>h.elim
 |_::_,[],_,h=>h.elim
theorem All2.map {α β γ:Type}{R:γ→β→Prop}{f:α→γ}:∀{xs:List α} {ys:List β},All2 (fun x y=>R (f x) y) xs ys→All2 R (xs.map f) ys
 |[],[],_=>trivial
 |_::_,_::_,h=>⟨h.1,All2.map h.2⟩
 |[],_::_,h=>h.elim
 |_::_,[],h=>h.elim
theorem All2.unmap {α β γ:Type}{R:γ→β→Prop}{f:α→γ}:∀{xs:List α} {ys:List β},All2 R (xs.map f) ys→All2 (fun x y=>R (f x) y) xs ys
 |[],[],_=>trivial
 |_::_,_::_,h=>⟨h.1,All2.unmap h.2⟩
 |[],_::_,h=>h.elim
 |_::_,[],h=>h.elim
def mpOk:Option Ent→Bool
 |some (.mp _)=>true
 |some .gone=>true
 |_=>false
def cA (key:Nat):Sum (Nat×Nat×Bool) D→A
 | .inl x=> .row key x.1 x.2.1 x.2.2
 | .inr d=> .d d
def ttOk:Option Ent→Bool
 |some (.tt _ _ _ _ _)=>true
 |some .gone=>true
 |_=>false
def hdrT:Value→Value
 | .tuple xs=>xs.getD 0 undef
 |_=>undef
def rowT (v:Value)(a:Nat):Value:=match v with
 | .tuple xs=>xs.getD (a+1) undef
 |_=>undef
abbrev Hp:=Nat→Option Ent
abbrev Gh:=Nat→Value
def ptrOk:Option Ent→Bool
 |some (.box _ _)=>true
 |some .gone=>true
 |some (.tab _ _ _)=>true
 |_=>false
def RdB (γ:Gh)(h:Hp)(M:MS)(w:World):BA→Value→Prop
 | .d x,v=>RdD M w x v
 | .g xs,v=>∃vs:List Value,v= .agg vs.toArray∧All2 (RdD M w) xs vs
 | .e row off,v=>∃(b o:Nat) (vs:Nat→Value),v= .pointer (some ⟨b,o+off,none⟩)∧∀(j:Nat) d,row[j]? =some d→Fx M w b (o+j) (vs j)∧RdD M w d (vs j)
 | .ptr key off,v=>ptrOk (h key)=true∧∃g,γ key= .pointer (some ⟨g,0,none⟩)∧v= .pointer (some ⟨g,off,none⟩)
def RdA (γ:Gh)(h:Hp)(M:MS)(w:World):A→Value→Prop
 | .d x,v=>RdD M w x v
 | .ptr key off,v=>ptrOk (h key)=true∧∃g,γ key= .pointer (some ⟨g,0,none⟩)∧v= .pointer (some ⟨g,off,none⟩)
 | .own key k xs,v=>RdD M w (.sl k xs) v∧(h key).isSome=true∧∀e k' n,h key=some (.arr e k' n)→xs.length≤n∧(xs.length=n→v=γ key)
 | .elt row off,v=>∃(b o:Nat) (vs:Nat→Value),v= .pointer (some ⟨b,o+off,none⟩)∧∀(j:Nat) d,row[j]? =some d→Fx M w b (o+j) (vs j)∧RdD M w d (vs j)
 | .fn f first caps,v=>∃x y:List Value,v= .func f x.toArray y.toArray∧All2 (RdB γ h M w) first x∧All2 (RdB γ h M w) caps y
 | .tab key n,v=>ptrOk (h key)=true∧(∃g c,γ key= .pointer (some ⟨g,0,none⟩)∧v= .slice (some ⟨g,0,none⟩) n c∧n≤c)∧∀e k rows,h key=some (.tab e k rows)→rows.length=n
 | .mp key,v=>mpOk (h key)=true∧∃b,γ key= .map (some b)∧v= .map (some b)
 | .full k xs,v=>RdD M w (.sl k xs) v∧∃ad,v= .slice ad xs.length xs.length
 | .th key n,v=>ttOk (h key)=true∧(∃ad c,v= .slice ad n c)∧∀e0 e k o ar,h key=some (.tt e0 e k o ar)→n≤o.length∧(o.length=n→v=hdrT (γ key))
 | .tp key n i,v=>ttOk (h key)=true∧(∃p,v= .pointer p)∧∀e0 e k o ar,h key=some (.tt e0 e k o ar)→n≤o.length∧(o.length=n→∃g c,hdrT (γ key)= .slice (some ⟨g,0,none⟩) n c∧v= .pointer (some ⟨g,i,none⟩))
 | .row key a n f,v=>ttOk (h key)=true∧(∃b c,rowT (γ key) a= .pointer (some ⟨b,0,none⟩)∧v= .slice (some ⟨b,0,none⟩) n c∧n≤c∧(f=true→c=n))∧∀e0 e k o ar,h key=some (.tt e0 e k o ar)→a<ar.length∧n≤(ar.getD a []).length
 | .rp key a off,v=>ttOk (h key)=true∧(∃b,rowT (γ key) a= .pointer (some ⟨b,0,none⟩)∧v= .pointer (some ⟨b,off,none⟩))∧∀e0 e k o ar,h key=some (.tt e0 e k o ar)→a<ar.length
 | .one key a n f,v=>ttOk (h key)=true∧(∃b c g,rowT (γ key) a= .pointer (some ⟨b,0,none⟩)∧v= .slice (some ⟨g,0,none⟩) 1 1∧Fx M w g 0 (.slice (some ⟨b,0,none⟩) n c)∧n≤c∧(f=true→c=n))∧∀e0 e k o ar,h key=some (.tt e0 e k o ar)→a<ar.length∧n≤(ar.getD a []).length
def RdW (γ:Gh)(h:Hp)(M:MS)(w:World):W→Value→Prop
 | .s x,v=>RdA γ h M w x v
 | .g xs,v=>∃vs:List Value,v= .agg vs.toArray∧All2 (RdA γ h M w) xs vs
def RdV (γ:Gh)(h:Hp)(M:MS)(w:World):V→Value→Prop
 | .a x,v=>RdA γ h M w x v
 | .agg xs,v=>∃vs:List Value,v= .agg vs.toArray∧All2 (RdA γ h M w) xs vs
 | .tup ws,v=>∃vs:List Value,v= .tuple vs.toArray∧All2 (RdW γ h M w) ws vs
def EntR (γ:Gh)(h:Hp)(M:MS)(w:World)(key:Nat):Ent→Prop
 | .gone=>True
 | .box t cs=>∃g,∃vs:List Value,γ key= .pointer (some ⟨g,0,none⟩)∧w.heap[g]? =some (.cells vs.toArray t (0,0))∧All2 (RdA γ h M w) cs vs
 | .arr e k n=>∃xs,w.ownsRow 0 e k (γ key) n xs
 | .tab e k rows=>∃g,∃vs sp:List Value,γ key= .pointer (some ⟨g,0,none⟩)∧w.heap[g]? =some (.cells (vs++sp).toArray e (0,0))∧(∀row∈rows,row.length=k)∧All2 (RdD M w) rows.flatten vs∧∀v∈vs,v.oneCell'=true
 | .mp φ=>∃b o,γ key= .map (some b)∧w.heap[b]? =some o∧φ.p M w o∧∃es clock,o= .map es clock
 | .tt e0 e k o ar=>∃(hd:Value) (ps:List Nat),γ key= .tuple (hd::ps.map fun b=> .pointer (some ⟨b,0,none⟩)).toArray∧ps.length=ar.length∧ps.Nodup∧
   ((o=[]∧hd= .slice none 0 0)∨∃g c os sp,hd= .slice (some ⟨g,0,none⟩) o.length c∧o.length≤c∧c=o.length+sp.length∧g∉ps∧w.heap[g]? =some (.cells (os++sp).toArray e0 (0,0))∧All2 (RdA γ h M w) (o.map (cA key)) os)∧
   ∀(a b:Nat) (rows:List (List D)),ps[a]? =some b→ar[a]? =some rows→∃vs sp:List Value,w.heap[b]? =some (.cells (vs++sp).toArray e (0,0))∧(∀row∈rows,row.length=k)∧All2 (RdD M w) rows.flatten vs∧∀v∈vs,v.oneCell'=true
def blk:Value→Option Nat
 | .pointer (some a)=>some a.block
 | .slice (some a) _ _=>some a.block
 | .map (some b)=>some b
 |_=>none
abbrev ib (v:Value)(b:Nat):Prop:=match v with
 | .tuple xs=>∃x∈xs,blk x=some b
 |v=>blk v=some b
def Owns (γ:Gh)(h:Hp)(key b i:Nat):Prop:=
 match h key with
 |some (.box _ _)=>ib (γ key) b
 |some (.tab _ _ _)=>ib (γ key) b
 |some (.mp _)=>ib (γ key) b
 |some (.tt _ _ _ _ _)=>ib (γ key) b
 |some (.arr _ k n)=>ib (γ key) b∧n*k≤i
 |_=>False
def live:Option Ent→Bool
 |some (.box _ _)=>true
 |some (.arr _ _ _)=>true
 |some (.tab _ _ _)=>true
 |some (.mp _)=>true
 |some (.tt _ _ _ _ _)=>true
 |_=>false
def GT:Nat→Option (List D):=fun g=>match g with|0=>some ([1,10,100,1000,10000,100000,1000000,10000000,100000000,1000000000,10000000000,100000000000,1000000000000,10000000000000,100000000000000,1000000000000000,10000000000000000,100000000000000000,1000000000000000000,10000000000000000000].map fun z=> .lit (.int .u64 z))|1=>some ([0,1,28,2,29,14,24,3,30,22,20,15,25,17,4,8,31,27,13,23,21,19,16,7,26,12,18,6,11,5,10,9].map fun z=> .lit (.int .u8 z))|2=>some ([0,1,56,2,57,49,28,3,61,58,42,50,38,29,17,4,62,47,59,36,45,43,51,22,53,39,33,30,24,18,12,5,63,55,48,27,60,41,37,16,46,35,44,21,52,32,23,11,54,26,40,15,34,20,31,10,25,14,19,9,13,8,7,6].map fun z=> .lit (.int .u8 z))|_=>none
def ZL:TypeId→Bool:=fun t=>t==32||t==100||t==108||t==67||t==34||t==136
def Glb (M:MS)(w:World):Prop:=∀g row,GT g=some row→∀(j:Nat) d,row[j]? =some d→∃v,Fx M w g j v∧RdD M w d v
structure Rel (γ:Gh)(h:Hp)(M:MS)(w:World):Prop where
 ent:∀key e,h key=some e→EntR γ h M w key e
 own:∀key b i,Owns γ h key b i→M b i
 inj:∀key key' b,live (h key)=true→live (h key')=true→ib (γ key) b→ib (γ key') b→key=key'
 u32:∀b i n,M b i→w.cell? ⟨b,i,none⟩≠some (.int .u32 n)
 dom:∀b i,M b i→b<w.heap.size
 glb:Glb M w
def Goes (e e':Ent):Prop:=
 match e,e' with
 |_,.gone=>True
 | .box _ _,.box _ _=>True
 | .arr e k n,.arr e' k' n'=>n≤n'
 | .tab _ _ rows,.tab _ _ rows'=>rows'.length=rows.length
 | .mp _,.mp _=>True
 | .tt e0 e k o ar,.tt e0' e' k' o' ar'=>e0'=e0∧e'=e∧k'=k∧o.length≤o'.length∧ar.length≤ar'.length∧∀a,a<ar.length→(ar'.getD a []).length=(ar.getD a []).length
 |_,_=>False
def GrT (e e':Ent)(v v':Value):Prop:=
 match e,e' with
 | .tt _ _ _ o ar,.tt _ _ _ o' _=>(∀a,a<ar.length→rowT v' a=rowT v a)∧(o'.length=o.length→hdrT v'=hdrT v)
 | .tt _ _ _ _ ar,.gone=>∀a,a<ar.length→rowT v' a=rowT v a
 |_,_=>False
def Grown1 (e e':Ent):Prop:=
 match e,e' with
 | .arr _ _ n,.arr _ _ n'=>n<n'
 | .arr _ _ _,.gone=>True
 |_,_=>False
structure Stp (γ:Gh)(h:Hp)(M:MS)(w:World)(γ':Gh)(h':Hp)(M':MS)(w':World):Prop where
 os:w'.os=w.os
 tape:w'.tape=w.tape
 output:w'.output=w.output
 size:w.heap.size≤w'.heap.size
 fx:∀b i v,Fx M w b i v→Fx M' w' b i v
 other:∀b,b<w.heap.size→(∀key i,¬Owns γ h key b i)→w'.heap[b]? =w.heap[b]?
 keep:∀b i,M b i→(∀key,¬Owns γ h key b i)→M' b i
 new:∀key b i,Owns γ' h' key b i→b<w.heap.size→∃key0,Owns γ h key0 b i
 key:∀key e,h key=some e→∃e',h' key=some e'∧Goes e e'∧(γ' key=γ key∨Grown1 e e'∨GrT e e' (γ key) (γ' key))
theorem RdD.fx {M M':MS}{w w':World}(h:∀b i v,Fx M w b i v→Fx M' w' b i v){d:D}{v:Value}(k:RdD M w d v):RdD M' w' d v:=by
 induction k with
 |lit v=>exact .lit v
 |lm xs v hs hm=>
  obtain⟨ad,l,c,hv,h1,h2,h3,h4,h5⟩:=hs;have key:0<l→∃b off,ad=some ⟨b,off,none⟩∧∀i,i<l→Fx M' w' b (off+i) (.int .u32 ((xs.getD i 0:Nat):Int)):=by
   intro h0;obtain⟨b,off,e,hb,hc⟩:=h5 h0;exact⟨b,off,e,fun i hi=>h _ _ _ ⟨hm b off l c (by rw[hv,e]) i hi,hc i hi⟩⟩
  refine .lm xs v ⟨ad,l,c,hv,h1,h2,h3,h4,fun h0=> ?_⟩ ?_
  ·obtain⟨b,off,e,hc⟩:=key h0;have:=(hc 0 h0).2;exact⟨b,off,e,World.block_lt_of_cell? _ _ this,fun i hi=>(hc i hi).2⟩
  ·intro b o l' c' hv' i hi;rw[hv]at hv';injection hv' with e1 e2 e3;subst e2 e3;obtain⟨b2,off,e,hc⟩:=key (by omega);rw[e]at e1;injection e1 with e1;injection e1 with e4 e5;subst e4 e5;exact(hc i hi).1
 |sl k xs ad cap vs hc hl h0 hk h1 hr ih=>
  refine .sl k xs ad cap vs hc hl (fun h1=> ?_) hk h1 ih;obtain⟨b,o,e,hx⟩:=h0 h1;exact⟨b,o,e,fun i row j d hi hj=>h _ _ _ (hx i row j d hi hj)⟩
theorem Glb.fx {M M':MS}{w w':World}(h:∀b i v,Fx M w b i v→Fx M' w' b i v)(k:Glb M w):Glb M' w':=
 fun g row hg j d hd=>let ⟨v,h1,h2⟩:=k g row hg j d hd;⟨v,h _ _ _ h1,RdD.fx h h2⟩
section
variable {γ γ':Gh} {h h':Hp} {M M':MS} {w w':World}
theorem ptrOk_key {key:Nat}(h1:ptrOk (h key)=true)(s:Stp γ h M w γ' h' M' w'):ptrOk (h' key)=true∧γ' key=γ key:=by
 cases he:h key with
 |none=>rw[he]at h1;cases h1
 |some e=>
  obtain⟨e',he',hg,hh⟩:=s.key key e he;rw[he]at h1;rw[he']
  cases e<;>cases e'<;>simp_all [ptrOk,Goes,Grown1,GrT]
theorem tt_key {key:Nat}(h1:ttOk (h key)=true)(s:Stp γ h M w γ' h' M' w'):ttOk (h' key)=true∧
  (∀a,(∀e0 e k o ar,h key=some (.tt e0 e k o ar)→a<ar.length)→rowT (γ' key) a=rowT (γ key) a)∧
  ∀e0 e k o ar,h' key=some (.tt e0 e k o ar)→∃o' ar',h key=some (.tt e0 e k o' ar')∧o'.length≤o.length∧ar'.length≤ar.length∧(∀a,a<ar'.length→(ar.getD a []).length=(ar'.getD a []).length)∧(o.length=o'.length→hdrT (γ' key)=hdrT (γ key)):=by
 cases he:h key with
 |none=>rw[he]at h1;cases h1
 |some e=>
  obtain⟨e',he',hg,hh⟩:=s.key key e he;rw[he]at h1;rw[he']
  cases e<;>try (cases h1)
  ·cases e'<;>try (exact hg.elim)
   have hh:γ' key=γ key:=by rcases hh with hh|hh|hh<;>first|exact hh|exact hh.elim
   exact⟨rfl,fun a _=>by rw[hh],fun e0 e k o ar hq=>by cases hq⟩
  ·rename_i e0 e k o ar
   cases e'<;>try (exact hg.elim)
   ·refine⟨rfl,fun a ha=> ?_,fun e0 e k o ar hq=>by cases hq⟩;have ha:=ha _ _ _ _ _ rfl;rcases hh with hh|hh|hh
    ·rw[hh]
    ·exact hh.elim
    ·exact hh a ha
   ·rename_i e0' e1 k' o' ar';obtain⟨rfl,rfl,rfl,g1,g2,g3⟩:=hg;have key2:(∀a,a<ar.length→rowT (γ' key) a=rowT (γ key) a)∧(o'.length=o.length→hdrT (γ' key)=hdrT (γ key)):=by
     rcases hh with hh|hh|hh
     ·rw[hh];exact⟨fun _ _=>rfl,fun _=>rfl⟩
     ·exact hh.elim
     ·exact hh
    refine⟨rfl,fun a ha=>key2.1 a (ha _ _ _ _ _ rfl),fun e0 e k o2 ar2 hq=> ?_⟩;injection hq with hq;injection hq with q1 q2 q3 q4 q5;subst q1 q2 q3 q4 q5;exact⟨o,ar,rfl,g1,g2,g3,key2.2⟩
theorem RdB.stp (s:Stp γ h M w γ' h' M' w'){x:BA}{v:Value}(k:RdB γ h M w x v):RdB γ' h' M' w' x v:=by
 cases x with
 |d x=>exact RdD.fx s.fx k
 |ptr key off=>
  obtain⟨h1,g,h2,h3⟩:=k;obtain⟨h4,h5⟩:=ptrOk_key h1 s;exact⟨h4,g,by rw[h5,h2],h3⟩
 |g xs=>obtain⟨vs,h1,h2⟩:=k;exact⟨vs,h1,All2.imp (fun _ _ q=>RdD.fx s.fx q) h2⟩
 |e row off=>obtain⟨b,o,vs,h1,h2⟩:=k;exact⟨b,o,vs,h1,fun j d hj=>⟨s.fx _ _ _ (h2 j d hj).1,RdD.fx s.fx (h2 j d hj).2⟩⟩
theorem RdA.stp (s:Stp γ h M w γ' h' M' w'){x:A}{v:Value}(k:RdA γ h M w x v):RdA γ' h' M' w' x v:=by
 cases x with
 |d x=>exact RdD.fx s.fx k
 |ptr key off=>
  obtain⟨h1,g,h2,h3⟩:=k;obtain⟨h4,h5⟩:=ptrOk_key h1 s;exact⟨h4,g,by rw[h5,h2],h3⟩
 |own key kk xs=>
  obtain⟨h1,h2,h3⟩:=k;obtain⟨e,he⟩:=Option.isSome_iff_exists.1 h2;obtain⟨e',he',hg,hh⟩:=s.key key e he;refine⟨RdD.fx s.fx h1,by rw[he'];rfl,fun t k' n hn=> ?_⟩;rw[he']at hn;obtain rfl:e'= .arr t k' n:=by simpa using hn
  cases e with
  |gone=>exact hg.elim
  |box _ _=>exact hg.elim
  |tab=>exact hg.elim
  |mp=>exact hg.elim
  |tt=>exact hg.elim
  |arr t0 k0 n0=>
   obtain⟨h4,h5⟩:=h3 t0 k0 n0 he;have hle:n0≤n:=hg;refine⟨tL_ h4 hle,fun e=> ?_⟩;rcases hh with hh|hh|hh
   ·rw[hh];exact h5 (by omega)
   ·have:n0<n:=hh;omega
   ·exact hh.elim
 |elt row off=>
  obtain⟨b,o,vs,h1,h2⟩:=k;exact⟨b,o,vs,h1,fun j d hj=>⟨s.fx _ _ _ (h2 j d hj).1,RdD.fx s.fx (h2 j d hj).2⟩⟩
 |fn f first caps=>
  obtain⟨x,y,h1,h2,h3⟩:=k;exact⟨x,y,h1,All2.imp (fun _ _=>RdB.stp s) h2,All2.imp (fun _ _=>RdB.stp s) h3⟩
 |tab key n=>
  obtain⟨h1,⟨g,c,h2,h3⟩,h4⟩:=k;obtain⟨h5,h6⟩:=ptrOk_key h1 s;refine⟨h5,⟨g,c,by rw[h6,h2],h3⟩,fun e k rows he=> ?_⟩
  cases h7:h key with
  |none=>rw[h7]at h1;cases h1
  |some e0=>
   obtain⟨e',e1,e2,_⟩:=s.key key e0 h7;rw[he]at e1;injection e1 with e1;subst e1
   cases e0 with
   |tab t0 k0 rows0=>exact e2.trans (h4 _ _ _ h7)
   |gone=>exact e2.elim
   |box=>exact e2.elim
   |arr=>exact e2.elim
   |mp=>exact e2.elim
   |tt=>exact e2.elim
 |mp key=>
  obtain⟨h1,b,h2,h3⟩:=k
  cases he:h key with
  |none=>rw[he]at h1;cases h1
  |some e=>
   obtain⟨e',he',hg,hh⟩:=s.key key e he;rw[he]at h1;have:mpOk (h' key)=true∧γ' key=γ key:=by rw[he'];cases e<;>cases e'<;>simp_all [mpOk,Goes,Grown1,GrT]
   exact⟨this.1,b,by rw[this.2,h2],h3⟩
 |full kk xs=>exact⟨RdD.fx s.fx k.1,k.2⟩
 |th key n=>
  obtain⟨h1,h2,h3⟩:=k;obtain⟨q1,_,q3⟩:=tt_key h1 s;refine⟨q1,h2,fun e0 e k o ar he=> ?_⟩;obtain⟨o',ar',e1,e2,e3,_,e5⟩:=q3 _ _ _ _ _ he;obtain⟨h4,h5⟩:=h3 _ _ _ _ _ e1;exact⟨tL_ h4 e2,fun hn=>by rw[e5 (by omega)];exact h5 (by omega)⟩
 |tp key n i=>
  obtain⟨h1,h2,h3⟩:=k;obtain⟨q1,_,q3⟩:=tt_key h1 s;refine⟨q1,h2,fun e0 e k o ar he=> ?_⟩;obtain⟨o',ar',e1,e2,e3,_,e5⟩:=q3 _ _ _ _ _ he;obtain⟨h4,h5⟩:=h3 _ _ _ _ _ e1;exact⟨tL_ h4 e2,fun hn=>by rw[e5 (by omega)];exact h5 (by omega)⟩
 |row key a n f=>
  obtain⟨h1,⟨b,c,h2,h3⟩,h4⟩:=k;obtain⟨q1,q2,q3⟩:=tt_key h1 s;refine⟨q1,⟨b,c,by rw[q2 a fun e0 e k o ar he=>(h4 _ _ _ _ _ he).1,h2],h3⟩,fun e0 e k o ar he=> ?_⟩;obtain⟨o',ar',e1,e2,e3,e4,_⟩:=q3 _ _ _ _ _ he;obtain⟨h5,h6⟩:=h4 _ _ _ _ _ e1;exact⟨by omega,by rw[e4 a h5];exact h6⟩
 |rp key a off=>
  obtain⟨h1,⟨b,h2,h3⟩,h4⟩:=k;obtain⟨q1,q2,q3⟩:=tt_key h1 s;refine⟨q1,⟨b,by rw[q2 a fun e0 e k o ar he=>h4 _ _ _ _ _ he,h2],h3⟩,fun e0 e k o ar he=> ?_⟩;obtain⟨o',ar',e1,e2,e3,e4,_⟩:=q3 _ _ _ _ _ he;exact Nat.lt_of_lt_of_le (h4 _ _ _ _ _ e1) e3
 |one key a n f=>
  obtain⟨h1,⟨b,c,g,h2,h3,h30,h31⟩,h4⟩:=k;obtain⟨q1,q2,q3⟩:=tt_key h1 s;refine⟨q1,⟨b,c,g,by rw[q2 a fun e0 e k o ar he=>(h4 _ _ _ _ _ he).1,h2],h3,s.fx _ _ _ h30,h31⟩,fun e0 e k o ar he=> ?_⟩;obtain⟨o',ar',e1,e2,e3,e4,_⟩:=q3 _ _ _ _ _ he;obtain⟨h5,h6⟩:=h4 _ _ _ _ _ e1;exact⟨by omega,by rw[e4 a h5];exact h6⟩
theorem RdW.stp (s:Stp γ h M w γ' h' M' w'){x:W}{v:Value}(k:RdW γ h M w x v):RdW γ' h' M' w' x v:=by
 cases x with
 |s x=>exact RdA.stp s k
 |g xs=>obtain⟨vs,h1,h2⟩:=k;exact⟨vs,h1,All2.imp (fun _ _=>RdA.stp s) h2⟩
theorem RdV.stp (s:Stp γ h M w γ' h' M' w'){x:V}{v:Value}(k:RdV γ h M w x v):RdV γ' h' M' w' x v:=by
 cases x with
 |a x=>exact RdA.stp s k
 |agg xs=>obtain⟨vs,h1,h2⟩:=k;exact⟨vs,h1,All2.imp (fun _ _=>RdA.stp s) h2⟩
 |tup xs=>obtain⟨vs,h1,h2⟩:=k;exact⟨vs,h1,All2.imp (fun _ _=>RdW.stp s) h2⟩
end
theorem Goes.refl (e:Ent):Goes e e:=by cases e<;>simp[Goes]
theorem Goes.trans {a b c:Ent}(h:Goes a b)(k:Goes b c):Goes a c:=by
 cases a<;>cases b<;>cases c<;>first
  |trivial
  |exact h.elim
  |exact k.elim
  |(obtain⟨rfl,rfl,rfl,h1,h2,h3⟩:=h
    obtain⟨rfl,rfl,rfl,k1,k2,k3⟩:=k;exact⟨rfl,rfl,rfl,tL_ h1 k1,tL_ h2 k2,fun a ha=>(k3 a (Nat.lt_of_lt_of_le ha h2)).trans (h3 a ha)⟩)
  |(simp_all [Goes];done)
  |(simp_all [Goes];omega)
theorem GrT.left {a b c:Ent}{u v x:Value}(h:GrT a b u v)(g:Goes a b)(k:Goes b c)(q:x=v∨GrT b c v x):GrT a c u x:=by
 cases a<;>cases b<;>cases c<;>first
  |exact h.elim
  |exact k.elim
  |skip
 ·rcases q with q|q
  ·rw[q];exact h
  ·exact q.elim
 ·obtain⟨_,_,_,g1,g2,g3⟩:=g;rcases q with q|q
  ·rw[q];exact h.1
  ·exact fun a ha=>(q a (Nat.lt_of_lt_of_le ha g2)).trans (h.1 a ha)
 ·obtain⟨_,_,_,g1,g2,g3⟩:=g;obtain⟨_,_,_,k1,k2,k3⟩:=k;rcases q with q|q
  ·rw[q];exact⟨h.1,fun hl=>h.2 (by omega)⟩
  ·exact⟨fun a ha=>(q.1 a (Nat.lt_of_lt_of_le ha g2)).trans (h.1 a ha),fun hl=>(q.2 (by omega)).trans (h.2 (by omega))⟩
theorem GrT.right {a b c:Ent}{u v:Value}(h:Goes a b)(g:Goes b c)(k:GrT b c u v):GrT a c u v:=by
 cases a<;>cases b<;>cases c<;>first
  |exact h.elim
  |exact k.elim
  |skip
 ·obtain⟨_,_,_,g1,g2,g3⟩:=h;exact fun a ha=>k a (Nat.lt_of_lt_of_le ha g2)
 ·obtain⟨_,_,_,h1,h2,h3⟩:=h;obtain⟨_,_,_,g1,g2,g3⟩:=g;exact⟨fun a ha=>k.1 a (Nat.lt_of_lt_of_le ha h2),fun hl=>k.2 (by omega)⟩
theorem Grown1.left {a b c:Ent}(h:Grown1 a b)(k:Goes b c):Grown1 a c:=by
 cases a<;>cases b<;>cases c<;>simp_all [Goes,Grown1]
 omega
theorem Grown1.right {a b c:Ent}(h:Goes a b)(k:Grown1 b c):Grown1 a c:=by
 cases a<;>cases b<;>cases c<;>simp_all [Goes,Grown1]
 omega
theorem Stp.refl (γ:Gh)(h:Hp)(M:MS)(w:World):Stp γ h M w γ h M w:=
 ⟨rfl,rfl,rfl,lR_ _,fun _ _ _ k=>k,fun _ _ _=>rfl,fun _ _ k _=>k,fun key b i k _=>⟨key,k⟩,fun key e he=>⟨e,he,Goes.refl e,.inl rfl⟩⟩
theorem Stp.trans {γ γ' γ'':Gh}{h h' h'':Hp}{M M' M'':MS}{w w' w'':World}(s:Stp γ h M w γ' h' M' w')(t:Stp γ' h' M' w' γ'' h'' M'' w'')(hd:∀b i,M b i→b<w.heap.size):Stp γ h M w γ'' h'' M'' w'':=by
 refine⟨t.os.trans s.os,t.tape.trans s.tape,t.output.trans s.output,tL_ s.size t.size,fun b i v k=>t.fx _ _ _ (s.fx _ _ _ k),fun b hb hn=> ?_,fun b i hm hn=> ?_,fun key b i ho hb=> ?_,fun key e he=> ?_⟩
 ·refine(t.other b (Nat.lt_of_lt_of_le hb s.size) fun key i ho=> ?_).trans (s.other b hb hn);obtain⟨k0,h0⟩:=s.new key b i ho hb;exact hn k0 i h0
 ·refine t.keep b i (s.keep b i hm hn) fun key ho=> ?_;obtain⟨k0,h0⟩:=s.new key b i ho (hd b i hm);exact hn k0 h0
 ·obtain⟨k1,h1⟩:=t.new key b i ho (Nat.lt_of_lt_of_le hb s.size);exact s.new k1 b i h1 hb
 ·obtain⟨e1,a1,a2,a3⟩:=s.key key e he;obtain⟨e2,b1,b2,b3⟩:=t.key key e1 a1;refine⟨e2,b1,a2.trans b2,?_⟩;rcases a3 with a3|a3|a3
  ·rcases b3 with b3|b3|b3
   ·exact .inl (b3.trans a3)
   ·exact .inr (.inl (Grown1.right a2 b3))
   ·rw[a3]at b3;exact .inr (.inr (GrT.right a2 b2 b3))
  ·exact .inr (.inl (Grown1.left a3 b2))
  ·refine .inr (.inr (GrT.left a3 a2 b2 ?_));rcases b3 with b3|b3|b3
   ·exact .inl b3
   ·exfalso
    cases e<;>first|exact a3.elim|skip
    cases e1<;>first|exact a3.elim|exact b3.elim
   ·exact .inr b3
abbrev vl (v:Value):V:= .a (.d (.lit v))
def cst:Value→V
 | .agg cs=> .agg (cs.toList.map fun c=> .d (.lit c))
 |v=> .a (.d (.lit v))
def evL (T:Nat→Option V):Operand→Option V
 | .tmp t=>T t
 | .const v=>some (cst v)
 | .func f=>some (.a (.fn (.func f) [] []))
 | .global g=>(GT g).map fun row=> .a (.elt row 0)
def TR (γ:Gh)(h:Hp)(M:MS)(w:World)(T:Nat→Option V)(a:Act):Prop:=Glb M w∧∀d v,T d=some v→∃r,a.tmps[d]? =some r∧RdV γ h M w v r
section
variable {γ:Gh} {h:Hp} {M:MS} {w:World} {T:Nat→Option V} {a:Act} {P:Program}
theorem lits_ok:∀cs:List Value,All2 (RdA γ h M w) (cs.map fun c=> .d (.lit c)) cs
 |[]=>trivial
 |c::cs=>⟨.lit c,lits_ok cs⟩
theorem cst_ok (v:Value):RdV γ h M w (cst v) v:=by
 cases v<;>first|exact RdD.lit _|skip
 rename_i cs;exact⟨cs.toList,by simp,lits_ok _⟩
theorem evL_ok (ht:TR γ h M w T a){x:Operand}{v:V}(hx:evL T x=some v):RdV γ h M w v (a.eval x):=by
 cases x with
 |tmp t=>
  obtain⟨r,h1,h2⟩:=ht.2 t v hx;simp only[Act.eval,Array.getD_eq_getD_getElem?,h1];exact h2
 |const c=>injection hx with hx;subst hx;exact cst_ok c
 |func f=>injection hx with hx;subst hx;exact⟨[],[],rfl,trivial,trivial⟩
 |global g=>
  obtain⟨row,h1,rfl⟩:=Option.map_eq_some_iff.1 hx;refine⟨g,0,fun j=>(w.cell? ⟨g,j,none⟩).getD undef,rfl,fun j d hd=> ?_⟩;obtain⟨v,h2,h3⟩:=ht.1 g row h1 j d hd;simp only[Nat.zero_add,h2.2,Option.getD_some];exact⟨h2,h3⟩
def aggT (P:Program)(t:TypeId):Option Bool:=
 match P.underlying t with
 |some (.struct _)=>some true
 |some (.array _ _)=>some true
 |some _=>some false
 |none=>none
def sizeT (P:Program)(t:TypeId):Option Nat:=(P.info? t).map (·.size)
def elemT (P:Program)(t:TypeId):Option (TypeId×Nat):=
 match P.underlying t with
 |some (.slice e)=>(sizeT P e).map fun s=>(e,s)
 |_=>none
def arrT (P:Program)(t:TypeId):Option (Nat×TypeId×Nat):=
 match P.underlying t with
 |some (.array n e)=>(sizeT P e).map fun s=>(n,e,s)
 |_=>none
def fieldT (P:Program)(t:TypeId)(f:Nat):Option (Nat×TypeId×Nat):=
 match P.underlying t with
 |some (.struct fs)=>match fs[f]? with
  |some d=>(sizeT P d.type).map fun s=>(d.offset,d.type,s)
  |none=>none
 |_=>none
def intT (P:Program)(t:TypeId):Option IntKind:=
 match P.underlying t with
 |some (.int k)=>some k
 |_=>none
theorem aggT_run {t:TypeId}{b:Bool}(ht:aggT P t=some b):(isAgg t).run P w= .ok b w:=by
 unfold aggT at ht
 cases hu:P.underlying t with
 |none=>rw[hu]at ht;cases ht
 |some d=>rw[hu]at ht;cases d<;>simp_all [isAgg,run_underlying hu]
theorem sizeT_run {t:TypeId}{n:Nat}(ht:sizeT P t=some n):(sizeOf t).run P w= .ok n w:=by
 unfold sizeT at ht
 cases hu:P.info? t with
 |none=>rw[hu]at ht;cases ht
 |some d=>rw[hu]at ht;simp at ht;simp[sizeOf,typeInfo,hu,ht]
def oneL (ag:Bool)(ys:List A)(s:Nat):Option V:=
 if ys.length=s then(if ag then some (.agg ys)else match ys with
  |[y]=>some (.a y)
  |_=>none)else none
def boolT (P:Program)(t:TypeId):Bool:=
 match P.underlying t with
 |some .bool=>true
 |_=>false
def ifT (P:Program)(t:TypeId):Bool:=
 match P.underlying t with
 |some (.interface _)=>true
 |_=>false
def binL (P:Program)(t:TypeId)(op:BinOp):Value→Value→Option Value
 | .int k a,.int k' b=>
   match op with
   | .shl=>if b<0 then none else some (.int k (k.wrap (a*2^(min b.toNat k.bits))))
   | .shr=>if b<0 then none else some (.int k (a.fdiv (2^(min b.toNat k.bits))))
   |op=>if k=k' then match op with
    | .add=>some (.int k (k.wrap (a+b)))
    | .sub=>some (.int k (k.wrap (a-b)))
    | .mul=>some (.int k (k.wrap (a*b)))
    | .quo=>if b=0 then none else some (.int k (k.wrap (a.tdiv b)))
    | .rem=>if b=0 then none else some (.int k (a.tmod b))
    | .eql=>some (.bool (a==b))
    | .neq=>some (.bool (a !=b))
    | .lss=>some (.bool (decide (a<b)))
    | .leq=>some (.bool (decide (a≤b)))
    | .gtr=>some (.bool (decide (a>b)))
    | .geq=>some (.bool (decide (a≥b)))
    | .and=>some (.int k (k.wrap ((BitVec.ofInt k.bits a &&& BitVec.ofInt k.bits b).toNat:Int)))
    | .or=>some (.int k (k.wrap ((BitVec.ofInt k.bits a ||| BitVec.ofInt k.bits b).toNat:Int)))
    |_=>none else none
 | .bool a,.bool b=>if boolT P t then match op with
   | .eql=>some (.bool (a==b))
   | .neq=>some (.bool (a !=b))
   |_=>none else none
 | .slice a _ _,.slice none 0 0=>if(elemT P t).isSome then match op with
   | .eql=>some (.bool a.isNone)
   | .neq=>some (.bool a.isSome)
   |_=>none else none
 | .iface _ _,.nilIface=>if ifT P t then match op with
   | .eql=>some (.bool false)
   | .neq=>some (.bool true)
   |_=>none else none
 |_,_=>none
theorem boolT_ok {t:TypeId}(h:boolT P t=true):P.underlying t=some .bool:=by
 unfold boolT at h;split at h<;>first|assumption|cases h
theorem eq_if_run {t u:TypeId}{v:Value}(h:ifT P t=true):(Op.equal t (.iface u v) .nilIface).run P w= .ok false w:=by
 unfold ifT at h;split at h
 ·rename_i ms hu;have:∀d:Nat,(Op.equalIn (d+1) t (.iface u v) .nilIface).run P w= .ok false w:=fun d=>by simp[Op.equalIn,run_underlying hu]
  exact this 9999
 ·cases h
theorem eq_nil_run {t e:TypeId}{a:Option Addr}{n c:Nat}(h:P.underlying t=some (.slice e)):(Op.equal t (.slice a n c) (.slice none 0 0)).run P w= .ok a.isNone w:=by
 have:∀d:Nat,(Op.equalIn (d+1) t (.slice a n c) (.slice none 0 0)).run P w= .ok a.isNone w:=fun d=>by cases a<;>simp[Op.equalIn,run_underlying h]
 exact this 9999
theorem binL_run {op:BinOp}{u v r:Value}{t:TypeId}(hb:binL P t op u v=some r):(binOp op t u v).run P w= .ok r w:=by
 cases u<;>cases v<;>try (simp[binL]at hb;done)
 ·simp only[binL]at hb;split at hb
  ·rename_i hbt;have:=fun a b=>run_equal_bool (P:=P) w t a b (boolT_ok hbt);rename_i p q
   cases op<;>simp at hb<;>subst hb<;>simp[binOp,this]<;>cases p<;>cases q<;>rfl
  ·cases hb
 ·rename_i k a k' b
  by_cases hk:k=k'
  ·subst hk
   cases op<;>simp only[binL]at hb<;>(try split at hb)<;>simp_all [binOp,Op.intArith,Op.intCmp,Op.intDiv,Op.intBits,Op.shift]<;>omega
  ·cases op<;>simp only[binL]at hb<;>(try split at hb)<;>simp_all [binOp,Op.shift]<;>omega
 ·rename_i ad n c ad' n' c'
  cases ad' with
  |some q=>simp[binL]at hb
  |none=>
   rcases n' with _|n'<;>rcases c' with _|c'<;>try (simp[binL]at hb;done)
   simp only[binL]at hb;split at hb
   ·rename_i he;unfold elemT at he;split at he
    ·rename_i e hu;have hq:=eq_nil_run (P:=P) (w:=w) (a:=ad) (n:=n) (c:=c) hu
     cases op<;>simp at hb<;>subst hb
     ·simp[binOp,hq]
     ·cases ad<;>simp[binOp,hq]
    ·cases he
   ·cases hb
 ·rename_i tu vu;simp only[binL]at hb;split at hb
  ·rename_i hi;have hq:=eq_if_run (P:=P) (w:=w) (u:=tu) (v:=vu) hi
   cases op<;>simp at hb<;>subst hb<;>simp[binOp,hq]
  ·cases hb
def unL:UnOp→Value→Option Value
 | .neg,.int k n=>some (.int k (k.wrap (0-n)))
 | .not,.bool b=>some (.bool (!b))
 |_,_=>none
theorem unL_run {op:UnOp}{u r:Value}(hb:unL op u=some r):(Op.unary op u).run P w= .ok r w:=by
 unfold unL at hb;split at hb<;>first|(injection hb with hb;subst hb;simp[Op.unary,Op.intArith];done)|cases hb
def oneV:Value→Bool
 | .agg _=>false
 | .tuple _=>false
 |_=>true
def plainV:Value→Bool
 | .agg _=>false
 | .tuple _=>false
 | .int .u32 _=>false
 |_=>true
def oneA:A→Bool
 | .d (.lit v)=>oneV v
 |_=>true
def plainA:A→Bool
 | .d (.lit v)=>plainV v
 |_=>true
def cellsV:V→Option (List A)
 | .a x=>if oneA x then some [x]else none
 | .agg xs=>some xs
 | .tup _=>none
theorem lit_inv {v r:Value}(hx:RdD M w (.lit v) r):r=v:=by cases hx;rfl
theorem rdD_slice {x:D}{v:Value}(hx:RdD M w x v):(∃u,x= .lit u)∨∃a n c,v= .slice a n c:=by
 cases hx with
 |lit v=>exact .inl ⟨_,rfl⟩
 |lm xs v hs _=>obtain⟨a,n,c,rfl,_⟩:=hs;exact .inr ⟨_,_,_,rfl⟩
 |sl=>exact .inr ⟨_,_,_,rfl⟩
theorem oneA_cells {x:A}{v:Value}(hx:RdA γ h M w x v)(ho:oneA x=true):v.cells= #[v]:=by
 cases x with
 |d x=>
  rcases rdD_slice hx with⟨u,rfl⟩|⟨_,_,_,rfl⟩
  ·cases hx;cases v<;>first|rfl|cases ho
  ·rfl
 |ptr=>obtain⟨_,g,_,rfl⟩:=hx;rfl
 |own=>
  rcases rdD_slice hx.1 with⟨u,e⟩|⟨_,_,_,rfl⟩
  ·cases e
  ·rfl
 |elt=>obtain⟨_,_,_,rfl,_⟩:=hx;rfl
 |fn=>obtain⟨_,_,rfl,_⟩:=hx;rfl
 |tab=>obtain⟨_,⟨_,_,_,rfl,_⟩,_⟩:=hx;rfl
 |mp=>obtain⟨_,_,_,rfl⟩:=hx;rfl
 |full=>obtain⟨_,_,rfl⟩:=hx;rfl
 |th=>obtain⟨_,⟨_,_,rfl⟩,_⟩:=hx;rfl
 |tp=>obtain⟨_,⟨_,rfl⟩,_⟩:=hx;rfl
 |row=>obtain⟨_,⟨_,_,_,rfl,_⟩,_⟩:=hx;rfl
 |rp=>obtain⟨_,⟨_,_,rfl⟩,_⟩:=hx;rfl
 |one=>obtain⟨_,⟨_,_,_,_,rfl,_⟩,_⟩:=hx;rfl
theorem cellsV_ok {v:V}{r:Value}(hv:RdV γ h M w v r){xs:List A}(hc:cellsV v=some xs):∃vs:List Value,r.cells=vs.toArray∧All2 (RdA γ h M w) xs vs:=by
 cases v with
 |a x=>
  simp only[cellsV]at hc;split at hc
  ·rename_i ho;injection hc with hc;subst hc;exact⟨[r],oneA_cells hv ho,hv,trivial⟩
  ·cases hc
 |agg ys=>injection hc with hc;subst hc;obtain⟨vs,rfl,k⟩:=hv;exact⟨vs,rfl,k⟩
 |tup _=>cases hc
theorem oneL_ok {ag:Bool}{ys:List A}{s:Nat}{v:V}(ho:oneL ag ys s=some v){vs:List Value}(k:All2 (RdA γ h M w) ys vs):
  vs.length=s∧RdV γ h M w v (if ag then .agg vs.toArray else vs.headD undef):=by
 unfold oneL at ho;split at ho
 ·rename_i hl;refine⟨by rw[←hl];exact k.len.symm,?_⟩
  cases ag
  ·simp at ho;split at ho
   ·rename_i y;injection ho with ho;subst ho
    cases vs with
    |nil=>exact k.elim
    |cons v vs=>exact k.1
   ·cases ho
  ·simp at ho;subst ho;exact⟨vs,rfl,k⟩
 ·cases ho
theorem oneL_one {ys:List A}{s:Nat}{v:V}(ho:oneL false ys s=some v):s=1:=by
 unfold oneL at ho;split at ho
 ·rename_i hl;simp at ho;split at ho
  ·rw[←hl];rfl
  ·cases ho
 ·cases ho
def toD:A→Option D
 | .d x=>some x
 | .own _ k xs=>some (.sl k xs)
 | .fn f [] []=>some (.lit (.func f #[] #[]))
 |_=>none
def toDs:List A→Option (List D)
 |[]=>some []
 |x::r=>match toD x,toDs r with
  |some d,some ds=>some (d::ds)
  |_,_=>none
theorem toD_ok {x:A}{v:Value}{d:D}(k:RdA γ h M w x v)(hd:toD x=some d):RdD M w d v:=by
 unfold toD at hd;split at hd
 ·injection hd with hd;subst hd;exact k
 ·injection hd with hd;subst hd;exact k.1
 ·injection hd with hd;subst hd;obtain⟨x,y,e,k1,k2⟩:=k
  cases x with
  |nil=>cases y with
   |nil=>rw[e];exact .lit _
   |cons=>exact k2.elim
  |cons=>exact k1.elim
 ·cases hd
theorem toDs_ok:∀{xs:List A} {vs:List Value} {ds:List D},All2 (RdA γ h M w) xs vs→toDs xs=some ds→All2 (RdD M w) ds vs
 |[],[],ds,_,hd=>by simp[toDs]at hd;subst hd;trivial
 |x::xs,v::vs,ds,k,hd=>by
  simp only[toDs]at hd;split at hd
  ·rename_i d ds' h1 h2;injection hd with hd;subst hd;exact⟨toD_ok k.1 h1,toDs_ok k.2 h2⟩
  ·cases hd
 |[],_::_,_,k,_=>k.elim
 |_::_,[],_,k,_=>k.elim
def toB:A→Option BA
 | .d x=>some (.d x)
 | .ptr k o=>some (.ptr k o)
 | .own _ k xs=>some (.d (.sl k xs))
 | .elt row off=>some (.e row off)
 |_=>none
def vToB (ev:Operand→Option V)(x:Operand):Option BA:=
 match ev x with
 |some (.a y)=>toB y
 |some (.agg xs)=>(toDs xs).map .g
 |_=>none
theorem toB_ok {x:A}{b:BA}{v:Value}(hx:RdA γ h M w x v)(hb:toB x=some b):RdB γ h M w b v:=by
 cases x<;>simp[toB]at hb<;>subst hb
 ·exact hx
 ·exact hx
 ·exact hx.1
 ·exact hx
def mapB (ev:Operand→Option V):List Operand→Option (List BA)
 |[]=>some []
 |x::r=>match vToB ev x,mapB ev r with
  |some b,some bs=>some (b::bs)
  |_,_=>none
def slOf:V→Option (Nat×List (List D))
 | .a (.d (.sl k xs))=>some (k,xs)
 | .a (.own _ k xs)=>some (k,xs)
 |_=>none
theorem slOf_ok {v:V}{r:Value}(hv:RdV γ h M w v r){k:Nat}{xs:List (List D)}(hs:slOf v=some (k,xs)):RdD M w (.sl k xs) r:=by
 unfold slOf at hs;split at hs
 ·injection hs with hs;injection hs with h1 h2;subst h1 h2;exact hv
 ·injection hs with hs;injection hs with h1 h2;subst h1 h2;exact hv.1
 ·cases hs
def natI (v:Option V):Option Nat:=
 match v with
 |some (.a (.d (.lit (.int _ n))))=>if 0≤n then some n.toNat else none
 |_=>none
theorem natI_ok {x:Operand}(ht:TR γ h M w T a){n:Nat}(hx:natI (evL T x)=some n):∃k,a.eval x= .int k (n:Int):=by
 unfold natI at hx;split at hx
 ·rename_i k m e;split at hx
  ·rename_i h0;injection hx with hx;exact⟨k,by rw[lit_inv (evL_ok ht e),←hx,Int.toNat_of_nonneg h0]⟩
  ·cases hx
 ·cases hx
def natO (ev:Operand→Option V)(d:Nat):Option Operand→Option Nat
 |none=>some d
 |some x=>natI (ev x)
inductive K where
 |raw
 |nat
 |sl (e:TypeId) (k:Nat)
def kindsT (P:Program):Nat→TypeId→List K
 |0,_=>[]
 |f+1,t=>match P.underlying t with
  |some (.struct fs)=>fs.toList.flatMap fun d=>kindsT P f d.type
  |some (.array n e)=>(List.replicate n (kindsT P f e)).flatten
  |some (.slice e)=>match P.underlying e with
   |some (.int .u32)=>[.nat]
   |_=>[.sl e ((sizeT P e).getD 0)]
  |some _=>[.raw]
  |none=>[]
def zb:K→Value→A
 | .nat,.slice none 0 0=> .d (.nat 0)
 | .sl _ k,.slice none 0 0=> .d (.sl k [])
 |_,v=> .d (.lit v)
def zv:K→Value→A
 | .nat,.slice none 0 0=> .d (.nat 0)
 |_,v=> .d (.lit v)
def zq (t:TypeId)(k:K)(v:Value):A:=match ZL t with
 |true=>zv k v
 |false=>zb k v
def zipK (f:K→Value→A):List K→List Value→List A
 |k::ks,v::vs=>f k v::zipK f ks vs
 |[],v::vs=> .d (.lit v)::zipK f [] vs
 |_,[]=>[]
def zeroT (P:Program)(f:K→Value→A)(t:TypeId):Option (List A):=
 match P.info? t with
 |some i=>match i.zero with
  |some z=>some (zipK f (kindsT P 9 t) z.cells.toList)
  |none=>none
 |none=>none
theorem nat0_ok:RdD M w (.nat 0) (.slice none 0 0):= .lm _ _ (by simpa [limbs]using Sl.nil w) (fun b o l c e=>by injection e with e;cases e)
theorem nil_ok (k:Nat):RdD M w (.sl k []) (.slice none 0 0):=
 .sl k [] none 0 (fun _ _=> .bool true) (lR_ _) (by simp) (fun h=>absurd h (by simp)) (fun i row hi=>by simp at hi) (fun _ _=>rfl) (fun i row j d hi=>by simp at hi)
theorem zb_ok (k:K)(v:Value):RdA γ h M w (zb k v) v:=by
 unfold zb;split
 ·exact nat0_ok
 ·exact nil_ok _
 ·exact .lit _
theorem zv_ok (k:K)(v:Value):RdA γ h M w (zv k v) v:=by
 unfold zv;split
 ·exact nat0_ok
 ·exact .lit _
theorem zq_ok (t:TypeId)(k:K)(v:Value):RdA γ h M w (zq t k v) v:=by
 unfold zq;split
 ·exact zv_ok k v
 ·exact zb_ok k v
theorem zipK_ok {f:K→Value→A}(hf:∀k v,RdA γ h M w (f k v) v):∀(ks:List K) (vs:List Value),All2 (RdA γ h M w) (zipK f ks vs) vs
 |k::ks,v::vs=>⟨hf k v,zipK_ok hf ks vs⟩
 |[],v::vs=>⟨.lit v,zipK_ok hf [] vs⟩
 |[],[]=>trivial
 |_::_,[]=>trivial
theorem zeroT_ok {f:K→Value→A}(hf:∀k v,RdA γ h M w (f k v) v){t:TypeId}{zs:List A}(hz:zeroT P f t=some zs):
  ∃i z,P.info? t=some i∧i.zero=some z∧All2 (RdA γ h M w) zs z.cells.toList:=by
 unfold zeroT at hz;split at hz
 ·rename_i i hi;split at hz
  ·rename_i z h2;injection hz with hz;subst hz;exact⟨i,z,hi,h2,zipK_ok hf _ _⟩
  ·cases hz
 ·cases hz
def placesT (P:Program)(t:TypeId):Option (List (Nat×Nat)):=
 match P.underlying t with
 |some (.struct fs)=>fs.toList.mapM fun f=>(P.info? f.type).map fun i=>(f.offset,i.size)
 |_=>none
def placeT (P:Program)(t:TypeId):Option (Nat→Option (Nat×Nat)):=
 match arrT P t with
 |some (n,_,s)=>some fun i=>some (i*s,s)
 |none=>match placesT P t with
  |some ps=>some fun i=>ps[i]?
  |none=>none
def fillL (place:Nat→Option (Nat×Nat))(ev:Operand→Option V):List (Nat×Operand)→List A→Option (List A)
 |[],cells=>some cells
 |(i,x)::r,cells=>match place i,(ev x).bind cellsV with
  |some (off,s),some ys=>if ys.length=s∧off+s≤cells.length then fillL place ev r (cells.take off++ys++cells.drop (off+s))else none
  |_,_=>none
def strT (P:Program)(t:TypeId):Bool:=match P.underlying t with
 |some .string=>true
 |_=>false
theorem strT_ok {t:TypeId}(h:strT P t=true):P.underlying t=some .string:=by
 unfold strT at h;split at h<;>first|assumption|cases h
def lenL (P:Program)(t:TypeId):V→Option Int
 | .a (.d (.sl _ xs))=>if(elemT P t).isSome then some (xs.length:Int)else none
 | .a (.own _ _ xs)=>if(elemT P t).isSome then some (xs.length:Int)else none
 | .a (.d (.lm xs))=>if(elemT P t).isSome then some (xs.length:Int)else none
 | .a (.d (.lit (.slice _ n _)))=>if(elemT P t).isSome then some (n:Int)else none
 | .a (.tab _ n)=>if(elemT P t).isSome then some (n:Int)else none
 | .a (.d (.lit (.string s)))=>if strT P t then some (s.size:Int)else none
 | .a (.th _ n)=>if(elemT P t).isSome then some (n:Int)else none
 | .a (.row _ _ n _)=>if(elemT P t).isSome then some (n:Int)else none
 |_=>none
def partL (P:Program)(t:TypeId)(cs:List A)(off s:Nat):Option V:=
 match aggT P t with
 |some ag=>oneL ag ((cs.drop off).take s) s
 |none=>none
def pureL (P:Program)(ev:Operand→Option V)(o:Oper):Option V:=
 match o.op with
 | .move x=>ev x
 | .assign x=>ev x
 | .pick c a b=>match ev c with
   |some (.a (.d (.lit (.bool b'))))=>if b' then ev a else ev b
   |_=>none
 | .binOp op t x y _=>match ev x,ev y with
   |some (.a (.d (.lit u))),some (.a (.d (.lit v)))=>(binL P t op u v).map vl
   |_,_=>none
 | .unOp op _ x=>match ev x with
   |some (.a (.d (.lit u)))=>(unL op u).map vl
   |_=>none
 | .convert src dst x=>match ev x,intT P src,intT P dst with
   |some (.a (.d (.lit (.int _ n)))),some _,some k=>some (vl (.int k (k.wrap n)))
   |_,_,_=>none
 | .fieldAddr t x f=>match ev x,fieldT P t f with
   |some (.a (.ptr key off)),some (o,_,s)=>if s=0 then none else some (.a (.ptr key (off+o)))
   |some (.a (.elt row off)),some (o,_,s)=>if s=0 then none else some (.a (.elt row (off+o)))
   |_,_=>none
 | .field t x f=>match ev x,fieldT P t f with
   |some (.agg cs),some (o,u,s)=>partL P u cs o s
   |_,_=>none
 | .indexAddr t x i=>match ev x,natI (ev i)with
   |some vx,some n=>match slOf vx,elemT P t with
    |some (k,xs),some (_,s)=>if k=s then(xs[n]?).map fun row=> .a (.elt row 0)else none
    |_,_=>match vx,arrT P t with
     | .a (.ptr key off),some (len,_,s)=>if n<len then some (.a (.ptr key (off+n*s)))else none
     | .a (.elt row off),some (len,_,s)=>if n<len then some (.a (.elt row (off+n*s)))else none
     |_,_=>none
   |_,_=>none
 | .index t x i=>match ev x,natI (ev i),arrT P t with
   |some (.agg cs),some n,some (len,u,s)=>if n<len then partL P u cs (n*s) s else none
   |_,_,_=>none
 | .extract x i=>match ev x with
   |some (.tup ws)=>match ws[i]? with
    |some (.s y)=>some (.a y)
    |some (.g ys)=>some (.agg ys)
    |none=>none
   |_=>none
 | .nilCheck x=>match ev x with
   |some (.a (.ptr key off))=>some (.a (.ptr key off))
   |some (.a (.elt row off))=>some (.a (.elt row off))
   |some (.a (.fn (.func f) first caps))=>some (.a (.fn (.func f) first caps))
   |_=>none
 | .makeFunc fn first caps=>match mapB ev first.toList,mapB ev caps.toList with
   |some xs,some ys=>some (.a (.fn fn xs ys))
   |_,_=>none
 | .build t parts=>match zeroT P (zq t) t,placeT P t with
   |some zs,some pl=>(fillL pl ev parts.toList zs).map .agg
   |_,_=>none
 | .slice t x lo hi mx=>match (ev x).bind slOf,elemT P t with
   |some (k,xs),some (_,s)=>
    match natO ev 0 lo,natO ev xs.length hi,natO ev xs.length mx with
    |some l,some u,some m=>if k=s∧l≤u∧u≤m∧m≤xs.length∧(mx.isSome=true→hi.isSome=true)then some (.a (.d (.sl k ((xs.take u).drop l))))else none
    |_,_,_=>none
   |_,_=>none
 | .call {callee:= .builtin .len,args:=⟨[x]⟩,argTypes:=⟨[t]⟩}=>match ev x with
   |some v=>(lenL P t v).map fun n=>vl (.int .i64 n)
   |none=>none
 |_=>none
theorem partL_ok {t:TypeId}{cs:List A}{vs:List Value}{off s:Nat}{v:V}(hp:partL P t cs off s=some v)(hs:sizeT P t=some s)(k:All2 (RdA γ h M w) cs vs):
  ∃r,(part t vs.toArray off).run P w= .ok r w∧RdV γ h M w v r:=by
 unfold partL at hp;split at hp
 ·rename_i ag hag;have k2:=All2.take s (All2.drop off k);obtain⟨h1,h2⟩:=oneL_ok hp k2;refine⟨_,?_,h2⟩;unfold part
  cases ag
  ·simp only[Sem.run_bind,aggT_run hag,Result.andThen_ok];have hs1:=oneL_one hp;subst hs1;have hlt:off<vs.length:=by
    have:=h1;simp at this;omega
   have e:(vs.drop off).take 1=[vs[off]]:=by rw[List.drop_eq_getElem_cons hlt,List.take_succ_cons,List.take_zero]
   simp[hlt,e]
  ·simp only[Sem.run_bind,aggT_run hag,Result.andThen_ok,sizeT_run hs];simp[sizeT_run hs]
 ·cases hp
theorem mapB_ok (ht:TR γ h M w T a):∀{xs:List Operand} {bs:List BA},mapB (evL T) xs=some bs→All2 (RdB γ h M w) bs (xs.map a.eval)
 |[],bs,hb=>by simp[mapB]at hb;subst hb;trivial
 |x::r,bs,hb=>by
  simp only[mapB]at hb;split at hb
  ·rename_i b bs' h1 h2;injection hb with hb;subst hb;refine⟨?_,mapB_ok ht h2⟩;unfold vToB at h1;split at h1
   ·rename_i y e;exact toB_ok (evL_ok ht e) h1
   ·rename_i xs e;obtain⟨ds,h3,rfl⟩:=Option.map_eq_some_iff.1 h1;obtain⟨vs,h4,h5⟩:=evL_ok ht e;exact⟨vs,h4,toDs_ok h5 h3⟩
   ·cases h1
  ·cases hb
theorem foldl_fill (off:Nat):∀(ys:List Value) (j:Nat) (cs:List Value),off+j+ys.length≤cs.length→
  (ys.zipIdx j).foldl (fun(c:Array Value) (p:Value×Nat)=>c.setIfInBounds (off+p.2) p.1) cs.toArray=(cs.take (off+j)++ys++cs.drop (off+j+ys.length)).toArray
 |[],j,cs,_=>by simp
 |y::ys,j,cs,hl=>by
  simp only[List.length_cons]at hl;simp only[List.zipIdx_cons,List.foldl_cons,sI];rw[foldl_fill off ys (j+1) (cs.set (off+j) y) (by simp;omega)]
  congr 1
  have h1:(cs.set (off+j) y).take (off+(j+1))=cs.take (off+j)++[y]:=by
   rw[show off+(j+1)=(off+j)+1 from by omega,List.take_add_one,List.take_set_of_le (by omega)];simp[show off+j<cs.length by omega]
  rw[h1,List.drop_set_of_lt (by omega)];simp only[List.append_assoc,List.singleton_append,List.cons_append,List.nil_append,List.length_cons];rw[show off+(j+1)+ys.length=off+j+(ys.length+1)from by omega]
theorem fill_ok (ht:TR γ h M w T a){place:Nat→Option (Nat×Nat)}:∀{ps:List (Nat×Operand)} {cs zs:List A} {vs:List Value},fillL place (evL T) ps cs=some zs→All2 (RdA γ h M w) cs vs→
  ∃us:List Value,Instr.fill place vs.toArray (ps.map fun(i,x)=>(i,a.eval x))=some us.toArray∧All2 (RdA γ h M w) zs us
 |[],cs,zs,vs,hf,k=>by simp[fillL]at hf;subst hf;exact⟨vs,rfl,k⟩
 |(i,x)::r,cs,zs,vs,hf,k=>by
  simp only[fillL]at hf;split at hf
  ·rename_i off s ys h1 h2;split at hf
   ·rename_i hc;obtain⟨v,hv,hy⟩:=Option.bind_eq_some_iff.1 h2;obtain⟨us,e1,k1⟩:=cellsV_ok (evL_ok ht hv) hy;have hul:us.length=s:=by rw[←hc.1];exact k1.len.symm
    have hvl:=k.len;have k2:All2 (RdA γ h M w) (cs.take off++ys++cs.drop (off+s)) (vs.take off++us++vs.drop (off+s)):=All2.app (All2.app (All2.take _ k) k1) (All2.drop _ k);obtain⟨zs',e2,k3⟩:=fill_ok ht hf k2;refine⟨zs',?_,k3⟩;rw[←e2];simp only[List.map_cons,Instr.fill,h1];rw[if_neg (by simp[e1,hul];omega),e1]
    congr 1
    have:=foldl_fill off us 0 vs (by omega);simp only[Nat.add_zero,hul]at this;rw[←this];simp
   ·cases hf
  ·cases hf
theorem elemT_ok {t e:TypeId}{s:Nat}(he:elemT P t=some (e,s)):P.underlying t=some (.slice e)∧sizeT P e=some s:=by
 unfold elemT at he;split at he
 ·rename_i e' h1
  cases h2:sizeT P e' with
  |none=>rw[h2]at he;cases he
  |some s'=>rw[h2]at he;simp at he;obtain⟨rfl,rfl⟩:=he;exact⟨h1,h2⟩
 ·cases he
theorem arrT_ok {t e:TypeId}{n s:Nat}(he:arrT P t=some (n,e,s)):P.underlying t=some (.array n e)∧sizeT P e=some s:=by
 unfold arrT at he;split at he
 ·rename_i n' e' h1
  cases h2:sizeT P e' with
  |none=>rw[h2]at he;cases he
  |some s'=>rw[h2]at he;simp at he;obtain⟨rfl,rfl,rfl⟩:=he;exact⟨h1,h2⟩
 ·cases he
theorem fieldT_ok {t u:TypeId}{f o s:Nat}(hf:fieldT P t f=some (o,u,s)):∃fs d,P.underlying t=some (.struct fs)∧fs[f]? =some d∧d.offset=o∧d.type=u∧sizeT P u=some s:=by
 unfold fieldT at hf;split at hf
 ·rename_i fs h1;split at hf
  ·rename_i d h2
   cases h3:sizeT P d.type with
   |none=>rw[h3]at hf;cases hf
   |some s'=>rw[h3]at hf;simp at hf;obtain⟨rfl,rfl,rfl⟩:=hf;exact⟨fs,d,h1,h2,rfl,rfl,h3⟩
  ·cases hf
 ·cases hf
theorem fieldAt_run {t u:TypeId}{f o s:Nat}(hf:fieldT P t f=some (o,u,s))(hs:s≠0)(b off:Nat):
  (Instr.fieldAt t (.pointer (some ⟨b,off,none⟩)) f).run P w= .ok (.pointer (some ⟨b,off+o,none⟩)) w:=by
 obtain⟨fs,d,h1,h2,rfl,rfl,h3⟩:=fieldT_ok hf;simp[Instr.fieldAt,run_underlying h1,h2,Instr.sureAddr,fieldPlace,sizeT_run h3,hs,Addr.add_lit]
theorem sl_elem {k:Nat}{xs:List (List D)}{v:Value}(hx:RdD M w (.sl k xs) v){n:Nat}{row:List D}(hn:xs[n]? =some row):
  ∃(b o cap:Nat) (vs:Nat→Value),v= .slice (some ⟨b,o,none⟩) xs.length cap∧∀(j:Nat) d,row[j]? =some d→Fx M w b (o+n*k+j) (vs j)∧RdD M w d (vs j):=by
 cases hx with
 |sl k xs ad cap vs hc hl h0 hk h1 hr=>
  have hlt:=(List.getElem?_eq_some_iff.1 hn).1;obtain⟨b,o,rfl,hf⟩:=h0 (by omega);exact⟨b,o,cap,vs n,rfl,fun j d hj=>⟨hf n row j d hn hj,hr n row j d hn hj⟩⟩
theorem sl_part {k:Nat}{xs:List (List D)}{ad:Option Addr}{n cap l u m:Nat}(hx:RdD M w (.sl k xs) (.slice ad n cap))(hlu:l≤u)(hum:u≤m)(hu:u≤n)(hm:m≤cap):
  RdD M w (.sl k ((xs.take u).drop l)) (.slice (if m=l then ad else ad.map (·.add (l*k))) (u-l) (m-l)):=by
 cases hx with
 |sl k xs ad cap vs hc hl h0 hk h1 hr=>
  have hlen:((xs.take u).drop l).length=u-l:=by simp;omega
  have hget:∀i row,((xs.take u).drop l)[i]? =some row→xs[l+i]? =some row:=by
   intro i row hi;rw[List.getElem?_drop,List.getElem?_take]at hi;split at hi
   ·exact hi
   ·cases hi
  rw[←hlen];refine .sl k _ _ _ (fun i j=>vs (l+i) j) (by omega) (by omega) (fun hp=> ?_) (fun i row hi=>hk _ _ (hget i row hi)) (fun _ _=>h1 _ _) (fun i row j d hi hj=>hr _ _ _ _ (hget i row hi) hj);obtain⟨b,o,rfl,hf⟩:=h0 (by omega);refine⟨b,o+l*k,by rw[if_neg (by omega)];simp[Addr.add_lit],fun i row j d hi hj=> ?_⟩;have:=hf _ _ _ _ (hget i row hi) hj
  rwa [show o+l*k+i*k+j=o+(l+i)*k+j from by rw[Nat.add_mul];omega]
theorem sliceBound_run {k:IntKind}{n y:Nat}{c:BoundsCode}(hn:n≤y):(Instr.sliceBound (.int k (n:Int)) y c).run P w= .ok n w:=by
 simp[Instr.sliceBound,asIntOf,hn]
theorem natO_ok (ht:TR γ h M w T a){x:Option Operand}{d n:Nat}(hx:natO (evL T) d x=some n):(x=none∧n=d)∨∃y k,x=some y∧a.eval y= .int k (n:Int):=by
 cases x with
 |none=>left;simp[natO]at hx;exact⟨rfl,hx.symm⟩
 |some y=>right;obtain⟨k,hk⟩:=natI_ok ht hx;exact⟨y,k,rfl,hk⟩
theorem pureL_ok {o:Oper}{v:V}(ht:TR γ h M w T a)(hp:pureL P (evL T) o=some v):∃r,(execOp a.eval o).run P w= .ok (.value r) w∧RdV γ h M w v r:=by
 unfold pureL at hp;split at hp
 case h_1 x e=>exact⟨_,by simp[execOp,e],evL_ok ht hp⟩
 case h_2 x e=>exact⟨_,by simp[execOp,e],evL_ok ht hp⟩
 case h_3 c x y e=>
  split at hp
  ·rename_i b hb;have hc:=lit_inv (evL_ok ht hb);refine⟨if b then a.eval x else a.eval y,by simp[execOp,e,hc,asBool],?_⟩
   cases b
   ·exact evL_ok ht (by simpa using hp)
   ·exact evL_ok ht (by simpa using hp)
  ·cases hp
 case h_4 op t x y ty e=>
  split at hp
  ·rename_i u u' h1 h2
   cases hb:binL P t op u u' with
   |none=>rw[hb]at hp;cases hp
   |some r=>
    rw[hb]at hp;injection hp with hp;subst hp;have e1:=lit_inv (evL_ok ht h1);have e2:=lit_inv (evL_ok ht h2);refine⟨r,?_,.lit r⟩;have hg:(eqGuard op t x y u u').run P w= .ok () w:=by
     unfold binL at hb;unfold eqGuard;split at hb<;>first|cases hb|(by_cases hq:(op matches .eql| .neq)=true<;>simp[hq])
    simp[execOp,e,e1,e2,binL_run hb,hg]
  ·cases hp
 case h_5 op t x e=>
  split at hp
  ·rename_i u h1
   cases hb:unL op u with
   |none=>rw[hb]at hp;cases hp
   |some r=>
    rw[hb]at hp;injection hp with hp;subst hp;exact⟨r,by simp[execOp,e,lit_inv (evL_ok ht h1),unL_run hb],.lit r⟩
  ·cases hp
 case h_6 src dst x e=>
  split at hp
  ·rename_i kk n k1 k2 h1 h2 h3;injection hp with hp;subst hp;have hs:P.underlying src=some (.int k1):=by unfold intT at h2;split at h2<;>simp_all
   have hd:P.underlying dst=some (.int k2):=by unfold intT at h3;split at h3<;>simp_all
   exact⟨_,by simp[execOp,e,lit_inv (evL_ok ht h1),convert,run_underlying hs,run_underlying hd,Conv.intToInt],.lit _⟩
  ·cases hp
 case h_7 t x f e=>
  split at hp
  ·rename_i key off o u s h1 h2;split at hp
   ·cases hp
   ·rename_i hs;injection hp with hp;subst hp;obtain⟨k0,g,k1,k2⟩:=evL_ok ht h1;exact⟨_,by simp[execOp,e,k2,fieldAt_run h2 hs],k0,g,k1,rfl⟩
  ·rename_i row off o u s h1 h2;split at hp
   ·cases hp
   ·rename_i hs;injection hp with hp;subst hp;obtain⟨b,oo,vs,k1,k2⟩:=evL_ok ht h1;exact⟨.pointer (some ⟨b,oo+off+o,none⟩),by simp[execOp,e,k1,fieldAt_run h2 hs],b,oo,vs,by rw[Nat.add_assoc],k2⟩
  ·cases hp
 case h_8 t x f e=>
  split at hp
  ·rename_i cs o u s h1 h2;obtain⟨vs,k1,k2⟩:=evL_ok ht h1;obtain⟨fs,d,e1,e2,rfl,rfl,e3⟩:=fieldT_ok h2;obtain⟨r,hr,hv⟩:=partL_ok hp e3 k2;exact⟨r,by simp[execOp,e,k1,Instr.field,run_underlying e1,e2,asAgg,hr],hv⟩
  ·cases hp
 case h_9 t x i e=>
  split at hp
  ·rename_i vx n h1 h2;obtain⟨ki,hki⟩:=natI_ok ht h2;split at hp
   ·rename_i k xs ee s h3 h4;split at hp
    ·rename_i hk;subst hk;obtain⟨e1,e2⟩:=elemT_ok h4
     cases h5:xs[n]? with
     |none=>rw[h5]at hp;cases hp
     |some row=>
      rw[h5]at hp;injection hp with hp;subst hp;obtain⟨b,o,cap,vs,k1,k2⟩:=sl_elem (slOf_ok (evL_ok ht h1) h3) h5;have hlt:=(List.getElem?_eq_some_iff.1 h5).1;refine⟨.pointer (some ⟨b,o+n*k+0,none⟩),?_,b,o+n*k,vs,rfl,k2⟩;simp[execOp,e,k1,hki,Instr.indexAt,asIntOf,run_underlying e1,sizeT_run e2,hlt,Addr.add_lit]
    ·cases hp
   ·split at hp
    ·rename_i key off len uu s h5 hno;split at hp
     ·rename_i hn;injection hp with hp;subst hp;obtain⟨e1,e2⟩:=arrT_ok h5;obtain⟨k0,g,k1,k2⟩:=evL_ok ht h1;refine⟨.pointer (some ⟨g,off+n*s,none⟩),?_,k0,g,k1,rfl⟩;simp[execOp,e,k2,hki,Instr.indexAt,asIntOf,run_underlying e1,Instr.sureAddr,sizeT_run e2,hn,Addr.add_lit]
     ·cases hp
    ·rename_i row off len uu s h5 hno;split at hp
     ·rename_i hn;injection hp with hp;subst hp;obtain⟨e1,e2⟩:=arrT_ok h5;obtain⟨b,oo,vs,k1,k2⟩:=evL_ok ht h1;refine⟨.pointer (some ⟨b,oo+off+n*s,none⟩),?_,b,oo,vs,by rw[Nat.add_assoc],k2⟩;simp[execOp,e,k1,hki,Instr.indexAt,asIntOf,run_underlying e1,Instr.sureAddr,sizeT_run e2,hn,Addr.add_lit]
     ·cases hp
    ·cases hp
  ·cases hp
 case h_10 t x i e=>
  split at hp
  ·rename_i cs n len u s h1 h2 h3;split at hp
   ·rename_i hn;obtain⟨ki,hki⟩:=natI_ok ht h2;obtain⟨e1,e2⟩:=arrT_ok h3;obtain⟨vs,k1,k2⟩:=evL_ok ht h1;obtain⟨r,hr,hv⟩:=partL_ok hp e2 k2;exact⟨r,by simp[execOp,e,k1,hki,Instr.index,asIntOf,run_underlying e1,sizeT_run e2,hn,hr],hv⟩
   ·cases hp
  ·cases hp
 case h_11 x i e=>
  split at hp
  ·rename_i ws h1;obtain⟨vs,k1,k2⟩:=evL_ok ht h1;split at hp
   ·rename_i y h2;injection hp with hp;subst hp;obtain⟨r,e1,e2⟩:=All2.get k2 h2;exact⟨r,by simp[execOp,e,k1,Instr.extract,e1],e2⟩
   ·rename_i y h2;injection hp with hp;subst hp;obtain⟨r,e1,e2⟩:=All2.get k2 h2;exact⟨r,by simp[execOp,e,k1,Instr.extract,e1],e2⟩
   ·cases hp
  ·cases hp
 case h_12 x e=>
  split at hp
  ·rename_i h1;injection hp with hp;subst hp;have hv:=evL_ok ht h1;obtain⟨k0,g,k1,k2⟩:=id hv;exact⟨_,by simp[execOp,e,k2],k0,g,k1,rfl⟩
  ·rename_i h1;injection hp with hp;subst hp;obtain⟨b,oo,vs,k1,k2⟩:=evL_ok ht h1;exact⟨_,by simp[execOp,e,k1],b,oo,vs,rfl,k2⟩
  ·rename_i h1;injection hp with hp;subst hp;obtain⟨x1,y1,k1,k2⟩:=evL_ok ht h1;exact⟨_,by simp[execOp,e,k1],x1,y1,rfl,k2⟩
  ·cases hp
 case h_13 fn first caps e=>
  split at hp
  ·rename_i xs ys h1 h2;injection hp with hp;subst hp;refine⟨.func fn (first.map a.eval) (caps.map a.eval),by simp[execOp,e,Instr.makeFunc],first.toList.map a.eval,caps.toList.map a.eval,by simp[←List.map_toArray],mapB_ok ht h1,mapB_ok ht h2⟩
  ·cases hp
 case h_14 t parts e=>
  split at hp
  ·rename_i zs pl hz hpl
   cases hf:fillL pl (evL T) parts.toList zs with
   |none=>rw[hf]at hp;cases hp
   |some us=>
    rw[hf]at hp;injection hp with hp;subst hp;obtain⟨i,z,e1,e2,k1⟩:=zeroT_ok (γ:=γ) (h:=h) (M:=M) (w:=w) (zq_ok _) hz;obtain⟨vs,e3,k2⟩:=fill_ok ht hf k1;refine⟨.agg vs.toArray,?_,vs,rfl,k2⟩;have e4:z.cells.toList.toArray=z.cells:=by simp
    rw[e4]at e3;have key:P.built t (parts.map fun(q:Nat×Operand)=>(q.1,a.eval q.2)).toList=some vs.toArray:=by
     have hps:(parts.map fun(q:Nat×Operand)=>(q.1,a.eval q.2)).toList=parts.toList.map fun(i,x)=>(i,a.eval x):=by simp
     rw[hps];unfold placeT at hpl;split at hpl
     ·rename_i n ee s ha;injection hpl with hpl;subst hpl;obtain⟨a1,a2⟩:=arrT_ok ha;unfold sizeT at a2;obtain⟨ie,hie,hs⟩:=Option.map_eq_some_iff.1 a2;subst hs;simp only[Program.built,e1,a1,e2,hie];exact e3
     ·split at hpl
      ·rename_i ps hps;injection hpl with hpl;subst hpl;unfold placesT at hps;split at hps
       ·rename_i fs hu;simp only[Program.built,e1,hu,e2,hps];simpa using e3
       ·cases hps
      ·cases hpl
    have hr:=run_build (P:=P) w t _ _ key;simp[execOp,e,hr]
  ·cases hp
 case h_15 t x lo hi mx e=>
  split at hp
  ·rename_i k xs ee s h1 h2;obtain⟨vx,hvx,h3⟩:=Option.bind_eq_some_iff.1 h1;obtain⟨e1,e2⟩:=elemT_ok h2;have hrd:=slOf_ok (evL_ok ht hvx) h3;split at hp
   ·rename_i l u m hl hu hm;split at hp
    ·rename_i hc;obtain⟨hk,hlu,hum,hml,hmh⟩:=hc;subst hk;injection hp with hp;subst hp;have hsl:∃ad n cap,a.eval x= .slice ad n cap∧xs.length=n∧n≤cap:=by
      generalize a.eval x=r0 at hrd
      cases hrd with
      |sl k xs ad cap vs hc=>exact⟨_,_,_,rfl,rfl,hc⟩
     obtain⟨ad,n,cap,hax,hn,hcap⟩:=hsl;rw[hax]at hrd;subst hn;have hL:=natO_ok ht hl;have hU:=natO_ok ht hu;have hM:=natO_ok ht hm;refine⟨.slice (if(if mx.isSome then m else cap)=l then ad else ad.map (·.add (l*k))) (u-l) ((if mx.isSome then m else cap)-l),?_,sl_part hrd hlu (by split<;>omega) (by omega) (by split<;>omega)⟩;have hb:(Instr.sliceBounds true xs.length cap (lo.map a.eval) (hi.map a.eval) (mx.map a.eval)).run P w= .ok (l,u,(if mx.isSome then m else cap)) w:=by
      rcases hL with⟨rfl,rfl⟩|⟨yl,kl,rfl,hl'⟩<;>rcases hU with⟨rfl,rfl⟩|⟨yu,ku,rfl,hu'⟩<;>rcases hM with⟨rfl,rfl⟩|⟨ym,km,rfl,hm'⟩<;>
       first|(simp at hmh;done)|skip
      all_goals simp[Instr.sliceBounds, *]
      all_goals first|done|(repeat rw[sliceBound_run (by omega)];simp)|skip
     simp[execOp,e,hax,Instr.sliceAt,run_underlying e1,Instr.slice,hb,sizeT_run e2]
    ·cases hp
   ·cases hp
  ·cases hp
 case h_16 x t e=>
  split at hp
  ·rename_i v0 h1
   cases hl:lenL P t v0 with
   |none=>rw[hl]at hp;cases hp
   |some n=>
    rw[hl]at hp;injection hp with hp;subst hp;refine⟨.int .i64 n,?_,.lit _⟩;have hv:=evL_ok ht h1
    by_cases hstr:∃s,v0= .a (.d (.lit (.string s)))
    ·obtain⟨s,rfl⟩:=hstr;unfold lenL at hl;split at hl
     case h_6 s' hs'=>
      injection hs' with hs';injection hs' with hs';injection hs' with hs';injection hs' with hs';subst hs';split at hl
      ·rename_i hs;injection hl with hl;have e1:=lit_inv hv;simp[execOp,e,resolve,invoke,builtin,e1,Builtin.len_,run_underlying (strT_ok hs),goInt,←hl]
      ·cases hl
     all_goals first|(simp_all;done)|cases hl
    have key:∃ad m c,a.eval x= .slice ad m c∧n=(m:Int)∧(elemT P t).isSome=true:=by
     unfold lenL at hl;split at hl
     ·split at hl
      ·rename_i hs;injection hl with hl;generalize a.eval x=r0 at hv
       cases hv with
       |sl k xs ad cap vs=>exact⟨_,_,_,rfl,hl.symm,hs⟩
      ·cases hl
     ·split at hl
      ·rename_i hs;injection hl with hl;obtain⟨hv,_⟩:=hv;generalize a.eval x=r0 at hv
       cases hv with
       |sl k xs ad cap vs=>exact⟨_,_,_,rfl,hl.symm,hs⟩
      ·cases hl
     ·split at hl
      ·rename_i hs;injection hl with hl;generalize a.eval x=r0 at hv
       cases hv with
       |lm m _ h1=>obtain⟨ad,m,c,e1,e2,_⟩:=h1;exact⟨_,_,_,e1,by rw[←hl,e2],hs⟩
      ·cases hl
     ·split at hl
      ·rename_i hs;injection hl with hl;exact⟨_,_,_,lit_inv hv,hl.symm,hs⟩
      ·cases hl
     ·split at hl
      ·rename_i hs;injection hl with hl;obtain⟨_,⟨g,c,_,k2,_⟩,_⟩:=hv;exact⟨_,_,_,k2,hl.symm,hs⟩
      ·cases hl
     ·exact absurd ⟨_,rfl⟩ hstr
     ·split at hl
      ·rename_i hs;injection hl with hl;obtain⟨_,⟨_,_,k2⟩,_⟩:=hv;exact⟨_,_,_,k2,hl.symm,hs⟩
      ·cases hl
     ·split at hl
      ·rename_i hs;injection hl with hl;obtain⟨_,⟨_,_,_,k2,_⟩,_⟩:=hv;exact⟨_,_,_,k2,hl.symm,hs⟩
      ·cases hl
     ·cases hl
    obtain⟨ad,m,c,e1,rfl,e2⟩:=key;obtain⟨⟨ee,s⟩,he⟩:=Option.isSome_iff_exists.1 e2;simp[execOp,e,resolve,invoke,builtin,e1,Builtin.len_,run_underlying (elemT_ok he).1,goInt]
  ·cases hp
 case h_17=>cases hp
end
def over {β:Type}(sets:List (Nat×β))(h:Nat→Option β):Nat→Option β:=fun k=>match look sets k with
 |some e=>some e
 |none=>h k
theorem over_same {n:Nat}{e:Ent}{h:Hp}:over [(n,e)] h n=some e:=by simp[over,look]
theorem over_other {n k:Nat}{e:Ent}{h:Hp}(hk:k≠n):over [(n,e)] h k=h k:=by simp[over,look,Ne.symm hk]
theorem over_nil {h:Hp}:over [] h=h:=rfl
def upd (γ:Gh)(n:Nat)(v:Value):Gh:=fun k=>if k=n then v else γ k
theorem upd_same {γ:Gh}{n:Nat}{v:Value}:upd γ n v n=v:=by simp[upd]
theorem upd_other {γ:Gh}{n k:Nat}{v:Value}(hk:k≠n):upd γ n v k=γ k:=by simp[upd,hk]
def OT (P:Program)(o:Oper)(T:Nat→Option V)(h:Hp)(v:V)(sets:List (Nat×Ent))(rk:List Nat):Prop:=
 ∀(T':Nat→Option V) (h':Hp) (γ:Gh) (M:MS) (w:World) (a:Act) (next:Act→World→Prop) (Q:Exit→Act→World→Prop),
  (∀d,Operand.tmp d∈o.op.operands→T' d=T d)→(∀k,k∈rk→h' k=h k)→Rel γ h' M w→TR γ h' M w T' a→
  (∀r γ' M' w',Rel γ' (over sets h') M' w'→RdV γ' (over sets h') M' w' v r→Stp γ h' M w γ' (over sets h') M' w'→next (a.put o.dst r) w')→
  o.wp P a w next Q
section
variable {γ γ':Gh} {h h':Hp} {M M':MS} {w w':World} {T T':Nat→Option V} {a:Act} {P:Program}
theorem evL_congr {x:Operand}(hx:∀d,x= .tmp d→T' d=T d):evL T' x=evL T x:=by
 cases x with
 |tmp d=>exact hx d rfl
 |_=>rfl
theorem blk_lt (r:Rel γ h M w){key:Nat}{e:Ent}(he:h key=some e)(hl:live (some e)=true){b:Nat}(hb:ib (γ key) b):b<w.heap.size:=by
 have:=r.ent key e he
 cases e with
 |gone=>cases hl
 |box t cs=>
  obtain⟨g,vs,h1,h2,_⟩:=this;rw[h1]at hb;simp[ib,blk]at hb;subst hb;exact lt_of_block h2
 |mp φ=>
  obtain⟨g,o,h1,h2,_,es,c,rfl⟩:=this;rw[h1]at hb;simp[ib,blk]at hb;subst hb;exact lt_of_block h2
 |tab e k rows=>
  obtain⟨g,vs,sp,h1,h2,_⟩:=this;rw[h1]at hb;simp[ib,blk]at hb;subst hb;exact lt_of_block h2
 |tt e0 e k o ar=>
  obtain⟨hd,ps,h1,h2,_,h3,h4⟩:=this;rw[h1]at hb;obtain⟨x,hx,hxb⟩:=hb;rcases List.mem_cons.1 (show x∈hd::ps.map fun b=> .pointer (some ⟨b,0,none⟩) by simpa using hx)with e1|e1
  ·subst e1;rcases h3 with⟨_,e2⟩|⟨g,c,os,sp,e2,_,_,_,hg,_⟩
   ·rw[e2]at hxb;cases hxb
   ·rw[e2]at hxb;simp[blk]at hxb;subst hxb;exact lt_of_block hg
  ·obtain⟨b',hb',rfl⟩:=List.mem_map.1 e1;simp[blk]at hxb;subst hxb;obtain⟨a,ha⟩:=List.mem_iff_getElem?.1 hb';have hlt:=(List.getElem?_eq_some_iff.1 ha).1;obtain⟨vs,sp,hq,_⟩:=h4 a b' (ar[a]'(by omega)) ha (List.getElem?_eq_getElem _);exact lt_of_block hq
 |arr e k n=>
  obtain⟨xs,h1,h2⟩:=this;rcases h2 with⟨h2,_⟩|⟨g,cap,cur,h2,_,h3,_⟩
  ·rw[h2]at hb;cases hb
  ·rw[h2]at hb;simp[ib,blk]at hb;subst hb;exact lt_of_block h3
theorem EntR.stp (s:Stp γ h M w γ' h' M' w'){key:Nat}{e:Ent}(k:EntR γ h M w key e)(hg:γ' key=γ key)(hb:live (some e)=true→∀b,ib (γ key) b→w'.heap[b]? =w.heap[b]?):EntR γ' h' M' w' key e:=by
 cases e with
 |gone=>trivial
 |box t cs=>
  obtain⟨g,vs,h1,h2,h3⟩:=k;exact⟨g,vs,by rw[hg,h1],by rw[hb rfl g (by rw[h1];rfl),h2],All2.imp (fun _ _=>RdA.stp s) h3⟩
 |mp φ=>
  obtain⟨g,o,h1,h2,h3,h4⟩:=k;exact⟨g,o,by rw[hg,h1],by rw[hb rfl g (by rw[h1];rfl),h2],φ.st _ _ _ _ _ s.fx h3,h4⟩
 |tab t k rows=>
  obtain⟨g,vs,sp,h1,h2,h4,h3,h5⟩:=k;exact⟨g,vs,sp,by rw[hg,h1],by rw[hb rfl g (by rw[h1];rfl),h2],h4,All2.imp (fun _ _=>RdD.fx s.fx) h3,h5⟩
 |tt e0 e k o ar=>
  obtain⟨hd,ps,h1,h2,h0,h3,h4⟩:=k;have hps:∀b∈ps,w'.heap[b]? =w.heap[b]?:=fun b hbm=>hb rfl b (by rw[h1];exact⟨.pointer (some ⟨b,0,none⟩),by simp;exact .inr hbm,rfl⟩);refine⟨hd,ps,by rw[hg,h1],h2,h0,?_,fun a b rows ha har=> ?_⟩
  ·rcases h3 with h3|⟨g,c,os,sp,e2,e3,e4,e5,e6,e7⟩
   ·exact .inl h3
   ·exact .inr ⟨g,c,os,sp,e2,e3,e4,e5,by rw[hb rfl g (by rw[h1];exact⟨hd,by simp,by rw[e2];rfl⟩),e6],All2.imp (fun _ _=>RdA.stp s) e7⟩
  ·obtain⟨vs,sp,q1,q2,q3,q4⟩:=h4 a b rows ha har;exact⟨vs,sp,by rw[hps b (mG_ ha),q1],q2,All2.imp (fun _ _=>RdD.fx s.fx) q3,q4⟩
 |arr e k n=>
  obtain⟨xs,h1,h2⟩:=k;refine⟨xs,h1,?_⟩;rw[hg];rcases h2 with h2|⟨g,cap,cur,h2,h4,h3,h5⟩
  ·exact .inl h2
  ·exact .inr ⟨g,cap,cur,h2,h4,by rw[hb rfl g (by rw[h2];rfl),h3],h5⟩
theorem owns_live {key b i:Nat}(ho:Owns γ h key b i):live (h key)=true∧ib (γ key) b:=by
 unfold Owns at ho
 cases he:h key with
 |none=>rw[he]at ho;exact ho.elim
 |some e=>
  rw[he]at ho
  cases e with
  |gone=>exact ho.elim
  |box=>exact⟨rfl,ho⟩
  |tab=>exact⟨rfl,ho⟩
  |mp=>exact⟨rfl,ho⟩
  |tt=>exact⟨rfl,ho⟩
  |arr=>exact⟨rfl,ho.1⟩
theorem owns_congr {key b i:Nat}(hg:γ' key=γ key)(hh:h' key=h key):Owns γ' h' key b i↔Owns γ h key b i:=by
 unfold Owns;rw[hh,hg]
theorem stp_new (r:Rel γ h M w){n:Nat}{e:Ent}(hn:∀e1,h n=some e1→Goes e1 e∧Grown1 e1 e){v:Value}{cs:Array Value}{t:TypeId}{w1:World}(h0:w1.heap=w.heap)(h1:w1.os=w.os)(h2:w1.tape=w.tape)(h3:w1.output=w.output){m:Nat}(hb:∀b,ib v b→b=w.heap.size):
  Stp γ h M w (upd γ n v) (over [(n,e)] h) (fun b i=>M b i∨b=w.heap.size∧m≤i) (w1.alloc (.cells cs t)):=by
 have hold:∀b,b<w.heap.size→(w1.alloc (.cells cs t)).heap[b]? =w.heap[b]?:=by
  intro b hb;rw[←h0]at hb ⊢;exact Below.heap_alloc _ _ _ hb
 refine⟨h1,h2,h3,by simp[h0],fun b i u k=> ?_,fun b hb _=>hold b hb,fun b i k _=> .inl k,fun key b i ho hb=> ?_,fun key e' he=> ?_⟩
 ·have hlt:b<w.heap.size:=World.block_lt_of_cell? _ _ k.2;refine⟨fun k2=>k2.elim k.1 fun k3=>by omega,?_⟩;rw[←k.2];exact World.cell?_of_block (a:=⟨b,i,none⟩) (hold b hlt)
 ·by_cases e1:key=n
  ·subst e1;have h4:=hb;obtain⟨_,h5⟩:=owns_live ho;rw[upd_same]at h5;have:= ‹∀b,ib v b→b=w.heap.size› b h5;omega
  ·exact⟨key,(owns_congr (upd_other e1) (over_other e1)).1 ho⟩
 ·by_cases e1:key=n
  ·subst e1;exact⟨e,over_same,(hn e' he).1,.inr (.inl (hn e' he).2)⟩
  ·exact⟨e',by rw[over_other e1];exact he,Goes.refl _,.inl (upd_other e1)⟩
theorem rel_new (r:Rel γ h M w){n:Nat}{e:Ent}(hn:∀e1,h n=some e1→Goes e1 e∧Grown1 e1 e){v:Value}{cs:Array Value}{t:TypeId}{w1:World}(h0:w1.heap=w.heap)(h1:w1.os=w.os)(h2:w1.tape=w.tape)(h3:w1.output=w.output){m:Nat}(hb:∀b,ib v b→b=w.heap.size)
  (he:EntR (upd γ n v) (over [(n,e)] h) (fun b i=>M b i∨b=w.heap.size∧m≤i) (w1.alloc (.cells cs t)) n e) (ho:∀b i,Owns (upd γ n v) (over [(n,e)] h) n b i→m≤i) (hu:∀i x,m≤i→cs[i]? =some x→∀z,x≠ .int .u32 z):
  Rel (upd γ n v) (over [(n,e)] h) (fun b i=>M b i∨b=w.heap.size∧m≤i) (w1.alloc (.cells cs t)):=by
 have s:=stp_new r hn (v:=v) (cs:=cs) (t:=t) h0 h1 h2 h3 (m:=m) hb;have hold:∀b,b<w.heap.size→(w1.alloc (.cells cs t)).heap[b]? =w.heap[b]?:=by
  intro b hb;rw[←h0]at hb ⊢;exact Below.heap_alloc _ _ _ hb
 refine⟨fun key e' h4=> ?_,fun key b i h4=> ?_,fun key key' b h4 h5 h6 h7=> ?_,fun b i z h4=> ?_,fun b i h4=> ?_,r.glb.fx s.fx⟩
 ·by_cases e1:key=n
  ·subst e1;rw[over_same]at h4;injection h4 with h4;subst h4;exact he
  ·rw[over_other e1]at h4;exact EntR.stp s (r.ent key e' h4) (upd_other e1) fun hl b h5=>hold b (blk_lt r h4 hl h5)
 ·by_cases e1:key=n
  ·subst e1;obtain⟨_,h5⟩:=owns_live h4;rw[upd_same]at h5;exact .inr ⟨hb b h5,ho b i h4⟩
  ·exact .inl (r.own key b i ((owns_congr (upd_other e1) (over_other e1)).1 h4))
 ·by_cases e1:key=n<;>by_cases e2:key'=n
  ·rw[e1,e2]
  ·subst e1;rw[over_other e2]at h5;rw[upd_same]at h6;rw[upd_other e2]at h7
   cases h8:h key' with
   |none=>rw[h8]at h5;cases h5
   |some e3=>
    have:=blk_lt r h8 (by rw[←h8];exact h5) h7;have:=hb b h6;omega
  ·subst e2;rw[over_other e1]at h4;rw[upd_other e1]at h6;rw[upd_same]at h7
   cases h8:h key with
   |none=>rw[h8]at h4;cases h4
   |some e3=>
    have:=blk_lt r h8 (by rw[←h8];exact h4) h6;have:=hb b h7;omega
  ·rw[over_other e1]at h4;rw[over_other e2]at h5;rw[upd_other e1]at h6;rw[upd_other e2]at h7;exact r.inj key key' b h4 h5 h6 h7
 ·rcases h4 with h4|⟨rfl,h4⟩
  ·rw[World.cell?_of_block (w:=w) (a:=⟨b,i,none⟩) (hold b (r.dom b i h4))];exact r.u32 b i z h4
  ·intro h5;rw[←h0,World.cell?_alloc_new]at h5;exact hu i _ h4 h5 z rfl
 ·rcases h4 with h4|⟨rfl,h4⟩
  ·have:=r.dom b i h4;simp[h0];omega
  ·simp[h0]
theorem mapB_congr {ev ev':Operand→Option V}:∀{xs:List Operand},(∀x,x∈xs→ev' x=ev x)→mapB ev' xs=mapB ev xs
 |[],_=>rfl
 |x::r,hc=>by simp only[mapB,vToB];rw[hc x (by simp),mapB_congr fun y hy=>hc y (by simp[hy])]
theorem fillL_congr {place:Nat→Option (Nat×Nat)}{ev ev':Operand→Option V}:∀{ps:List (Nat×Operand)} {cs:List A},(∀p,p∈ps→ev' p.2=ev p.2)→fillL place ev' ps cs=fillL place ev ps cs
 |[],_,_=>rfl
 |(i,x)::r,cs,hc=>by
  have ih:∀cs,fillL place ev' r cs=fillL place ev r cs:=fun cs=>fillL_congr fun y hy=>hc y (by simp[hy]);have h1:ev' x=ev x:=hc (i,x) (by simp);simp only[fillL,h1,ih]
theorem natO_congr {ev ev':Operand→Option V}{d:Nat}{x:Option Operand}(hc:∀y,x=some y→ev' y=ev y):natO ev' d x=natO ev d x:=by
 cases x with
 |none=>rfl
 |some y=>simp only[natO];rw[hc y rfl]
theorem pureL_congr {o:Oper}{ev ev':Operand→Option V}(hc:∀x,x∈o.op.operands→ev' x=ev x):pureL P ev' o=pureL P ev o:=by
 unfold pureL;split
 case h_13 fn first caps e=>
  rw[e]at hc;rw[mapB_congr (fun x hx=>hc x (by simp[Op.operands];exact .inl (by simpa using hx))),mapB_congr (fun x hx=>hc x (by simp[Op.operands];exact .inr (by simpa using hx)))]
 case h_14 t parts e=>
  rw[e]at hc;split
  ·rw[fillL_congr fun p hp=>hc p.2 (by simp[Op.operands];exact⟨p.1,by simpa using hp⟩)]
  ·rfl
 case h_15 t x lo hi mx e=>
  rw[e]at hc;rw[hc x (by simp[Op.operands])];split
  ·rename_i k xs ee s h1 h2;rw[natO_congr (x:=lo) fun y hy=>hc y (by simp[Op.operands,hy]),natO_congr (x:=hi) fun y hy=>hc y (by simp[Op.operands,hy]),natO_congr (x:=mx) fun y hy=>hc y (by simp[Op.operands,hy])]
  ·rfl
 all_goals first
  |rfl
  |(rename_i e;rw[e]at hc;simp[Op.operands,Call.operands]at hc;simp[hc])
theorem OT_pure {o:Oper}{v:V}(hp:pureL P (evL T) o=some v):OT P o T h v [] []:=by
 intro T' h' γ M w a next Q hT hk hr ht hn
 have hp':pureL P (evL T') o=some v:=by
  rw[←hp];refine pureL_congr fun x hx=>evL_congr fun d hd=>hT d (hd▸hx)
 obtain⟨r,h1,h2⟩:=pureL_ok ht hp';unfold Oper.wp;rw[h1];exact hn r γ M w hr h2 (Stp.refl _ _ _ _)
def loadL (P:Program)(t:TypeId)(h:Hp):V→Option (V×List Nat)
 | .a (.ptr key off)=>match h key,aggT P t,sizeT P t with
   |some (.box _ cs),some ag,some s=>(oneL ag ((cs.drop off).take s) s).map fun v=>(v,[key])
   |_,_,_=>none
 | .a (.elt row off)=>match aggT P t,sizeT P t with
   |some ag,some s=>(oneL ag (((row.drop off).take s).map .d) s).map fun v=>(v,[])
   |_,_=>none
 |_=>none
theorem loadVar_run {t:TypeId}{ag:Bool}{s:Nat}(h1:aggT P t=some ag)(h2:sizeT P t=some s)(h3:ag=false→s=1){b off:Nat}{vs:List Value}(hl:vs.length=s)(hc:∀j u,vs[j]? =some u→w.cell? ⟨b,off+j,none⟩=some u):
  (loadVar t ⟨b,off,none⟩).run P w= .ok (if ag then .agg vs.toArray else vs.headD undef) w:=by
 unfold loadVar
 cases ag
 ·have:=h3 rfl;subst this;obtain⟨u,rfl⟩:∃u,vs=[u]:=List.length_eq_one_iff.1 hl;have:=hc 0 u rfl;simp only[Nat.add_zero]at this;simp[aggT_run h1,this]
 ·have:=run_loadCells_list (P:=P) w ⟨b,off,none⟩ vs (fun j u hj=>by rw[Addr.add_lit];exact hc j u hj);rw[hl]at this;simp[aggT_run h1,sizeT_run h2,this]
theorem elt_vs {row:List D}{b o:Nat}{f:Nat→Value}(hf:∀(j:Nat) d,row[j]? =some d→Fx M w b (o+j) (f j)∧RdD M w d (f j))(off s:Nat):
  ∃vs:List Value,All2 (RdA γ h M w) (((row.drop off).take s).map .d) vs∧∀j u,vs[j]? =some u→w.cell? ⟨b,o+off+j,none⟩=some u:=by
 refine⟨(List.range ((row.drop off).take s).length).map fun j=>f (off+j),All2.of_get (by simp) (fun i x y hx hy=> ?_),fun j u hj=> ?_⟩
 ·rw[List.getElem?_map]at hx hy;obtain⟨d,hd,rfl⟩:=Option.map_eq_some_iff.1 hx;obtain⟨q,hq,rfl⟩:=Option.map_eq_some_iff.1 hy;have hq':q=i:=by
   have:=List.getElem?_eq_some_iff.1 hq;obtain⟨h1,h2⟩:=this;simpa using h2.symm
  subst hq';rw[List.getElem?_take,List.getElem?_drop]at hd;split at hd
  ·exact(hf _ _ hd).2
  ·cases hd
 ·rw[List.getElem?_map]at hj;obtain⟨q,hq,rfl⟩:=Option.map_eq_some_iff.1 hj;obtain⟨h1,h2⟩:=List.getElem?_eq_some_iff.1 hq;have hq':q=j:=by simpa using h2.symm
  subst hq';have hlt:q<((row.drop off).take s).length:=by simpa using h1
  have hd:row[off+q]? =some (row[off+q]'(by simp at hlt;omega)):=List.getElem?_eq_getElem _;have:=(hf _ _ hd).1.2
  rwa [Nat.add_assoc]
theorem OT_load {o:Oper}{t:TypeId}{x:Operand}{vx v:V}{rk:List Nat}(ho:o.op= .load t x)(hx:evL T x=some vx)(hl:loadL P t h vx=some (v,rk)):OT P o T h v [] rk:=by
 intro T' h' γ M w a next Q hT hk hr ht hn
 have hx':evL T' x=some vx:=by
  rw[←hx];exact evL_congr fun d hd=>hT d (by rw[ho];simp[Op.operands,hd])
 have hv:=evL_ok ht hx'
 suffices hs:∃r,(Instr.loadAt t (a.eval x)).run P w= .ok r w∧RdV γ h' M w v r by
  obtain⟨r,h1,h2⟩:=hs;unfold Oper.wp;have:(execOp a.eval o).run P w= .ok (.value r) w:=by simp[execOp,ho,h1]
  rw[this];exact hn r γ M w hr h2 (Stp.refl _ _ _ _)
 unfold loadL at hl;split at hl
 ·rename_i key off;split at hl
  ·rename_i tb cs ag s h1 h2 h3;obtain⟨v',h4,h5⟩:=Option.map_eq_some_iff.1 hl;injection h5 with h5 h6;subst h5 h6;obtain⟨_,g,k1,k2⟩:=hv;obtain⟨g',vs,k3,k4,k5⟩:=hr.ent key _ ((hk key (by simp)).trans h1);rw[k1]at k3;injection k3 with k3;injection k3 with k3;injection k3 with k3;subst k3;have k6:=All2.take s (All2.drop off k5);obtain⟨k7,k8⟩:=oneL_ok h4 k6;refine⟨_,?_,k8⟩;rw[k2];simp only[Instr.loadAt,Instr.sureAddr,Sem.run_bind,Sem.run_pure,Result.andThen_ok];refine loadVar_run h2 h3 (fun e=>by subst e;exact oneL_one h4) k7 fun j u hj=> ?_;rw[List.getElem?_take,List.getElem?_drop]at hj;split at hj
   ·simp[World.cell?,k4,hj]
   ·cases hj
  ·cases hl
 ·rename_i row off;split at hl
  ·rename_i ag s h2 h3;obtain⟨v',h4,h5⟩:=Option.map_eq_some_iff.1 hl;injection h5 with h5 h6;subst h5 h6;obtain⟨b,oo,f,k1,k2⟩:=hv;obtain⟨vs,k3,k4⟩:=elt_vs (γ:=γ) (h:=h') k2 off s;obtain⟨k7,k8⟩:=oneL_ok h4 k3;refine⟨_,?_,k8⟩;rw[k1];simp only[Instr.loadAt,Instr.sureAddr,Sem.run_bind,Sem.run_pure,Result.andThen_ok];exact loadVar_run h2 h3 (fun e=>by subst e;exact oneL_one h4) k7 k4
  ·cases hl
 ·cases hl
theorem plainA_u32 {x:A}{v:Value}(hx:RdA γ h M w x v)(hp:plainA x=true):∀z,v≠ .int .u32 z:=by
 intro z e;subst e
 cases x with
 |d x=>
  rcases rdD_slice hx with⟨u,rfl⟩|⟨_,_,_,e⟩
  ·have:=lit_inv hx;subst this;cases hp
  ·cases e
 |ptr=>obtain⟨_,g,_,e⟩:=hx;cases e
 |own=>
  rcases rdD_slice hx.1 with⟨u,e⟩|⟨_,_,_,e⟩<;>cases e
 |elt=>obtain⟨_,_,_,e,_⟩:=hx;cases e
 |fn=>obtain⟨_,_,e,_⟩:=hx;cases e
 |tab=>obtain⟨_,⟨_,_,_,e,_⟩,_⟩:=hx;cases e
 |mp=>obtain⟨_,_,_,e⟩:=hx;cases e
 |full=>obtain⟨_,_,e⟩:=hx;cases e
 |th=>obtain⟨_,⟨_,_,e⟩,_⟩:=hx;cases e
 |tp=>obtain⟨_,⟨_,e⟩,_⟩:=hx;cases e
 |row=>obtain⟨_,⟨_,_,_,e,_⟩,_⟩:=hx;cases e
 |rp=>obtain⟨_,⟨_,_,e⟩,_⟩:=hx;cases e
 |one=>obtain⟨_,⟨_,_,_,_,e,_⟩,_⟩:=hx;cases e
theorem plain_all {cs:List A}{vs:List Value}(k:All2 (RdA γ h M w) cs vs)(hp:cs.all plainA=true):∀(i:Nat) (x:Value),vs.toArray[i]? =some x→∀z:Int,x≠ .int .u32 z:=by
 intro i x hi;have hi':vs[i]? =some x:=by simpa using hi
 have hlt:=(List.getElem?_eq_some_iff.1 hi').1;have hl:=k.len;obtain⟨y,h1,h2⟩:=All2.get k (i:=i) (x:=cs[i]) (List.getElem?_eq_getElem (by omega));rw[hi']at h1;injection h1 with h1;subst h1;exact plainA_u32 h2 (List.all_eq_true.1 hp _ (List.getElem_mem _))
theorem new_box (r:Rel γ h M w){n:Nat}(hn:h n=none){t:TypeId}{cs:List A}{vs:List Value}(k:All2 (RdA γ h M w) cs vs)(hp:cs.all plainA=true):
  ∃γ' M',Rel γ' (over [(n,.box t cs)] h) M' (w.alloc (.cells vs.toArray t))∧RdV γ' (over [(n,.box t cs)] h) M' (w.alloc (.cells vs.toArray t)) (.a (.ptr n 0)) (.pointer (some ⟨w.heap.size,0,none⟩))∧
   Stp γ h M w γ' (over [(n,.box t cs)] h) M' (w.alloc (.cells vs.toArray t)):=by
 have hb:∀b,ib (.pointer (some ⟨w.heap.size,0,none⟩)) b→b=w.heap.size:=by intro b hb;simp[ib,blk]at hb;exact hb.symm
 have hn':∀e1,h n=some e1→Goes e1 (.box t cs)∧Grown1 e1 (.box t cs):=fun e1 he=>by rw[hn]at he;cases he
 have s:=stp_new r hn' (e:= .box t cs) (v:= .pointer (some ⟨w.heap.size,0,none⟩)) (cs:=vs.toArray) (t:=t) (w1:=w) rfl rfl rfl rfl (m:=0) hb;refine⟨_,_,rel_new r hn' rfl rfl rfl rfl (m:=0) hb ⟨_,vs,upd_same,heap_alloc_new w _,All2.imp (fun _ _=>RdA.stp s) k⟩ (fun _ i _=>zL_ i) (fun i x _ hi=>plain_all k hp i x hi),⟨by rw[over_same];rfl,_,upd_same,rfl⟩,s⟩
def boxL (t:TypeId)(cs:List A)(n:Nat)(h:Hp):Option (V×List (Nat×Ent)×List Nat):=
 if(h n).isNone=true∧cs.all plainA=true then some (.a (.ptr n 0),[(n,.box t cs)],[n])else none
theorem OT_alloc {o:Oper}{t:TypeId}{zs:List A}{n:Nat}{v:V}{sets:List (Nat×Ent)}{rk:List Nat}(ho:o.op= .alloc t)(hz:zeroT P zv t=some zs)(hb:boxL t zs n h=some (v,sets,rk)):OT P o T h v sets rk:=by
 unfold boxL at hb;split at hb
 ·rename_i hc;injection hb with hb;injection hb with h1 h2;injection h2 with h2 h3;subst h1 h2 h3;intro T' h' γ M w a next Q hT hk hr ht hn
  obtain⟨i,z,e1,e2,k1⟩:=zeroT_ok (γ:=γ) (h:=h') (M:=M) (w:=w) zv_ok hz;have hfree:h' n=none:=(hk n (by simp)).trans (by simpa using hc.1);obtain⟨γ',M',k2,k3,k4⟩:=new_box hr hfree (t:=t) k1 hc.2;unfold Oper.wp;have:(execOp a.eval o).run P w= .ok (.value (.pointer (some ⟨w.heap.size,0,none⟩))) (w.alloc (.cells z.cells t)):=by
   simp[execOp,ho,Instr.alloc,zeroValue,typeInfo,e1,e2,newVar,newRow]
  rw[this];have e3:z.cells.toList.toArray=z.cells:=by simp
  rw[e3]at k2 k3 k4;exact hn _ γ' M' _ k2 k3 k4
 ·cases hb
theorem OT_box {o:Oper}{t:TypeId}{x:Operand}{vx v:V}{xs:List A}{n:Nat}{sets:List (Nat×Ent)}{rk:List Nat}(ho:o.op= .box t x)(hx:evL T x=some vx)(hc:cellsV vx=some xs)(hb:boxL t xs n h=some (v,sets,rk)):OT P o T h v sets rk:=by
 unfold boxL at hb;split at hb
 ·rename_i hcc;injection hb with hb;injection hb with h1 h2;injection h2 with h2 h3;subst h1 h2 h3;intro T' h' γ M w a next Q hT hk hr ht hn
  have hx':evL T' x=some vx:=by
   rw[←hx];exact evL_congr fun d hd=>hT d (by rw[ho];simp[Op.operands,hd])
  obtain⟨vs,k0,k1⟩:=cellsV_ok (evL_ok ht hx') hc;have hfree:h' n=none:=(hk n (by simp)).trans (by simpa using hcc.1);obtain⟨γ',M',k2,k3,k4⟩:=new_box hr hfree (t:=t) k1 hcc.2;unfold Oper.wp;have:(execOp a.eval o).run P w= .ok (.value (.pointer (some ⟨w.heap.size,0,none⟩))) (w.alloc (.cells vs.toArray t)):=by
   simp[execOp,ho,Instr.box,newVar,newRow,k0]
  rw[this];exact hn _ γ' M' _ k2 k3 k4
 ·cases hb
def storeL (P:Program)(t:TypeId)(h:Hp):V→V→Option (List (Nat×Ent)×List Nat)
 | .a (.ptr key off),vx=>match h key,sizeT P t,cellsV vx with
   |some (.box tb cs),some s,some xs=>if xs.length=s∧off+s≤cs.length∧xs.all plainA=true then some ([(key,.box tb (cs.take off++xs++cs.drop (off+s)))],[key])else none
   |_,_,_=>none
 |_,_=>none
theorem plain_one {x:A}{v:Value}(hx:RdA γ h M w x v)(hp:plainA x=true):v.oneCell'=true:=by
 cases x with
 |d x=>
  rcases rdD_slice hx with⟨u,rfl⟩|⟨_,_,_,e⟩
  ·have:=lit_inv hx;subst this;cases v<;>first|rfl|cases hp
  ·subst e;rfl
 |ptr=>obtain⟨_,g,_,e⟩:=hx;subst e;rfl
 |own=>
  rcases rdD_slice hx.1 with⟨u,e⟩|⟨_,_,_,e⟩
  ·cases e
  ·subst e;rfl
 |elt=>obtain⟨_,_,_,e,_⟩:=hx;subst e;rfl
 |fn=>obtain⟨_,_,e,_⟩:=hx;subst e;rfl
 |tab=>obtain⟨_,⟨_,_,_,e,_⟩,_⟩:=hx;subst e;rfl
 |mp=>obtain⟨_,_,_,e⟩:=hx;subst e;rfl
 |full=>obtain⟨_,_,e⟩:=hx;subst e;rfl
 |th=>obtain⟨_,⟨_,_,e⟩,_⟩:=hx;subst e;rfl
 |tp=>obtain⟨_,⟨_,e⟩,_⟩:=hx;subst e;rfl
 |row=>obtain⟨_,⟨_,_,_,e,_⟩,_⟩:=hx;subst e;rfl
 |rp=>obtain⟨_,⟨_,_,e⟩,_⟩:=hx;subst e;rfl
 |one=>obtain⟨_,⟨_,_,_,_,e,_⟩,_⟩:=hx;subst e;rfl
theorem set_box (r:Rel γ h M w){key g:Nat}{t:TypeId}{cs cs':List A}{vs vs':List Value}(hk:h key=some (.box t cs))(hg:γ key= .pointer (some ⟨g,0,none⟩))(hw:w.heap[g]? =some (.cells vs.toArray t (0,0)))
  (hw':w'.heap[g]? =some (.cells vs'.toArray t (0,0))) (ho:∀b,b≠g→w'.heap[b]? =w.heap[b]?) (h1:w'.os=w.os) (h2:w'.tape=w.tape) (h3:w'.output=w.output) (hs:w'.heap.size=w.heap.size)
  (k:All2 (RdA γ h M w) cs' vs') (hp:∀(i:Nat) (x:Value),vs'.toArray[i]? =some x→∀z:Int,x≠ .int .u32 z):
  Rel γ (over [(key,.box t cs')] h) M w'∧Stp γ h M w γ (over [(key,.box t cs')] h) M w':=by
 have hM:∀i,M g i:=fun i=>r.own key g i (by unfold Owns;rw[hk];simp[hg,ib,blk]);have hown:∀key' b i,Owns γ (over [(key,.box t cs')] h) key' b i↔Owns γ h key' b i:=by
  intro key' b i
  by_cases e:key'=key
  ·subst e;unfold Owns;rw[over_same,hk]
  ·exact owns_congr rfl (over_other e)
 have s:Stp γ h M w γ (over [(key,.box t cs')] h) M w':=by
  refine⟨h1,h2,h3,by omega,fun b i u k=> ?_,fun b hb hn=> ?_,fun b i k _=>k,fun key' b i k _=>⟨key',(hown _ _ _).1 k⟩,fun key' e he=> ?_⟩
  ·have hne:b≠g:=fun e=>k.1 (e▸hM i);exact⟨k.1,by rw[←k.2];exact World.cell?_of_block (a:=⟨b,i,none⟩) (ho b hne)⟩
  ·refine ho b fun e=>hn key 0 ?_;subst e;unfold Owns;rw[hk];simp[hg,ib,blk]
  ·by_cases e1:key'=key
   ·subst e1;rw[hk]at he;injection he with he;subst he;exact⟨_,over_same,trivial,.inl rfl⟩
   ·exact⟨e,by rw[over_other e1];exact he,Goes.refl _,.inl rfl⟩
 refine⟨⟨fun key' e he=> ?_,fun key' b i k=>r.own key' b i ((hown _ _ _).1 k),fun key1 key2 b l1 l2=> ?_,fun b i z hm=> ?_,fun b i hm=>by rw[hs];exact r.dom b i hm,r.glb.fx s.fx⟩,s⟩
 ·by_cases e1:key'=key
  ·subst e1;rw[over_same]at he;injection he with he;subst he;exact⟨g,vs',hg,hw',All2.imp (fun _ _=>RdA.stp s) k⟩
  ·rw[over_other e1]at he;refine EntR.stp s (r.ent key' e he) rfl fun hl b hb=>ho b fun e2=>e1 ?_;exact r.inj key' key b (by rw[he];exact hl) (by rw[hk];rfl) hb (by rw[hg,e2];rfl)
 ·have:∀k0,live (over [(key,.box t cs')] h k0)=true→live (h k0)=true:=by
   intro k0 hl
   by_cases e1:k0=key
   ·subst e1;rw[hk];rfl
   ·rwa [over_other e1]at hl
  exact r.inj key1 key2 b (this _ l1) (this _ l2)
 ·by_cases e1:b=g
  ·subst e1;intro h5;have:vs'.toArray[i]? =some (.int .u32 z):=by simpa [World.cell?,hw']using h5
   exact hp i _ this z rfl
  ·rw[World.cell?_of_block (w:=w) (a:=⟨b,i,none⟩) (ho b e1)];exact r.u32 b i z hm
theorem OT_store {o:Oper}{t:TypeId}{x y:Operand}{vx vy:V}{sets:List (Nat×Ent)}{rk:List Nat}(ho:o.op= .store t x y)(hx:evL T x=some vx)(hy:evL T y=some vy)(hs:storeL P t h vx vy=some (sets,rk)):OT P o T h (vl undef) sets rk:=by
 unfold storeL at hs;split at hs
 ·rename_i key off;split at hs
  ·rename_i tb cs s xs h1 h2 h3;split at hs
   ·rename_i hc;obtain⟨c1,c2,c3⟩:=hc;injection hs with hs;injection hs with e1 e2;subst e1 e2;intro T' h' γ M w a next Q hT hk hr ht hn
    have hx':evL T' x=some (.a (.ptr key off)):=by
     rw[←hx];exact evL_congr fun d hd=>hT d (by rw[ho];simp[Op.operands,hd])
    have hy':evL T' y=some vy:=by
     rw[←hy];exact evL_congr fun d hd=>hT d (by rw[ho];simp[Op.operands,hd])
    have hkey:=(hk key (by simp)).trans h1;obtain⟨_,g,k1,k2⟩:=evL_ok ht hx';obtain⟨us,k3,k4⟩:=cellsV_ok (evL_ok ht hy') h3;obtain⟨g',vs,k5,k6,k7⟩:=hr.ent key _ hkey;rw[k1]at k5;injection k5 with k5;injection k5 with k5;injection k5 with k5;subst k5;have hul:us.length=s:=by rw[←c1];exact k4.len.symm
    have hvl:=k7.len;have hone:∀v∈us,v.oneCell'=true:=by
     intro v hv;obtain⟨i,hi⟩:=List.mem_iff_getElem?.1 hv;have hlt:=(List.getElem?_eq_some_iff.1 hi).1;obtain⟨q,q1,q2⟩:=All2.get k4 (i:=i) (x:=xs[i]'(by omega)) (List.getElem?_eq_getElem _);rw[hi]at q1;injection q1 with q1;subst q1;exact plain_one q2 (List.all_eq_true.1 c3 _ (List.getElem_mem _))
    have hrun:=run_storeCells_at P g off tb us 0 vs.toArray w k6 (by simp;omega) hone;have k8:All2 (RdA γ h' M w) (cs.take off++xs++cs.drop (off+s)) (vs.take off++us++vs.drop (off+s)):=All2.app (All2.app (All2.take _ k7) k4) (All2.drop _ k7);simp only[Nat.add_zero,List.toList_toArray,hul]at hrun;have hpl:∀(i:Nat) (x:Value),(vs.take off++us++vs.drop (off+s)).toArray[i]? =some x→∀z:Int,x≠ .int .u32 z:=by
     intro i x hi;have hi':(vs.take off++us++vs.drop (off+s))[i]? =some x:=by simpa using hi
     rcases List.mem_append.1 (mG_ hi')with hm|hm
     ·rcases List.mem_append.1 hm with hm|hm
      ·obtain⟨j,hj⟩:=List.mem_iff_getElem?.1 (List.mem_of_mem_take hm);intro z e;refine hr.u32 g j z (hr.own key g j (by unfold Owns;rw[hkey];simp[k1,ib,blk])) ?_;simp[World.cell?,k6,hj,e]
      ·obtain⟨j,hj⟩:=List.mem_iff_getElem?.1 hm;have hlt:=(List.getElem?_eq_some_iff.1 hj).1;obtain⟨q,q1,q2⟩:=All2.get k4 (i:=j) (x:=xs[j]'(by omega)) (List.getElem?_eq_getElem _);rw[hj]at q1;injection q1 with q1;subst q1;exact plainA_u32 q2 (List.all_eq_true.1 c3 _ (List.getElem_mem _))
     ·obtain⟨j,hj⟩:=List.mem_iff_getElem?.1 (List.mem_of_mem_drop hm);intro z e;refine hr.u32 g j z (hr.own key g j (by unfold Owns;rw[hkey];simp[k1,ib,blk])) ?_;simp[World.cell?,k6,hj,e]
    obtain⟨r1,r2⟩:=set_box (w':=w.setRow g (vs.take off++us++vs.drop (off+s)).toArray) hr hkey k1 k6 (setRow_heap w g _ _ tb _ k6) (fun b hb=>setRow_other w g b _ hb) rfl rfl rfl (by simp) k8 hpl;unfold Oper.wp;have:(execOp a.eval o).run P w= .ok .skip (w.setRow g (vs.take off++us++vs.drop (off+s)).toArray):=by
     simp[execOp,ho,Instr.storeAt,k2,Instr.sureAddr,storeVar,sizeT_run h2,k3,hul,hrun]
    rw[this];exact hn undef γ M _ r1 (.lit _) r2
   ·cases hs
  ·cases hs
 ·cases hs
end
section
variable {γ γ':Gh} {h h':Hp} {M M':MS} {w w':World} {T T':Nat→Option V} {a:Act} {P:Program}
theorem ix_lt {i j n k:Nat}(hi:i<n)(hj:j<k):i*k+j<n*k:=by
 have:=Nat.mul_le_mul_right k (show i+1≤n from hi);rw[Nat.add_mul]at this;omega
theorem sl_cells {k:Nat}{xs:List (List D)}{ad:Option Addr}{n cap:Nat}(hx:RdD M w (.sl k xs) (.slice ad n cap))(hk0:0<k):
  xs.length=n∧n≤cap∧n≤1099511627776∧(∀(i:Nat) (row:List D),xs[i]? =some row→row.length=k)∧∃cells:List Value,cells.length=n*k∧(∀c∈cells,c.oneCell'=true)∧
   (0<n→∃b o,ad=some ⟨b,o,none⟩∧∀(q:Nat) u,cells[q]? =some u→Fx M w b (o+q) u)∧
   ∀(i:Nat) (row:List D) (j:Nat) (d:D),xs[i]? =some row→row[j]? =some d→∃u,cells[i*k+j]? =some u∧RdD M w d u:=by
 cases hx with
 |sl k xs ad cap vs hc hl h0 hk h1 hr=>
  have hget:∀q,q<xs.length*k→((List.range (xs.length*k)).map fun q=>vs (q/k) (q % k))[q]? =some (vs (q/k) (q % k)):=by
   intro q hq;rw[List.getElem?_map,List.getElem?_range hq];rfl
  refine⟨rfl,hc,hl,hk,(List.range (xs.length*k)).map fun q=>vs (q/k) (q % k),by simp,fun c hm=> ?_,fun hp=> ?_,fun i row j d hi hj=> ?_⟩
  ·obtain⟨q,_,rfl⟩:=List.mem_map.1 hm;exact h1 _ _
  ·obtain⟨b,o,e,hf⟩:=h0 hp;refine⟨b,o,e,fun q u hq=> ?_⟩;have hlt:q<xs.length*k:=by have:=(List.getElem?_eq_some_iff.1 hq).1;simpa using this
   rw[hget q hlt]at hq;injection hq with hq;subst hq;have hi:q/k<xs.length:=(Nat.div_lt_iff_lt_mul hk0).2 hlt;have hrow:xs[q/k]? =some xs[q/k]:=List.getElem?_eq_getElem hi;have hj:q % k<xs[q/k].length:=by rw[hk _ _ hrow];exact Nat.mod_lt _ hk0
   have:=hf (q/k) _ (q % k) _ hrow (List.getElem?_eq_getElem hj)
   rwa [Nat.add_assoc,show q/k*k+q % k=q from by rw[Nat.mul_comm];exact Nat.div_add_mod q k]at this
  ·have hi':=(List.getElem?_eq_some_iff.1 hi).1;have hj':j<k:=by rw[←hk i row hi];exact(List.getElem?_eq_some_iff.1 hj).1
   refine⟨_,hget _ (ix_lt hi' hj'),?_⟩;have e1:(i*k+j)/k=i:=by rw[Nat.mul_comm,Nat.mul_add_div hk0,Nat.div_eq_of_lt hj'];rfl
   have e2:(i*k+j) % k=j:=by rw[Nat.mul_comm,Nat.mul_add_mod,Nat.mod_eq_of_lt hj']
   rw[e1,e2];exact hr i row j d hi hj
theorem sl_of {k:Nat}{xs:List (List D)}{ad:Option Addr}{cap:Nat}{cells:List Value}(hc:xs.length≤cap)(hl:xs.length≤1099511627776)(hk:∀(i:Nat) (row:List D),xs[i]? =some row→row.length=k)
  (hcl:cells.length=xs.length*k) (h1:∀c∈cells,c.oneCell'=true) (h0:0<xs.length→∃b o,ad=some ⟨b,o,none⟩∧∀(q:Nat) u,cells[q]? =some u→Fx M w b (o+q) u)
  (hr:∀(i:Nat) (row:List D) (j:Nat) (d:D),xs[i]? =some row→row[j]? =some d→∃u,cells[i*k+j]? =some u∧RdD M w d u):RdD M w (.sl k xs) (.slice ad xs.length cap):=by
 refine .sl k xs ad cap (fun i j=>(cells[i*k+j]?).getD (.bool true)) hc hl (fun hp=> ?_) hk (fun i j=> ?_) (fun i row j d hi hj=> ?_)
 ·obtain⟨b,o,e,hf⟩:=h0 hp;refine⟨b,o,e,fun i row j d hi hj=> ?_⟩;obtain⟨u,hu,_⟩:=hr i row j d hi hj;have:=hf _ _ hu;rw[hu]
  rwa [←Nat.add_assoc]at this
 ·cases hq:cells[i*k+j]? with
  |none=>rfl
  |some u=>exact h1 u (mG_ hq)
 ·obtain⟨u,hu,h2⟩:=hr i row j d hi hj;rw[hu];exact h2
theorem rows_app {k:Nat}{xs ys:List (List D)}{cx cy:List Value}(hl:cx.length=xs.length*k)(hkx:∀(i:Nat) (row:List D),xs[i]? =some row→row.length=k)
  (hx:∀(i:Nat) (row:List D) (j:Nat) (d:D),xs[i]? =some row→row[j]? =some d→∃u,cx[i*k+j]? =some u∧RdD M w d u)
  (hy:∀(i:Nat) (row:List D) (j:Nat) (d:D),ys[i]? =some row→row[j]? =some d→∃u,cy[i*k+j]? =some u∧RdD M w d u):
  ∀(i:Nat) (row:List D) (j:Nat) (d:D),(xs++ys)[i]? =some row→row[j]? =some d→∃u,(cx++cy)[i*k+j]? =some u∧RdD M w d u:=by
 intro i row j d hi hj
 by_cases hlt:i<xs.length
 ·rw[List.getElem?_append_left hlt]at hi;obtain⟨u,h1,h2⟩:=hx i row j d hi hj;exact⟨u,by rw[List.getElem?_append_left (List.getElem?_eq_some_iff.1 h1).1];exact h1,h2⟩
 ·rw[List.getElem?_append_right (by omega)]at hi;obtain⟨u,h1,h2⟩:=hy _ row j d hi hj;refine⟨u,?_,h2⟩;have e:i*k+j=cx.length+((i-xs.length)*k+j):=by
   rw[hl,←Nat.add_assoc,←Nat.add_mul];congr 2;omega
  rw[e,List.getElem?_append_right (by omega),Nat.add_sub_cancel_left];exact h1
theorem rows_len {k:Nat}{xs ys:List (List D)}(hx:∀(i:Nat) (row:List D),xs[i]? =some row→row.length=k)(hy:∀(i:Nat) (row:List D),ys[i]? =some row→row.length=k):
  ∀(i:Nat) (row:List D),(xs++ys)[i]? =some row→row.length=k:=by
 intro i row hi;rcases List.mem_append.1 (mG_ hi)with hm|hm
 ·obtain⟨j,hj⟩:=List.mem_iff_getElem?.1 hm;exact hx j row hj
 ·obtain⟨j,hj⟩:=List.mem_iff_getElem?.1 hm;exact hy j row hj
theorem own_moved (r:Rel γ h M w){key:Nat}{e:TypeId}{k n:Nat}{olds:Option Ent}(hkey:h key=olds)(hold:olds=none∨∃n0,olds=some (.arr e k n0)∧n0<n){xs:List (List D)}{cells:List Value}{cap:Nat}{cs:Array Value}(hk0:0<k)
  (hn:xs.length=n) (hc:n≤cap) (hcm:cap≤maxLen) (hl:n≤1099511627776) (hk:∀(i:Nat) (row:List D),xs[i]? =some row→row.length=k) (hcl:cells.length=n*k) (h1:∀c∈cells,c.oneCell'=true)
  (hr:∀(i:Nat) (row:List D) (j:Nat) (d:D),xs[i]? =some row→row[j]? =some d→∃u,cells[i*k+j]? =some u∧RdD M w d u)
  (hcs:cs.size=cap*k) (htk:cs.toList.take (n*k)=cells) (hu:∀(i:Nat) (x:Value),n*k≤i→cs[i]? =some x→∀z:Int,x≠ .int .u32 z) {w1:World} (h0:w1.heap=w.heap) (h4:w1.os=w.os) (h2:w1.tape=w.tape) (h3:w1.output=w.output):
  ∃γ' M',Rel γ' (over [(key,.arr e k n)] h) M' (w1.alloc (.cells cs e))∧RdV γ' (over [(key,.arr e k n)] h) M' (w1.alloc (.cells cs e)) (.a (.own key k xs)) (.slice (some ⟨w.heap.size,0,none⟩) n cap)∧
   Stp γ h M w γ' (over [(key,.arr e k n)] h) M' (w1.alloc (.cells cs e)):=by
 have hn1:∀e1,h key=some e1→Goes e1 (.arr e k n)∧Grown1 e1 (.arr e k n):=by
  intro e1 he;rcases hold with h5|⟨n0,h5,h6⟩
  ·rw[hkey,h5]at he;cases he
  ·rw[hkey,h5]at he;injection he with he;subst he;exact⟨Nat.le_of_lt h6,h6⟩
 have hb:∀b,ib (.slice (some ⟨w.heap.size,0,none⟩) n cap) b→b=w.heap.size:=by intro b hb;simp[ib,blk]at hb;exact hb.symm
 have s:=stp_new r hn1 (v:= .slice (some ⟨w.heap.size,0,none⟩) n cap) (cs:=cs) (t:=e) h0 h4 h2 h3 (m:=n*k) hb;have hcell:∀(q:Nat) (u:Value),cells[q]? =some u→cs[q]? =some u:=by
  intro q u hq;have hlt:=(List.getElem?_eq_some_iff.1 hq).1;rw[←htk,List.getElem?_take,if_pos (by omega)]at hq;simpa using hq
 have hnew:∀(q:Nat) (u:Value),cells[q]? =some u→Fx (fun b i=>M b i∨b=w.heap.size∧n*k≤i) (w1.alloc (.cells cs e)) w.heap.size q u:=by
  intro q u hq;have hlt:=(List.getElem?_eq_some_iff.1 hq).1;refine⟨fun hm=> ?_,?_⟩
  ·rcases hm with hm|hm
   ·have:=r.dom _ _ hm;omega
   ·omega
  ·rw[←h0,World.cell?_alloc_new];exact hcell q u hq
 have hrd:RdD (fun b i=>M b i∨b=w.heap.size∧n*k≤i) (w1.alloc (.cells cs e)) (.sl k xs) (.slice (some ⟨w.heap.size,0,none⟩) n cap):=by
  subst hn;refine sl_of hc hl hk hcl h1 (fun _=>⟨_,0,rfl,fun q u hq=>by rw[Nat.zero_add];exact hnew q u hq⟩) fun i row j d hi hj=> ?_;obtain⟨u,hu1,hu2⟩:=hr i row j d hi hj;exact⟨u,hu1,RdD.fx s.fx hu2⟩
 refine⟨_,_,rel_new r hn1 h0 h4 h2 h3 (m:=n*k) hb ⟨cells,hcl,.inr ⟨w.heap.size,cap,cs,upd_same,zL_ _,?_,hc,hcm,hcs,htk⟩⟩ (fun b i ho=> ?_) hu,⟨hrd,by rw[over_same];rfl,fun e1 k1 n1 he=> ?_⟩,s⟩
 ·rw[←h0];exact heap_alloc_new w1 _
 ·unfold Owns at ho;rw[over_same]at ho;exact ho.2
 ·rw[over_same]at he;injection he with he;injection he with _ _ he;subst he;exact⟨by omega,fun _=>upd_same.symm⟩
theorem own_room (r:Rel γ h M w){key g:Nat}{e:TypeId}{k n m cap:Nat}(hkey:h key=some (.arr e k n))(hg:γ key= .slice (some ⟨g,0,none⟩) n cap){xs ys:List (List D)}{cx cy:List Value}{cur:Array Value}(hk0:0<k)(hw:w.heap[g]? =some (.cells cur e (0,0)))
  (hn:xs.length=n) (hm:ys.length=m) (hm0:0<m) (hc:n+m≤cap) (hcm:cap≤maxLen) (hl:n+m≤1099511627776) (hkx:∀(i:Nat) (row:List D),xs[i]? =some row→row.length=k) (hky:∀(i:Nat) (row:List D),ys[i]? =some row→row.length=k)
  (hcx:cx.length=n*k) (hcy:cy.length=m*k) (h1x:∀c∈cx,c.oneCell'=true) (h1y:∀c∈cy,c.oneCell'=true)
  (hrx:∀(i:Nat) (row:List D) (j:Nat) (d:D),xs[i]? =some row→row[j]? =some d→∃u,cx[i*k+j]? =some u∧RdD M w d u)
  (hry:∀(i:Nat) (row:List D) (j:Nat) (d:D),ys[i]? =some row→row[j]? =some d→∃u,cy[i*k+j]? =some u∧RdD M w d u)
  (hcs:cur.size=cap*k) (htk:cur.toList.take (n*k)=cx) (hmx:∀q,q<n*k→¬M g q) {w':World} (hw':w'=w.setRow g (cur.toList.take (n*k)++cy++cur.toList.drop (n*k+cy.length)).toArray):
  ∃γ' M',Rel γ' (over [(key,.arr e k (n+m))] h) M' w'∧RdV γ' (over [(key,.arr e k (n+m))] h) M' w' (.a (.own key k (xs++ys))) (.slice (some ⟨g,0,none⟩) (n+m) cap)∧
   Stp γ h M w γ' (over [(key,.arr e k (n+m))] h) M' w':=by
 have hnm:(n+m)*k≤cap*k:=Nat.mul_le_mul_right k hc;have hadd:(n+m)*k=n*k+m*k:=Nat.add_mul n m k;obtain⟨C,hC⟩:∃C:List Value,C=cur.toList.take (n*k)++cy++cur.toList.drop (n*k+cy.length):=⟨_,rfl⟩;rw[←hC]at hw';have hclen:C.length=cur.size:=by
  rw[hC];simp;omega
 have hhead:w'.heap[g]? =some (.cells C.toArray e (0,0)):=by rw[hw'];exact setRow_heap w g cur _ e _ hw
 have hother:∀b,b≠g→w'.heap[b]? =w.heap[b]?:=fun b hb=>by rw[hw'];exact setRow_other w g b _ hb
 have hlow:∀i,i<n*k→C[i]? =cur[i]?:=by
  intro i hi;rw[hC,List.append_assoc,List.getElem?_append_left (by simp;omega),List.getElem?_take,if_pos hi];simp
 have hhigh:∀i,(n+m)*k≤i→C[i]? =cur[i]?:=by
  intro i hi;rw[hC,List.getElem?_append_right (by simp;omega),List.getElem?_drop];simp only[List.length_append,List.length_take,Array.length_toList];rw[show n*k+cy.length+(i-(min (n*k) cur.size+cy.length))=i from by omega];simp
 have htake:C.take ((n+m)*k)=cx++cy:=by
  rw[hC,htk,show(n+m)*k=(cx++cy).length from by simp;omega];exact List.take_left
 have hM:∀i,n*k≤i→M g i:=fun i hi=>r.own key g i (by unfold Owns;rw[hkey];simp[hg,ib,blk];exact hi);have hfx:∀b i v,Fx M w b i v→Fx (fun b i=>M b i∧¬(b=g∧i<(n+m)*k)) w' b i v:=by
  intro b i v hv;refine⟨fun hq=>hv.1 hq.1,?_⟩
  by_cases e1:b=g
  ·subst e1;have hi:i<n*k:=by
    rcases Nat.lt_or_ge i (n*k)with h5|h5
    ·exact h5
    ·exact absurd (hM i h5) hv.1
   have h5:=hv.2;simp only[World.cell?,hw]at h5;simp only[World.cell?,hhead];simpa [hlow i hi]using h5
  ·rw[←hv.2];exact World.cell?_of_block (a:=⟨b,i,none⟩) (hother b e1)
 have hgo:∀key' b i,Owns (upd γ key (.slice (some ⟨g,0,none⟩) (n+m) cap)) (over [(key,.arr e k (n+m))] h) key' b i→Owns γ h key' b i∧¬(b=g∧i<(n+m)*k):=by
  intro key' b i ho
  by_cases e1:key'=key
  ·subst e1;unfold Owns at ho;rw[over_same,upd_same]at ho;obtain⟨h5,h6⟩:=ho;simp[ib,blk]at h5;refine⟨?_,by omega⟩;unfold Owns;rw[hkey];exact⟨by rw[hg,←h5];rfl,by omega⟩
  ·have h5:=(owns_congr (upd_other e1) (over_other e1)).1 ho;refine⟨h5,fun h6=>e1 ?_⟩;obtain⟨h7,h8⟩:=owns_live h5;exact r.inj key' key b h7 (by rw[hkey];rfl) h8 (by rw[hg,h6.1];rfl)
 have s:Stp γ h M w (upd γ key (.slice (some ⟨g,0,none⟩) (n+m) cap)) (over [(key,.arr e k (n+m))] h) (fun b i=>M b i∧¬(b=g∧i<(n+m)*k)) w':=by
  refine⟨by rw[hw'];rfl,by rw[hw'];rfl,by rw[hw'];rfl,by rw[hw'];simp,hfx,fun b hb hno=>hother b fun e1=> ?_,fun b i hm hno=>⟨hm,fun hq=> ?_⟩,fun key' b i ho hb=>⟨key',(hgo key' b i ho).1⟩,fun key' e1 he=> ?_⟩
  ·refine hno key (n*k) ?_;unfold Owns;rw[hkey];subst e1;simp[hg,ib,blk]
  ·obtain⟨rfl,hq⟩:=hq;rcases Nat.lt_or_ge i (n*k)with h5|h5
   ·exact absurd hm (hmx i h5)
   ·exact hno key (by unfold Owns;rw[hkey];simp[hg,ib,blk];exact h5)
  ·by_cases e2:key'=key
   ·subst e2;rw[hkey]at he;injection he with he;subst he;exact⟨_,over_same,Nat.le_add_right _ _,.inr (.inl (Nat.lt_add_of_pos_right hm0))⟩
   ·exact⟨e1,by rw[over_other e2];exact he,Goes.refl _,.inl (upd_other e2)⟩
 have hnew:∀(q:Nat) (u:Value),(cx++cy)[q]? =some u→Fx (fun b i=>M b i∧¬(b=g∧i<(n+m)*k)) w' g q u:=by
  intro q u hq;have hlt:=(List.getElem?_eq_some_iff.1 hq).1;simp only[List.length_append]at hlt;refine⟨fun h5=>h5.2 ⟨rfl,by omega⟩,?_⟩;rw[←htake,List.getElem?_take,if_pos (by omega)]at hq;simp[World.cell?,hhead,hq]
 have hlen:(xs++ys).length=n+m:=by simp[hn,hm]
 have hrd:RdD (fun b i=>M b i∧¬(b=g∧i<(n+m)*k)) w' (.sl k (xs++ys)) (.slice (some ⟨g,0,none⟩) (n+m) cap):=by
  suffices h9:RdD (fun b i=>M b i∧¬(b=g∧i<(n+m)*k)) w' (.sl k (xs++ys)) (.slice (some ⟨g,0,none⟩) (xs++ys).length cap) by rw[hlen]at h9;exact h9
  refine sl_of (cells:=cx++cy) (by omega) (by omega) (rows_len hkx hky) (by simp[hcx,hcy,hn,hm,Nat.add_mul]) (fun c hcc=> ?_) (fun _=>⟨g,0,rfl,fun q u hq=>by rw[Nat.zero_add];exact hnew q u hq⟩) fun i row j d hi hj=> ?_
  ·rcases List.mem_append.1 hcc with h5|h5
   ·exact h1x c h5
   ·exact h1y c h5
  ·obtain⟨u,hu1,hu2⟩:=rows_app (by rw[hcx,hn]) hkx hrx hry i row j d hi hj;exact⟨u,hu1,RdD.fx hfx hu2⟩
 refine⟨_,_,⟨fun key' e1 he=> ?_,fun key' b i ho=> ?_,fun key1 key2 b l1 l2 b1 b2=> ?_,fun b i z hmm=> ?_,fun b i hmm=>by rw[hw'];simpa using r.dom b i hmm.1,r.glb.fx s.fx⟩,⟨hrd,by rw[over_same];rfl,fun e1 k1 n1 he=> ?_⟩,s⟩
 ·by_cases e2:key'=key
  ·subst e2;rw[over_same]at he;injection he with he;subst he;refine⟨cx++cy,by simp[hcx,hcy,Nat.add_mul],.inr ⟨g,cap,C.toArray,upd_same,zL_ _,hhead,hc,hcm,by simpa [hclen]using hcs,by simpa using htake⟩⟩
  ·rw[over_other e2]at he;refine EntR.stp s (r.ent key' e1 he) (upd_other e2) fun hl b hb=>hother b fun e3=>e2 ?_;exact r.inj key' key b (by rw[he];exact hl) (by rw[hkey];rfl) hb (by rw[hg,e3];rfl)
 ·obtain⟨h5,h6⟩:=hgo key' b i ho;exact⟨r.own key' b i h5,h6⟩
 ·have hl:∀k0,live (over [(key,.arr e k (n+m))] h k0)=true→live (h k0)=true:=by
   intro k0 hl
   by_cases e1:k0=key
   ·subst e1;rw[hkey];rfl
   ·rwa [over_other e1]at hl
  have hbk:∀k0,ib (upd γ key (.slice (some ⟨g,0,none⟩) (n+m) cap) k0) b→ib (γ k0) b:=by
   intro k0 hb
   by_cases e1:k0=key
   ·subst e1;rw[upd_same]at hb;rw[hg];exact hb
   ·rwa [upd_other e1]at hb
  exact r.inj key1 key2 b (hl _ l1) (hl _ l2) (hbk _ b1) (hbk _ b2)
 ·by_cases e1:b=g
  ·subst e1;have h5:(n+m)*k≤i:=by
    rcases Nat.lt_or_ge i ((n+m)*k)with h6|h6
    ·exact absurd ⟨rfl,h6⟩ hmm.2
    ·exact h6
   have h6:=r.u32 b i z hmm.1;simp only[World.cell?,hw]at h6;simp only[World.cell?,hhead];simpa [hhigh i h5]using h6
  ·rw[World.cell?_of_block (w:=w) (a:=⟨b,i,none⟩) (hother b e1)];exact r.u32 b i z hmm.1
 ·rw[over_same]at he;injection he with he;injection he with _ _ he;subst he;exact⟨by omega,fun _=>upd_same.symm⟩
def appOk (P:Program)(e:TypeId)(k:Nat):Bool:=
 match P.info? e,zeroT P zb e with
 |some i,some zs=>decide (0<k)&&decide (i.size=k)&&decide (i.bytes≤2048)&&decide (zs.length=k)&&zs.all plainA
 |_,_=>false
theorem appOk_ok {e:TypeId}{k:Nat}(ho:appOk P e k=true):∃i z,P.info? e=some i∧i.zero=some z∧0<k∧i.size=k∧i.bytes≤2048∧z.cells.size=k∧∀x,x∈z.cells.toList→∀q:Int,x≠ .int .u32 q:=by
 unfold appOk at ho;split at ho
 ·rename_i i zs h1 h2;obtain⟨i',z,e1,e2,k1⟩:=zeroT_ok (γ:=fun _=>undef) (h:=fun _=>none) (M:=fun _ _=>False) (w:=default) zb_ok h2;rw[h1]at e1;injection e1 with e1;subst e1;simp only[Bool.and_eq_true,decide_eq_true_eq]at ho;obtain⟨⟨⟨⟨o1,o2⟩,o3⟩,o4⟩,o5⟩:=ho;refine⟨i,z,h1,e2,o1,o2,o3,by rw[←o4,k1.len];simp,fun x hx=> ?_⟩;obtain⟨j,hj⟩:=List.mem_iff_getElem?.1 hx;exact plain_all k1 o5 j x (by simpa using hj)
 ·cases ho
theorem zeroCells_u32 {z:Array Value}{n:Nat}(hz:0<z.size)(hu:∀x,x∈z.toList→∀q:Int,x≠ .int .u32 q):∀(i:Nat) (x:Value),(Builtin.zeroCells z n)[i]? =some x→∀q:Int,x≠ .int .u32 q:=by
 intro i x hi;simp only[Builtin.zeroCells]at hi;have hlt:=(Array.getElem?_eq_some_iff.1 hi).1;simp only[Array.size_map,Array.size_range]at hlt;have hx:x=z[i % z.size]!:=by
  simp[Array.getElem?_map,hlt]at hi;exact hi.symm
 refine hu x ?_;rw[hx];have hm:i % z.size<z.size:=Nat.mod_lt _ hz;rw[getElem!_pos z _ hm];exact Array.mem_toList_iff.2 (Array.getElem_mem hm)
theorem run_append_zero {t ty e:TypeId}{i:TypeInfo}(ht:P.underlying t=some (.slice e))(hi:P.info? e=some i){v:Value}{n:Nat}{xs:List Value}(hown:w.ownsRow 0 e i.size v n xs)(ad:Option Addr)(c:Nat):
  (Builtin.append_ #[t,t] ty #[v,.slice ad 0 c]).run P w= .ok v w:=by
 rcases hown.2 with⟨rfl,rfl⟩|⟨g,cap,cur,rfl,_,_,hnc,_⟩
 ·cases ad<;>simp[Builtin.append_,run_underlying ht,sizeOf,typeInfo,hi,Builtin.lenOf,Builtin.firstCells,loadCells,loadCellsFrom]
 ·cases ad<;>simp[Builtin.append_,run_underlying ht,sizeOf,typeInfo,hi,Builtin.lenOf,Builtin.firstCells,hnc,storeCells,loadCells,loadCellsFrom]
def yOf (k:Nat):V→Option (List (List D))
 | .a (.d (.lit (.slice _ 0 _)))=>some []
 |v=>match slOf v with
  |some (k',ys)=>if k'=k then some ys else none
  |none=>none
theorem yOf_ok {k:Nat}{v:V}{r:Value}(hv:RdV γ h M w v r){ys:List (List D)}(hy:yOf k v=some ys):RdD M w (.sl k ys) r:=by
 unfold yOf at hy;split at hy
 ·injection hy with hy;subst hy;have:=lit_inv hv;subst this;exact .sl k [] _ _ (fun _ _=> .bool false) (zL_ _) (zL_ _) (fun h0=>absurd h0 (by simp)) (fun i row hi=>by simp at hi) (fun _ _=>rfl) (fun i row j d hi=>by simp at hi)
 ·split at hy
  ·rename_i k' ys' h1;split at hy
   ·rename_i hk;subst hk;injection hy with hy;subst hy;exact slOf_ok hv h1
   ·cases hy
  ·cases hy
def appL (P:Program)(t:TypeId)(h:Hp)(n:Nat):V→V→Option (V×List (Nat×Ent)×List Nat)
 | .a (.own key k xs),vy=>match elemT P t,h key,yOf k vy with
   |some (e,k'),some (.arr e' k'' n0),some ys=>
    if k'=k∧k''=k∧e'=e∧n0=xs.length∧appOk P e k=true∧xs.length+ys.length≤68719476736 then some (.a (.own key k (xs++ys)),[(key,.arr e k (xs.length+ys.length))],[key])else none
   |_,_,_=>none
 | .a (.d (.lit (.slice none 0 0))),vy=>match elemT P t,(h n).isNone with
   |some (e,k),true=>match yOf k vy with
    |some ys=>if appOk P e k=true∧ys.length≤68719476736 then some (.a (.own n k ys),[(n,.arr e k ys.length)],[n])else none
    |none=>none
   |_,_=>none
 |_,_=>none
theorem rows0 {k:Nat}:∀(i:Nat) (row:List D) (j:Nat) (d:D),([]:List (List D))[i]? =some row→row[j]? =some d→∃u,([]:List Value)[i*k+j]? =some u∧RdD M w d u:=by
 intro i row j d hi;simp at hi
theorem new_nil (r:Rel γ h M w){key:Nat}(hn:h key=none)(e:TypeId)(k:Nat):
  Rel (upd γ key (.slice none 0 0)) (over [(key,.arr e k 0)] h) M w∧Stp γ h M w (upd γ key (.slice none 0 0)) (over [(key,.arr e k 0)] h) M w:=by
 have hno:∀b i,¬Owns (upd γ key (.slice none 0 0)) (over [(key,.arr e k 0)] h) key b i:=by
  intro b i ho;have:=(owns_live ho).2;rw[upd_same]at this;cases this
 have s:Stp γ h M w (upd γ key (.slice none 0 0)) (over [(key,.arr e k 0)] h) M w:=by
  refine⟨rfl,rfl,rfl,lR_ _,fun _ _ _ k=>k,fun _ _ _=>rfl,fun _ _ k _=>k,fun key' b i ho _=> ?_,fun key' e' he=> ?_⟩
  ·by_cases e1:key'=key
   ·subst e1;exact absurd ho (hno b i)
   ·exact⟨key',(owns_congr (upd_other e1) (over_other e1)).1 ho⟩
  ·have e1:key'≠key:=by intro e1;subst e1;rw[hn]at he;cases he
   exact⟨e',by rw[over_other e1];exact he,Goes.refl _,.inl (upd_other e1)⟩
 refine⟨⟨fun key' e' he=> ?_,fun key' b i ho=> ?_,fun key1 key2 b l1 l2 b1 b2=> ?_,r.u32,r.dom,r.glb⟩,s⟩
 ·by_cases e1:key'=key
  ·subst e1;rw[over_same]at he;injection he with he;subst he;exact⟨[],by rw[upd_same];exact World.ownsRow_nil w 0 e k⟩
  ·rw[over_other e1]at he;exact EntR.stp s (r.ent key' e' he) (upd_other e1) fun _ _ _=>rfl
 ·by_cases e1:key'=key
  ·subst e1;exact absurd ho (hno b i)
  ·exact r.own key' b i ((owns_congr (upd_other e1) (over_other e1)).1 ho)
 ·have e1:key1≠key:=by intro e1;subst e1;rw[upd_same]at b1;cases b1
  have e2:key2≠key:=by intro e1;subst e1;rw[upd_same]at b2;cases b2
  rw[over_other e1]at l1;rw[over_other e2]at l2;rw[upd_other e1]at b1;rw[upd_other e2]at b2;exact r.inj key1 key2 b l1 l2 b1 b2
theorem over_id {key:Nat}{e:Ent}(hk:h key=some e):over [(key,e)] h=h:=by
 funext k
 by_cases e1:k=key
 ·subst e1;rw[over_same,hk]
 ·exact over_other e1
theorem app_run {t ty e:TypeId}{k n m:Nat}{key:Nat}{xs ys:List (List D)}{vx vy:Value}{olds:Option Ent}(r:Rel γ h M w)(hkey:h key=olds)(ht:P.underlying t=some (.slice e))(hok:appOk P e k=true)
  (hold:(olds=some (.arr e k n)∧γ key=vx)∨(olds=none∧n=0∧vx= .slice none 0 0)) (hx:RdD M w (.sl k xs) vx) (hn:xs.length=n) (hy:RdD M w (.sl k ys) vy) (hm:ys.length=m) (hb:n+m≤68719476736):
  ∃v' w' γ' M',(Builtin.append_ #[t,t] ty #[vx,vy]).run P w= .ok v' w'∧Rel γ' (over [(key,.arr e k (n+m))] h) M' w'∧RdV γ' (over [(key,.arr e k (n+m))] h) M' w' (.a (.own key k (xs++ys))) v'∧
   Stp γ h M w γ' (over [(key,.arr e k (n+m))] h) M' w':=by
 obtain⟨i,z,hi,hz,hk0,hs,hby,hzs,hzu⟩:=appOk_ok hok;subst hs;obtain⟨ay,my,cy',rfl⟩:∃a n c,vy= .slice a n c:=by
  rcases rdD_slice hy with⟨_,e⟩|h5
  ·cases e
  ·exact h5
 obtain⟨l1,l2,l3,hky,cy,hcy,h1y,hfy,hry⟩:=sl_cells hy hk0;rw[hm]at l1;subst l1;have hown:∃cx,w.ownsRow 0 e i.size vx n cx:=by
  rcases hold with⟨h5,h6⟩|⟨h5,h6,h7⟩
  ·obtain⟨cx,hc⟩:=r.ent key _ (hkey.trans h5);rw[h6]at hc;exact⟨cx,hc⟩
  ·exact⟨[],by rw[h6,h7];exact World.ownsRow_nil w 0 e i.size⟩
 obtain⟨cx,hown⟩:=hown
 by_cases hm0:m=0
 ·subst hm0;have hys:ys=[]:=List.eq_nil_of_length_eq_zero hm;subst hys;have hr:=run_append_zero (P:=P) (ty:=ty) ht hi hown ay cy';rw[Nat.add_zero,List.append_nil];rcases hold with⟨h5,h6⟩|⟨h5,h6,h7⟩
  ·have hh:=hkey.trans h5;rw[over_id hh];refine⟨vx,w,γ,M,hr,r,⟨hx,by rw[hh];rfl,fun e1 k1 n1 he=> ?_⟩,Stp.refl _ _ _ _⟩;rw[hh]at he;injection he with he;injection he with _ _ he;subst he;exact⟨by omega,fun _=>h6.symm⟩
  ·obtain⟨q1,q2⟩:=new_nil r (hkey.trans h5) e i.size;subst h6 h7;refine⟨_,w,_,M,hr,q1,⟨hx,by rw[over_same];rfl,fun e1 k1 n1 he=> ?_⟩,q2⟩;rw[over_same]at he;injection he with he;injection he with _ _ he;subst he;exact⟨by omega,fun _=>upd_same.symm⟩
 ·obtain⟨b,o,rfl,hfz⟩:=hfy (by omega);have hnews:∀j v,cy[j]? =some v→w.cell? ((⟨b,o,none⟩:Addr).add j)=some v:=fun j v hj=>by rw[Addr.add_lit];exact(hfz j v hj).2
  have hmax:n+m≤maxLen:=by simp[maxLen];omega
  rcases hown.2 with⟨rfl,h0⟩|⟨g,cap,cur,rfl,_,hg,hnc,hcm,hcs,htk⟩
  ·subst h0;have hxs:xs=[]:=List.eq_nil_of_length_eq_zero hn;subst hxs
   have hr:=run_append_nil (P:=P) w t ty e i z ht hi hz ⟨b,o,none⟩ m cy' cy hcy hnews (by omega) (by omega) (by
    have:=Nat.mul_le_mul (show m≤68719476736 by omega) hby;omega)
   have hge:=grownCap_ge w m 0 e;obtain⟨γ',M',q1,q2,q3⟩:=own_moved (w1:=w.drew) r (key:=key) (e:=e) (k:=i.size) (n:=0+m) (xs:=[]++ys) (cells:=cy) (cap:=grownCap w m 0 e) (cs:=cy.toArray++Builtin.zeroCells z.cells (grownCap w m 0 e-m)) hkey
    (by rcases hold with⟨h5,_⟩|⟨h5,_⟩
        ·exact .inr ⟨0,h5,by omega⟩
        ·exact .inl h5) hk0 (by simpa using hm) (by omega) (grownCap_le_maxLen w m 0 e (by omega)) (by omega) hky (by simpa using hcy) h1y hry
    (by simp[size_zeroCells,hcy,hzs,←Nat.add_mul];congr 1;omega) (by simp[←hcy]) (fun j x hj hx=>by
     rw[Nat.zero_add]at hj;rw[Array.getElem?_append_right (by simp[hcy];omega)]at hx;exact zeroCells_u32 (by omega) hzu _ x hx) rfl rfl rfl rfl
   rw[Nat.zero_add]at q1 q2 q3;rw[Nat.zero_add];exact⟨_,_,γ',M',hr,q1,q2,q3⟩
  ·obtain⟨lx1,lx2,lx3,hkx,cx',hcx,h1x,hfx,hrx⟩:=sl_cells hx hk0;have hkk:olds=some (.arr e i.size n)∧γ key= .slice (some ⟨g,0,none⟩) n cap:=by
    rcases hold with h5|⟨_,_,h5⟩
    ·exact h5
    ·cases h5
   have hcc:cx'=cx:=by
    refine List.ext_getElem? fun q=> ?_
    by_cases hq:q<n*i.size
    ·have h6:cx'[q]? =some (cx'[q]'(by omega)):=List.getElem?_eq_getElem _;have hn0:0<n:=by
      rcases eP_ n with h0|h0
      ·subst h0;omega
      ·exact h0
     obtain⟨b2,o2,e2,hf2⟩:=hfx hn0;injection e2 with e2;injection e2 with e2 e3 _;subst e2 e3;have h7:=(hf2 q _ h6).2;rw[Nat.zero_add]at h7;simp only[World.cell?,hg]at h7;rw[h6,←htk,List.getElem?_take,if_pos hq];simpa using h7.symm
    ·rw[List.getElem?_eq_none (by omega),List.getElem?_eq_none (by rw[hown.1];omega)]
   subst hcc
   by_cases hroom:n+m≤cap
   ·have hfit:n*i.size+cy.length≤cur.size:=by rw[hcy,hcs,←Nat.add_mul];exact Nat.mul_le_mul_right _ hroom
    have hr:=run_append_room (P:=P) w t ty e i ht hi g n cap cur hg ⟨b,o,none⟩ m cy' cy hcy hnews h1y hroom hfit
    obtain⟨γ',M',q1,q2,q3⟩:=own_room r (hkey.trans hkk.1) hkk.2 (cx:=cx') hk0 hg hn hm (by omega) hroom hcm (by omega) hkx hky hcx hcy h1x h1y hrx hry hcs htk (fun q hq=>by
     have hn0:0<n:=by
      rcases eP_ n with h0|h0
      ·subst h0;omega
      ·exact h0
     obtain⟨b2,o2,e2,hf2⟩:=hfx hn0;injection e2 with e2;injection e2 with e2 e3 _;subst e2 e3;have h7:=(hf2 q _ (List.getElem?_eq_getElem (by omega))).1
     rwa [Nat.zero_add]at h7) rfl
    exact⟨_,_,γ',M',hr,q1,q2,q3⟩
   ·have holds:∀j v,cx'[j]? =some v→w.cell? ((⟨g,0,none⟩:Addr).add j)=some v:=hown.cells (g:=g) rfl
    have hr:=run_append_grow (P:=P) w t ty e i z ht hi hz ⟨g,0,none⟩ n cap cx' hown.1 holds ⟨b,o,none⟩ m cy' cy hcy hnews (by omega) (by omega) (growslice_fits (by omega) (by
     have:=Nat.mul_le_mul hb hby;omega))
    have hge:=grownCap_ge w (n+m) cap e;obtain⟨γ',M',q1,q2,q3⟩:=own_moved (w1:=w.drew) r (key:=key) (e:=e) (k:=i.size) (n:=n+m) (xs:=xs++ys) (cells:=cx'++cy) (cap:=grownCap w (n+m) cap e) (cs:=cx'.toArray++cy.toArray++Builtin.zeroCells z.cells (grownCap w (n+m) cap e-(n+m))) hkey
     (.inr ⟨n,hkk.1,by omega⟩) hk0 (by simp[hn,hm]) hge (grownCap_le_maxLen w (n+m) cap e hmax) (by omega) (rows_len hkx hky) (by simp[hcx,hcy,Nat.add_mul]) (fun c hc=>by
      rcases List.mem_append.1 hc with h5|h5
      ·exact h1x c h5
      ·exact h1y c h5) (rows_app (by rw[hcx,hn]) hkx hrx hry)
     (by simp[size_zeroCells,hcx,hcy,hzs,←Nat.add_mul];congr 1;omega) (by
      have h5:(n+m)*i.size=(cx'++cy).length:=by simp[hcx,hcy,Nat.add_mul]
      rw[h5];simp only[Array.toList_append,List.toList_toArray];exact List.take_left) (fun j x hj hx=>by
      rw[Array.getElem?_append_right (by simp[hcx,hcy];rw[Nat.add_mul]at hj;omega)]at hx;exact zeroCells_u32 (by omega) hzu _ x hx) rfl rfl rfl rfl
    exact⟨_,_,γ',M',hr,q1,q2,q3⟩
theorem OT_append {o:Oper}{t t':TypeId}{s x:Operand}{vs vx v:V}{n:Nat}{sets:List (Nat×Ent)}{rk:List Nat}(ho:o.op= .call {callee:= .builtin .append,args:= #[s,x],argTypes:= #[t,t']})
  (ht':(elemT P t').isSome=true) (hs:evL T s=some vs) (hx:evL T x=some vx) (ha:appL P t h n vs vx=some (v,sets,rk)):OT P o T h v sets rk:=by
 intro T' h' γ M w a next Q hT hk hr ht hn
 have hs':evL T' s=some vs:=by
  rw[←hs];exact evL_congr fun d hd=>hT d (by rw[ho];simp[Op.operands,Call.operands,hd])
 have hx':evL T' x=some vx:=by
  rw[←hx];exact evL_congr fun d hd=>hT d (by rw[ho];simp[Op.operands,Call.operands,hd])
 have h1:=evL_ok ht hs';have h2:=evL_ok ht hx';obtain⟨⟨e2,s2⟩,he2⟩:=Option.isSome_iff_exists.1 ht'
 suffices key:∃r w' γ' M',(Builtin.append_ #[t,t] o.type #[a.eval s,a.eval x]).run P w= .ok r w'∧(∃e,P.underlying t=some (.slice e))∧Rel γ' (over sets h') M' w'∧RdV γ' (over sets h') M' w' v r∧Stp γ h' M w γ' (over sets h') M' w' by
  obtain⟨r,w',γ',M',k1,⟨e,k2⟩,k3,k4,k5⟩:=key;unfold Oper.wp;have:(execOp a.eval o).run P w= .ok (.value r) w':=by
   simp[execOp,ho,resolve,invoke,builtin,append_types w t t' e e2 o.type _ k2 (elemT_ok he2).1,k1]
  rw[this];exact hn r γ' M' w' k3 k4 k5
 unfold appL at ha;split at ha
 ·rename_i key k xs;split at ha
  ·rename_i e k' e' k'' n0 ys a1 a2 a3;split at ha
   ·rename_i hc;obtain⟨rfl,rfl,rfl,rfl,c5,c6⟩:=hc;injection ha with ha;injection ha with b1 b2;injection b2 with b2 b3;subst b1 b2 b3;have hkey:=(hk key (by simp)).trans a2;obtain⟨q1,q2,q3⟩:=h1;have q4:=(q3 _ _ _ hkey).2 rfl;obtain⟨r,w',γ',M',k1,k2,k3,k4⟩:=app_run (ty:=o.type) hr hkey (elemT_ok a1).1 c5 (.inl ⟨rfl,q4.symm⟩) q1 rfl (yOf_ok h2 a3) rfl c6;exact⟨r,w',γ',M',k1,⟨_,(elemT_ok a1).1⟩,k2,k3,k4⟩
   ·cases ha
  ·cases ha
 ·split at ha
  ·rename_i e k a1 a2;split at ha
   ·rename_i ys a3;split at ha
    ·rename_i hc;obtain⟨c5,c6⟩:=hc;injection ha with ha;injection ha with b1 b2;injection b2 with b2 b3;subst b1 b2 b3;have hkey:h' n=none:=(hk n (by simp)).trans (by simpa using a2);have q4:=lit_inv h1;rw[q4];obtain⟨r,w',γ',M',k1,k2,k3,k4⟩:=app_run (ty:=o.type) (n:=0) (xs:=[]) hr hkey (elemT_ok a1).1 c5 (.inr ⟨rfl,rfl,rfl⟩) (nil_ok _) rfl (yOf_ok h2 a3) rfl (by omega);rw[Nat.zero_add]at k2 k3 k4;exact⟨r,w',γ',M',k1,⟨_,(elemT_ok a1).1⟩,k2,k3,k4⟩
    ·cases ha
   ·cases ha
  ·cases ha
 ·cases ha
def chunk (k:Nat):Nat→List D→List (List D)
 |0,_=>[]
 |n+1,ds=>ds.take k::chunk k n (ds.drop k)
theorem chunk_len (k:Nat):∀(n:Nat) (ds:List D),(chunk k n ds).length=n
 |0,_=>rfl
 |n+1,ds=>by simp[chunk,chunk_len k n]
theorem chunk_get (k:Nat):∀(n:Nat) (ds:List D) (i:Nat),i<n→(chunk k n ds)[i]? =some ((ds.drop (i*k)).take k)
 |n+1,ds,0,_=>by simp[chunk]
 |n+1,ds,i+1,hi=>by
  simp only[chunk,List.getElem?_cons_succ];rw[chunk_get k n _ i (by omega),List.drop_drop]
  congr 3
  rw[Nat.add_mul];omega
def bsL (P:Program)(ev:Operand→Option V)(h:Hp)(n:Nat)(t:TypeId)(len:Nat)(parts:List (Nat×Operand)):Option (V×List (Nat×Ent)×List Nat):=
 match elemT P t with
 |some (e,k)=>match zeroT P zb e with
  |some zs=>if appOk P e k=true∧(h n).isNone=true∧len*k≤16777216 then
    match fillL (fun i=>some (i*k,k)) ev parts (List.replicate len zs).flatten with
    |some us=>match toDs us with
     |some ds=>if us.all oneA=true then some (.a (.own n k (chunk k len ds)),[(n,.arr e k len)],[n])else none
     |none=>none
    |none=>none
   else none
  |none=>none
 |none=>none
theorem flat_get {α:Type}(zs:List α){k:Nat}(hk:zs.length=k):∀(len j:Nat),j<len*k→((List.replicate len zs).flatten)[j]? =zs[j % k]?
 |0,j,hj=>by simp at hj
 |n+1,j,hj=>by
  rw[List.replicate_succ,List.flatten_cons];rcases Nat.lt_or_ge j k with h1|h1
  ·rw[List.getElem?_append_left (by omega),Nat.mod_eq_of_lt h1]
  ·rw[List.getElem?_append_right (by omega),hk,flat_get zs hk n (j-k) (by rw[Nat.add_mul]at hj;omega),←Nat.mod_eq_sub_mod h1]
theorem flat_len {α:Type}(zs:List α){k:Nat}(hk:zs.length=k)(len:Nat):((List.replicate len zs).flatten).length=len*k:=by
 simp[List.length_flatten,hk]
theorem OT_bs {o:Oper}{t:TypeId}{len:Nat}{parts:Array (Nat×Operand)}{v:V}{n:Nat}{sets:List (Nat×Ent)}{rk:List Nat}(ho:o.op= .buildSlice t len parts)(hb:bsL P (evL T) h n t len parts.toList=some (v,sets,rk)):OT P o T h v sets rk:=by
 unfold bsL at hb;split at hb
 ·rename_i e k he;split at hb
  ·rename_i zs hz;split at hb
   ·rename_i hc;obtain⟨c1,c2,c3⟩:=hc;split at hb
    ·rename_i us hf;split at hb
     ·rename_i ds hd;split at hb
      ·rename_i hone;injection hb with hb;injection hb with b1 b2;injection b2 with b2 b3;subst b1 b2 b3;intro T' h' γ M w a next Q hT hk hr ht hn
       obtain⟨e1,e2⟩:=elemT_ok he;obtain⟨i,z,hi,hzz,hk0,hs,hby,hzs,hzu⟩:=appOk_ok c1;have hz0:All2 (RdA γ h' M w) zs z.cells.toList:=by
        obtain⟨i',z',q1,q2,q3⟩:=zeroT_ok (γ:=γ) (h:=h') (M:=M) (w:=w) zb_ok hz;rw[hi]at q1;injection q1 with q1;subst q1;rw[hzz]at q2;injection q2 with q2;subst q2;exact q3
       have hzl:zs.length=k:=by rw[hz0.len];simpa using hzs
       have hf':fillL (fun i=>some (i*k,k)) (evL T') parts.toList (List.replicate len zs).flatten=some us:=by
        rw[←hf];refine fillL_congr fun p hp=>evL_congr fun d hdd=>hT d ?_;rw[ho];simp only[Op.operands];exact Array.mem_toList_iff.1 (by simpa using ⟨p.1,by rw[←hdd];simpa using hp⟩)
       obtain⟨C,hC⟩:∃C:List Value,C=(List.range (len*k)).map fun j=>z.cells[j % k]!:=⟨_,rfl⟩;have hinit:All2 (RdA γ h' M w) (List.replicate len zs).flatten C:=by
        refine All2.of_get (by rw[flat_len zs hzl,hC];simp) fun j x y hx hy=> ?_;have hj:j<len*k:=by rw[←flat_len zs hzl len];exact(List.getElem?_eq_some_iff.1 hx).1
        rw[flat_get zs hzl len j hj]at hx;obtain⟨y',hy',hr'⟩:=All2.get hz0 hx;have hm:j % k<z.cells.size:=by rw[hzs];exact Nat.mod_lt _ hk0
        have:y=y':=by
         rw[hC,List.getElem?_map,List.getElem?_range hj]at hy;simp at hy;rw[getElem!_pos z.cells _ hm]at hy;simp[hm]at hy';rw[←hy,hy']
        rw[this];exact hr'
       obtain⟨vs,k1,k2⟩:=fill_ok ht hf' hinit;have k3:=toDs_ok k2 hd;have hul:us.length=len*k:=by
        have:∀(ps:List (Nat×Operand)) (cs us:List A),fillL (fun i=>some (i*k,k)) (evL T') ps cs=some us→us.length=cs.length:=by
         intro ps
         induction ps with
         |nil=>intro cs us hq;simp[fillL]at hq;rw[hq]
         |cons p ps ih=>
          intro cs us hq;obtain⟨i,x⟩:=p;simp only[fillL]at hq;split at hq
          ·split at hq
           ·rename_i q1 q2 q3;rw[ih _ _ hq];simp;omega
           ·cases hq
          ·cases hq
        rw[this _ _ _ hf',flat_len zs hzl]
       have hvl:vs.length=len*k:=by rw[←k2.len,hul]
       have h1:∀c∈vs,c.oneCell'=true:=by
        intro c hcc;obtain⟨j,hj⟩:=List.mem_iff_getElem?.1 hcc;have hlt:=(List.getElem?_eq_some_iff.1 hj).1;obtain⟨q,q1,q2⟩:=All2.get k2 (i:=j) (x:=us[j]'(by omega)) (List.getElem?_eq_getElem _);rw[hj]at q1;injection q1 with q1;subst q1;have q3:=oneA_cells q2 (List.all_eq_true.1 hone _ (List.getElem_mem _))
        cases c<;>first|rfl|skip
        ·exfalso;generalize hu:us[j]'(by omega)=u at q2;have q4:=List.all_eq_true.1 hone u (hu▸List.getElem_mem _)
         cases u with
         |d x=>rcases rdD_slice q2 with⟨y,rfl⟩|⟨_,_,_,q5⟩
               ·have:=lit_inv q2;subst this;cases q4
               ·cases q5
         |ptr=>obtain⟨_,_,_,q5⟩:=q2;cases q5
         |own=>rcases rdD_slice q2.1 with⟨y,q5⟩|⟨_,_,_,q5⟩<;>cases q5
         |elt=>obtain⟨_,_,_,q5,_⟩:=q2;cases q5
         |fn=>obtain⟨_,_,q5,_⟩:=q2;cases q5
         |tab=>obtain⟨_,⟨_,_,_,q5,_⟩,_⟩:=q2;cases q5
         |mp=>obtain⟨_,_,_,q5⟩:=q2;cases q5
         |full=>obtain⟨_,_,q5⟩:=q2;cases q5
         |th=>obtain⟨_,⟨_,_,q5⟩,_⟩:=q2;cases q5
         |tp=>obtain⟨_,⟨_,q5⟩,_⟩:=q2;cases q5
         |row=>obtain⟨_,⟨_,_,_,q5,_⟩,_⟩:=q2;cases q5
         |rp=>obtain⟨_,⟨_,_,q5⟩,_⟩:=q2;cases q5
         |one=>obtain⟨_,⟨_,_,_,_,q5,_⟩,_⟩:=q2;cases q5
        ·exfalso;generalize hu:us[j]'(by omega)=u at q2;have q4:=List.all_eq_true.1 hone u (hu▸List.getElem_mem _)
         cases u with
         |d x=>rcases rdD_slice q2 with⟨y,rfl⟩|⟨_,_,_,q5⟩
               ·have:=lit_inv q2;subst this;cases q4
               ·cases q5
         |ptr=>obtain⟨_,_,_,q5⟩:=q2;cases q5
         |own=>rcases rdD_slice q2.1 with⟨y,q5⟩|⟨_,_,_,q5⟩<;>cases q5
         |elt=>obtain⟨_,_,_,q5,_⟩:=q2;cases q5
         |fn=>obtain⟨_,_,q5,_⟩:=q2;cases q5
         |tab=>obtain⟨_,⟨_,_,_,q5,_⟩,_⟩:=q2;cases q5
         |mp=>obtain⟨_,_,_,q5⟩:=q2;cases q5
         |full=>obtain⟨_,_,q5⟩:=q2;cases q5
         |th=>obtain⟨_,⟨_,_,q5⟩,_⟩:=q2;cases q5
         |tp=>obtain⟨_,⟨_,q5⟩,_⟩:=q2;cases q5
         |row=>obtain⟨_,⟨_,_,_,q5,_⟩,_⟩:=q2;cases q5
         |rp=>obtain⟨_,⟨_,_,q5⟩,_⟩:=q2;cases q5
         |one=>obtain⟨_,⟨_,_,_,_,q5,_⟩,_⟩:=q2;cases q5
       have hlen:len≤16777216:=by
        have:=Nat.le_mul_of_pos_right len hk0;omega
       obtain⟨γ',M',r1,r2,r3⟩:=own_moved (w1:=w) hr (key:=n) (e:=e) (k:=k) (n:=len) (xs:=chunk k len ds) (cells:=vs) (cap:=len) (cs:=vs.toArray) ((hk n (by simp)).trans (by simpa using c2)) (.inl rfl) hk0
        (chunk_len k len ds) (lR_ _) (by simp[maxLen];omega) (by omega) (fun i row hi=>by
         have hlt:=(List.getElem?_eq_some_iff.1 hi).1;rw[chunk_len]at hlt;rw[chunk_get k len ds i hlt]at hi;injection hi with hi;subst hi;have q5:=Nat.mul_le_mul_right k (show i+1≤len from hlt);rw[Nat.add_mul]at q5;have q6:=k3.len;simp;omega) hvl h1 (fun i row j d hi hj=>by
         have hlt:=(List.getElem?_eq_some_iff.1 hi).1;rw[chunk_len]at hlt;rw[chunk_get k len ds i hlt]at hi;injection hi with hi;subst hi;rw[List.getElem?_take,List.getElem?_drop]at hj;split at hj
         ·obtain⟨u,u1,u2⟩:=All2.get k3 hj;exact⟨u,u1,u2⟩
         ·cases hj) (by simpa using hvl) (by simp[←hvl]) (fun j x hj hx=>by
         have:=(Array.getElem?_eq_some_iff.1 hx).1;simp at this;omega) rfl rfl rfl rfl
       unfold Oper.wp;have hsz:(sizeOf e).run P w= .ok k w:=sizeT_run e2;have hps:(parts.map fun(q:Nat×Operand)=>(q.1,a.eval q.2)).toList=parts.toList.map fun(i,x)=>(i,a.eval x):=by simp
       have hzv:(zeroValue e).run P w= .ok z w:=by simp[zeroValue,typeInfo,hi,hzz]
       have hrun:(execOp a.eval o).run P w= .ok (.value (.slice (some ⟨w.heap.size,0,none⟩) len len)) (w.alloc (.cells vs.toArray e)):=by
        by_cases h0:len*k=0
        ·have hC0:C=[]:=by rw[hC,h0];rfl
         rw[hC0]at k1;have k1':Instr.fill (fun i=>some (i*k,k)) #[] (parts.map fun(q:Nat×Operand)=>(q.1,a.eval q.2)).toList=some vs.toArray:=by rw[hps];exact k1
         simp only[Array.toList_map]at k1';have k2':∀f:Nat→Value,Instr.fill (fun i=>some (i*k,k)) (Array.map f (Array.range 0)) (List.map (fun x=>(x.fst,a.eval x.snd)) parts.toList)=some vs.toArray:=by
          intro f;have hq:Array.map f (Array.range 0)= #[]:=by apply Array.ext';simp[Array.toList_range]
          rw[hq];exact k1'
         simp[execOp,ho,Instr.buildSlice,run_underlying e1,hsz,h0,newRow,k2']
        ·have hC1:C.toArray=(Array.range (len*k)).map fun j=>z.cells[j % z.cells.size]!:=by
          rw[hC,hzs];apply Array.ext';simp
         rw[hC1]at k1;have k1':Instr.fill (fun i=>some (i*k,k)) ((Array.range (len*k)).map fun j=>z.cells[j % z.cells.size]!) (parts.map fun(q:Nat×Operand)=>(q.1,a.eval q.2)).toList=some vs.toArray:=by rw[hps];exact k1
         simp at k1';have h3:¬16777216<len*k:=by omega
         have h00:¬(len=0∨k=0):=by intro h5;apply h0;rcases h5 with h5|h5<;>simp[h5]
         simp[execOp,ho,Instr.buildSlice,run_underlying e1,hsz,h3,h0,newRow,hzv,k1']
       rw[hrun];exact hn _ γ' M' _ r1 r2 r3
      ·cases hb
     ·cases hb
    ·cases hb
   ·cases hb
  ·cases hb
 ·cases hb
end
def LC (P:Program)(f:FuncId)(args:List V)(H:List (Nat×Ent))(v:V)(H':List (Nat×Ent)):Prop:=
 ∀(γ:Gh) (M:MS) (w:World) (rs:List Value),Rel γ (look H) M w→All2 (RdV γ (look H) M w) args rs→
  Calls P f rs.toArray w fun e w'=>∃r γ' M',e= .returned r∧Rel γ' (look H') M' w'∧RdV γ' (look H') M' w' v r∧Stp γ (look H) M w γ' (look H') M' w'
def renB (f:Nat→Nat):BA→BA
 | .ptr k o=> .ptr (f k) o
 |x=>x
def renA (f:Nat→Nat):A→A
 | .ptr k o=> .ptr (f k) o
 | .own k s xs=> .own (f k) s xs
 | .fn g xs ys=> .fn g (xs.map (renB f)) (ys.map (renB f))
 | .tab k n=> .tab (f k) n
 | .mp k=> .mp (f k)
 | .th k n=> .th (f k) n
 | .tp k n i=> .tp (f k) n i
 | .row k a n b=> .row (f k) a n b
 | .rp k a o=> .rp (f k) a o
 | .one k a n b=> .one (f k) a n b
 |x=>x
def renW (f:Nat→Nat):W→W
 | .s x=> .s (renA f x)
 | .g xs=> .g (xs.map (renA f))
def renV (f:Nat→Nat):V→V
 | .a x=> .a (renA f x)
 | .agg xs=> .agg (xs.map (renA f))
 | .tup xs=> .tup (xs.map (renW f))
def keysB:BA→List Nat
 | .ptr k _=>[k]
 |_=>[]
def keysA:A→List Nat
 | .ptr k _=>[k]
 | .own k _ _=>[k]
 | .fn _ xs ys=>xs.flatMap keysB++ys.flatMap keysB
 | .tab k _=>[k]
 | .mp k=>[k]
 | .th k _=>[k]
 | .tp k _ _=>[k]
 | .row k _ _ _=>[k]
 | .rp k _ _=>[k]
 | .one k _ _ _=>[k]
 |_=>[]
def keysW:W→List Nat
 | .s x=>keysA x
 | .g xs=>xs.flatMap keysA
def keysV:V→List Nat
 | .a x=>keysA x
 | .agg xs=>xs.flatMap keysA
 | .tup xs=>xs.flatMap keysW
def stripA:A→A
 | .own _ k xs=> .d (.sl k xs)
 |x=>x
def lendE:Ent→Option Ent
 | .box t cs=>if(cs.map stripA).all (fun x=>(keysA x).isEmpty)then some (.box t (cs.map stripA))else none
 |e=>some e
def lendFrom (h:Hp):Nat→List Nat→Option (List (Nat×Ent))
 |_,[]=>some []
 |i,k::ks=>match (h k).bind lendE,lendFrom h (i+1) ks with
  |some e,some r=>some ((i,e)::r)
  |_,_=>none
def back (ks:List Nat)(base:Nat)(i:Nat):Nat:=if i<ks.length then ks.getD i 0 else base+(i-ks.length)
def noKeys:Ent→Bool
 | .box _ cs=>cs.all fun x=>(keysA x).isEmpty
 |_=>true
section
variable {γ γ':Gh} {h h':Hp} {M M':MS} {w w':World} {T T':Nat→Option V} {a:Act} {P:Program}
theorem RdA.strip {x:A}{v:Value}(k:RdA γ h M w x v):RdA γ h M w (stripA x) v:=by
 cases x<;>first|exact k|exact k.1
def SameKey (f:Nat→Nat)(γ:Gh)(h:Hp)(γ':Gh)(h':Hp)(key:Nat):Prop:=
 γ' (f key)=γ key∧(ptrOk (h key)=true→ptrOk (h' (f key))=true)∧(mpOk (h key)=true→mpOk (h' (f key))=true)∧((h key).isSome=true→(h' (f key)).isSome=true)∧(∀e k n,h' (f key)=some (.arr e k n)→h key=some (.arr e k n))∧(∀e k n,h' (f key)=some (.tab e k n)→∃n',h key=some (.tab e k n')∧n.length=n'.length)∧
  (ttOk (h key)=true→ttOk (h' (f key))=true)∧∀e0 e k o ar,h' (f key)=some (.tt e0 e k o ar)→∃o' ar',h key=some (.tt e0 e k o' ar')∧o.length=o'.length∧ar.length=ar'.length∧∀a,(ar.getD a []).length=(ar'.getD a []).length
theorem RdB.ren {f:Nat→Nat}{x:BA}{v:Value}(k:RdB γ h M w x v)(hs:∀key∈keysB x,SameKey f γ h γ' h' key):RdB γ' h' M w (renB f x) v:=by
 cases x with
 |d x=>exact k
 |ptr key off=>
  obtain⟨h1,g,h2,h3⟩:=k;obtain⟨s1,s2,_⟩:=hs key (by simp[keysB]);exact⟨s2 h1,g,by rw[s1,h2],h3⟩
 |g xs=>exact k
 |e row off=>exact k
theorem All2.renB {f:Nat→Nat}:∀{xs:List BA} {vs:List Value},All2 (RdB γ h M w) xs vs→(∀key∈xs.flatMap keysB,SameKey f γ h γ' h' key)→All2 (RdB γ' h' M w) (xs.map (renB f)) vs
 |[],[],_,_=>trivial
 |x::xs,v::vs,k,hs=>⟨k.1.ren fun key hk=>hs key (by simp[hk]),All2.renB k.2 fun key hk=>hs key (by simp at hk ⊢;exact .inr hk)⟩
 |[],_::_,k,_=>k.elim
 |_::_,[],k,_=>k.elim
theorem RdA.ren {f:Nat→Nat}{x:A}{v:Value}(k:RdA γ h M w x v)(hs:∀key∈keysA x,SameKey f γ h γ' h' key):RdA γ' h' M w (renA f x) v:=by
 cases x with
 |d x=>exact k
 |ptr key off=>
  obtain⟨h1,g,h2,h3⟩:=k;obtain⟨s1,s2,_⟩:=hs key (by simp[keysA]);exact⟨s2 h1,g,by rw[s1,h2],h3⟩
 |own key kk xs=>
  obtain⟨h1,h2,h3⟩:=k;obtain⟨s1,_,_,s3,s4,_⟩:=hs key (by simp[keysA]);exact⟨h1,s3 h2,fun e k n he=>by rw[s1];exact h3 e k n (s4 e k n he)⟩
 |elt row off=>exact k
 |full _ _=>exact k
 |fn g xs ys=>
  obtain⟨x,y,h1,h2,h3⟩:=k;exact⟨x,y,h1,h2.renB fun key hk=>hs key (by simp only[keysA,List.mem_append];exact .inl hk),h3.renB fun key hk=>hs key (by simp only[keysA,List.mem_append];exact .inr hk)⟩
 |tab key n=>
  obtain⟨h1,⟨g,c,h2,h3⟩,h4⟩:=k;obtain⟨s1,s2,_,_,_,s5,_⟩:=hs key (by simp[keysA]);exact⟨s2 h1,⟨g,c,by rw[s1,h2],h3⟩,fun e k rows he=>let ⟨n',e1,e2⟩:=s5 e k rows he;e2.trans (h4 e k n' e1)⟩
 |mp key=>
  obtain⟨h1,b,h2,h3⟩:=k;obtain⟨s1,_,s2,_⟩:=hs key (by simp[keysA]);exact⟨s2 h1,b,by rw[s1,h2],h3⟩
 |th key n=>
  obtain⟨h1,h2,h3⟩:=k;obtain⟨s1,_,_,_,_,_,s2,s3⟩:=hs key (by simp[keysA]);refine⟨s2 h1,h2,fun e0 e k o ar he=> ?_⟩;obtain⟨o',ar',q1,q2,_⟩:=s3 _ _ _ _ _ he;rw[s1,q2];exact h3 _ _ _ _ _ q1
 |tp key n i=>
  obtain⟨h1,h2,h3⟩:=k;obtain⟨s1,_,_,_,_,_,s2,s3⟩:=hs key (by simp[keysA]);refine⟨s2 h1,h2,fun e0 e k o ar he=> ?_⟩;obtain⟨o',ar',q1,q2,_⟩:=s3 _ _ _ _ _ he;rw[s1,q2];exact h3 _ _ _ _ _ q1
 |row key a n b=>
  obtain⟨h1,h2,h3⟩:=k;obtain⟨s1,_,_,_,_,_,s2,s3⟩:=hs key (by simp[keysA]);refine⟨s2 h1,by rw[s1];exact h2,fun e0 e k o ar he=> ?_⟩;obtain⟨o',ar',q1,q2,q3,q4⟩:=s3 _ _ _ _ _ he;rw[q3,q4];exact h3 _ _ _ _ _ q1
 |one key a n b=>
  obtain⟨h1,h2,h3⟩:=k;obtain⟨s1,_,_,_,_,_,s2,s3⟩:=hs key (by simp[keysA]);refine⟨s2 h1,by rw[s1];exact h2,fun e0 e k o ar he=> ?_⟩;obtain⟨o',ar',q1,q2,q3,q4⟩:=s3 _ _ _ _ _ he;rw[q3,q4];exact h3 _ _ _ _ _ q1
 |rp key a off=>
  obtain⟨h1,h2,h3⟩:=k;obtain⟨s1,_,_,_,_,_,s2,s3⟩:=hs key (by simp[keysA]);refine⟨s2 h1,by rw[s1];exact h2,fun e0 e k o ar he=> ?_⟩;obtain⟨o',ar',q1,q2,q3,q4⟩:=s3 _ _ _ _ _ he;rw[q3];exact h3 _ _ _ _ _ q1
theorem All2.renA {f:Nat→Nat}:∀{xs:List A} {vs:List Value},All2 (RdA γ h M w) xs vs→(∀key∈xs.flatMap keysA,SameKey f γ h γ' h' key)→All2 (RdA γ' h' M w) (xs.map (renA f)) vs
 |[],[],_,_=>trivial
 |x::xs,v::vs,k,hs=>⟨k.1.ren fun key hk=>hs key (by simp[hk]),All2.renA k.2 fun key hk=>hs key (by simp at hk ⊢;exact .inr hk)⟩
 |[],_::_,k,_=>k.elim
 |_::_,[],k,_=>k.elim
theorem SameKey.tt {f:Nat→Nat}{key:Nat}{e0 e:TypeId}{k:Nat}{o:List (Sum (Nat×Nat×Bool) D)}{ar:List (List (List D))}(hg:γ' (f key)=γ key)(h1:h key=some (.tt e0 e k o ar))(h2:h' (f key)=some (.tt e0 e k o ar)):SameKey f γ h γ' h' key:=by
 refine⟨hg,fun q=>(by rw[h1]at q;cases q),fun q=>(by rw[h1]at q;cases q),fun _=>(by rw[h2];rfl),fun e k n q=>(by rw[h2]at q;cases q),fun e k n q=>(by rw[h2]at q;cases q),fun _=>(by rw[h2];rfl),fun e0 e k o ar q=> ?_⟩;rw[h2]at q;injection q with q;injection q with q1 q2 q3 q4 q5;subst q1 q2 q3 q4 q5;exact⟨_,_,h1,rfl,rfl,fun _=>rfl⟩
theorem tt_ren {f:Nat→Nat}{key:Nat}{e0 e:TypeId}{k:Nat}{o:List (Sum (Nat×Nat×Bool) D)}{ar:List (List (List D))}(q:EntR γ h M w key (.tt e0 e k o ar))(hs:SameKey f γ h γ' h' key):EntR γ' h' M w (f key) (.tt e0 e k o ar):=by
 obtain⟨hd,ps,h1,h2,h3,h4,h5⟩:=q;refine⟨hd,ps,by rw[hs.1,h1],h2,h3,?_,h5⟩;rcases h4 with h4|⟨g,c,os,sp,q1,q2,q3,q4,q5,q6⟩
 ·exact .inl h4
 ·refine .inr ⟨g,c,os,sp,q1,q2,q3,q4,q5,?_⟩
  have:=All2.renA (f:=f) q6 fun k0 hk0=>by
   obtain⟨x,hx,hk⟩:=List.mem_flatMap.1 hk0;obtain⟨y,_,rfl⟩:=List.mem_map.1 hx
   cases y with
   |inl y=>simp[cA,keysA]at hk;subst hk;exact hs
   |inr d=>simp[cA,keysA]at hk
  rw[List.map_map]at this
  rwa [show(renA f∘cA key)=cA (f key)from funext fun y=>by cases y<;>rfl]at this
theorem RdW.ren {f:Nat→Nat}{x:W}{v:Value}(k:RdW γ h M w x v)(hs:∀key∈keysW x,SameKey f γ h γ' h' key):RdW γ' h' M w (renW f x) v:=by
 cases x with
 |s x=>exact RdA.ren k hs
 |g xs=>obtain⟨vs,h1,h2⟩:=k;exact⟨vs,h1,h2.renA hs⟩
theorem All2.renW {f:Nat→Nat}:∀{xs:List W} {vs:List Value},All2 (RdW γ h M w) xs vs→(∀key∈xs.flatMap keysW,SameKey f γ h γ' h' key)→All2 (RdW γ' h' M w) (xs.map (renW f)) vs
 |[],[],_,_=>trivial
 |x::xs,v::vs,k,hs=>⟨k.1.ren fun key hk=>hs key (by simp[hk]),All2.renW k.2 fun key hk=>hs key (by simp at hk ⊢;exact .inr hk)⟩
 |[],_::_,k,_=>k.elim
 |_::_,[],k,_=>k.elim
theorem RdV.ren {f:Nat→Nat}{x:V}{v:Value}(k:RdV γ h M w x v)(hs:∀key∈keysV x,SameKey f γ h γ' h' key):RdV γ' h' M w (renV f x) v:=by
 cases x with
 |a x=>exact RdA.ren k hs
 |agg xs=>obtain⟨vs,h1,h2⟩:=k;exact⟨vs,h1,h2.renA hs⟩
 |tup xs=>obtain⟨vs,h1,h2⟩:=k;exact⟨vs,h1,h2.renW hs⟩
theorem All2.renV {f:Nat→Nat}:∀{xs:List V} {vs:List Value},All2 (RdV γ h M w) xs vs→(∀key∈xs.flatMap keysV,SameKey f γ h γ' h' key)→All2 (RdV γ' h' M w) (xs.map (renV f)) vs
 |[],[],_,_=>trivial
 |x::xs,v::vs,k,hs=>⟨k.1.ren fun key hk=>hs key (by simp[hk]),All2.renV k.2 fun key hk=>hs key (by simp at hk ⊢;exact .inr hk)⟩
 |[],_::_,k,_=>k.elim
 |_::_,[],k,_=>k.elim
theorem RdB.there {x:BA}{v:Value}(k:RdB γ h M w x v):∀key∈keysB x,(h key).isSome=true:=by
 cases x with
 |d x=>intro key hk;simp[keysB]at hk
 |g xs=>intro key hk;simp[keysB]at hk
 |e row off=>intro key hk;simp[keysB]at hk
 |ptr k0 off=>
  intro key hk;simp[keysB]at hk;subst hk;have:=k.1
  cases hh:h key with
  |none=>rw[hh]at this;cases this
  |some e=>rfl
theorem there_list {α:Type}{R:α→Value→Prop}{ks:α→List Nat}(hR:∀x v,R x v→∀key∈ks x,(h key).isSome=true):∀{xs:List α} {vs:List Value},All2 R xs vs→∀key∈xs.flatMap ks,(h key).isSome=true
 |[],[],_,key,hk=>by simp at hk
 |x::xs,v::vs,k,key,hk=>by
  rw[List.flatMap_cons]at hk;rcases List.mem_append.1 hk with hk|hk
  ·exact hR x v k.1 key hk
  ·exact there_list hR k.2 key hk
 |[],_::_,k,_,_=>k.elim
 |_::_,[],k,_,_=>k.elim
theorem tt_there {k0:Nat}(h1:ttOk (h k0)=true):∀key∈[k0],(h key).isSome=true:=by
 intro key hk;rw[List.mem_singleton]at hk;subst hk
 cases hh:h key with
 |none=>rw[hh]at h1;cases h1
 |some e=>rfl
theorem RdA.there {x:A}{v:Value}(k:RdA γ h M w x v):∀key∈keysA x,(h key).isSome=true:=by
 cases x with
 |d x=>intro key hk;simp[keysA]at hk
 |elt=>intro key hk;simp[keysA]at hk
 |full=>intro key hk;simp[keysA]at hk
 |ptr k0 off=>exact RdB.there (x:= .ptr k0 off) (M:=M) (w:=w) (v:=v) k
 |own k0 _ _=>intro key hk;simp[keysA]at hk;subst hk;exact k.2.1
 |fn g xs ys=>
  obtain⟨x,y,h1,h2,h3⟩:=k;intro key hk;simp only[keysA,List.mem_append]at hk;rcases hk with hk|hk
  ·exact there_list (R:=RdB γ h M w) (ks:=keysB) (fun _ _=>RdB.there) h2 key hk
  ·exact there_list (R:=RdB γ h M w) (ks:=keysB) (fun _ _=>RdB.there) h3 key hk
 |tab k0 n=>exact RdB.there (x:= .ptr k0 0) (M:=M) (w:=w) (v:= .pointer (some ⟨k.2.1.choose,0,none⟩)) ⟨k.1,_,k.2.1.choose_spec.choose_spec.1,rfl⟩
 |mp k0=>
  intro key hk;simp[keysA]at hk;subst hk;have:=k.1
  cases hh:h key with
  |none=>rw[hh]at this;cases this
  |some e=>rfl
 |th k0 n=>exact tt_there k.1
 |tp k0 n i=>exact tt_there k.1
 |row k0 a n b=>exact tt_there k.1
 |rp k0 a o=>exact tt_there k.1
 |one k0 a n b=>exact tt_there k.1
theorem RdW.there {x:W}{v:Value}(k:RdW γ h M w x v):∀key∈keysW x,(h key).isSome=true:=by
 cases x with
 |s x=>exact RdA.there k
 |g xs=>obtain⟨vs,h1,h2⟩:=k;exact there_list (R:=RdA γ h M w) (ks:=keysA) (fun _ _=>RdA.there) h2
theorem RdV.there {x:V}{v:Value}(k:RdV γ h M w x v):∀key∈keysV x,(h key).isSome=true:=by
 cases x with
 |a x=>exact RdA.there k
 |agg xs=>obtain⟨vs,h1,h2⟩:=k;exact there_list (R:=RdA γ h M w) (ks:=keysA) (fun _ _=>RdA.there) h2
 |tup xs=>obtain⟨vs,h1,h2⟩:=k;exact there_list (R:=RdW γ h M w) (ks:=keysW) (fun _ _=>RdW.there) h2
theorem look_map {f:Nat→Nat}(hf:∀i j,f i=f j→i=j):∀(H:List (Nat×Ent)) (i:Nat),look (H.map fun p=>(f p.1,p.2)) (f i)=look H i
 |[],_=>rfl
 |(j,e)::r,i=>by
  simp only[List.map_cons,look]
  by_cases hj:j=i
  ·subst hj;simp
  ·rw[if_neg hj,if_neg fun h=>hj (hf _ _ h),look_map hf r i]
theorem look_mem {β:Type}:∀{H:List (Nat×β)} {i:Nat} {e:β},look H i=some e→(i,e)∈H
 |(j,x)::r,i,e,hl=>by
  simp only[look]at hl;split at hl
  ·rename_i hj;subst hj;injection hl with hl;subst hl;simp
  ·exact List.mem_cons_of_mem _ (look_mem hl)
theorem getD_lt {α:Type}{l:List α}{i:Nat}{d:α}(hi:i<l.length):l.getD i d=l[i]:=by simp[List.getD,hi]
theorem nodup_inj {l:List Nat}(hn:l.Nodup){i j:Nat}(hi:i<l.length)(hj:j<l.length)(h:l[i]=l[j]):i=j:=by
 have hp:=List.pairwise_iff_getElem.1 hn;rcases Nat.lt_trichotomy i j with h1|h1|h1
 ·exact absurd h (hp i j hi hj h1)
 ·exact h1
 ·exact absurd h.symm (hp j i hj hi h1)
theorem back_inj {ks:List Nat}{base:Nat}(hn:ks.Nodup)(hb:∀k∈ks,k<base):∀i j,back ks base i=back ks base j→i=j:=by
 intro i j hij;unfold back at hij
 by_cases hi:i<ks.length<;>by_cases hj:j<ks.length
 ·rw[if_pos hi,if_pos hj]at hij;rw[getD_lt hi,getD_lt hj]at hij;exact nodup_inj hn hi hj hij
 ·rw[if_pos hi,if_neg hj,getD_lt hi]at hij;have:=hb _ (List.getElem_mem hi);omega
 ·rw[if_neg hi,if_pos hj,getD_lt hj]at hij;have:=hb _ (List.getElem_mem hj);omega
 ·rw[if_neg hi,if_neg hj]at hij;omega
theorem lendFrom_ok {h:Hp}:∀{ks:List Nat} {i:Nat} {Hs:List (Nat×Ent)},lendFrom h i ks=some Hs→
  (∀j,j<ks.length→∃e e',h (ks.getD j 0)=some e∧lendE e=some e'∧look Hs (i+j)=some e')∧∀j e,look Hs j=some e→i≤j∧j<i+ks.length
 |[],i,Hs,hl=>by simp[lendFrom]at hl;subst hl;exact⟨fun j hj=>by simp at hj,fun j e he=>by cases he⟩
 |k::ks,i,Hs,hl=>by
  simp only[lendFrom]at hl;split at hl
  ·rename_i e' r h1 h2;injection hl with hl;subst hl;obtain⟨e,he,hle⟩:=Option.bind_eq_some_iff.1 h1;obtain⟨q1,q2⟩:=lendFrom_ok h2;refine⟨fun j hj=> ?_,fun j e2 he2=> ?_⟩
   ·cases j with
    |zero=>exact⟨e,e',by simpa using he,hle,by simp[look]⟩
    |succ j=>
     obtain⟨x,x',y1,y2,y3⟩:=q1 j (by simpa using hj);refine⟨x,x',by simpa using y1,y2,?_⟩;simp only[look];rw[if_neg (by omega),show i+(j+1)=i+1+j from by omega];exact y3
   ·simp only[look]at he2;split at he2
    ·simp;omega
    ·have:=q2 j e2 he2;simp;omega
  ·cases hl
theorem owns_lend {ks:List Nat}{Hs:List (Nat×Ent)}(hl:lendFrom h 0 ks=some Hs){i b c:Nat}:Owns (fun i=>γ (ks.getD i 0)) (look Hs) i b c→Owns γ h (ks.getD i 0) b c:=by
 intro ho;obtain⟨q1,q2⟩:=lendFrom_ok hl;unfold Owns at ho
 cases he:look Hs i with
 |none=>rw[he]at ho;exact ho.elim
 |some e'=>
  have hi:=(q2 i e' he).2;obtain⟨e,e2,y1,y2,y3⟩:=q1 i (by omega);rw[Nat.zero_add,he]at y3;injection y3 with y3;subst y3;rw[he]at ho;unfold Owns;rw[y1]
  cases e<;>simp only[lendE]at y2
  ·injection y2 with y2;subst y2;exact ho.elim
  ·split at y2
   ·injection y2 with y2;subst y2;exact ho
   ·cases y2
  ·injection y2 with y2;subst y2;exact ho
  ·injection y2 with y2;subst y2;exact ho
  ·injection y2 with y2;subst y2;exact ho
  ·injection y2 with y2;subst y2;exact ho
theorem rel_lend (r:Rel γ h M w){ks:List Nat}{Hs:List (Nat×Ent)}(hn:ks.Nodup)(hl:lendFrom h 0 ks=some Hs):Rel (fun i=>γ (ks.getD i 0)) (look Hs) M w:=by
 obtain⟨q1,q2⟩:=lendFrom_ok hl;have hlive:∀i,live (look Hs i)=true→i<ks.length∧live (h (ks.getD i 0))=true:=by
  intro i hi
  cases he:look Hs i with
  |none=>rw[he]at hi;cases hi
  |some e'=>
   have hi':=(q2 i e' he).2;obtain⟨e,e2,y1,y2,y3⟩:=q1 i (by omega);rw[Nat.zero_add,he]at y3;injection y3 with y3;subst y3;rw[he]at hi;refine⟨by omega,?_⟩;rw[y1]
   cases e<;>simp only[lendE]at y2
   ·injection y2 with y2;subst y2;exact hi
   ·rfl
   ·rfl
   ·rfl
   ·rfl
   ·rfl
 refine⟨fun i e' he=> ?_,fun i b c ho=>r.own _ b c (owns_lend hl ho),fun i j b l1 l2 b1 b2=> ?_,r.u32,r.dom,r.glb⟩
 ·have hi:=(q2 i e' he).2;obtain⟨e,e2,y1,y2,y3⟩:=q1 i (by omega);rw[Nat.zero_add,he]at y3;injection y3 with y3;subst y3;have hr:=r.ent _ e y1
  cases e<;>simp only[lendE]at y2
  ·injection y2 with y2;subst y2;trivial
  ·rename_i t cs;split at y2
   ·rename_i hk;injection y2 with y2;subst y2;obtain⟨g,vs,k1,k2,k3⟩:=hr;refine⟨g,vs,k1,k2,?_⟩;have k4:All2 (RdA γ h M w) (cs.map stripA) vs:=All2.map (All2.imp (fun _ _=>RdA.strip) k3);have k5:All2 (RdA (fun i=>γ (ks.getD i 0)) (look Hs) M w) ((cs.map stripA).map (renA id)) vs:=by
     refine All2.renA k4 fun key hkk=> ?_;obtain⟨x,hx,hkx⟩:=List.mem_flatMap.1 hkk;have:=List.all_eq_true.1 hk x hx;rw[List.isEmpty_iff]at this;rw[this]at hkx;cases hkx
    have hid:∀x∈cs.map stripA,renA id x=x:=by
     intro x hx
     cases x<;>simp[renA]
     rename_i f xs ys;have hb:∀y:BA,renB id y=y:=fun y=>by cases y<;>rfl
     have hl:∀l:List BA,l.map (renB id)=l:=fun l=>by rw[show(renB id)=id from funext hb];simp
     rw[hl,hl];exact⟨rfl,rfl⟩
    rw[List.map_congr_left hid,List.map_id']at k5;exact k5
   ·cases y2
  ·injection y2 with y2;subst y2;exact hr
  ·injection y2 with y2;subst y2;exact hr
  ·injection y2 with y2;subst y2;exact hr
  ·injection y2 with y2;subst y2;exact tt_ren (f:=fun _=>i) hr (SameKey.tt rfl y1 he)
 ·obtain⟨i1,l1'⟩:=hlive i l1;obtain⟨j1,l2'⟩:=hlive j l2;have:=r.inj _ _ b l1' l2' b1 b2;rw[getD_lt i1,getD_lt j1]at this;exact nodup_inj hn i1 j1 this
theorem back_call (r:Rel γ h M w){ks:List Nat}{base:Nat}{Hs H1:List (Nat×Ent)}(hn:ks.Nodup)(hb:∀k∈ks,k<base)(hl:lendFrom h 0 ks=some Hs)(hkeys:H1.all (fun p=>noKeys p.2)=true)(hfresh:∀p∈H1,ks.length≤p.1→h (back ks base p.1)=none)
  {γ1:Gh} {M1:MS} {w1:World} (r1:Rel γ1 (look H1) M1 w1) (s1:Stp (fun i=>γ (ks.getD i 0)) (look Hs) M w γ1 (look H1) M1 w1):
  ∃γ',Rel γ' (over (H1.map fun p=>(back ks base p.1,p.2)) h) M1 w1∧Stp γ h M w γ' (over (H1.map fun p=>(back ks base p.1,p.2)) h) M1 w1∧
   ∀v r,RdV γ1 (look H1) M1 w1 v r→RdV γ' (over (H1.map fun p=>(back ks base p.1,p.2)) h) M1 w1 (renV (back ks base) v) r:=by
 have hinj:=back_inj hn hb;obtain⟨q1,q2⟩:=lendFrom_ok hl;obtain⟨S,hS⟩:∃S,S=over (H1.map fun p=>(back ks base p.1,p.2)) h:=⟨_,rfl⟩;have hSb:∀i e,look H1 i=some e→S (back ks base i)=some e:=by
  intro i e he;rw[hS];unfold over;rw[look_map hinj,he]
 have hSo:∀key,(∀i,(look H1 i).isSome=true→back ks base i≠key)→S key=h key:=by
  intro key hk;rw[hS];unfold over
  cases hq:look (H1.map fun p=>(back ks base p.1,p.2)) key with
  |none=>rfl
  |some e=>
   exfalso;obtain⟨p,hp,he⟩:=List.mem_map.1 (look_mem hq);injection he with he1 he2;rw[←he1,look_map hinj]at hq;exact hk p.1 (by rw[hq];rfl) he1
 classical
 obtain⟨γ',hγ⟩:∃γ':Gh,(∀i,(look H1 i).isSome=true→γ' (back ks base i)=γ1 i)∧∀key,(∀i,(look H1 i).isSome=true→back ks base i≠key)→γ' key=γ key:=by
  refine⟨fun key=>if hq:∃i,(look H1 i).isSome=true∧back ks base i=key then γ1 hq.choose else γ key,fun i hi=> ?_,fun key hk=> ?_⟩
  ·have hq:∃j,(look H1 j).isSome=true∧back ks base j=back ks base i:=⟨i,hi,rfl⟩;simp only[dif_pos hq];rw[hinj _ _ hq.choose_spec.2]
  ·have hq:¬ ∃i,(look H1 i).isSome=true∧back ks base i=key:=fun⟨i,hi,he⟩=>hk i hi he;simp only[dif_neg hq]
 obtain⟨hγb,hγo⟩:=hγ;have hbk:∀i,i<ks.length→back ks base i=ks.getD i 0:=fun i hi=>if_pos hi
 -- a key of the caller's is the callee's,or is not
 have hcase:∀key,(∃i e,look H1 i=some e∧back ks base i=key)∨∀i,(look H1 i).isSome=true→back ks base i≠key:=by
  intro key
  by_cases hq:∃i,(look H1 i).isSome=true∧back ks base i=key
  ·obtain⟨i,hi,he⟩:=hq;obtain⟨e,hee⟩:=Option.isSome_iff_exists.1 hi;exact .inl ⟨i,e,hee,he⟩
  ·exact .inr fun i hi he=>hq ⟨i,hi,he⟩
 have hown1:∀i e b c,look H1 i=some e→(Owns γ' S (back ks base i) b c↔Owns γ1 (look H1) i b c):=by
  intro i e b c he;unfold Owns;rw[hSb i e he,he,hγb i (by rw[he];rfl)]
 have hown2:∀key b c,(∀i,(look H1 i).isSome=true→back ks base i≠key)→(Owns γ' S key b c↔Owns γ h key b c):=fun key b c hk=>owns_congr (hγo key hk) (hSo key hk);have hold:∀i,i<ks.length→∃e,look H1 i=some e:=by
  intro i hi;obtain⟨e,e',y1,y2,y3⟩:=q1 i hi;rw[Nat.zero_add]at y3;obtain⟨e2,z1,_⟩:=s1.key i e' y3;exact⟨e2,z1⟩
 -- what a key that is not lent owns,no lent key owns
 have hother:∀key b,live (h key)=true→ib (γ key) b→(∀i,(look H1 i).isSome=true→back ks base i≠key)→∀i c,¬Owns (fun i=>γ (ks.getD i 0)) (look Hs) i b c:=by
  intro key b hlv hbb hk i c ho;have ho':=owns_lend hl ho;obtain⟨l1,l2⟩:=owns_live ho';have e1:=r.inj _ _ b l1 hlv l2 hbb;have hi:i<ks.length:=by
   have:=(owns_live ho).1
   cases he:look Hs i with
   |none=>rw[he]at this;cases this
   |some e=>have:=(q2 i e he).2;omega
  obtain⟨e,he⟩:=hold i hi;exact hk i (by rw[he];rfl) (by rw[hbk i hi,e1])
 have hstp:Stp γ h M w γ' S M1 w1:=by
  refine⟨s1.os,s1.tape,s1.output,s1.size,s1.fx,fun b hb hno=>s1.other b hb fun i c ho=>hno _ c (owns_lend hl ho),fun b c hm hno=>s1.keep b c hm fun i ho=>hno _ (owns_lend hl ho),fun key b c ho hb=> ?_,fun key e he=> ?_⟩
  ·rcases hcase key with⟨i,e,he,rfl⟩|hk
   ·obtain⟨j,hj⟩:=s1.new i b c ((hown1 i e b c he).1 ho) hb;exact⟨_,owns_lend hl hj⟩
   ·exact⟨key,(hown2 key b c hk).1 ho⟩
  ·rcases hcase key with⟨i,e1,he1,hbi⟩|hk
   ·by_cases hi:i<ks.length
    ·obtain⟨e0,e',y1,y2,y3⟩:=q1 i hi;rw[Nat.zero_add]at y3;have hkey:key=ks.getD i 0:=by rw[←hbi,hbk i hi]
     rw[hkey,y1]at he;injection he with he;subst he;obtain⟨e2,z1,z2,z3⟩:=s1.key i e' y3;rw[he1]at z1;injection z1 with z1;subst z1;refine⟨e1,by rw[←hbi];exact hSb i e1 he1,?_,?_⟩
     ·cases e0<;>simp only[lendE]at y2
      ·injection y2 with y2;subst y2;exact z2
      ·split at y2
       ·injection y2 with y2;subst y2;cases e1<;>exact z2
       ·cases y2
      ·injection y2 with y2;subst y2;exact z2
      ·injection y2 with y2;subst y2;exact z2
      ·injection y2 with y2;subst y2;exact z2
      ·injection y2 with y2;subst y2;exact z2
     ·rw[←hbi,hγb i (by rw[he1];rfl),hbk i hi];rcases z3 with z3|z3
      ·exact .inl z3
      ·right
       cases e0<;>simp only[lendE]at y2
       ·injection y2 with y2;subst y2;exact z3
       ·split at y2
        ·injection y2 with y2;subst y2;cases e1<;>exact z3
        ·cases y2
       ·injection y2 with y2;subst y2;exact z3
       ·injection y2 with y2;subst y2;exact z3
       ·injection y2 with y2;subst y2;exact z3
       ·injection y2 with y2;subst y2;exact z3
    ·have:=hfresh (i,e1) (look_mem he1) (by simpa using hi);simp only at this;rw[hbi,he]at this;cases this
   ·exact⟨e,by rw[hSo key hk];exact he,Goes.refl _,.inl (hγo key hk)⟩
 have hsame:∀i,(look H1 i).isSome=true→SameKey (back ks base) γ1 (look H1) γ' S i:=by
  intro i hi;obtain⟨e,he⟩:=Option.isSome_iff_exists.1 hi;refine⟨hγb i hi,fun hp=>by rw[hSb i e he,←he];exact hp,fun hp=>by rw[hSb i e he,←he];exact hp,fun _=>by rw[hSb i e he];rfl,fun e1 k n hq=>by rw[hSb i e he]at hq;rw[he];exact hq,fun e1 k n hq=>by rw[hSb i e he]at hq;exact⟨n,by rw[he];exact hq,rfl⟩,fun hp=>by rw[hSb i e he,←he];exact hp,fun e0 e1 k o ar hq=>by rw[hSb i e he]at hq;exact⟨o,ar,by rw[he];exact hq,rfl,rfl,fun _=>rfl⟩⟩
 rw[←hS];refine⟨γ',⟨fun key e he=> ?_,fun key b c ho=> ?_,fun key1 key2 b l1 l2 b1 b2=> ?_,r1.u32,r1.dom,r1.glb⟩,hstp,fun v x hv=>hv.ren fun key hk=>hsame key (RdV.there hv key hk)⟩
 ·rcases hcase key with⟨i,e1,he1,rfl⟩|hk
  ·rw[hSb i e1 he1]at he;injection he with he;subst he;have he2:=r1.ent i e1 he1
   cases e1 with
   |gone=>trivial
   |tab e k rows=>
    obtain⟨g,vs,sp,k1,k2⟩:=he2;exact⟨g,vs,sp,by rw[hγb i (by rw[he1];rfl),k1],k2⟩
   |mp φ=>
    obtain⟨g,o,k1,k2⟩:=he2;exact⟨g,o,by rw[hγb i (by rw[he1];rfl),k1],k2⟩
   |tt e0 e k o ar=>exact tt_ren he2 (hsame i (by rw[he1];rfl))
   |arr e k n=>
    obtain⟨xs,hx⟩:=he2;exact⟨xs,by rw[hγb i (by rw[he1];rfl)];exact hx⟩
   |box t cs=>
    obtain⟨g,vs,k1,k2,k3⟩:=he2;refine⟨g,vs,by rw[hγb i (by rw[he1];rfl),k1],k2,?_⟩;have hnk:cs.all (fun x=>(keysA x).isEmpty)=true:=by
     have:=List.all_eq_true.1 hkeys _ (look_mem he1);exact this
    have k5:All2 (RdA γ' S M1 w1) (cs.map (renA id)) vs:=by
     refine All2.renA k3 fun key hkk=> ?_;obtain⟨x,hx,hkx⟩:=List.mem_flatMap.1 hkk;have:=List.all_eq_true.1 hnk x hx;rw[List.isEmpty_iff]at this;rw[this]at hkx;cases hkx
    have hid:∀x∈cs,renA id x=x:=by
     intro x hx
     cases x<;>simp[renA]
     rename_i f xs ys;have hb:∀y:BA,renB id y=y:=fun y=>by cases y<;>rfl
     have hl:∀l:List BA,l.map (renB id)=l:=fun l=>by rw[show(renB id)=id from funext hb];simp
     rw[hl,hl];exact⟨rfl,rfl⟩
    rw[List.map_congr_left hid,List.map_id']at k5;exact k5
  ·rw[hSo key hk]at he;refine EntR.stp hstp (r.ent key e he) (hγo key hk) fun hlv b hbb=>s1.other b (blk_lt r he hlv hbb) fun i c=>hother key b (by rw[he];exact hlv) hbb hk i c
 ·rcases hcase key with⟨i,e1,he1,rfl⟩|hk
  ·exact r1.own i b c ((hown1 i e1 b c he1).1 ho)
  ·have ho':=(hown2 key b c hk).1 ho;obtain⟨l1,l2⟩:=owns_live ho';exact s1.keep b c (r.own key b c ho') fun i ho2=>hother key b l1 l2 hk i c ho2
 ·have hmix:∀i e key,look H1 i=some e→live (some e)=true→ib (γ1 i) b→(∀i,(look H1 i).isSome=true→back ks base i≠key)→live (h key)=true→ib (γ key) b→False:=by
   intro i e key he hle hbb hk hlk hbk2
   cases hh:h key with
   |none=>rw[hh]at hlk;cases hlk
   |some e0=>
    have hlt:=blk_lt r hh (by rw[←hh];exact hlk) hbk2;have ho:∃c,Owns γ1 (look H1) i b c:=by
     unfold Owns;rw[he]
     cases e with
     |gone=>cases hle
     |box=>exact⟨0,hbb⟩
     |tab=>exact⟨0,hbb⟩
     |mp=>exact⟨0,hbb⟩
     |tt=>exact⟨0,hbb⟩
     |arr e k n=>exact⟨n*k,hbb,lR_ _⟩
    obtain⟨c,ho⟩:=ho;obtain⟨j,hj⟩:=s1.new i b c ho hlt;exact hother key b hlk hbk2 hk j c hj
  rcases hcase key1 with⟨i,e1,he1,rfl⟩|hk1<;>rcases hcase key2 with⟨j,e2,he2,rfl⟩|hk2
  ·rw[hSb i e1 he1]at l1;rw[hSb j e2 he2]at l2;rw[hγb i (by rw[he1];rfl)]at b1;rw[hγb j (by rw[he2];rfl)]at b2;rw[r1.inj i j b (by rw[he1];exact l1) (by rw[he2];exact l2) b1 b2]
  ·rw[hSb i e1 he1]at l1;rw[hγb i (by rw[he1];rfl)]at b1;rw[hSo key2 hk2]at l2;rw[hγo key2 hk2]at b2;exact(hmix i e1 key2 he1 l1 b1 hk2 l2 b2).elim
  ·rw[hSb j e2 he2]at l2;rw[hγb j (by rw[he2];rfl)]at b2;rw[hSo key1 hk1]at l1;rw[hγo key1 hk1]at b1;exact(hmix j e2 key1 he2 l2 b2 hk1 l1 b1).elim
  ·rw[hSo key1 hk1]at l1;rw[hγo key1 hk1]at b1;rw[hSo key2 hk2]at l2;rw[hγo key2 hk2]at b2;exact r.inj key1 key2 b l1 l2 b1 b2
def WkV (v v':V):Prop:=∀(γ:Gh) (h:Hp) (M:MS) (w:World) (r:Value),RdV γ h M w v r→RdV γ h M w v' r
theorem WkV.refl (v:V):WkV v v:=fun _ _ _ _ _ k=>k
abbrev vR_:= @WkV.refl
def bv:BA→V
 | .d x=> .a (.d x)
 | .ptr k o=> .a (.ptr k o)
 | .g xs=> .agg (xs.map .d)
 | .e row off=> .a (.elt row off)
theorem bv_ok {x:BA}{v:Value}(k:RdB γ h M w x v):RdV γ h M w (bv x) v:=by
 cases x with
 |d x=>exact k
 |ptr k0 o=>exact k
 |g xs=>obtain⟨vs,h1,h2⟩:=k;exact⟨vs,h1,All2.map (All2.imp (fun _ _ q=>q) h2)⟩
 |e row off=>exact k
theorem bvs_ok:∀{xs:List BA} {vs:List Value},All2 (RdB γ h M w) xs vs→All2 (RdV γ h M w) (xs.map bv) vs
 |[],[],_=>trivial
 |_::_,_::_,k=>⟨bv_ok k.1,bvs_ok k.2⟩
 |[],_::_,k=>k.elim
 |_::_,[],k=>k.elim
def evs (ev:Operand→Option V):List Operand→Option (List V)
 |[]=>some []
 |x::r=>match ev x,evs ev r with
  |some v,some vs=>some (v::vs)
  |_,_=>none
theorem evs_ok (ht:TR γ h M w T a):∀{xs:List Operand} {vs:List V},evs (evL T) xs=some vs→All2 (RdV γ h M w) vs (xs.map a.eval)
 |[],vs,hv=>by simp[evs]at hv;subst hv;trivial
 |x::r,vs,hv=>by
  simp only[evs]at hv;split at hv
  ·rename_i v vs' h1 h2;injection hv with hv;subst hv;exact⟨evL_ok ht h1,evs_ok ht h2⟩
  ·cases hv
theorem evs_congr {ev ev':Operand→Option V}:∀{xs:List Operand},(∀x,x∈xs→ev' x=ev x)→evs ev' xs=evs ev xs
 |[],_=>rfl
 |x::r,hc=>by simp only[evs];rw[hc x (by simp),evs_congr fun y hy=>hc y (by simp[hy])]
def entT (P:Program)(F:FuncId):Bool:=
 match P.funcs[F]? with
 |some fn=>(fn.name != "runtime.NumGoroutine")&&fn.body.isSome
 |none=>false
theorem entT_run {F:FuncId}(he:entT P F=true)(args:Array Value):(callFunc F args).run P w= .ok (.enter F args) w:=by
 unfold entT at he;split at he
 ·rename_i fn hf;simp only[Bool.and_eq_true,bne_iff_ne,ne_eq]at he;obtain⟨h1,h2⟩:=he
  cases hb:fn.body with
  |none=>rw[hb]at h2;cases h2
  |some b=>simp[callFunc,hf,h1,hb]
 ·cases he
theorem wk_all {gs bs:List V}(hw:All2 WkV gs bs):∀{rs:List Value},All2 (RdV γ h M w) gs rs→All2 (RdV γ h M w) bs rs:=by
 induction gs generalizing bs with
 |nil=>intro rs k;cases bs with
  |nil=>exact k
  |cons=>exact hw.elim
 |cons a gs ih=>intro rs k;cases bs with
  |nil=>exact hw.elim
  |cons b bs=>cases rs with
   |nil=>exact k.elim
   |cons r rs=>exact⟨hw.1 _ _ _ _ _ k.1,ih hw.2 k.2⟩
theorem lendFrom_congr {h h':Hp}:∀{ks:List Nat} {i:Nat},(∀k,k∈ks→h' k=h k)→lendFrom h' i ks=lendFrom h i ks
 |[],_,_=>rfl
 |k::ks,i,hc=>by simp only[lendFrom];rw[hc k (by simp),lendFrom_congr fun y hy=>hc y (by simp[hy])]
def Enters (P:Program)(o:Oper)(T:Nat→Option V)(F:FuncId)(vs:List V):Prop:=
 ∀(T':Nat→Option V) (h':Hp) (γ:Gh) (M:MS) (w:World) (a:Act),(∀d,Operand.tmp d∈o.op.operands→T' d=T d)→TR γ h' M w T' a→∃rs,All2 (RdV γ h' M w) vs rs∧(execOp a.eval o).run P w= .ok (.enter F rs.toArray) w
def fnV:V→Option (FuncId×List BA×List BA)
 | .a (.fn (.func F) first caps)=>some (F,first,caps)
 | .a (.d (.lit (.func (.func F) ⟨[]⟩ ⟨[]⟩)))=>some (F,[],[])
 |_=>none
theorem fnV_ok {v:V}{F:FuncId}{first caps:List BA}{r:Value}(h1:fnV v=some (F,first,caps))(k:RdV γ h M w v r):RdV γ h M w (.a (.fn (.func F) first caps)) r:=by
 unfold fnV at h1;split at h1
 ·injection h1 with h1;injection h1 with a b;injection b with b c;subst a b c;exact k
 ·injection h1 with h1;injection h1 with a b;injection b with b c;subst a b c;exact⟨[],[],lit_inv k,trivial,trivial⟩
 ·cases h1
theorem enters_callV {o:Oper}{c:Call}{f:Operand}{F:FuncId}{first caps:List BA}{vs:List V}(ho:o.op= .call c)(hc:c.callee= .value f)
  (hf:(evL T f).bind fnV=some (F,first,caps)) (ha:evs (evL T) c.args.toList=some vs) (hent:entT P F=true):Enters P o T F (first.map bv++vs++caps.map bv):=by
 intro T' h' γ M w a hT ht;have hops:∀x,x=f∨x∈c.args.toList→evL T' x=evL T x:=by
  intro x hx;refine evL_congr fun d hd=>hT d ?_;rw[ho];simp only[Op.operands,Call.operands,hc];subst hd;rcases hx with hx|hx
  ·subst hx;simp
  ·simp only[Array.mem_append];exact .inr (Array.mem_toList_iff.1 hx)
 obtain⟨v0,hv0,hv1⟩:=Option.bind_eq_some_iff.1 hf;have ha':evs (evL T') c.args.toList=some vs:=(evs_congr fun x hx=>hops x (.inr hx)).trans ha;obtain⟨x1,y1,e1,k1,k2⟩:=fnV_ok hv1 (evL_ok ht ((hops f (.inl rfl)).trans hv0));have k3:=evs_ok ht ha';refine⟨x1++c.args.toList.map a.eval++y1,All2.app (All2.app (bvs_ok k1) k3) (bvs_ok k2),?_⟩;have h1:(x1++c.args.toList.map a.eval++y1).toArray=x1.toArray++c.args.map a.eval++y1.toArray:=by
  apply Array.ext';simp
 have h2:=entT_run (w:=w) hent (x1.toArray++c.args.map a.eval++y1.toArray);rw[h1];simp only[execOp,ho,resolve,hc,e1,Deferred.ofValue];rw[Array.append_assoc]at h2;simp[invoke,h2]
def Meth (P:Program)(t:TypeId)(v:Value)(name:String)(F:FuncId)(r:Value):Prop:=∀w:World,(method (P.types.size+Made.depth) t v name).run P w= .ok (F,r) w
theorem enters_inv {o:Oper}{c:Call}{x:Operand}{name:String}{F:FuncId}{t:TypeId}{v r:Value}{vs:List V}(ho:o.op= .call c)(hc:c.callee= .invoke x name)
  (hx:evL T x=some (.a (.d (.lit (.iface t v))))) (ha:evs (evL T) c.args.toList=some vs) (hm:Meth P t v name F r) (hent:entT P F=true):Enters P o T F (cst r::vs):=by
 intro T' h' γ M w a hT ht;have hops:∀y,y=x∨y∈c.args.toList→evL T' y=evL T y:=by
  intro y hy;refine evL_congr fun d hd=>hT d ?_;rw[ho];simp only[Op.operands,Call.operands,hc];subst hd;rcases hy with hy|hy
  ·subst hy;simp
  ·simp only[Array.mem_append];exact .inr (Array.mem_toList_iff.1 hy)
 have e1:=lit_inv (evL_ok ht ((hops x (.inl rfl)).trans hx));have k3:=evs_ok ht ((evs_congr fun y hy=>hops y (.inr hy)).trans ha);refine⟨r::c.args.toList.map a.eval,⟨cst_ok r,k3⟩,?_⟩;have h1:(r::c.args.toList.map a.eval).toArray= #[r]++c.args.map a.eval:=by apply Array.ext';simp
 have h2:=entT_run (w:=w) hent (#[r]++c.args.map a.eval);rw[h1]
 have h3:∀X:Array Value,(#[Value.iface t v]++X).extract 1 (#[Value.iface t v]++X).size=X:=fun X=>by
  apply Array.ext';simp
 have h4:∀X:Array Value,(#[Value.iface t v]++X)[0]? =some (.iface t v):=fun X=>by rw[Array.getElem?_append_left (by simp)];rfl
 have e2:=hm w;simp only[execOp,ho,resolve,hc,e1];generalize c.args.map a.eval=X at *
 simp only[Sem.run_bind,Sem.run_pure,Result.andThen_ok,invoke,h3,h4,callMethod];simp[e2,h2]
theorem OT_enter {o:Oper}{F:FuncId}{vs gs:List V}{ks:List Nat}{base:Nat}{Hs H1:List (Nat×Ent)}{v1:V}(hen:Enters P o T F vs)(hw:All2 WkV vs gs)(hn:ks.Nodup)(hb:∀k∈ks,k<base)
  (hl:lendFrom h 0 ks=some Hs) (hk:∀key∈gs.flatMap keysV,key∈ks) (hlc:LC P F (gs.map (renV fun k=>ks.idxOf k)) Hs v1 H1) (hkeys:H1.all (fun p=>noKeys p.2)=true)
  (hfresh:∀p∈H1,ks.length≤p.1→h (back ks base p.1)=none):
  OT P o T h (renV (back ks base) v1) (H1.map fun p=>(back ks base p.1,p.2)) (ks++H1.map fun p=>back ks base p.1):=by
 intro T' h' γ M w a next Q hT hk' hr ht hnx
 have hl':lendFrom h' 0 ks=some Hs:=(lendFrom_congr fun k hk=>hk' k (by simp[hk])).trans hl;have hfresh':∀p∈H1,ks.length≤p.1→h' (back ks base p.1)=none:=fun p hp hpl=>(hk' _ (List.mem_append_right _ (List.mem_map.2 ⟨p,hp,rfl⟩))).trans (hfresh p hp hpl);obtain⟨rs,k3,hrun⟩:=hen T' h' γ M w a hT ht;have k4:All2 (RdV γ h' M w) gs rs:=wk_all hw k3;obtain⟨q1,q2⟩:=lendFrom_ok hl';have k5:All2 (RdV (fun i=>γ (ks.getD i 0)) (look Hs) M w) (gs.map (renV fun k=>ks.idxOf k)) rs:=by
  refine All2.renV k4 fun key hkey=> ?_;have hmem:=hk key hkey;have hi:ks.idxOf key<ks.length:=List.idxOf_lt_length_of_mem hmem;have hg:ks.getD (ks.idxOf key) 0=key:=by rw[getD_lt hi];exact List.getElem_idxOf hi
  obtain⟨e,e',z1,z2,z3⟩:=q1 _ hi;rw[Nat.zero_add]at z3;rw[hg]at z1;refine⟨by simp only[hg],fun hp=> ?_,fun hp=> ?_,fun _=>by rw[z3];rfl,fun e0 k n he=> ?_,fun e0 k n he=> ?_,fun hp=> ?_,fun e0 e1 k o ar he=> ?_⟩
  ·rw[z1]at hp;rw[z3]
   cases e<;>simp only[lendE]at z2
   ·injection z2 with z2;subst z2;rfl
   ·split at z2
    ·injection z2 with z2;subst z2;rfl
    ·cases z2
   ·cases hp
   ·injection z2 with z2;subst z2;rfl
   ·cases hp
   ·cases hp
  ·rw[z1]at hp;rw[z3]
   cases e<;>simp only[lendE]at z2
   ·injection z2 with z2;subst z2;rfl
   ·cases hp
   ·cases hp
   ·cases hp
   ·injection z2 with z2;subst z2;rfl
   ·cases hp
  ·rw[z3]at he;injection he with he;subst he;rw[z1]
   cases e<;>simp only[lendE]at z2
   ·injection z2 with z2;cases z2
   ·split at z2
    ·injection z2 with z2;cases z2
    ·cases z2
   ·injection z2 with z2;rw[z2]
   ·injection z2 with z2;cases z2
   ·injection z2 with z2;cases z2
   ·injection z2 with z2;cases z2
  ·rw[z3]at he;injection he with he;subst he;rw[z1]
   cases e<;>simp only[lendE]at z2
   ·injection z2 with z2;cases z2
   ·split at z2
    ·injection z2 with z2;cases z2
    ·cases z2
   ·injection z2 with z2;cases z2
   ·injection z2 with z2;exact⟨_,by rw[z2],rfl⟩
   ·injection z2 with z2;cases z2
   ·injection z2 with z2;cases z2
  ·rw[z1]at hp;rw[z3]
   cases e<;>simp only[lendE]at z2<;>first|(cases hp;done)|(injection z2 with z2;subst z2;rfl)
  ·rw[z3]at he;injection he with he;subst he;rw[z1]
   cases e<;>simp only[lendE]at z2
   ·injection z2 with z2;cases z2
   ·split at z2
    ·injection z2 with z2;cases z2
    ·cases z2
   ·injection z2 with z2;cases z2
   ·injection z2 with z2;cases z2
   ·injection z2 with z2;cases z2
   ·injection z2 with z2;exact⟨_,_,by rw[z2],rfl,rfl,fun _=>rfl⟩
 have k6:=hlc _ M w _ (rel_lend hr hn hl') k5;unfold Oper.wp;rw[hrun];refine cM k6 ?_;rintro e w' ⟨r,γ1,M1,rfl,r1,r2,r3⟩;obtain⟨γ',z1,z2,z3⟩:=back_call hr hn hb hl' hkeys hfresh' r1 r3;exact hnx r γ' M1 w' z1 (z3 v1 r r2) z2
end
end Go.Proofs.YthdoopaenanibaaGreatDoor.Lf
