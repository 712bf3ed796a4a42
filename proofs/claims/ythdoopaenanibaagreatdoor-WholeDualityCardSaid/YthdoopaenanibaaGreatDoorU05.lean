/- Texts LvE LvF LfR LgD LgA LgB LgC LgE LgF LgG LgH LgK LxC LxD LxE LxF LxG LxH LgL LgM LgN LgO LgP LgQ LgS LgT LgU LgV LgW LgX LmA LmB LmC of this proof, in this order. -/
import Derived.Test.YthdoopaenanibaaGreatDoorU04
import Derived.KernelRfl
import Derived.Maps.Views
set_option linter.unusedVariables false
set_option linter.unusedSimpArgs false
set_option maxRecDepth 100000
set_option maxHeartbeats 4000000
namespace Go.Proofs.YthdoopaenanibaaGreatDoor.Lf
open Go.RowKit Nt
section
variable {b c:Bool} {xs ys xs' ys':List Nat} {m n d:Nat} {p q r:Rat}
theorem sz_cross {z:Int}{n u:Nat}(hz:z.natAbs=n)(hn:sz n≤100000000)(hu:sz u≤100000000):(limbs (z*(u:Nat)).natAbs).length≤200000000:=by
 rw[Int.natAbs_mul,hz];exact tL_ (sz_mul _ _) (by rw[Int.natAbs_natCast];omega)
theorem sz_mul_le {m n M N:Nat}(h:sz m≤M)(h':sz n≤N):(limbs (m*n)).length≤M+N:=tL_ (sz_mul _ _) (by omega)
theorem lq_cmp (h:Rl b xs ys q)(h':Rl c xs' ys' r):LV Tryz.prog 41 [rawV b xs ys,rawV c xs' ys'] (vl (.int .i64 (cmpQ q r))):=by
 have k:=li_cmp (b:=decide (iv b (val xs)*(un (val ys'):Nat)<0)) (c:=decide (iv c (val xs')*(un (val ys):Nat)<0)) (val_limbs (iv b (val xs)*(un (val ys'):Nat)).natAbs) (val_limbs (iv c (val xs')*(un (val ys):Nat)).natAbs)
  (tL_ (sz_cross (iv_abs _ _) h.szn h'.su) (by omega)) (tL_ (sz_cross (iv_abs _ _) h'.szn h.su) (by omega))
 have s1:=lq_sign h;have s2:=lq_sign h';have hc:=lq_cross h h';rw[iv_self,iv_self,←cmpQ_rv,h.e,h'.e]at k;rw[←h.e,←rv_sign]at s1;rw[←h'.e,←rv_sign]at s2;have hlt:=cross_lt (x:=iv b (val xs)) (y:=iv c (val xs')) (c:=val ys') (d:=val ys);have hgt:=cross_gt (x:=iv b (val xs)) (y:=iv c (val xs')) (c:=val ys') (d:=val ys);rw[←cmpQ_rv,h.e,h'.e]at hlt hgt;refine LX_run (m:=0) (n0:=0) mix Tryz.func41 rfl rfl rfl rfl ?_;conv=>whnf
 refine .c (s1) ?_;conv=>whnf
 refine .c (s2) ?_;conv=>whnf
 try (refine Nc.mk (by kernel_rfl) ?_;conv=>whnf)
 refine bs (fun g1=> ?_) (fun g1=> ?_)
 ·conv=>whnf
  refine bs (fun g2=> ?_) (fun g2=> ?_)
  ·rw[hlt (by simpa using g2)];conv=>whnf
   try (refine Nc.mk (by kernel_rfl) ?_;conv=>whnf)
   exact .q ⟨rfl,rfl⟩
  ·rw[hgt (by simp at g1 g2;omega)];conv=>whnf
   try (refine Nc.mk (by kernel_rfl) ?_;conv=>whnf)
   exact .q ⟨rfl,rfl⟩
 ·conv=>whnf
  refine .c (hc) ?_;conv=>whnf
  try (refine Nc.mk (by kernel_rfl) ?_;conv=>whnf)
  refine .c (k) ?_;conv=>whnf
  exact .q ⟨rfl,rfl⟩
theorem lq_add (h:Rl b xs ys q)(h':Rl c xs' ys' r):LV Tryz.prog 122 [rawV b xs ys,rawV c xs' ys'] (ratV (q+r)):=by
 have hc:=lq_cross h h';have hb:=und_len h.d;have hb':=und_len h'.d;have l1:=sz_cross (iv_abs b (val xs)) h.szn h'.su;have l2:=sz_cross (iv_abs c (val xs')) h'.szn h.su;have e:=add_parts (ba:=b) (bb:=c) (na:=val xs) (da:=val ys) (nb:=val xs') (db:=val ys') (iv_self _);rw[h.e,h'.e]at e;rw[←e];generalize iv b (val xs)*(un (val ys'):Nat)=X at *
 generalize iv c (val xs')*(un (val ys):Nat)=Y at *
 have k:=li_add (b:=decide (X<0)) (c:=decide (Y<0)) (val_limbs X.natAbs) (val_limbs Y.natAbs) (by omega) (by omega);rw[iv_self,iv_self]at k
 replace k:LV _ _ _ (rI (decide (X+Y<0)) (limbs (X+Y).natAbs)):=k
 have l3:(limbs (X+Y).natAbs).length≤300000000:=by
  refine tL_ (sz_mono (Int.natAbs_add_le X Y)) (tL_ (sz_add _ _) ?_);unfold sz;omega
 have l4:=sz_mul_le h.su h'.su;generalize decide (X+Y<0)=g at k ⊢
 cases g
 all_goals refine LX_run (m:=0) (n0:=0) mix Tryz.func122 rfl rfl rfl rfl ?_
           conv=>whnf
 all_goals refine .c (hc) ?_
           conv=>whnf
 all_goals try (refine Nc.mk (by kernel_rfl) ?_;conv=>whnf)
 all_goals refine .c (k) ?_
           conv=>whnf
 all_goals try (refine Nc.mk (by kernel_rfl) ?_;conv=>whnf)
 all_goals refine .c (lq_under h) ?_
           conv=>whnf
 all_goals refine .c (lq_under h') ?_
           conv=>whnf
 all_goals refine .c (ln_mul (by omega) (by omega) und_val und_val) ?_
           conv=>whnf
 all_goals refine .c (lq_quot (val_limbs _) (val_limbs _) (Nat.mul_pos (un_pos _) (un_pos _)) (by omega) (by omega)) ?_
           conv=>whnf
 all_goals try (refine Nc.mk (by kernel_rfl) ?_;conv=>whnf)
 all_goals exact .q ⟨rfl,rfl⟩
theorem lq_sub (h:Rl b xs ys q)(h':Rl c xs' ys' r):LV Tryz.prog 235 [rawV b xs ys,rawV c xs' ys'] (ratV (q-r)):=by
 have k:=lq_add h h'.neg;rw[←Rat.sub_eq_add_neg]at k
 cases c
 all_goals refine LX_run (m:=0) (n0:=0) mix Tryz.func235 rfl rfl rfl rfl ?_
           conv=>whnf
 all_goals refine .c (k) ?_
           conv=>whnf
 all_goals try (refine Nc.mk (by kernel_rfl) ?_;conv=>whnf)
 all_goals exact .q ⟨rfl,rfl⟩
theorem lq_mul (h:Rl b xs ys q)(h':Rl c xs' ys' r):LV Tryz.prog 72 [rawV b xs ys,rawV c xs' ys'] (ratV (q*r)):=by
 have hb:=und_len h.d;have hb':=und_len h'.d;have hn:=h.n;have hn':=h'.n;have l1:=sz_mul_le h.szn h'.szn;have l2:=sz_mul_le h.su h'.su;rw[←h.e,←h'.e,←mul_parts]
 cases b<;>cases c
 all_goals refine LX_run (m:=0) (n0:=0) mix Tryz.func72 rfl rfl rfl rfl ?_
           conv=>whnf
 all_goals refine .c (ln_mul (by omega) (by omega) rfl rfl) ?_
           conv=>whnf
 all_goals refine .c (lq_under h) ?_
           conv=>whnf
 all_goals refine .c (lq_under h') ?_
           conv=>whnf
 all_goals refine .c (ln_mul (by omega) (by omega) und_val und_val) ?_
           conv=>whnf
 all_goals refine .c (lq_quot (val_limbs _) (val_limbs _) (Nat.mul_pos (un_pos _) (un_pos _)) (by omega) (by omega)) ?_
           conv=>whnf
 all_goals try (refine Nc.mk (by kernel_rfl) ?_;conv=>whnf)
 all_goals exact .q ⟨rfl,rfl⟩
abbrev qE (q:Rat):V:= .tup [.g [.d (.lit (.bool (decide (q<0)))),.d (.lm (limbs q.num.natAbs)),.d (.lm (limbs (dn q)))],.s (.d (.lit (.int .i64 0)))]
theorem Rl.ne (h:Rl b xs ys q)(h0:q≠0):0<val xs:=by
 refine Nat.pos_of_ne_zero fun e=>h0 ?_;rw[←h.e,e,rv,mk_zero]
theorem lq_div (h0:r≠0)(h:Rl b xs ys q)(h':Rl c xs' ys' r):LV Tryz.prog 109 [rawV b xs ys,rawV c xs' ys'] (qE (q/r)):=by
 have hb:=und_len h.d;have hb':=und_len h'.d;have hn:=h.n;have hn':=h'.n;have l1:=sz_mul_le h.szn h'.su;have l2:=sz_mul_le h.su h'.szn;have hp:=h'.ne h0;have hs:(r.num.sign==0)=false:=by simpa [Int.sign_eq_zero_iff_zero]using h0
 rw[←h.e,←h'.e,←div_parts _ _ _ _ _ _ hp]
 cases b<;>cases c
 all_goals refine LX_run (m:=0) (n0:=0) mix Tryz.func109 rfl rfl rfl rfl ?_
           conv=>whnf
 all_goals refine .c (lq_sign h') ?_
           conv=>whnf
 all_goals refine bF (hs) ?_
           conv=>whnf
 all_goals refine .c (lq_under h') ?_
           conv=>whnf
 all_goals refine .c (ln_mul (by omega) (by omega) rfl und_val) ?_
           conv=>whnf
 all_goals refine .c (lq_under h) ?_
           conv=>whnf
 all_goals refine .c (ln_mul (by omega) (by omega) und_val rfl) ?_
           conv=>whnf
 all_goals refine .c (lq_quot (val_limbs _) (val_limbs _) (Nat.mul_pos (un_pos _) hp) (by omega) (by omega)) ?_
           conv=>whnf
 all_goals try (refine Nc.mk (by kernel_rfl) ?_;conv=>whnf)
 all_goals exact .q ⟨rfl,rfl⟩
theorem lq_max (h:Rl b xs ys q)(h':Rl c xs' ys' r):LV Tryz.prog 270 [rawV b xs ys,rawV c xs' ys'] (ratV (if r≤q then q else r)):=by
 refine LX_run (m:=0) (n0:=0) mix Tryz.func270 rfl rfl rfl rfl ?_;conv=>whnf
 refine .c (lq_cmp h h') ?_;conv=>whnf
 refine bs (fun g=> ?_) (fun g=> ?_)
 ·rw[if_pos (cmpQ_ge.1 (by simpa using g))];conv=>whnf
  refine .c (lq_canon h) ?_;conv=>whnf
  try (refine Nc.mk (by kernel_rfl) ?_;conv=>whnf)
  exact .q ⟨rfl,rfl⟩
 ·rw[if_neg (mt cmpQ_ge.2 (by simpa using g))];conv=>whnf
  refine .c (lq_canon h') ?_;conv=>whnf
  try (refine Nc.mk (by kernel_rfl) ?_;conv=>whnf)
  exact .q ⟨rfl,rfl⟩
theorem lq_whole {z:Int}(hz:(limbs z.natAbs).length≤100000000):LV Tryz.prog 73 [cI z] (ratV (z:Rat)):=by
 have k:=lq_quot (b:=decide (z<0)) (val_limbs z.natAbs) (val_limbs 1) (by decide) (by omega) (by rw[limbs_one];decide);rw[iv_self,mkRat_one]at k;show LV _ _ [rI (decide (z<0)) (limbs z.natAbs)] _;generalize decide (z<0)=g at k ⊢
 cases g
 all_goals refine LX_run (m:=0) (n0:=0) mix Tryz.func73 rfl rfl rfl rfl ?_
           conv=>whnf
 all_goals refine .c (ln_one) ?_
           conv=>whnf
 all_goals refine .c (k) ?_
           conv=>whnf
 all_goals try (refine Nc.mk (by kernel_rfl) ?_;conv=>whnf)
 all_goals exact .q ⟨rfl,rfl⟩
theorem lx_rof {z:Int}(h1: -9223372036854775808≤z)(h2:z<9223372036854775808):LV Tryz.prog 29 [vl (.int .i64 z)] (ratV (z:Rat)):=by
 have hu:sz z.natAbs≤2:=sz_le_two.2 (u64_lt h1 h2);refine LX_run (m:=0) (n0:=0) mix Tryz.func29 rfl rfl rfl rfl ?_;conv=>whnf
 refine .c (li_of h1 h2) ?_;conv=>whnf
 refine .c (lq_whole (tL_ hu (by omega))) ?_;conv=>whnf
 try (refine Nc.mk (by kernel_rfl) ?_;conv=>whnf)
 exact .q ⟨rfl,rfl⟩
theorem lx_rvalid (h1:xs.length≤100000000)(h2:ys.length≤100000000):LV Tryz.prog 77 [rawV c xs ys] (vl (.bool (vB c xs ys (rv c (val xs) (val ys))))):=by
 by_cases hl:lims xs∧lims ys
 ·have h:Rl c xs ys _:=⟨rfl,h1,h2,hl.1,hl.2⟩;have hcn:=lq_canon h;rcases ys with _|⟨y,ys⟩
  ·rw[show val []=0 from rfl,vB_nil hl.1]
   cases c
   all_goals refine LX_run (m:=0) (n0:=0) mix Tryz.func77 rfl rfl rfl rfl ?_
             conv=>whnf
   all_goals repeat' first|(refine bs (fun h=> ?_) (fun h=> ?_)<;>conv=>whnf)|(refine Nc.mk (by kernel_rfl) ?_;conv=>whnf)|(refine .c (ln_valid) ?_;conv=>whnf)
   all_goals exact .q ⟨by simp_all,rfl⟩
  ·unfold vB;rw[same_parts hl.1,same_parts hl.2];generalize rv c (val xs) (val (y::ys))=q at hcn ⊢
   replace hcn:LV _ _ _ (rawV (decide (q<0)) (limbs q.num.natAbs) (limbs (dn q))):=hcn
   generalize decide (q<0)=g at hcn ⊢
   cases c<;>cases g
   all_goals refine LX_run (m:=0) (n0:=0) mix Tryz.func77 rfl rfl rfl rfl ?_
             conv=>whnf
   all_goals refine .c (hcn) ?_
             conv=>whnf
   all_goals repeat' first|(refine bs (fun h=> ?_) (fun h=> ?_)<;>conv=>whnf)|(refine Nc.mk (by kernel_rfl) ?_;conv=>whnf)|(refine .c (ln_cmp rfl (val_limbs _)) ?_;conv=>whnf)
   all_goals exact .q ⟨by first|(simp_all;done)|(simp_all;omega)|(simp_all;intros;omega),rfl⟩
 ·exact LV.no fun γ M w rs k=>hl (by obtain⟨r,rfl,k'⟩:=all2_1 k;exact lims_raw k')
end
section
variable {x y:V} {a b:Rat}
theorem lx_rneg (hx:RQ x a):LV Tryz.prog 40 [x] (ratV (-a)):=rq1 hx fun _ _ _=>lq_neg
theorem lx_rcanon (hx:RQ x a):LV Tryz.prog 82 [x] (ratV a):=rq1 hx fun _ _ _=>lq_canon
theorem lx_rsign (hx:RQ x a):LV Tryz.prog 25 [x] (vl (.int .i64 a.num.sign)):=rq1 hx fun _ _ _=>lq_sign
theorem lx_radd (hx:RQ x a)(hy:RQ y b):LV Tryz.prog 122 [x,y] (ratV (a+b)):=rq2 hx hy fun _ _ _ _ _ _=>lq_add
theorem lx_rsub (hx:RQ x a)(hy:RQ y b):LV Tryz.prog 235 [x,y] (ratV (a-b)):=rq2 hx hy fun _ _ _ _ _ _=>lq_sub
theorem lx_rmul (hx:RQ x a)(hy:RQ y b):LV Tryz.prog 72 [x,y] (ratV (a*b)):=rq2 hx hy fun _ _ _ _ _ _=>lq_mul
theorem lx_rmax (hx:RQ x a)(hy:RQ y b):LV Tryz.prog 270 [x,y] (ratV (if b≤a then a else b)):=rq2 hx hy fun _ _ _ _ _ _=>lq_max
theorem lx_rcmp (hx:RQ x a)(hy:RQ y b):LV Tryz.prog 41 [x,y] (vl (.int .i64 (cmpQ a b))):=rq2 hx hy fun _ _ _ _ _ _=>lq_cmp
theorem lx_rdiv (h0:b≠0)(hx:RQ x a)(hy:RQ y b):LV Tryz.prog 109 [x,y] (qE (a/b)):=rq2 hx hy fun _ _ _ _ _ _=>lq_div h0
end
section
variable {b c:Bool} {xs ys xs' ys':List Nat} {m n d:Nat} {p q r:Rat}
theorem lz_one (e:val ys=d):LV Tryz.prog 132 [nx ys] (nx (limbs (un d))):=lv_of fun γ M w rs ha=>by
 obtain⟨r,rfl,k⟩:=all2_1 ha;have hs:=rd_sl k;clear k ha;have hcan:=sz_eq_zero (n:=val ys);unfold sz at hcan;rw[e]at hcan;rcases eP_ d with h0|h0
 ·go_enter Tryz.func132,Tryz.ntmps132
  go_wp2_with fail
  refine cM (rmake_any _ _ w hs) ?_;rintro e' w1 ⟨v1,rfl,hn,hb⟩;rw[e,h0]at hn
  replace hn:Sl w1 v1 (limbs 0):=hn
  rw[limbs_zero]at hn;obtain⟨a,n,c,rfl,hl,-⟩:=hn;obtain rfl:n=0:=hl.symm;have HB:=lH hb;have HE:=lH e;clear hb e hs hcan hl;go_wp2
  go_ret
  refine⟨_,rfl,?_,HB.out.alloc HB.out.size _⟩;rw[h0];exact sl_one1 _ _
 ·go_enter Tryz.func132,Tryz.ntmps132
  go_wp2_with fail
  refine cM (rmake_any _ _ w hs) ?_;rintro e' w1 ⟨v1,rfl,hn,hb⟩;rw[e]at hn;have Hn:=lH hn;obtain⟨a,n,c,rfl,hl,-⟩:=hn;have dx:((n:Int)==0)=false:=by rw[beq_eq_false_iff_ne];omega
  have HB:=lH hb;have H0:=lH h0;clear hb e hs hcan hl h0;go_wp2
  go_ret
  refine⟨_,rfl,?_,HB.out⟩;rw[←un_of H0.out];exact Hn.out
theorem gcd_sz {n d L:Nat}(h:sz d≤L)(hd:0<d):(limbs (Nat.gcd n d)).length≤L:=tL_ (sz_mono (Nat.le_of_dvd hd (Nat.gcd_dvd_right n d))) h
theorem wk_div {a b:A}{xs:List Nat}:WkV (.tup [.s (.d (.lm xs)),.s a,.s b]) (.tup [.s (.d (u1 xs)),.s a,.s b]):=fun γ h M w r k=>by
 obtain⟨vs,rfl,hk⟩:=k
 match vs,hk with
 |[x,y,z],hk=>exact⟨[x,y,z],rfl,lm_u1 γ h M w _ hk.1,hk.2.1,hk.2.2.1,trivial⟩
 |[],hk=>exact hk.elim
 |[_],hk=>exact hk.2.elim
 |[_,_],hk=>exact hk.2.2.elim
 |_::_::_::_::_,hk=>exact hk.2.2.2.elim
theorem lz_quot (e:val xs=n)(e2:val ys=d)(hd:0<d)(hn:xs.length≤1000000000)(hdl:ys.length≤1000000000):LV Tryz.prog 134 [bx b,nx xs,nx ys] (ratV (mkRat (iv b n) d)):=by
 by_cases hl:lims ys
 ·have hg:=Nat.gcd_pos_of_pos_right n hd;have hgl:(limbs (Nat.gcd n d)).length≤1000000000:=gcd_sz (e2▸tL_ (sz_val hl) hdl) hd;have hu:=(lr_div (xs:=ys) (ys:=limbs (Nat.gcd n d)) (by omega) (by omega) e2 (val_limbs _) hg).out wk_div;have hn0:(((limbs (n/Nat.gcd n d)).length:Int)>0)↔0<n:=by
   have h1:= @sz_eq_zero (n/Nat.gcd n d);unfold sz at h1;constructor
   ·intro h;refine Nat.pos_of_ne_zero fun h0=> ?_;rw[h0,Nat.zero_div]at h1;rw[h0,Nat.zero_div]at h;omega
   ·intro h;have:=num_pos (d:=d) h;omega
  have R1:d/Nat.gcd n d=1→ratV (mkRat (iv b n) d)=rawV (b&&decide (((limbs (n/Nat.gcd n d)).length:Int)>0)) (limbs (n/Nat.gcd n d)) (limbs 0):=fun hD=>by
   rcases eP_ n with h0|h0
   ·rw[h0,mk_zero,ratV_z,Nat.zero_div,limbs_zero];simp
   ·rw[back1 h0 hd hD,decide_eq_true (hn0.2 h0),Bool.and_true]
  have R2:d/Nat.gcd n d≠1→ratV (mkRat (iv b n) d)=rawV (b&&decide (((limbs (n/Nat.gcd n d)).length:Int)>0)) (limbs (n/Nat.gcd n d)) (limbs (d/Nat.gcd n d)):=fun hD=>by
   rcases eP_ n with h0|h0
   ·exact absurd (by simpa using den_zero h0 hd) hD
   ·rw[back2 h0 hd hD,decide_eq_true (hn0.2 h0),Bool.and_true]
  clear hn0;refine LX_run (m:=0) (n0:=0) mix Tryz.func134 rfl rfl rfl rfl ?_;conv=>whnf
  refine .c (lr_gcd (by omega) (by omega) e e2) ?_;conv=>whnf
  refine .c (lr_div (by omega) (by omega) e (val_limbs _) hg) ?_;conv=>whnf
  refine .c (hu) ?_;conv=>whnf
  refine bs (fun g1=> ?_) (fun g1=> ?_)
  ·have g1:(limbs (d/Nat.gcd n d)).length=1:=by simp at g1;omega
   obtain⟨x,hx⟩:∃x,limbs (d/Nat.gcd n d)=[x]:=by
    match hm:limbs (d/Nat.gcd n d)with
    |[x]=>exact⟨x,rfl⟩
    |[]=>rw[hm]at g1;cases g1
    |_::_::_=>rw[hm]at g1;simp at g1
   have hD:d/Nat.gcd n d=x:=by rw[←val_limbs (d/Nat.gcd n d),hx];simp[val]
   conv=>whnf
   refine .mk (0) ([D.lit (.int .u32 (x:Nat))]) (rfl) (by rw[hx];rfl) ?_;conv=>whnf
   conv=>whnf
   refine bs (fun g2=> ?_) (fun g2=> ?_)
   ·rw[R1 (by have:((x:Nat):Int)=1:=by simpa using g2
              omega)]
    conv=>whnf
    try (refine Nc.mk (by kernel_rfl) ?_;conv=>whnf)
    cases b
    ·conv=>whnf
     exact⟨_,_,⟨rfl,rfl⟩,WkV.agg ⟨aR_ _,aR_ _,wk_nil,trivial⟩,rfl,trivial,rfl⟩
    ·conv=>whnf
     refine bs (fun g3=> ?_) (fun g3=> ?_)
     all_goals rw[g3]
     all_goals conv=>whnf
     all_goals exact⟨_,_,⟨rfl,rfl⟩,WkV.agg ⟨aR_ _,aR_ _,wk_nil,trivial⟩,rfl,trivial,rfl⟩
   ·rw[R2 (by have:¬((x:Nat):Int)=1:=by simpa using g2
              omega)]
    conv=>whnf
    try (refine Nc.mk (by kernel_rfl) ?_;conv=>whnf)
    cases b
    ·conv=>whnf
     exact⟨_,_,⟨rfl,rfl⟩,WkV.agg ⟨aR_ _,aR_ _,u1_lm (lims_limbs _),trivial⟩,rfl,trivial,rfl⟩
    ·conv=>whnf
     refine bs (fun g3=> ?_) (fun g3=> ?_)
     all_goals rw[g3]
     all_goals conv=>whnf
     all_goals exact⟨_,_,⟨rfl,rfl⟩,WkV.agg ⟨aR_ _,aR_ _,u1_lm (lims_limbs _),trivial⟩,rfl,trivial,rfl⟩
  ·rw[R2 (fun h=>by rw[h,limbs_one]at g1;simp at g1)];conv=>whnf
   try (refine Nc.mk (by kernel_rfl) ?_;conv=>whnf)
   cases b
   ·conv=>whnf
    exact⟨_,_,⟨rfl,rfl⟩,WkV.agg ⟨aR_ _,aR_ _,u1_lm (lims_limbs _),trivial⟩,rfl,trivial,rfl⟩
   ·conv=>whnf
    refine bs (fun g3=> ?_) (fun g3=> ?_)
    all_goals rw[g3]
    all_goals conv=>whnf
    all_goals exact⟨_,_,⟨rfl,rfl⟩,WkV.agg ⟨aR_ _,aR_ _,u1_lm (lims_limbs _),trivial⟩,rfl,trivial,rfl⟩
 ·exact LV.no fun γ M w rs k=>hl (by
   match rs,k with
   |[_,_,_],k=>exact(rd_sl k.2.2.1).lims
   |[],k=>exact k.elim
   |[_],k=>exact k.2.elim
   |[_,_],k=>exact k.2.2.elim
   |_::_::_::_::_,k=>exact k.2.2.2.elim)
theorem lz_canon (h:Rl b xs ys q):LV Tryz.prog 135 [rawV b xs ys] (ratV q):=by
 have hs:=h.n;have hu:=h.su;unfold sz at hu;rw[←h.e]
 cases b
 all_goals refine LX_run (m:=0) (n0:=0) mix Tryz.func135 rfl rfl rfl rfl ?_
           conv=>whnf
 all_goals refine .c (lz_one rfl) ?_
           conv=>whnf
 all_goals refine .c (lz_quot rfl (val_limbs _) (un_pos _) (by omega) (by omega)) ?_
           conv=>whnf
 all_goals try (refine Nc.mk (by kernel_rfl) ?_;conv=>whnf)
 all_goals exact .q ⟨rfl,rfl⟩
theorem lz_sign (h:Rl b xs ys q):LV Tryz.prog 136 [rawV b xs ys] (vl (.int .i64 q.num.sign)):=by
 have k:=lri_sign (b:=b) (xs:=xs) rfl;rw[rv_sign b (val xs) (val ys),h.e]at k
 cases b
 all_goals refine LX_run (m:=0) (n0:=0) mix Tryz.func136 rfl rfl rfl rfl ?_
           conv=>whnf
 all_goals refine .c (k) ?_
           conv=>whnf
 all_goals exact .q ⟨rfl,rfl⟩
theorem lz_mul (h:Rl b xs ys q)(h':Rl c xs' ys' r):LV Tryz.prog 95 [rawV b xs ys,rawV c xs' ys'] (ratV (q*r)):=by
 have hn:=h.n;have hn':=h'.n;have l1:=sz_mul_le h.szn h'.szn;have l2:=sz_mul_le h.su h'.su;have hb:=h.su;have hb':=h'.su;unfold sz at hb hb';rw[←h.e,←h'.e,←mul_parts]
 cases b<;>cases c
 all_goals refine LX_run (m:=0) (n0:=0) mix Tryz.func95 rfl rfl rfl rfl ?_
           conv=>whnf
 all_goals refine .c (lr_mul (by omega) (by omega) rfl rfl) ?_
           conv=>whnf
 all_goals refine .c (lz_one rfl) ?_
           conv=>whnf
 all_goals refine .c (lz_one rfl) ?_
           conv=>whnf
 all_goals refine .c (lr_mul (by omega) (by omega) (val_limbs _) (val_limbs _)) ?_
           conv=>whnf
 all_goals refine .c (lz_quot (val_limbs _) (val_limbs _) (Nat.mul_pos (un_pos _) (un_pos _)) (by omega) (by omega)) ?_
           conv=>whnf
 all_goals try (refine Nc.mk (by kernel_rfl) ?_;conv=>whnf)
 all_goals exact .q ⟨rfl,rfl⟩
theorem lz_add (h:Rl b xs ys q)(h':Rl c xs' ys' r):LV Tryz.prog 93 [rawV b xs ys,rawV c xs' ys'] (ratV (q+r)):=by
 have hn:=h.n;have hn':=h'.n;have hb:=h.su;have hb':=h'.su;unfold sz at hb hb';have l1:=sz_mul_le h.szn h'.su;have l2:=sz_mul_le h'.szn h.su;have l4:=sz_mul_le h.su h'.su;have k1:=lr_mul (xs:=xs) (ys:=limbs (un (val ys'))) (by omega) (by omega) rfl (val_limbs _);have k2:=lr_mul (xs:=xs') (ys:=limbs (un (val ys))) (by omega) (by omega) rfl (val_limbs _);have k3:=lri_add (b:=b) (c:=c) (val_limbs (val xs*un (val ys'))) (val_limbs (val xs'*un (val ys))) (by omega) (by omega);have e:=zadd_parts (ba:=b) (bb:=c) (na:=val xs) (da:=val ys) (nb:=val xs') (db:=val ys') (iv_self _);rw[h.e,h'.e]at e;rw[←e];have l3:(limbs (iv b (val xs*un (val ys'))+iv c (val xs'*un (val ys))).natAbs).length≤300000000:=by
  refine tL_ (sz_mono (Int.natAbs_add_le _ _)) (tL_ (sz_add _ _) ?_);rw[iv_abs,iv_abs];unfold sz;omega
 generalize iv b (val xs*un (val ys'))+iv c (val xs'*un (val ys))=X at *
 replace k3:LV _ _ _ (rI (decide (X<0)) (limbs X.natAbs)):=k3
 generalize decide (X<0)=g at k3 ⊢
 cases b<;>cases c<;>cases g
 all_goals refine LX_run (m:=0) (n0:=0) mix Tryz.func93 rfl rfl rfl rfl ?_
           conv=>whnf
 all_goals refine .c (lz_one rfl) ?_
           conv=>whnf
 all_goals refine .c (k1) ?_
           conv=>whnf
 all_goals try (refine Nc.mk (by kernel_rfl) ?_;conv=>whnf)
 all_goals refine .c (lz_one rfl) ?_
           conv=>whnf
 all_goals refine .c (k2) ?_
           conv=>whnf
 all_goals try (refine Nc.mk (by kernel_rfl) ?_;conv=>whnf)
 all_goals refine .c (k3) ?_
           conv=>whnf
 all_goals try (refine Nc.mk (by kernel_rfl) ?_;conv=>whnf)
 all_goals refine .c (lz_one rfl) ?_
           conv=>whnf
 all_goals refine .c (lz_one rfl) ?_
           conv=>whnf
 all_goals refine .c (lr_mul (by omega) (by omega) (val_limbs _) (val_limbs _)) ?_
           conv=>whnf
 all_goals refine .c (lz_quot (val_limbs _) (val_limbs _) (Nat.mul_pos (un_pos _) (un_pos _)) (by omega) (by omega)) ?_
           conv=>whnf
 all_goals try (refine Nc.mk (by kernel_rfl) ?_;conv=>whnf)
 all_goals exact .q ⟨rfl,rfl⟩
end
section
variable {b c:Bool} {xs ys xs' ys':List Nat} {m n d:Nat} {p q r:Rat}
theorem ratV_int (z:Int):ratV (z:Rat)=rawV (decide (z<0)) (limbs z.natAbs) (limbs 0):=by
 unfold ratV;rw[Rat.num_intCast,show dn (z:Rat)=0 by unfold dn;rw[Rat.den_intCast];rfl,show decide ((z:Rat)<0)=decide (z<0)from decide_eq_decide.2 (by rw[Rat.lt_iff];simp)]
theorem lx_zof {z:Int}(h1: -9223372036854775808≤z)(h2:z<9223372036854775808):LV Tryz.prog 16 [vl (.int .i64 z)] (ratV (z:Rat)):=by
 have k:=lri_of h1 h2;rw[ratV_int]
 replace k:LV _ _ _ (rI (decide (z<0)) (limbs z.natAbs)):=k
 generalize decide (z<0)=g at k ⊢
 cases g
 all_goals refine LX_run (m:=0) (n0:=0) mix Tryz.func16 rfl rfl rfl rfl ?_
           conv=>whnf
 all_goals refine .c (k) ?_
           conv=>whnf
 all_goals try (refine Nc.mk (by kernel_rfl) ?_;conv=>whnf)
 all_goals exact .q ⟨rfl,rfl⟩
theorem lz_make {y z:Int}(hz:z≠0)(hy:(limbs y.natAbs).length≤100000000)(hzl:(limbs z.natAbs).length≤100000000):LV Tryz.prog 149 [cI y,cI z] (qE ((y:Rat)/z)):=by
 have hp:0<z.natAbs:=by omega
 have e:=div_sign (decide (y<0)) (decide (z<0)) y.natAbs z.natAbs hp;have k:=lri_sign (b:=decide (z<0)) (val_limbs z.natAbs);have hs:(z.sign==0)=false:=by simpa [Int.sign_eq_zero_iff_zero]using hz
 rw[iv_self]at k;rw[iv_self,iv_self]at e;rw[←e];show LV _ _ [rI (decide (y<0)) (limbs y.natAbs),rI (decide (z<0)) (limbs z.natAbs)] _;generalize decide (y<0)=g1 at *
 generalize decide (z<0)=g2 at *
 cases g1<;>cases g2
 all_goals refine LX_run (m:=0) (n0:=0) mix Tryz.func149 rfl rfl rfl rfl ?_
           conv=>whnf
 all_goals refine .c (k) ?_
           conv=>whnf
 all_goals refine bF (hs) ?_
           conv=>whnf
 all_goals refine .c (lz_quot (val_limbs _) (val_limbs _) hp (by omega) (by omega)) ?_
           conv=>whnf
 all_goals try (refine Nc.mk (by kernel_rfl) ?_;conv=>whnf)
 all_goals exact .q ⟨rfl,rfl⟩
theorem lx_zfrac {y z:Int}(h1: -9223372036854775808≤y)(h2:y<9223372036854775808)(h3: -9223372036854775808≤z)(h4:z<9223372036854775808)(hz:z≠0):
  LV Tryz.prog 108 [vl (.int .i64 y),vl (.int .i64 z)] (qE ((y:Rat)/z)):=by
 have hy:sz y.natAbs≤2:=sz_le_two.2 (u64_lt h1 h2);have hu:sz z.natAbs≤2:=sz_le_two.2 (u64_lt h3 h4);refine LX_run (m:=0) (n0:=0) mix Tryz.func108 rfl rfl rfl rfl ?_;conv=>whnf
 refine .c (lri_of h1 h2) ?_;conv=>whnf
 refine .c (lri_of h3 h4) ?_;conv=>whnf
 refine .c (lz_make hz (tL_ hy (by omega)) (tL_ hu (by omega))) ?_;conv=>whnf
 try (refine Nc.mk (by kernel_rfl) ?_;conv=>whnf)
 exact .q ⟨rfl,rfl⟩
theorem lz_same:LV Tryz.prog 9 [rawV b xs ys,rawV c xs' ys'] (vl (.bool (b==c&&same xs xs'&&same ys ys'))):=by
 have k1:=lr_same (xs:=xs) (ys:=xs');have k2:=lr_same (xs:=ys) (ys:=ys');generalize same xs xs'=g1 at *
 generalize same ys ys'=g2 at *
 cases b<;>cases c<;>cases g1<;>cases g2
 all_goals refine LX_run (m:=0) (n0:=0) mix Tryz.func9 rfl rfl rfl rfl ?_
           conv=>whnf
 all_goals repeat' first|(refine bs (fun h=> ?_) (fun h=> ?_)<;>conv=>whnf)|(refine Nc.mk (by kernel_rfl) ?_;conv=>whnf)|(refine .c (k1) ?_;conv=>whnf)|(refine .c (k2) ?_;conv=>whnf)
 all_goals exact .q ⟨rfl,rfl⟩
theorem lx_zsame {k:Nat}(hb:Bt k q)(hk:k≤3000000000):LV Tryz.prog 9 [rawV c xs ys,ratV q] (vl (.bool (vB c xs ys q))):=lz_same
end
section
variable {x y:V} {a b:Rat}
theorem lx_zcanon (hx:RQ x a):LV Tryz.prog 135 [x] (ratV a):=rq1 hx fun _ _ _=>lz_canon
theorem lx_zsign (hx:RQ x a):LV Tryz.prog 136 [x] (vl (.int .i64 a.num.sign)):=rq1 hx fun _ _ _=>lz_sign
theorem lx_zadd (hx:RQ x a)(hy:RQ y b):LV Tryz.prog 93 [x,y] (ratV (a+b)):=rq2 hx hy fun _ _ _ _ _ _=>lz_add
theorem lx_zmul (hx:RQ x a)(hy:RQ y b):LV Tryz.prog 95 [x,y] (ratV (a*b)):=rq2 hx hy fun _ _ _ _ _ _=>lz_mul
end
structure Rw where
 b:Bool
 n:List Nat
 d:List Nat
def Rw.q (x:Rw):Rat:=rv x.b (val x.n) (val x.d)
abbrev Rw.D (x:Rw):List D:=[.lit (.bool x.b),.lm x.n,.lm x.d]
abbrev Rw.A (x:Rw):List A:=[.d (.lit (.bool x.b)),.d (.lm x.n),.d (.lm x.d)]
abbrev can (q:Rat):Rw:=⟨decide (q<0),limbs q.num.natAbs,limbs (dn q)⟩
abbrev Rw.sm (x:Rw):Prop:=x.n.length≤100000000∧x.d.length≤100000000
def Sz (q:Rat):Prop:=Bt 3000000000 q
theorem RQ.c {q:Rat}(h:Sz q):RQ (ratV q) q:=RQ.can h (lR_ _)
theorem Rw.sm.rq {x:Rw}(h:x.sm):RQ (.agg x.A) x.q:=RQ.raw rfl h.1 h.2
theorem can_q (q:Rat):(can q).q=q:=by unfold Rw.q;rw[val_limbs,val_limbs];exact rv_self q
theorem Sz.sm {q:Rat}(h:Sz q):(can q).sm:=⟨(Bt.sm h (lR_ _)).1,(Bt.sm h (lR_ _)).dn⟩
theorem Bt.mono {k l:Nat}{q:Rat}(h:Bt k q)(hl:k≤l):Bt l q:=⟨tL_ h.1 (Nat.pow_le_pow_right (by decide) hl),tL_ h.2 (Nat.pow_le_pow_right (by decide) hl)⟩
theorem Bt.sz {k:Nat}{q:Rat}(h:Bt k q)(hk:k≤3000000000):Sz q:=h.mono hk
theorem bt0 (k:Nat):Bt k 0:=⟨zL_ _,Nat.one_le_two_pow⟩
def Rw.ok (x:Rw):Bool:=vB x.b x.n x.d x.q
theorem can_ok (q:Rat):(can q).ok=true:=by unfold Rw.ok;rw[can_q];exact vB_can q
theorem lx_ok {x:Rw}(h:x.sm):LV Tryz.prog 77 [.agg x.A] (vl (.bool x.ok)):=lx_rvalid h.1 h.2
theorem lx_okc {q:Rat}(h:Sz q):LV Tryz.prog 77 [ratV q] (vl (.bool true)):=by
 have:=lx_ok h.sm;rwa [can_ok]at this
structure Tm where
 v:Int
 q:Rat
structure Af where
 ts:List Tm
 c:Rat
structure Gr where
 n:Nat
 us:List Af
 os:List Af
structure Rg where
 lo:List Rat
 hi:List Rat
 rs:List Af
structure Qu where
 g:Gr
 r:Rg
 goal:Af
structure Dc where
 k:Int
 i:Int
 at_:Rw
structure Lm where
 u:Int
 up:Bool
 v:Rw
 pf:List (List D)
structure Sp where
 q:Qu
 path:List Dc
 ls:List Lm
abbrev Tm.D (t:Tm):List D:= .lit (.int .i64 t.v)::(can t.q).D
abbrev Tm.A (t:Tm):List A:= .d (.lit (.int .i64 t.v))::(can t.q).A
abbrev Af.D (f:Af):List D:= .sl 4 (f.ts.map Tm.D)::(can f.c).D
abbrev Af.A (f:Af):List A:= .d (.sl 4 (f.ts.map Tm.D))::(can f.c).A
abbrev afsD (l:List Af):D:= .sl 4 (l.map Af.D)
abbrev rqsD (l:List Rat):D:= .sl 3 (l.map fun q=>(can q).D)
abbrev Gr.A (g:Gr):List A:=[.d (.lit (.int .i64 g.n)),.d (afsD g.us),.d (afsD g.os)]
abbrev Rg.A (r:Rg):List A:=[.d (rqsD r.lo),.d (rqsD r.hi),.d (afsD r.rs)]
abbrev Qu.A (q:Qu):List A:=[.d (.lit (.int .i64 q.g.n)),.d (afsD q.g.us),.d (afsD q.g.os),.d (rqsD q.r.lo),.d (rqsD q.r.hi),.d (afsD q.r.rs),.d (.sl 4 (q.goal.ts.map Tm.D)),.d (.lit (.bool (decide (q.goal.c<0)))),.d (.lm (limbs q.goal.c.num.natAbs)),.d (.lm (limbs (dn q.goal.c)))]
abbrev Dc.D (d:Dc):List D:=[.lit (.int .i64 d.k),.lit (.int .i64 d.i),.lit (.bool d.at_.b),.lm d.at_.n,.lm d.at_.d]
abbrev Dc.A (d:Dc):List A:=[.d (.lit (.int .i64 d.k)),.d (.lit (.int .i64 d.i)),.d (.lit (.bool d.at_.b)),.d (.lm d.at_.n),.d (.lm d.at_.d)]
abbrev Lm.D (m:Lm):List D:=[.lit (.int .i64 m.u),.lit (.bool m.up),.lit (.bool m.v.b),.lm m.v.n,.lm m.v.d,.sl 7 m.pf]
abbrev Lm.A (m:Lm):List A:=[.d (.lit (.int .i64 m.u)),.d (.lit (.bool m.up)),.d (.lit (.bool m.v.b)),.d (.lm m.v.n),.d (.lm m.v.d),.d (.sl 7 m.pf)]
abbrev dcsD (l:List Dc):D:= .sl 5 (l.map Dc.D)
abbrev lmsD (l:List Lm):D:= .sl 6 (l.map Lm.D)
abbrev Sp.A (s:Sp):List A:=s.q.A++[.d (dcsD s.path),.d (lmsD s.ls)]
structure AfOk (f:Af)(n:Int):Prop where
 lo:∀(i:Nat) (t:Tm),f.ts[i]? =some t→0≤t.v∧t.v<n∧t.q≠0∧Sz t.q
 up:∀(i:Nat) (t u:Tm),f.ts[i]? =some t→f.ts[i+1]? =some u→t.v<u.v
 c:Sz f.c
 len:f.ts.length≤1000000
structure GrOk (g:Gr):Prop where
 n1:1≤g.n
 n2:g.n≤256
 u1:g.us.length≤1024
 o1:1≤g.os.length
 o2:g.os.length≤256
 us:∀(j:Nat) (f:Af),g.us[j]? =some f→AfOk f (g.n+j:Nat)
 os:∀f∈g.os,AfOk f (g.n+g.us.length:Nat)
structure RgOk (r:Rg)(n:Nat):Prop where
 n1:1≤n
 n2:n≤256
 lo:r.lo.length=n
 hi:r.hi.length=n
 rl:r.rs.length≤256
 le:∀(i:Nat) (a b:Rat),r.lo[i]? =some a→r.hi[i]? =some b→a≤b
 sl:∀q∈r.lo,Sz q
 sh:∀q∈r.hi,Sz q
 rs:∀f∈r.rs,AfOk f n
structure QuOk (q:Qu):Prop where
 g:GrOk q.g
 r:RgOk q.r q.g.n
 goal:AfOk q.goal (q.g.n+q.g.us.length:Nat)
theorem at_some {α:Type}{l:List α}{i:Nat}(h:i<l.length):∃x,l[i]? =some x:=⟨_,List.getElem?_eq_getElem h⟩
theorem at_lt {α:Type}{l:List α}{i:Nat}{x:α}(h:l[i]? =some x):i<l.length:=(List.getElem?_eq_some_iff.1 h).1
theorem at_map {α β:Type}{l:List α}{f:α→β}{i:Nat}{x:α}(h:l[i]? =some x):(l.map f)[i]? =some (f x):=by rw[List.getElem?_map,h];rfl
theorem sgn_ne {q:Rat}(h:q≠0):(q.num.sign==0)=false:=by simpa [Int.sign_eq_zero_iff_zero]using h
theorem take_snoc {α:Type}{l:List α}{i:Nat}{x:α}(h:l[i]? =some x):l.take (i+1)=l.take i++[x]:=by
 obtain⟨h1,h2⟩:=List.getElem?_eq_some_iff.1 h;rw[List.take_succ_eq_append_getElem h1,h2]
theorem cmp_le {a b:Rat}(h:a≤b):decide (cmpQ a b>0)=false:=by
 have:=cmpQ_le.2 h;exact decide_eq_false (by omega)
theorem cmp_gt {a b:Rat}:decide (cmpQ a b>0)=decide (b<a):=by
 have:=cmpQ_le (a:=a) (b:=b)
 by_cases h:a≤b
 ·rw[cmp_le h];exact(decide_eq_false (Rat.not_lt.2 h)).symm
 ·rw[decide_eq_true (Int.not_le.1 fun h2=>h (this.1 h2)),decide_eq_true (Rat.not_le.1 h)]
theorem lx_lvalid {f:Af}{n:Int}(hf:AfOk f n):LV Tryz.prog 35 [.agg f.A,vl (.int .i64 n)] (vl (.bool true)):=by
 refine LX_run (m:=0) (n0:=0) mix Tryz.func35 rfl rfl rfl rfl ?_;conv=>whnf
 have hl:=hf.len;refine .mk Nat (fun i=>⟨[(10,vl (.int .i64 i)),(9,vl (.int .i64 (f.ts.map Tm.D).length)),(8,.a (.d (.sl 4 (f.ts.map Tm.D)))),(2,.a (.ptr 0 0)),(1,vl (.int .i64 n))],[(0,.box 32 f.A)],1⟩) (fun i=>i≤f.ts.length) (fun i=>f.ts.length-i) 0 Wk.go (zL_ _) fun i hi=> ?_;conv=>whnf
 refine bs (fun h1=> ?_) (fun h1=> ?_)
 ·conv=>whnf
  have h1':i<f.ts.length:=by simpa using h1
  obtain⟨t,ht⟩:=at_some h1';obtain⟨a1,a2,a3,a4⟩:=hf.lo i t ht;refine .mk (i) (t.D) (rfl) (at_map ht) ?_;conv=>whnf
  conv=>whnf
  refine bF (decide_eq_false (by omega)) ?_;conv=>whnf
  refine bF (decide_eq_false (by omega)) ?_;conv=>whnf
  refine bs (fun h2=> ?_) (fun h2=> ?_)
  ·conv=>whnf
   have h2':0<i:=by simpa using h2
   obtain⟨u,hu⟩:=at_some (l:=f.ts) (i:=i-1) (by omega);have a5:=hf.up (i-1) u t hu (by rw[show i-1+1=i by omega];exact ht);refine .mk (i-1) (u.D) (by rw[wr64 (by omega) (by omega)];omega) (at_map hu) ?_;conv=>whnf
   conv=>whnf
   refine bF (decide_eq_false (by omega)) ?_;conv=>whnf
   refine .c (lx_rsign (.c a4)) ?_;conv=>whnf
   refine bF (sgn_ne a3) ?_;conv=>whnf
   refine .c (lx_okc a4) ?_;conv=>whnf
   refine .mk (by kernel_rfl) ?_;conv=>whnf
   exact⟨i+1,Wk.go,h1',by omega⟩
  ·conv=>whnf
   refine .c (lx_rsign (.c a4)) ?_;conv=>whnf
   refine bF (sgn_ne a3) ?_;conv=>whnf
   refine .c (lx_okc a4) ?_;conv=>whnf
   refine .mk (by kernel_rfl) ?_;conv=>whnf
   exact⟨i+1,Wk.go,h1',by omega⟩
 ·conv=>whnf
  refine .c (lx_okc hf.c) ?_;conv=>whnf
  exact .q ⟨rfl,rfl⟩
theorem AfOk.w {f:Af}{n m:Int}(h:AfOk f n)(e:m=n):AfOk f m:=e▸h
theorem lx_lvalidG {f:Af}{n:Int}(hf:AfOk f n):
  LX Tryz.prog 198 [.agg f.A,.a (.ptr 0 0)] [(0,.box 3 [.d (.lit (.int .i64 n))])] fun v H=>v=vl (.bool false)∧H=[(0,.box 3 [.d (.lit (.int .i64 n))])]:=by
 refine LX_run (m:=1) (n0:=1) mix Tryz.func198 rfl rfl rfl rfl ?_;conv=>whnf
 refine .c (lx_lvalid hf) ?_;conv=>whnf
 exact⟨_,_,⟨rfl,rfl⟩,vR_ _,rfl,⟨⟨_,rfl,wke_refl _,rfl⟩,trivial⟩,rfl⟩
theorem lx_lvalidR {f:Af}{n:Int}(hf:AfOk f n):
  LX Tryz.prog 175 [.agg f.A,.a (.ptr 0 0)] [(0,.box 3 [.d (.lit (.int .i64 n))])] fun v H=>v=vl (.bool false)∧H=[(0,.box 3 [.d (.lit (.int .i64 n))])]:=by
 refine LX_run (m:=1) (n0:=1) mix Tryz.func175 rfl rfl rfl rfl ?_;conv=>whnf
 refine .c (lx_lvalid hf) ?_;conv=>whnf
 exact⟨_,_,⟨rfl,rfl⟩,vR_ _,rfl,⟨⟨_,rfl,wke_refl _,rfl⟩,trivial⟩,rfl⟩
theorem lx_cfA {F:FuncId}{fs:List Af}{n:Int}(hl:fs.length≤1000000)(he:entT Tryz.prog F=true)(hF:∀f∈fs,LX Tryz.prog F [.agg f.A,.a (.ptr 0 0)] [(0,.box 3 [.d (.lit (.int .i64 n))])] fun v H=>v=vl (.bool false)∧H=[(0,.box 3 [.d (.lit (.int .i64 n))])]):
  LX Tryz.prog 174 [.a (.d (afsD fs)),.a (.fn (.func F) [] [.ptr 0 0])] [(0,.box 3 [.d (.lit (.int .i64 n))])] fun v H=>v=vl (.bool false)∧H=[(0,.box 3 [.d (.lit (.int .i64 n))])]:=by
 have ix:LX Tryz.prog 199 [.a (.d (afsD fs)),.a (.fn (.func F) [] [.ptr 0 0])] [(0,.box 3 [.d (.lit (.int .i64 n))])] fun v H=>v=vl (.int .i64 (-1))∧H=[(0,.box 3 [.d (.lit (.int .i64 n))])]:=by
  refine LX_run (m:=1) (n0:=1) mix Tryz.func199 rfl rfl rfl rfl ?_;conv=>whnf
  refine .mk Nat (fun i=>⟨[(8,vl (.int .i64 i)),(7,vl (.int .i64 (fs.map Af.D).length)),(1,.a (.fn (.func F) [] [.ptr 0 0])),(0,.a (.d (afsD fs)))],[(0,.box 3 [.d (.lit (.int .i64 n))])],1⟩) (fun i=>i≤fs.length) (fun i=>fs.length-i) 0 Wk.go (zL_ _) fun i hi=> ?_;conv=>whnf
  refine bs (fun h1=> ?_) (fun h1=> ?_)
  ·conv=>whnf
   have h1':i<fs.length:=by simpa using h1
   obtain⟨f,hf⟩:=at_some h1';refine .mk (i) (f.D) (rfl) (at_map hf) ?_;conv=>whnf
   refine Cn.l [0] (hF f (mG_ hf)) ?_ he;conv=>whnf
   exact⟨i+1,Wk.go,h1',by omega⟩
  ·conv=>whnf
   exact⟨_,_,⟨rfl,rfl⟩,vR_ _,rfl,⟨⟨_,rfl,wke_refl _,rfl⟩,trivial⟩,rfl⟩
 refine LX_run (m:=1) (n0:=1) mix Tryz.func174 rfl rfl rfl rfl ?_;conv=>whnf
 refine .l [0] (ix) ?_;conv=>whnf
 exact⟨_,_,⟨rfl,rfl⟩,vR_ _,rfl,⟨⟨_,rfl,wke_refl _,rfl⟩,trivial⟩,rfl⟩
theorem lx_gvalid0 {fs:List Af}{n:Int}(hl:fs.length≤1000000)(hf:∀f∈fs,AfOk f n):LV Tryz.prog 173 [.a (.d (afsD fs)),vl (.int .i64 n)] (vl (.bool true)):=by
 refine LX_run (m:=0) (n0:=0) mix Tryz.func173 rfl rfl rfl rfl ?_;conv=>whnf
 refine .l [0] (lx_cfA hl rfl fun f hm=>lx_lvalidG (hf f hm)) ?_;conv=>whnf
 exact .q ⟨rfl,rfl⟩
theorem lx_gvalid {g:Gr}(hg:GrOk g):LV Tryz.prog 143 [.agg g.A] (vl (.bool true)):=by
 obtain⟨n1,n2,u1,o1,o2,hus,hos⟩:=hg;refine LX_run (m:=0) (n0:=0) mix Tryz.func143 rfl rfl rfl rfl ?_;conv=>whnf
 refine bF (decide_eq_false (by omega)) ?_;conv=>whnf
 refine bF (decide_eq_false (by omega)) ?_;conv=>whnf
 refine bF (decide_eq_false (by simp;omega)) ?_;conv=>whnf
 refine bF (decide_eq_false (by simp;omega)) ?_;conv=>whnf
 refine bF (decide_eq_false (by simp;omega)) ?_;conv=>whnf
 refine .mk Nat (fun i=>⟨[(34,vl (.int .i64 i)),(33,vl (.int .i64 (g.us.map Af.D).length)),(32,.a (.d (afsD g.us))),(1,.a (.ptr 0 0))],[(0,.box 100 g.A)],1⟩) (fun i=>i≤g.us.length) (fun i=>g.us.length-i) 0 Wk.go (zL_ _) fun i hi=> ?_;conv=>whnf
 refine bs (fun h1=> ?_) (fun h1=> ?_)
 ·conv=>whnf
  have h1':i<g.us.length:=by simpa using h1
  obtain⟨f,hf⟩:=at_some h1';refine .mk (i) (f.D) (rfl) (at_map hf) ?_;conv=>whnf
  conv=>whnf
  refine .c (lx_lvalid ((hus i f hf).w (by rw[wr64 (by omega) (by omega)];omega))) ?_;conv=>whnf
  exact⟨i+1,Wk.go,h1',by omega⟩
 ·conv=>whnf
  refine .c (lx_gvalid0 (by omega) fun f hf=>(hos f hf).w (by rw[wr64 (by simp;omega) (by simp;omega)];simp)) ?_;conv=>whnf
  exact .q ⟨rfl,rfl⟩
theorem lx_gvars {g:Gr}(hg:GrOk g):LV Tryz.prog 268 [.agg g.A] (vl (.int .i64 (g.n+g.us.length:Nat))):=by
 refine LX_run (m:=0) (n0:=0) mix Tryz.func268 rfl rfl rfl rfl ?_;conv=>whnf
 refine .c (lx_gvalid hg) ?_;conv=>whnf
 have:=hg.n2;have:=hg.u1;exact⟨_,_,⟨rfl,rfl⟩,WkV.int (by rw[wr64 (by simp;omega) (by simp;omega)];simp),rfl,trivial,rfl⟩
theorem lx_rgvalid {r:Rg}{n:Nat}(hr:RgOk r n):LV Tryz.prog 144 [.agg r.A,vl (.int .i64 n)] (vl (.bool true)):=by
 obtain⟨n1,n2,hlo,hhi,rl,hle,sl,sh,hrs⟩:=hr;refine LX_run (m:=0) (n0:=0) mix Tryz.func144 rfl rfl rfl rfl ?_;conv=>whnf
 refine bF (decide_eq_false (by omega)) ?_;conv=>whnf
 refine bF (decide_eq_false (by omega)) ?_;conv=>whnf
 refine bF (by simp[hlo]) ?_;conv=>whnf
 refine bF (by simp[hhi]) ?_;conv=>whnf
 refine bF (decide_eq_false (by simp;omega)) ?_;conv=>whnf
 refine .mk Nat (fun i=>⟨[(36,vl (.int .i64 i)),(35,vl (.int .i64 (r.lo.map fun q=>(can q).D).length)),(34,.a (.d (rqsD r.lo))),(3,.a (.ptr 1 0)),(2,.a (.ptr 0 0))],[(0,.box 102 r.A),(1,.box 3 [.d (.lit (.int .i64 n))])],2⟩) (fun i=>i≤n) (fun i=>n-i) 0 Wk.go (zL_ _) fun i hi=> ?_;conv=>whnf
 refine bs (fun h1=> ?_) (fun h1=> ?_)
 ·conv=>whnf
  have h1':i<n:=by simpa [hlo]using h1
  obtain⟨a,ha⟩:=at_some (l:=r.lo) (i:=i) (by omega);obtain⟨b,hb⟩:=at_some (l:=r.hi) (i:=i) (by omega);have za:=sl a (mG_ ha);have zb:=sh b (mG_ hb);refine .mk (i) ((can a).D) (rfl) (at_map (f:=fun q=>(can q).D) ha) ?_;conv=>whnf
  conv=>whnf
  refine .c (lx_okc za) ?_;conv=>whnf
  refine .mk (i) ((can b).D) (rfl) (at_map (f:=fun q=>(can q).D) hb) ?_;conv=>whnf
  conv=>whnf
  refine .c (lx_okc zb) ?_;conv=>whnf
  refine .mk (i) ((can b).D) (rfl) (at_map (f:=fun q=>(can q).D) hb) ?_;conv=>whnf
  conv=>whnf
  refine .c (lx_rcmp (.c za) (.c zb)) ?_;conv=>whnf
  refine bF (cmp_le (hle i a b ha hb)) ?_;conv=>whnf
  refine .mk (by kernel_rfl) ?_;conv=>whnf
  exact⟨i+1,Wk.go,h1',by omega⟩
 ·conv=>whnf
  refine .l [1] (lx_cfA (by omega) rfl fun f hm=>lx_lvalidR (hrs f hm)) ?_;conv=>whnf
  exact .q ⟨rfl,rfl⟩
theorem lx_quvalid {q:Qu}(hq:QuOk q):LV Tryz.prog 101 [.agg q.A] (vl (.bool true)):=by
 have h1:=hq.g.n2;have h2:=hq.g.u1;refine LX_run (m:=0) (n0:=0) mix Tryz.func101 rfl rfl rfl rfl ?_;conv=>whnf
 refine .c (lx_gvalid hq.g) ?_;conv=>whnf
 refine .c (lx_rgvalid hq.r) ?_;conv=>whnf
 refine .c (lx_lvalid (hq.goal.w (by rw[wr64 (by simp;omega) (by simp;omega)];simp))) ?_;conv=>whnf
 exact .q ⟨rfl,rfl⟩
def Rw.z0 (x:Rw):Bool:= !x.b&&((x.n.length:Int)==0)&&((x.d.length:Int)==0)
def fitB (q:Qu)(d:Dc):Bool:=
 if d.k=1∨d.k=2 then decide (d.i≥0)&&decide (d.i<(q.g.us.length:Int))&&d.at_.z0
 else if d.k=3∨d.k=4 then decide (d.i≥0)&&decide (d.i<(q.g.n:Int))&&d.at_.ok else false
theorem lx_zero {x:Rw}:LV Tryz.prog 176 [.agg x.A] (vl (.bool x.z0)):=by
 refine LX_run (m:=0) (n0:=0) mix Tryz.func176 rfl rfl rfl rfl ?_;conv=>whnf
 repeat' first|(refine bs (fun h=> ?_) (fun h=> ?_)<;>conv=>whnf)|(refine Nc.mk (by kernel_rfl) ?_;conv=>whnf)
 all_goals exact .q ⟨by simp[Rw.z0, *],rfl⟩
theorem lx_fits {q:Qu}{d:Dc}(hd:d.at_.sm):LV Tryz.prog 146 [.agg q.A,.agg d.A] (vl (.bool (fitB q d))):=by
 refine LX_run (m:=0) (n0:=0) mix Tryz.func146 rfl rfl rfl rfl ?_;conv=>whnf
 repeat' first|(refine bs (fun h=> ?_) (fun h=> ?_)<;>conv=>whnf)|(refine Nc.mk (by kernel_rfl) ?_;conv=>whnf)|(refine .c (lx_zero) ?_;conv=>whnf)|(refine .c (lx_ok hd) ?_;conv=>whnf)
 all_goals exact .q ⟨by first|(simp_all [fitB];done)|(simp_all [fitB];intros;omega)|((simp[fitB];repeat' split)<;>first|(simp_all;done)|(simp_all;intros;omega)),rfl⟩
structure SpOk (s:Sp):Prop where
 q:QuOk s.q
 pl:s.path.length≤1000000
 pn:∀d∈s.path,d.at_.sm
 ll:s.ls.length≤1000000
 ln:∀m∈s.ls,m.v.sm
 rlo:∀q∈s.q.r.lo,Bt 300000000 q
 rhi:∀q∈s.q.r.hi,Bt 300000000 q
 pb:∀d∈s.path,Bt 300000000 d.at_.q
 lb:∀m∈s.ls,Bt 300000000 m.v.q
def isD (q:Qu)(k u:Int)(d:Dc):Bool:=d.k==k&&d.i==u&&fitB q d
def decB (s:Sp)(k u:Int):Bool:=s.path.any (isD s.q k u)
theorem lx_dec1 {s:Sp}{k u:Int}{d:Dc}(hd:d.at_.sm):LX Tryz.prog 178 [.agg d.A,.a (.ptr 0 0),.a (.ptr 1 0),.a (.ptr 2 0)] [(0,.box 3 [.d (.lit (.int .i64 k))]),(1,.box 3 [.d (.lit (.int .i64 u))]),(2,.box 108 s.A)]
  fun v H=>v=vl (.bool (isD s.q k u d))∧H=[(0,.box 3 [.d (.lit (.int .i64 k))]),(1,.box 3 [.d (.lit (.int .i64 u))]),(2,.box 108 s.A)]:=by
 refine LX_run (m:=3) (n0:=3) mix Tryz.func178 rfl rfl rfl rfl ?_;conv=>whnf
 repeat' first|(refine bs (fun h=> ?_) (fun h=> ?_)<;>conv=>whnf)|(refine Nc.mk (by kernel_rfl) ?_;conv=>whnf)|(refine .c (lx_fits hd) ?_;conv=>whnf)
 all_goals exact⟨_,_,⟨by simp_all [isD],rfl⟩,vR_ _,rfl,⟨⟨_,rfl,wke_refl _,rfl⟩,⟨_,rfl,wke_refl _,rfl⟩,⟨_,rfl,wke_refl _,rfl⟩,trivial⟩,rfl⟩
theorem any_idx {α:Type}(p:α→Bool)(xs:List α):decide ((if xs.any p then(xs.findIdx p:Int)else -1)≥0)=xs.any p:=by
 cases h:xs.any p<;>simp
theorem any_true {α:Type}{p:α→Bool}{xs:List α}{i:Nat}{x:α}(hx:xs[i]? =some x)(h:p x=true):xs.any p=true:=List.any_eq_true.2 ⟨x,mG_ hx,h⟩
theorem find_at {α:Type}{p:α→Bool}{xs:List α}{i:Nat}{x:α}(hi:∀j y,j<i→xs[j]? =some y→p y=false)(hx:xs[i]? =some x)(h:p x=true):xs.findIdx p=i:=by
 obtain⟨h1,h2⟩:=List.getElem?_eq_some_iff.1 hx;refine(List.findIdx_eq h1).2 ⟨by rw[h2];exact h,fun j hj=> ?_⟩;exact hi j _ hj (List.getElem?_eq_getElem (by omega))
theorem any_none {α:Type}{p:α→Bool}{xs:List α}(h:∀(j:Nat) y,xs[j]? =some y→p y=false):xs.any p=false:=by
 rw[List.any_eq_false];intro x hx;obtain⟨j,hj⟩:=List.mem_iff_getElem?.1 hx;simp[h j x hj]
theorem lx_cfD {F:FuncId}{fs:List Dc}{p:Dc→Bool}{k u:Int}{s:Sp}(hl:fs.length≤1000000)(he:entT Tryz.prog F=true)(hF:∀f∈fs,LX Tryz.prog F (.agg f.A::[.a (.ptr 0 0),.a (.ptr 1 0),.a (.ptr 2 0)]) [(0,.box 3 [.d (.lit (.int .i64 k))]),(1,.box 3 [.d (.lit (.int .i64 u))]),(2,.box 108 s.A)] fun v H=>v=vl (.bool (p f))∧H=[(0,.box 3 [.d (.lit (.int .i64 k))]),(1,.box 3 [.d (.lit (.int .i64 u))]),(2,.box 108 s.A)]):
  LX Tryz.prog 102 [.a (.d (.sl 5 (fs.map Dc.D))),.a (.fn (.func F) [] [.ptr 0 0,.ptr 1 0,.ptr 2 0])] [(0,.box 3 [.d (.lit (.int .i64 k))]),(1,.box 3 [.d (.lit (.int .i64 u))]),(2,.box 108 s.A)] fun v H=>v=vl (.bool (fs.any p))∧H=[(0,.box 3 [.d (.lit (.int .i64 k))]),(1,.box 3 [.d (.lit (.int .i64 u))]),(2,.box 108 s.A)]:=by
 have ix:LX Tryz.prog 145 [.a (.d (.sl 5 (fs.map Dc.D))),.a (.fn (.func F) [] [.ptr 0 0,.ptr 1 0,.ptr 2 0])] [(0,.box 3 [.d (.lit (.int .i64 k))]),(1,.box 3 [.d (.lit (.int .i64 u))]),(2,.box 108 s.A)] fun v H=>v=vl (.int .i64 (if fs.any p then(fs.findIdx p:Int)else -1))∧H=[(0,.box 3 [.d (.lit (.int .i64 k))]),(1,.box 3 [.d (.lit (.int .i64 u))]),(2,.box 108 s.A)]:=by
  refine LX_run (m:=3) (n0:=3) mix Tryz.func145 rfl rfl rfl rfl ?_;conv=>whnf
  refine .mk Nat (fun i=>⟨[(8,vl (.int .i64 i)),(7,vl (.int .i64 (fs.map Dc.D).length)),(1,.a (.fn (.func F) [] [.ptr 0 0,.ptr 1 0,.ptr 2 0])),(0,.a (.d (.sl 5 (fs.map Dc.D))))],[(0,.box 3 [.d (.lit (.int .i64 k))]),(1,.box 3 [.d (.lit (.int .i64 u))]),(2,.box 108 s.A)],3⟩) (fun i=>i≤fs.length∧∀j y,j<i→fs[j]? =some y→p y=false) (fun i=>fs.length-i) 0 Wk.go ⟨zL_ _,by intro j y h;omega⟩ fun i hi=> ?_;obtain⟨hi,hall⟩:=hi;conv=>whnf
  refine bs (fun h1=> ?_) (fun h1=> ?_)
  ·conv=>whnf
   have h1':i<fs.length:=by simpa using h1
   obtain⟨f,hf⟩:=at_some h1';refine .mk (i) (f.D) (rfl) (at_map hf) ?_;conv=>whnf
   conv=>whnf
   refine Cn.l [0,1,2] (hF f (mG_ hf)) ?_ he;conv=>whnf
   refine bs (fun h2=> ?_) (fun h2=> ?_)
   ·conv=>whnf
    exact⟨_,_,⟨by rw[if_pos (any_true hf h2),find_at hall hf h2],rfl⟩,vR_ _,rfl,⟨⟨_,rfl,wke_refl _,rfl⟩,⟨_,rfl,wke_refl _,rfl⟩,⟨_,rfl,wke_refl _,rfl⟩,trivial⟩,rfl⟩
   ·conv=>whnf
    refine⟨i+1,Wk.go,⟨h1',fun j y hj hy=> ?_⟩,by omega⟩;rcases Nat.lt_succ_iff_lt_or_eq.1 hj with h3|h3
    ·exact hall j y h3 hy
    ·subst h3;rw[hf]at hy;injection hy with hy;rw[←hy];exact h2
  ·conv=>whnf
   exact⟨_,_,⟨by rw[if_neg];rw[any_none fun j y hy=>hall j y (by have:=at_lt hy;simp at h1;omega) hy];decide,rfl⟩,vR_ _,rfl,⟨⟨_,rfl,wke_refl _,rfl⟩,⟨_,rfl,wke_refl _,rfl⟩,⟨_,rfl,wke_refl _,rfl⟩,trivial⟩,rfl⟩
 refine LX_run (m:=3) (n0:=3) mix Tryz.func102 rfl rfl rfl rfl ?_;conv=>whnf
 refine .l [0,1,2] ix ?_;conv=>whnf
 refine bs (fun h=> ?_) (fun h=> ?_)
 ·conv=>whnf
  exact⟨_,_,⟨by rw[any_idx]at h;rw[h],rfl⟩,vR_ _,rfl,⟨⟨_,rfl,wke_refl _,rfl⟩,⟨_,rfl,wke_refl _,rfl⟩,⟨_,rfl,wke_refl _,rfl⟩,trivial⟩,rfl⟩
 ·conv=>whnf
  exact⟨_,_,⟨by rw[any_idx]at h;rw[h],rfl⟩,vR_ _,rfl,⟨⟨_,rfl,wke_refl _,rfl⟩,⟨_,rfl,wke_refl _,rfl⟩,⟨_,rfl,wke_refl _,rfl⟩,trivial⟩,rfl⟩
theorem lx_decided {s:Sp}{k u:Int}(hs:SpOk s):LV Tryz.prog 148 [.agg s.A,vl (.int .i64 k),vl (.int .i64 u)] (vl (.bool (decB s k u))):=by
 refine LX_run (m:=0) (n0:=0) mix Tryz.func148 rfl rfl rfl rfl ?_;conv=>whnf
 refine .l [1,2,0] (lx_cfD hs.pl rfl fun d hd=>lx_dec1 (hs.pn d hd)) ?_;conv=>whnf
 repeat' first|(refine bs (fun h=> ?_) (fun h=> ?_)<;>conv=>whnf)|(refine Nc.mk (by kernel_rfl) ?_;conv=>whnf)
 all_goals exact .q ⟨by simp_all [decB],rfl⟩
def atL (ls:List Lm)(z:Int):Lm:=(ls[(z-1).toNat]?).getD ⟨0,false,⟨false,[],[]⟩,[]⟩
abbrev vAt (ls:List Lm)(z:Int):Rat:=(atL ls z).v.q
theorem atL_some {ls:List Lm}{z:Int}(h:0<z)(h2:z≤ls.length):ls[(z-1).toNat]? =some (atL ls z):=by
 unfold atL;obtain⟨x,hx⟩:=at_some (l:=ls) (i:=(z-1).toNat) (by omega);rw[hx];rfl
theorem atL_sm {ls:List Lm}(h:∀m∈ls,m.v.sm)(z:Int):(atL ls z).v.sm:=by
 unfold atL
 cases hx:ls[(z-1).toNat]? with
 |none=>exact⟨zL_ _,zL_ _⟩
 |some x=>exact h x (mG_ hx)
def bstep (ls:List Lm)(u:Int)(i:Nat)(m:Lm)(a:Int×Int):Int×Int:=
 if m.u=u then(if m.up=true then(if a.2=0∨cmpQ m.v.q (vAt ls a.2)<0 then(a.1,(i:Int)+1)else a)
  else(if a.1=0∨cmpQ m.v.q (vAt ls a.1)>0 then((i:Int)+1,a.2)else a))else a
def bestTo (ls:List Lm)(u:Int):Nat→Int×Int
 |0=>(0,0)
 |i+1=>match ls[i]? with
  |some m=>bstep ls u i m (bestTo ls u i)
  |none=>bestTo ls u i
def bestS (s:Sp)(u:Int):Int×Int:=bestTo s.ls u s.ls.length
theorem bestTo_succ {ls:List Lm}{u:Int}{i:Nat}{m:Lm}(h:ls[i]? =some m):bestTo ls u (i+1)=bstep ls u i m (bestTo ls u i):=by
 simp only[bestTo,h]
theorem bestTo_le (ls:List Lm)(u:Int):∀i:Nat,0≤(bestTo ls u i).1∧(bestTo ls u i).1≤i∧0≤(bestTo ls u i).2∧(bestTo ls u i).2≤i
 |0=>by simp[bestTo]
 |i+1=>by
  have ih:=bestTo_le ls u i;simp only[bestTo];split
  ·unfold bstep
   repeat' split
   all_goals first|omega|(simp only;omega)
  ·omega
theorem pos_of {z:Int}(h:(z==0)=false)(h0:0≤z):0<z:=by
 have:z≠0:=by simpa using h
 omega
theorem lx_best {s:Sp}{u:Int}(hs:SpOk s):LV Tryz.prog 106 [.agg s.A,vl (.int .i64 u)] (.tup [.s (.d (.lit (.int .i64 (bestS s u).1))),.s (.d (.lit (.int .i64 (bestS s u).2)))]):=by
 have hl:=hs.ll;refine LX_run (m:=0) (n0:=0) mix Tryz.func106 rfl rfl rfl rfl ?_;conv=>whnf
 refine .mk (Nat×Int×Int) (fun(i,lo,hi)=>⟨[(13,vl (.int .i64 i)),(12,vl (.int .i64 (s.ls.map Lm.D).length)),(11,.a (.d (lmsD s.ls))),(7,vl (.int .i64 hi)),(6,vl (.int .i64 lo)),(2,.a (.ptr 0 0)),(1,vl (.int .i64 u))],[(0,.box 108 s.A)],1⟩)
  (fun b=>b.1≤s.ls.length∧bestTo s.ls u b.1=b.2) (fun b=>s.ls.length-b.1) (0,0,0) Wk.go ⟨zL_ _,rfl⟩ fun⟨i,lo,hi⟩ hb=> ?_
 obtain⟨hi1,hb⟩:=hb;have hle:=bestTo_le s.ls u i;rw[hb]at hle;obtain⟨k1,k2,k3,k4⟩:=hle;simp only at k1 k2 k3 k4 hi1;conv=>whnf
 refine bs (fun h1=> ?_) (fun h1=> ?_)
 ·conv=>whnf
  have h1':i<s.ls.length:=by simpa using h1
  obtain⟨m,hm⟩:=at_some h1';have hsm:=hs.ln m (mG_ hm);obtain⟨mu,up,mv,mp⟩:=m
  cases up
  all_goals refine .mk i (Lm.D ⟨_,_,_,_⟩) (by first|rfl|(rw[wr64 (by omega) (by omega)];omega)) (at_map hm) ?_
  all_goals conv=>whnf
  all_goals (repeat' first|(refine bs (fun h=> ?_) (fun h=> ?_)<;>conv=>whnf)|(refine Nc.mk (by kernel_rfl) ?_;conv=>whnf)|(refine .c (lx_rcmp hsm.rq (atL_sm hs.ln _).rq) ?_;conv=>whnf)|(refine .mk (hi-1).toNat (atL s.ls hi).D (by rw[wr64 (by omega) (by omega)];have:=pos_of ‹(hi==0)=false› k3;omega) (at_map (atL_some (pos_of ‹(hi==0)=false› k3) (by omega))) ?_;conv=>whnf)|(refine .mk (lo-1).toNat (atL s.ls lo).D (by rw[wr64 (by omega) (by omega)];have:=pos_of ‹(lo==0)=false› k1;omega) (at_map (atL_some (pos_of ‹(lo==0)=false› k1) (by omega))) ?_;conv=>whnf))
  all_goals refine⟨(i+1,_,_),Wk.go,⟨h1',?_⟩,by simp only;omega⟩
  all_goals (have hw:=wr64 (x:=(i:Int)+1) (by omega) (by omega);rw[bestTo_succ hm,hb];first|(simp_all [bstep,vAt];done)|(simp_all [bstep,vAt];intros;omega))
 ·conv=>whnf
  have e:i=s.ls.length:=by simp at h1;omega
  subst e;exact .q ⟨by rw[bestS,hb],rfl⟩
def onS (s:Sp)(u lo:Int):Bool:=decB s 1 u||decide (lo>0)&&decide ((vAt s.ls lo).num.sign≥0)
def offS (s:Sp)(u hi:Int):Bool:=decB s 2 u||decide (hi>0)&&decide ((vAt s.ls hi).num.sign≤0)
def phaseS (s:Sp)(u:Int):Int:=
 if decide (u<0)||decide (u≥(s.q.g.us.length:Int))then 0 else if onS s u (bestS s u).1 then 1 else if offS s u (bestS s u).2 then 2 else 0
theorem lx_phases {s:Sp}{u lo hi:Int}(hs:SpOk s)(h1:lo≤s.ls.length)(h2:hi≤s.ls.length):
  LV Tryz.prog 107 [.agg s.A,vl (.int .i64 u),vl (.int .i64 lo),vl (.int .i64 hi)] (.tup [.s (.d (.lit (.bool (onS s u lo)))),.s (.d (.lit (.bool (offS s u hi))))]):=by
 have hl:=hs.ll;refine LX_run (m:=0) (n0:=0) mix Tryz.func107 rfl rfl rfl rfl ?_;conv=>whnf
 repeat' first|(refine bs (fun h=> ?_) (fun h=> ?_)<;>conv=>whnf)|(refine Nc.mk (by kernel_rfl) ?_;conv=>whnf)|(refine .c (lx_decided hs) ?_;conv=>whnf)|(refine .c (lx_rsign (atL_sm hs.ln _).rq) ?_;conv=>whnf)|(refine .mk (hi-1).toNat (atL s.ls hi).D (by have:=of_decide_eq_true ‹decide (hi>0)=true›;rw[wr64 (by omega) (by omega)];omega) (at_map (atL_some (of_decide_eq_true ‹decide (hi>0)=true›) (by omega))) ?_;conv=>whnf)|(refine .mk (lo-1).toNat (atL s.ls lo).D (by have:=of_decide_eq_true ‹decide (lo>0)=true›;rw[wr64 (by omega) (by omega)];omega) (at_map (atL_some (of_decide_eq_true ‹decide (lo>0)=true›) (by omega))) ?_;conv=>whnf)
 all_goals exact .q ⟨by first|(simp_all [onS,offS];done)|(simp_all [onS,offS];intros;omega)|((simp[onS,offS];repeat' split)<;>first|(simp_all;done)|(simp_all;intros;omega)),rfl⟩
theorem bestS_le (s:Sp)(u:Int):(bestS s u).1≤s.ls.length∧(bestS s u).2≤s.ls.length:=let h:=bestTo_le s.ls u s.ls.length;⟨h.2.1,h.2.2.2⟩
theorem lx_phase {s:Sp}{u:Int}(hs:SpOk s):LV Tryz.prog 58 [.agg s.A,vl (.int .i64 u)] (vl (.int .i64 (phaseS s u))):=by
 have hl:=hs.ll;refine LX_run (m:=0) (n0:=0) mix Tryz.func58 rfl rfl rfl rfl ?_;conv=>whnf
 refine .c (lx_quvalid hs.q) ?_;conv=>whnf
 repeat' first|(refine bs (fun h=> ?_) (fun h=> ?_)<;>conv=>whnf)|(refine Nc.mk (by kernel_rfl) ?_;conv=>whnf)|(refine .c (lx_best hs) ?_;conv=>whnf)|(refine .c (lx_phases hs (bestS_le s u).1 (bestS_le s u).2) ?_;conv=>whnf)
 all_goals exact .q ⟨by first|(simp_all [phaseS];done)|(simp_all [phaseS];intros;omega)|((simp[phaseS];repeat' split)<;>first|(simp_all;done)|(simp_all;intros;omega)),rfl⟩
open Go.Maps
theorem clone_nil {P:Program}{F:FuncId}{k:Nat}{e:TypeId}(h1:∀cap,LX P F [vl (.slice none 0 cap)] [] fun v H=>v=vl (.slice none 0 0)∧H=[])(h2:∀a cap,LX P F [vl (.slice (some a) 0 cap)] [] fun v H=>v= .a (.own 0 k [])∧H=[(0,.arr e k 0)]):
  LX P F [.a (.d (.sl k []))] [] fun v H=>v= .a (.own 0 k [])∧H=[(0,.arr e k 0)]:=by
 refine⟨_,_,⟨rfl,rfl⟩,fun γ M w rs hr ha=> ?_⟩;obtain⟨v,rfl,hv⟩:=all2_1 ha;have:∃ad cap,v= .slice ad 0 cap:=by
  generalize hx:(V.a (A.d (D.sl k [])))=x at hv;have hv':RdD M w (.sl k []) v:=by subst hx;exact hv
  cases hv';exact⟨_,_,rfl⟩
 obtain⟨ad,cap,rfl⟩:=this
 cases ad with
 |none=>
  obtain⟨v',H',⟨rfl,rfl⟩,hc⟩:=h1 cap;refine cM (hc γ M w _ hr ⟨.lit _,trivial⟩) ?_;rintro e1 w' ⟨r,γ',M',rfl,k1,k2,k3⟩;obtain⟨q1,q2⟩:=new_nil k1 (key:=0) rfl e k;have e2:look [(0,Ent.arr e k 0)]=over [(0,.arr e k 0)] (look []):=look_app [(0,Ent.arr e k 0)] [];have e3:=lit_inv k2;subst e3;refine⟨_,_,M',rfl,by rw[e2];exact q1,⟨nil_ok k,rfl,fun e' k' n he=> ?_⟩,by rw[e2];exact k3.trans q2 hr.dom⟩;simp only[look,if_true]at he;injection he with he;injection he with _ _ he;subst he;exact⟨lR_ _,fun _=>by rw[upd_same]⟩
 |some a=>
  obtain⟨v',H',⟨rfl,rfl⟩,hc⟩:=h2 a cap;exact hc γ M w _ hr ⟨.lit _,trivial⟩
theorem lx_cloneD {l:List Dc}(hl:l.length≤1000000):LX Tryz.prog 139 [.a (.d (.sl 5 (l.map Dc.D)))] [] fun v H=>v= .a (.own 0 5 (l.map Dc.D))∧H=[(0,.arr 166 5 (l.map Dc.D).length)]:=by
 cases l with
 |cons x xs=>
  refine LX_run (m:=0) (n0:=0) mix Tryz.func139 rfl rfl rfl rfl ?_;conv=>whnf
  refine .own ?_;conv=>whnf
  refine .mk ((x::xs).map Dc.D) rfl rfl (by simp at hl ⊢;omega) ?_;conv=>whnf
  exact⟨_,_,⟨rfl,rfl⟩,vR_ _,rfl,⟨⟨_,rfl,wke_refl _,rfl⟩,trivial⟩,rfl⟩
 |nil=>
  refine clone_nil (k:=5) (e:=166) ?_ fun a cap=> ?_
  ·intro cap;refine LX_run (m:=0) (n0:=0) mix Tryz.func139 rfl rfl rfl rfl ?_;conv=>whnf
   exact⟨_,_,⟨rfl,rfl⟩,vR_ _,rfl,trivial,rfl⟩
  ·refine LX_run (m:=0) (n0:=0) mix Tryz.func139 rfl rfl rfl rfl ?_;conv=>whnf
   refine .own ?_;conv=>whnf
   refine .mk [] rfl rfl (by decide) ?_;conv=>whnf
   exact⟨_,_,⟨rfl,rfl⟩,vR_ _,rfl,⟨⟨_,rfl,wke_refl _,rfl⟩,trivial⟩,rfl⟩
theorem lx_cloneL {l:List Lm}(hl:l.length≤1000000):LX Tryz.prog 140 [.a (.d (.sl 6 (l.map Lm.D)))] [] fun v H=>v= .a (.own 0 6 (l.map Lm.D))∧H=[(0,.arr 113 6 (l.map Lm.D).length)]:=by
 cases l with
 |cons x xs=>
  refine LX_run (m:=0) (n0:=0) mix Tryz.func140 rfl rfl rfl rfl ?_;conv=>whnf
  refine .own ?_;conv=>whnf
  refine .mk ((x::xs).map Lm.D) rfl rfl (by simp at hl ⊢;omega) ?_;conv=>whnf
  exact⟨_,_,⟨rfl,rfl⟩,vR_ _,rfl,⟨⟨_,rfl,wke_refl _,rfl⟩,trivial⟩,rfl⟩
 |nil=>
  refine clone_nil (k:=6) (e:=113) ?_ fun a cap=> ?_
  ·intro cap;refine LX_run (m:=0) (n0:=0) mix Tryz.func140 rfl rfl rfl rfl ?_;conv=>whnf
   exact⟨_,_,⟨rfl,rfl⟩,vR_ _,rfl,trivial,rfl⟩
  ·refine LX_run (m:=0) (n0:=0) mix Tryz.func140 rfl rfl rfl rfl ?_;conv=>whnf
   refine .own ?_;conv=>whnf
   refine .mk [] rfl rfl (by decide) ?_;conv=>whnf
   exact⟨_,_,⟨rfl,rfl⟩,vR_ _,rfl,⟨⟨_,rfl,wke_refl _,rfl⟩,trivial⟩,rfl⟩
def isU (d:Dc):Bool:=decide (d.k=1∨d.k=2)
def seenB (l:List Dc)(x:Int):Bool:=l.any fun d=>isU d&&d.i==x
def twTo (l:List Dc):Nat→Bool
 |0=>false
 |i+1=>twTo l i||(match l[i]? with
  |some d=>isU d&&seenB (l.take i) d.i
  |none=>false)
def twB (l:List Dc):Bool:=twTo l l.length
theorem can0:can 0=⟨false,limbs 0,limbs 0⟩:=by
 have h1:decide ((0:Rat)<0)=false:=by decide
 show Rw.mk _ _ _=_;rw[h1];rfl
structure Iv where
 lo:Rat
 hi:Rat
theorem bt_mk {k:Nat}{z:Int}{d:Nat}(hd:0<d)(h1:z.natAbs≤2^k)(h2:d≤2^k):Bt k (mkRat z d):=by
 refine⟨?_,?_⟩
 ·rw[Rat.num_mkRat];split
  ·simp
  ·refine tL_ ?_ h1;rw[Int.natAbs_ediv_of_dvd (Int.ofNat_dvd_left.2 (by first|exact Nat.gcd_dvd_left _ _|exact Nat.gcd_dvd_right _ _))];exact Nat.div_le_self _ _
 ·rw[Rat.den_mkRat];split
  ·exact Nat.one_le_two_pow
  ·exact tL_ (Nat.div_le_self _ _) h2
theorem Bt.mul {k l:Nat}{a b:Rat}(h:Bt k a)(h':Bt l b):Bt (k+l) (a*b):=by
 rw[←Rat.mkRat_self a,←Rat.mkRat_self b,Rat.mkRat_mul_mkRat];refine bt_mk (Nat.mul_pos a.den_pos b.den_pos) ?_ ?_
 ·rw[Int.natAbs_mul,Nat.pow_add];exact Nat.mul_le_mul h.1 h'.1
 ·rw[Nat.pow_add];exact Nat.mul_le_mul h.2 h'.2
theorem Bt.add {k l:Nat}{a b:Rat}(h:Bt k a)(h':Bt l b):Bt (k+l+1) (a+b):=by
 rw[←Rat.mkRat_self a,←Rat.mkRat_self b,Rat.mkRat_add_mkRat _ _ a.den_nz b.den_nz];have h1:=Nat.mul_le_mul h.1 h'.2;have h2:=Nat.mul_le_mul h'.1 h.2;have h3:=Nat.mul_le_mul h.2 h'.2;rw[←Nat.pow_add]at h1 h2 h3;rw[Nat.add_comm l k]at h2;have e:2^(k+l+1)=2^(k+l)+2^(k+l):=by rw[Nat.pow_succ];omega
 refine bt_mk (Nat.mul_pos a.den_pos b.den_pos) ?_ (by omega);refine tL_ (Int.natAbs_add_le _ _) ?_;rw[Int.natAbs_mul,Int.natAbs_mul,Int.natAbs_natCast,Int.natAbs_natCast];omega
theorem Bt.neg {k:Nat}{a:Rat}(h:Bt k a):Bt k (-a):=by
 refine⟨?_,?_⟩
 ·rw[Rat.neg_num,Int.natAbs_neg];exact h.1
 ·rw[Rat.neg_den];exact h.2
theorem Bt.sub {k l:Nat}{a b:Rat}(h:Bt k a)(h':Bt l b):Bt (k+l+1) (a-b):=by
 rw[Rat.sub_eq_add_neg];exact h.add h'.neg
theorem Bt.inv {k:Nat}{a:Rat}(h:Bt k a)(h0:a≠0):Bt k a⁻¹:=by
 have hn:a.num≠0:=by simpa using h0
 refine⟨?_,?_⟩
 ·rw[Rat.num_inv,Int.natAbs_mul,Int.natAbs_sign_of_ne_zero hn,Nat.one_mul,Int.natAbs_natCast];exact h.2
 ·rw[Rat.den_inv,if_neg (by simpa using h0)];exact h.1
theorem Bt.div {k l:Nat}{a b:Rat}(h:Bt k a)(h':Bt l b)(h0:b≠0):Bt (k+l) (a/b):=by
 rw[Rat.div_def];exact h.mul (h'.inv h0)
theorem sg_lt {q:Rat}:decide (q.num.sign<0)=decide (q<0):=by
 have:q.num.sign<0↔q<0:=by rw[Int.sign_neg_iff,←Rat.not_le,←Rat.num_nonneg];omega
 simp[this]
theorem sg_gt {q:Rat}:decide (q.num.sign>0)=decide (0<q):=by
 have:q.num.sign>0↔0<q:=by
  rw[gt_iff_lt,Int.sign_pos_iff,←Rat.not_le];have h2:=Rat.num_nonneg (q:= -q);rw[Rat.neg_num]at h2;have h3:0≤ -q↔q≤0:=by constructor<;>intro h<;>grind
  rw[←h3,←h2];omega
 simp[this]
theorem rat0V:V.agg [A.d (.lit (.bool false)),.d (.lm (limbs 0)),.d (.lm (limbs 0))]=ratV 0:=by
 have h:=can0;injection h with h1 h2 h3;show _=V.agg [_,_,_];rw[h1,h2,h3]
def unB (l u:Rat):Bool:=decide (l<0)&&decide (0<u)
def gapQ (l u:Rat):Rat:=if unB l u=true then -(l*u)/(u-l)else 0
theorem un_ne {l u:Rat}(h:unB l u=true):u-l≠0:=by
 simp[unB]at h;grind
theorem lx_unstable {x y:Rw}(hx:x.sm)(hy:y.sm):LV Tryz.prog 297 [.agg x.A,.agg y.A] (vl (.bool (unB x.q y.q))):=by
 refine LX_run (m:=0) (n0:=0) mix Tryz.func297 rfl rfl rfl rfl ?_;conv=>whnf
 repeat' first|(refine bs (fun h=> ?_) (fun h=> ?_)<;>conv=>whnf)|(refine Nc.mk (by kernel_rfl) ?_;conv=>whnf)|(refine .c (lx_rsign hx.rq) ?_;conv=>whnf)|(refine .c (lx_rsign hy.rq) ?_;conv=>whnf)
 all_goals simp only[sg_lt,sg_gt]at *
 all_goals exact .q ⟨by simp_all [unB],rfl⟩
theorem lx_quot {a b:Rat}(ha:Sz a)(hb:Sz b)(h0:b≠0):LV Tryz.prog 298 [ratV a,ratV b] (ratV (a/b)):=by
 refine LX_run (m:=0) (n0:=0) mix Tryz.func298 rfl rfl rfl rfl ?_;conv=>whnf
 refine .c (lx_rdiv h0 (.c ha) (.c hb)) ?_;conv=>whnf
 exact .q ⟨rfl,rfl⟩
theorem lx_gap {x y:Rw}(hx:x.sm)(hy:y.sm)(bx:Bt 300000000 x.q)(by_:Bt 300000000 y.q):LV Tryz.prog 299 [.agg x.A,.agg y.A] (ratV (gapQ x.q y.q)):=by
 refine LX_run (m:=0) (n0:=0) mix Tryz.func299 rfl rfl rfl rfl ?_;conv=>whnf
 refine .c (lx_unstable hx hy) ?_;conv=>whnf
 refine bs (fun h=> ?_) (fun h=> ?_)
 ·conv=>whnf
  refine .c (lx_rmul hx.rq hy.rq) ?_;conv=>whnf
  refine .c (lx_rneg (.c ((bx.mul by_).mono (by decide)))) ?_;conv=>whnf
  refine .c (lx_rsub hy.rq hx.rq) ?_;conv=>whnf
  refine .c (lx_quot ((bx.mul by_).neg.mono (by decide)) ((by_.sub bx).mono (by decide)) (un_ne h)) ?_;conv=>whnf
  refine .mk (by kernel_rfl) ?_;conv=>whnf
  exact .q ⟨by rw[gapQ,if_pos h],rfl⟩
 ·conv=>whnf
  exact .q ⟨by rw[gapQ,if_neg (by rw[h];exact Bool.false_ne_true)];exact rat0V,rfl⟩
theorem atL_b {ls:List Lm}(h:∀m∈ls,Bt 300000000 m.v.q)(z:Int):Bt 300000000 (vAt ls z):=by
 unfold vAt atL
 cases hx:ls[(z-1).toNat]? with
 |none=>show Bt _ (rv false (val []) (val []));rw[rv_zero];exact bt0 _
 |some x=>exact h x (mG_ hx)
def Dk.All (D:Dk)(k:Nat):Prop:=∀i,i<D.B.length→∀j,j≤D.N.length→Bt k (gq (D.row i) j)
theorem bt1 (k:Nat):Bt k 1:=⟨Nat.one_le_two_pow,Nat.one_le_two_pow⟩
theorem Dk.All.pv {D:Dk}{k r e:Nat}(h:D.All k)(w:D.Wf)(hr:r<D.B.length)(he:e<D.N.length)(ha:gq (D.row r) e≠0):(D.pv r e).All (4*k+1):=by
 have hl:=w.rl r hr
 have hp:∀j,j≤D.N.length→Bt (2*k) (gq (pvL (D.row r) e) j):=fun j hj=>by
  rw[pvL_at (by omega)];split
  ·exact((bt1 0).div (h r hr e (by omega)) ha).mono (by omega)
  ·exact((h r hr j hj).neg.div (h r hr e (by omega)) ha).mono (by omega)
 intro i hi j hj;have hi':i<D.B.length:=by simpa [Dk.pv]using hi
 have hj':j≤D.N.length:=by simpa [Dk.pv]using hj
 rw[Dk.pv_row (by rw[w.fl];exact hi')];split
 ·exact(hp j hj').mono (by omega)
 ·rw[sbL_at (by rw[w.rl i hi'];omega)];have h1:Bt k (if j=e then 0 else gq (D.row i) j):=by
   split
   ·exact bt0 k
   ·exact h i hi' j hj'
  exact(h1.add ((h i hi' e (by omega)).mul (hp j hj'))).mono (by omega)
def bb:Nat→Nat→Nat
 |0,k=>k
 |n+1,k=>bb n (4*k+1)
theorem bb_ge:∀(n k:Nat),k≤bb n k
 |0,_=>lR_ _
 |n+1,k=>tL_ (by omega) (bb_ge n (4*k+1))
theorem bb_mono:∀{n m:Nat} (k:Nat),n≤m→bb n k≤bb m k
 |0,m,k,_=>bb_ge m k
 |n+1,0,_,h=>by omega
 |n+1,m+1,k,h=>bb_mono (4*k+1) (by omega)
theorem Same.col {D D':Dk}(h:Same D D'){i:Nat}(hi:i<D'.B.length)(hv:gn D'.B i∈D.N):∃e,e<D'.N.length∧gq (D'.row i) e≠0∧gn D'.N e∉D.N:=by
 by_cases hx:∃e,e<D'.N.length∧gq (D'.row i) e≠0∧gn D'.N e∉D.N
 ·exact hx
 ·exfalso
  have hz:∀e,e<D'.N.length→gq (D'.row i) e=0∨gn D'.N e∈D.N:=fun e he=>by
   by_cases h1:gq (D'.row i) e=0
   ·exact .inl h1
   ·by_cases h2:gn D'.N e∈D.N
    ·exact .inr h2
    ·exact absurd ⟨e,he,h1,h2⟩ hx
  have val:∀y:Nat→Rat,(∀e,e<D'.N.length→gn D'.N e∈D.N→y (gn D'.N e)=0)→D.as y (gn D'.B i)=gq (D'.row i) D'.N.length:=fun y hy=>by
   have hs:=(h.s _).2 (h.w.as_sat y) i hi;rw[hs];unfold lv;rw[smR_zero fun e he=> ?_]
   ·grind
   ·rcases hz e he with h1|h1
    ·rw[h1];grind
    ·rw[Dk.as_N h1,hy e he h1];grind
  have v0:=val (fun _=>0) fun _ _ _=>rfl;have v1:=val (one1 (gn D'.B i)) fun e he _=>if_neg fun e1:gn D'.N e=gn D'.B i=>h.w'.disj (gn_mem hi) (e1▸gn_mem he);rw[Dk.as_N hv]at v0 v1;rw[one1,if_pos rfl,←v0]at v1;exact absurd v1 (by decide)
def mis (l m:List Nat):Nat:=(l.filter fun x=>decide (x∉m)).length
theorem mis_lt {l m m':List Nat}{v:Nat}(hv:v∈l)(h1:v∉m)(h2:v∈m')(h:∀x∈l,x∈m→x∈m'):mis l m'<mis l m:=by
 unfold mis
 induction l with
 |nil=>cases hv
 |cons a l ih=>
  have hle:(l.filter fun x=>decide (x∉m')).length≤(l.filter fun x=>decide (x∉m)).length:=by
   clear ih hv;have h':∀x∈l,x∈m→x∈m':=fun x hx=>h x (by simp[hx]);clear h
   induction l with
   |nil=>exact lR_ _
   |cons b l ih=>
    have:=ih fun x hx=>h' x (by simp[hx]);rw[List.filter_cons,List.filter_cons]
    by_cases hb:b∈m
    ·have:=h' b (by simp) hb;simp[hb,this];simpa using ih fun x hx=>h' x (by simp[hx])
    ·by_cases hb':b∈m'<;>simp[hb,hb']<;>simp at this<;>omega
  rw[List.filter_cons,List.filter_cons]
  by_cases e:a=v
  ·subst e;simp only[h1,h2,not_true,not_false_iff,decide_true,decide_false,if_true,Bool.false_eq_true,if_false,List.length_cons];omega
  ·have hvl:v∈l:=by
    rcases List.mem_cons.1 hv with h3|h3
    ·exact absurd h3.symm e
    ·exact h3
   have:=ih hvl fun x hx=>h x (by simp[hx])
   by_cases ha:a∈m
   ·have:=h a (by simp) ha;simp[ha,this];simpa using ih hvl fun x hx=>h x (by simp[hx])
   ·by_cases ha':a∈m'<;>simp[ha,ha']<;>simp at this<;>omega
theorem Same.exch:∀(n:Nat) {D D0:Dk} {k:Nat},Same D D0→D0.All k→mis D.N D0.N≤n→∃D',Same D D'∧(∀x,x∈D'.N↔x∈D.N)∧D'.All (bb n k)
 |n,D,D0,k,h,ha,hn=>by
  by_cases hx:∃v,v∈D.N∧v∉D0.N
  ·obtain⟨v,hv,hv0⟩:=hx;have hb:v∈D0.B:=by
    rcases h.mem.2 (.inr hv)with h1|h1
    ·exact h1
    ·exact absurd h1 hv0
   obtain⟨r,hr,hrv⟩:=gn_of_mem hb;obtain⟨e,he,hc,hne⟩:=h.col hr (by rw[hrv];exact hv);have hlt:mis D.N (D0.pv r e).N<mis D.N D0.N:=by
    refine mis_lt hv hv0 ?_ fun x hx hx0=> ?_
    ·show v∈D0.N.set e (gn D0.B r);rw[hrv];exact List.mem_set he _
    ·show x∈D0.N.set e (gn D0.B r);obtain⟨j,hj,rfl⟩:=gn_of_mem hx0;have hje:j≠e:=fun e1=>hne (e1▸hx);rw[show gn D0.N j=gn (D0.N.set e (gn D0.B r)) j by rw[gn_set he,if_neg hje]];exact gn_mem (by rw[List.length_set];exact hj)
   cases n with
   |zero=>omega
   |succ n=>exact Same.exch n (h.pv hr he hc) (ha.pv h.w' hr he hc) (by omega)
  ·have hall:∀x∈D.N,x∈D0.N:=fun x hx'=>Classical.byContradiction fun h1=>hx ⟨x,hx',h1⟩;exact⟨D0,h,fun x=>⟨fun h1=>sub_eq h.w.ndN hall (by rw[h.l];exact lR_ _) h1,hall x⟩,fun i hi j hj=>(ha i hi j hj).mono (bb_ge n k)⟩
theorem mis_le (l m:List Nat):mis l m≤l.length:=List.length_filter_le _ _
theorem Same.all {D D0:Dk}{k:Nat}(h:Same D D0)(ha:D0.All k):D.All (bb D.N.length k):=by
 obtain⟨D',h1,h2,h3⟩:=Same.exch _ h ha (mis_le D.N D0.N);intro i hi j hj;have hb:gn D.B i∈D'.B:=by
  rcases h1.mem.2 (.inl (gn_mem hi))with h4|h4
  ·exact h4
  ·exact absurd ((h2 _).1 h4) (h.w.disj (gn_mem hi))
 obtain⟨i',hi',e⟩:=gn_of_mem hb;obtain⟨q1,q2⟩:=h1.num h2 hi hi' e
 by_cases hjn:j=D.N.length
 ·subst hjn;rw[←q1];exact h3 i' hi' _ (lR_ _)
 ·have hj':j<D.N.length:=by omega
  obtain⟨j',hj2,e2⟩:=gn_of_mem ((h2 _).2 (gn_mem hj'));rw[←q2 j j' hj' hj2 e2];exact h3 i' hi' _ (by omega)
abbrev Dk.c (D:Dk)(i:Nat):Rat:=gq (D.row i) D.N.length
abbrev Dk.a (D:Dk)(i j:Nat):Rat:=gq (D.row i) j
abbrev Dk.ra (D:Dk)(r e:Nat):Rat:=D.c r/ -D.a r e
structure Bd (fr:Nat→Prop)(z:Nat)(D D':Dk)(r e rz:Nat):Prop where
 zb:rz<D.B.length
 ze:gn D.B rz=z
 rb:r<D.B.length
 eb:e<D.N.length
 ef:¬fr (gn D.N e)
 en:D.a rz e<0
 em:∀e',e'<D.N.length→¬fr (gn D.N e')→D.a rz e'<0→gn D.N e≤gn D.N e'
 rf:¬fr (gn D.B r)
 rn:D.a r e<0
 rm:∀r',r'<D.B.length→¬fr (gn D.B r')→D.a r' e<0→D.ra r e<D.ra r' e∨(D.ra r e=D.ra r' e∧gn D.B r≤gn D.B r')
 eq:D'=D.pv r e
def Fs (fr:Nat→Prop)(D:Dk):Prop:=∀i,i<D.B.length→¬fr (gn D.B i)→0≤D.c i
section
variable {fr:Nat→Prop} {z:Nat} {D D':Dk} {r e rz:Nat}
theorem Bd.same (b:Bd fr z D D' r e rz)(w:D.Wf):Same D D':=by
 rw[b.eq];exact(Same.refl w).pv b.rb b.eb (by have:=b.rn;grind)
theorem one_smul (ρ:Rat)(k:Nat){N:List Nat}{l:List Rat}(hn:N.Nodup){i:Nat}(hi:i<N.length)(hk:gn N i=k):lv N l (fun x=>ρ*one1 k x)=ρ*gq l i+gq l N.length:=by
 unfold lv;rw[smR_single hi fun j hj hne=> ?_]
 ·simp only[one1];rw[hk,if_pos rfl];grind
 ·simp only[one1];rw[if_neg fun e=>hne (gn_inj hn hj hi (e.trans hk.symm))];grind
theorem Bd.ra0 (b:Bd fr z D D' r e rz)(f:Fs fr D):0≤D.ra r e:=by
 have h1:=f r b.rb b.rf;have h2:=b.rn;rw[Dk.ra,Rat.div_def];exact Rat.mul_nonneg h1 (Rat.le_of_lt (Rat.inv_pos.2 (by grind)))
theorem ra_mul {c a:Rat}(h:a<0):c/ -a*a= -c:=by
 have h1: -a≠0:=by grind
 rw[Rat.div_def];have:=Rat.mul_inv_cancel (-a) h1;grind
theorem Bd.next (b:Bd fr z D D' r e rz)(w:D.Wf){x:Nat}(hx:x∈D.B∨x∈D.N):D'.as (fun _=>0) x=D.as (fun x=>D.ra r e*one1 (gn D.N e) x) x:=by
 have s:=b.same w;have hs:=(s.s _).2 (w.as_sat fun x=>D.ra r e*one1 (gn D.N e) x);rw[s.w'.sat_as hs (s.mem.2 hx)];refine Dk.as_congr fun y hy=> ?_;rw[b.eq]at hy;obtain⟨j,hj,rfl⟩:=gn_of_mem hy;have hj':j<D.N.length:=by simpa [Dk.pv]using hj
 show 0=D.as _ (gn (D.N.set e (gn D.B r)) j);rw[gn_set b.eb]
 by_cases h:j=e
 ·rw[if_pos h,w.as_B b.rb,one_smul _ _ w.ndN b.eb rfl];have:=ra_mul (c:=D.c r) b.rn;grind
 ·rw[if_neg h,Dk.as_N (gn_mem hj'),one1,if_neg fun e1=>h (gn_inj w.ndN hj' b.eb e1)];grind
theorem Bd.nextB (b:Bd fr z D D' r e rz)(w:D.Wf){i:Nat}(hi:i<D.B.length):D'.as (fun _=>0) (gn D.B i)=D.c i+D.ra r e*D.a i e:=by
 rw[b.next w (.inl (gn_mem hi)),w.as_B hi,one_smul _ _ w.ndN b.eb rfl];grind
theorem as0_B (w:D.Wf){i:Nat}(hi:i<D.B.length):D.as (fun _=>0) (gn D.B i)=D.c i:=by rw[w.as_B hi,lv_zero]
theorem Bd.fs (b:Bd fr z D D' r e rz)(w:D.Wf)(f:Fs fr D):Fs fr D':=by
 have s:=b.same w;have h0:=b.ra0 f;intro i hi hf;rw[←as0_B s.w' hi];have hi':i<D.B.length:=by have:=hi;rw[b.eq]at this;simpa [Dk.pv]using this
 have hB:gn D'.B i=if i=r then gn D.N e else gn D.B i:=by rw[b.eq];exact gn_set b.rb
 by_cases h:i=r
 ·rw[hB,if_pos h,b.next w (.inr (gn_mem b.eb)),Dk.as_N (gn_mem b.eb),one1,if_pos rfl];grind
 ·rw[hB,if_neg h]at hf;rw[hB,if_neg h,b.nextB w hi']
  by_cases h1:D.a i e<0
  ·have hle:D.ra r e≤D.ra i e:=by rcases b.rm i hi' hf h1 with h2|h2<;>grind
   have h3:=ra_mul (c:=D.c i) h1;have h4:0≤(D.ra i e-D.ra r e)* -D.a i e:=Rat.mul_nonneg (by grind) (by grind);grind
  ·have:=f i hi' hf;have:=Rat.mul_nonneg h0 (show 0≤D.a i e by grind);grind
end
structure Ch (fr:Nat→Prop)(z:Nat)(f:Nat→Dk)(K:Nat):Prop where
 w:(f 0).Wf
 fs:Fs fr (f 0)
 s:∀k,k<K→∃r e rz,Bd fr z (f k) (f (k+1)) r e rz
section
variable {fr:Nat→Prop} {z:Nat} {f:Nat→Dk} {K:Nat}
theorem Ch.same (c:Ch fr z f K):∀k,k≤K→Same (f 0) (f k)∧Fs fr (f k)
 |0,_=>⟨Same.refl c.w,c.fs⟩
 |k+1,h=>by
  obtain⟨h1,h2⟩:=c.same k (by omega);obtain⟨r,e,rz,b⟩:=c.s k (by omega);exact⟨h1.trans (b.same h1.w'),b.fs h1.w' h2⟩
abbrev bz (D:Dk)(x:Nat):Rat:=D.as (fun _=>0) x
theorem Ch.zle (c:Ch fr z f K){k:Nat}(h:k<K):bz (f (k+1)) z≤bz (f k) z∧(bz (f (k+1)) z=bz (f k) z→∀x,x∈(f 0).B∨x∈(f 0).N→bz (f (k+1)) x=bz (f k) x):=by
 obtain⟨s,hf⟩:=c.same k (by omega);obtain⟨r,e,rz,b⟩:=c.s k h;have h0:=b.ra0 hf;have e1:=b.nextB s.w' b.zb;rw[b.ze]at e1;have e0:=as0_B s.w' b.zb;rw[b.ze]at e0;have hn:=b.en;have h1:0≤(f k).ra r e* -(f k).a rz e:=Rat.mul_nonneg h0 (by grind);refine⟨by rw[bz,bz,e1,e0];grind,fun heq x hx=> ?_⟩;have hr:(f k).ra r e=0:=by
  rw[bz,bz,e1,e0]at heq;have:(f k).ra r e*(f k).a rz e=0:=by grind
  rcases Rat.mul_eq_zero.1 this with h2|h2
  ·exact h2
  ·rw[h2]at hn;exact absurd hn (by decide)
 rw[bz,b.next s.w' (s.mem.2 hx),hr];exact Dk.as_congr fun y _=>by grind
theorem Ch.zmono (c:Ch fr z f K){i:Nat}:∀{j:Nat},i≤j→j≤K→bz (f j) z≤bz (f i) z
 |j,h1,h2=>by
  rcases Nat.lt_or_eq_of_le h1 with h3|h3
  ·cases j with
   |zero=>omega
   |succ j=>
    have:=c.zmono (i:=i) (j:=j) (by omega) (by omega);have:=(c.zle (k:=j) (by omega)).1;grind
  ·subst h3;exact Rat.le_refl
theorem flip {p:Nat→Prop}{i:Nat}:∀{j:Nat},i≤j→p i→¬p j→∃m,i≤m∧m<j∧p m∧¬p (m+1)
 |j,h,hi,hj=>by
  rcases Nat.lt_or_eq_of_le h with h3|h3
  ·cases j with
   |zero=>omega
   |succ j=>
    by_cases hp:p j
    ·exact⟨j,by omega,by omega,hp,hj⟩
    ·obtain⟨m,h4,h5,h6⟩:=flip (p:=p) (i:=i) (j:=j) (by omega) hi hp;exact⟨m,h4,by omega,h6⟩
  ·subst h3;exact absurd hi hj
theorem greatest {p:Nat→Prop}:∀(n:Nat),(∃x,x<n∧p x)→∃x,x<n∧p x∧∀y,y<n→p y→y≤x
 |0,⟨x,h,_⟩=>by omega
 |n+1,⟨x,h,hp⟩=>by
  by_cases hn:p n
  ·exact⟨n,by omega,hn,fun y hy _=>by omega⟩
  ·have hx:x<n:=by
    rcases Nat.lt_succ_iff_lt_or_eq.1 h with h4|h4
    ·exact h4
    ·subst h4;exact absurd hp hn
   obtain⟨y,h1,h2,h3⟩:=greatest n ⟨x,hx,hp⟩
   exact⟨y,by omega,h2,fun w hw hpw=>by
    rcases Nat.lt_succ_iff_lt_or_eq.1 hw with h4|h4
    ·exact h3 w h4 hpw
    ·subst h4;exact absurd hpw hn⟩
theorem Bd.memN {D D':Dk}{r e rz x:Nat}(b:Bd fr z D D' r e rz)(w:D.Wf):x∈D'.N↔(x=gn D.B r∨(x∈D.N∧x≠gn D.N e)):=by
 rw[b.eq];constructor
 ·intro h;obtain⟨j,hj,rfl⟩:=gn_of_mem h;have hj':j<D.N.length:=by simpa [Dk.pv]using hj
  show gn (D.N.set e _) j=_∨_;simp only[Dk.pv];rw[gn_set b.eb]
  by_cases h:j=e
  ·rw[if_pos h];exact .inl rfl
  ·rw[if_neg h];exact .inr ⟨gn_mem hj',fun e1=>h (gn_inj w.ndN hj' b.eb e1)⟩
 ·intro h;have hl:∀j,j<D.N.length→gn (D.N.set e (gn D.B r)) j∈D.N.set e (gn D.B r):=fun j hj=>gn_mem (by rw[List.length_set];exact hj);rcases h with h|⟨h1,h2⟩
  ·have:=hl e b.eb;rw[gn_set b.eb,if_pos rfl]at this;rw[h];exact this
  ·obtain⟨j,hj,rfl⟩:=gn_of_mem h1;have:=hl j hj;rw[gn_set b.eb,if_neg fun e1=>h2 (by rw[e1])]at this;exact this
theorem Ch.free (c:Ch fr z f K){x:Nat}(hx:fr x):∀k,k≤K→(x∈(f k).N↔x∈(f 0).N)
 |0,_=>Iff.rfl
 |k+1,h=>by
  rw[←c.free hx k (by omega)];obtain⟨r,e,rz,b⟩:=c.s k (by omega);rw[b.memN (c.same k (by omega)).1.w'];constructor
  ·rintro(h1|h1)
   ·exact absurd hx (h1▸b.rf)
   ·exact h1.1
  ·intro h1;exact .inr ⟨h1,fun e1=>b.ef (e1▸hx)⟩
theorem Ch.no_cycle (c:Ch fr z f K){i j:Nat}(hij:i<j)(hj:j≤K)(hN:∀x,x∈(f j).N↔x∈(f i).N):False:=by
 have vars:∀k,k≤K→∀x,x∈(f k).B∨x∈(f k).N↔x∈(f 0).B∨x∈(f 0).N:=fun k hk x=>(c.same k hk).1.mem;have sij:Same (f i) (f j):=(c.same i (by omega)).1.symm.trans (c.same j hj).1
 -- the variable z stands still
 obtain⟨r0,e0,rz0,b0⟩:=c.s i (by omega);have hz:z∈(f 0).B∨z∈(f 0).N:=(vars i (by omega) z).1 (.inl (b0.ze▸gn_mem b0.zb));have zij:bz (f j) z=bz (f i) z:=sij.as hN ((vars i (by omega) z).2 hz)
 have zk:∀k,i≤k→k≤j→bz (f k) z=bz (f i) z:=fun k h1 h2=>by
  have q1:=c.zmono h1 (by omega);have q2:=c.zmono h2 hj;grind
 have bk:∀k,i≤k→k≤j→∀x,x∈(f 0).B∨x∈(f 0).N→bz (f k) x=bz (f i) x:=by
  intro k h1 h2 x hx
  induction k with
  |zero=>rw[show i=0 by omega]
  |succ k ih=>
   rcases Nat.lt_or_eq_of_le h1 with h3|h3
   ·rw[←ih (by omega) (by omega)];exact(c.zle (k:=k) (by omega)).2 (by rw[zk (k+1) h1 h2,zk k (by omega) (by omega)]) x hx
   ·rw[h3]
 -- the greatest variable that comes and goes
 let Fk:Nat→Prop:=fun x=>∃k k',i≤k∧k≤j∧i≤k'∧k'≤j∧x∈(f k).N∧x∉(f k').N
 have step:∀k,i≤k→k<j→∀{r e rz:Nat},Bd fr z (f k) (f (k+1)) r e rz→gn (f k).N e∉(f (k+1)).N∧gn (f k).B r∉(f k).N∧gn (f k).B r∈(f (k+1)).N:=by
  intro k h1 h2 r e rz b;have w:=(c.same k (by omega)).1.w';have hd:=w.disj (gn_mem b.rb);refine⟨fun h=> ?_,hd,(b.memN w).2 (.inl rfl)⟩;rcases(b.memN w).1 h with h3|h3
  ·exact hd (h3▸gn_mem b.eb)
  ·exact h3.2 rfl
 have hV:∃n,∀x,x∈(f 0).B∨x∈(f 0).N→x<n:=by
  have:∀l:List Nat,∃n,∀x∈l,x<n:=by
   intro l
   induction l with
   |nil=>exact⟨0,fun x h=>by cases h⟩
   |cons a l ih=>
    obtain⟨n,hn⟩:=ih
    exact⟨max n (a+1),fun x hx=>by
     rcases List.mem_cons.1 hx with h|h
     ·omega
     ·have:=hn x h;omega⟩
  obtain⟨n,hn⟩:=this ((f 0).B++(f 0).N);exact⟨n,fun x hx=>hn x (List.mem_append.2 hx)⟩
 obtain⟨n,hn⟩:=hV;have fkV:∀x,Fk x→x<n:=fun x ⟨k,k',h1,h2,h3,h4,h5,h6⟩=>hn x ((vars k (by omega) x).1 (.inr h5));obtain⟨t,ht,⟨k1,k2,a1,a2,a3,a4,a5,a6⟩,tm⟩:=greatest (p:=Fk) n ⟨gn (f i).N e0,hn _ ((vars i (by omega) _).1 (.inr (gn_mem b0.eb))),i,i+1,by omega,by omega,by omega,by omega,gn_mem b0.eb,(step i (lR_ _) hij b0).1⟩;have tmax:∀x,Fk x→x≤t:=fun x hx=>tm x (fkV x hx) hx
 -- it comes once,and it goes once
 have comes:∃m,i≤m∧m<j∧t∈(f m).N∧t∉(f (m+1)).N:=by
  by_cases h:t∈(f i).N
  ·obtain⟨m,h1,h2,h3⟩:=flip (p:=fun k=>t∈(f k).N) a3 h a6;exact⟨m,h1,by omega,h3⟩
  ·obtain⟨m,h1,h2,h3⟩:=flip (p:=fun k=>t∈(f k).N) a2 a5 fun h1=>h ((hN t).1 h1);exact⟨m,by omega,h2,h3⟩
 have goes:∃m,i≤m∧m<j∧t∉(f m).N∧t∈(f (m+1)).N:=by
  by_cases h:t∈(f i).N
  ·obtain⟨m,h1,h2,h3,h4⟩:=flip (p:=fun k=>t∉(f k).N) a4 a6 fun h1=>h1 ((hN t).2 h);exact⟨m,by omega,h2,h3,Classical.not_not.1 h4⟩
  ·obtain⟨m,h1,h2,h3,h4⟩:=flip (p:=fun k=>t∉(f k).N) a1 h fun h1=>h1 a5;exact⟨m,h1,by omega,h3,Classical.not_not.1 h4⟩
 obtain⟨ma,p1,p2,p3,p4⟩:=comes;obtain⟨mb,q1,q2,q3,q4⟩:=goes;obtain⟨ra,ea,rza,ba⟩:=c.s ma (by omega);obtain⟨rb,eb,rzb,b⟩:=c.s mb (by omega);obtain⟨sa,fa⟩:=c.same ma (by omega);obtain⟨sb,fb⟩:=c.same mb (by omega);have et:gn (f ma).N ea=t:=Classical.byContradiction fun h=>p4 ((ba.memN sa.w').2 (.inr ⟨p3,fun e=>h e.symm⟩));have lt:gn (f mb).B rb=t:=by
  rcases(b.memN sb.w').1 q4 with h|h
  ·exact h.symm
  ·exact absurd h.1 q3
 -- the change along the column that comes at mb
 let u1:=(f mb).as (one1 (gn (f mb).N eb))
 let u0:=(f mb).as (fun _=>0)
 have v1:(f ma).Sat u1:=(sa.s _).2 ((sb.s _).1 (sb.w'.as_sat _));have v0:(f ma).Sat u0:=(sa.s _).2 ((sb.s _).1 (sb.w'.as_sat _))
 have dB:∀{x:Nat},x<(f mb).B.length→u1 (gn (f mb).B x)-u0 (gn (f mb).B x)=(f mb).a x eb:=fun {x} hx=>by
  show(f mb).as _ _-(f mb).as _ _=_;rw[sb.w'.as_B hx,sb.w'.as_B hx,lv_one sb.w'.ndN b.eb,lv_zero];grind
 have dz:smR (fun k=>(f ma).a rza k*(u1 (gn (f ma).N k)-u0 (gn (f ma).N k))) (f ma).N.length<0:=by
  have z1:=v1 rza ba.zb;have z0:=v0 rza ba.zb;have h1:=dB b.zb;rw[b.ze]at h1;rw[ba.ze]at z1 z0;have h2:=b.en;unfold lv at z1 z0;rw[smR_congr (g:=fun k=>(f ma).a rza k*u1 (gn (f ma).N k)-(f ma).a rza k*u0 (gn (f ma).N k)) fun k _=>by grind,smR_sub];rw[z1,z0]at h1;have h3:smR (fun k=>(f ma).a rza k*u1 (gn (f ma).N k)) (f ma).N.length-smR (fun k=>(f ma).a rza k*u0 (gn (f ma).N k)) (f ma).N.length=(f mb).a rzb eb:=by grind
  rw[h3];exact h2
 obtain⟨k,hk,hneg⟩:=smR_neg dz;have hxN:=gn_mem hk;generalize hx:gn (f ma).N k=x at hneg hxN
 have hcol:∀y,y∈(f mb).N→y≠gn (f mb).N eb→u1 y-u0 y=0:=fun y hy hne=>by
  show(f mb).as _ _-(f mb).as _ _=0;rw[Dk.as_N hy,Dk.as_N hy,one1,if_neg hne];grind
 by_cases hfr:fr x
 ·have h1:x∈(f mb).N:=(c.free hfr mb (by omega)).2 ((c.free hfr ma (by omega)).1 hxN);rw[hcol x h1 fun e1=>b.ef (e1▸hfr)]at hneg;exact absurd hneg (by rw[Rat.mul_zero];decide)
 ·have hle:(f ma).a rza k<0→t≤x:=fun h=>by
   have:=ba.em k hk (by rw[hx];exact hfr) h
   rwa [et,hx]at this
  rcases(vars mb (by omega) x).2 ((vars ma (by omega) x).1 (.inr hxN))with h1|h1
  ·obtain⟨y,hy,hyx⟩:=gn_of_mem h1;have hxt:x≤t:=tmax x ⟨ma,mb,p1,by omega,q1,by omega,hxN,sb.w'.disj h1⟩;have hd:=dB hy;rw[hyx]at hd;rw[hd]at hneg
   by_cases hxe:x=t
   ·have:k=ea:=gn_inj sa.w'.ndN hk ba.eb (by rw[hx,et,hxe]);have h2:y=rb:=gn_inj sb.w'.ndB hy b.rb (by rw[hyx,lt,hxe]);rw[this,h2]at hneg;have h3:=ba.en;have h4:=b.rn;have:=Rat.mul_pos (show 0< -(f ma).a rza ea by grind) (show 0< -(f mb).a rb eb by grind);grind
   ·have h2:¬(f ma).a rza k<0:=fun h=>hxe (Nat.le_antisymm hxt (hle h));have h3:(f mb).a y eb<0:=by
     by_cases h4:(f mb).a y eb<0
     ·exact h4
     ·have:=Rat.mul_nonneg (show 0≤(f ma).a rza k by grind) (show 0≤(f mb).a y eb by grind);grind
    have hy0:(f mb).c y=0:=by
     rw[←as0_B sb.w' hy,hyx];have e1:=bk mb q1 (by omega) x ((vars ma (by omega) x).1 (.inr hxN));have e2:=bk ma p1 (by omega) x ((vars ma (by omega) x).1 (.inr hxN));show bz (f mb) x=0;rw[e1,←e2];exact Dk.as_N hxN
    have hr:0≤(f mb).ra rb eb:=b.ra0 fb;have hy1:(f mb).ra y eb=0:=by rw[Dk.ra,hy0,Rat.div_def,Rat.zero_mul]
    rcases b.rm y hy (by rw[hyx];exact hfr) h3 with h4|⟨_,h4⟩
    ·rw[hy1]at h4;grind
    ·rw[lt,hyx]at h4;omega
  ·by_cases hs:x=gn (f mb).N eb
   ·have h2:u1 x-u0 x=1:=by
     show(f mb).as _ _-(f mb).as _ _=1;rw[Dk.as_N h1,Dk.as_N h1,hs,one1,if_pos rfl];grind
    rw[h2,Rat.mul_one]at hneg;have h3:=hle hneg;have h4:=tmax x ⟨mb,mb+1,q1,by omega,by omega,by omega,h1,hs▸(step mb q1 q2 b).1⟩;have:x=t:=Nat.le_antisymm h4 h3;exact q3 (this▸h1)
   ·rw[hcol x h1 hs]at hneg;exact absurd hneg (by rw[Rat.mul_zero];decide)
def msk (p:Nat→Bool):Nat→Nat
 |0=>0
 |n+1=>msk p n+if p n=true then 2^n else 0
theorem msk_lt (p:Nat→Bool):∀n,msk p n<2^n
 |0=>by simp[msk]
 |n+1=>by
  have:=msk_lt p n;rw[msk,Nat.pow_succ];split<;>omega
theorem msk_inj {p q:Nat→Bool}:∀{n:Nat},msk p n=msk q n→∀x,x<n→p x=q x
 |0,_,x,hx=>by omega
 |n+1,h,x,hx=>by
  have h1:=msk_lt p n;have h2:=msk_lt q n;rw[msk,msk]at h;have hn:p n=q n:=by
   cases hp:p n<;>cases hq:q n<;>simp only[hp,hq,if_true,Bool.false_eq_true,if_false]at h<;>first|rfl|omega
  rcases Nat.lt_succ_iff_lt_or_eq.1 hx with h3|h3
  ·refine msk_inj (n:=n) ?_ x h3;rw[hn]at h;omega
  ·subst h3;exact hn
theorem Ch.few (c:Ch fr z f K){n:Nat}(hn:∀x∈(f 0).B++(f 0).N,x<n):K<2^n:=by
 let g:Nat→Nat:=fun k=>msk (fun x=>decide (x∈(f k).N)) n
 have hinj:∀i j,i<j→j≤K→g i≠g j:=fun i j h1 h2 he=>by
  refine c.no_cycle h1 h2 fun x=> ?_
  by_cases hx:x<n
  ·have:=msk_inj he x hx;exact(decide_eq_decide.1 this).symm
  ·have hv:∀k,k≤K→x∉(f k).N:=fun k hk h=>hx (hn x (List.mem_append.2 ((c.same k hk).1.mem.1 (.inr h))));exact⟨fun h=>absurd h (hv j h2),fun h=>absurd h (hv i (by omega))⟩
 have hnd:((List.range (K+1)).map g).Nodup:=List.pairwise_map.2 (List.pairwise_lt_range.imp_of_mem fun ha hb hlt=>hinj _ _ hlt (by have:=List.mem_range.1 hb;omega))
 have:=sub_len (m:=List.range (2^n)) hnd fun x hx=>by
  obtain⟨k,_,rfl⟩:=List.mem_map.1 hx;exact List.mem_range.2 (msk_lt _ n)
 rw[List.length_map,List.length_range,List.length_range]at this;omega
end
structure Tb where
 n:Nat
 m:Nat
 B:List Nat
 N:List Nat
 F:List (List Rat)
 O:List Rat
 p:Nat
abbrev Tb.z (T:Tb):Nat:=T.n+T.m+1
def Tb.D (T:Tb):Dk:=⟨T.B++[T.z],T.N,T.F++[T.O]⟩
abbrev Tb.r (T:Tb)(i:Nat):List Rat:=T.F.getD i []
def Tb.pv (T:Tb)(r e:Nat):Tb:=
 ⟨T.n,T.m,T.B.set r (gn T.N e),T.N.set e (gn T.B r),(List.range T.F.length).map fun i=>if i=r then pvL (T.r r) e else sbL (T.r i) e (pvL (T.r r) e),sbL T.O e (pvL (T.r r) e),T.p+1⟩
theorem gn_app {l k:List Nat}{i:Nat}(h:i<l.length):gn (l++k) i=gn l i:=by
 rw[gn,gn,List.getD_eq_getElem?_getD,List.getD_eq_getElem?_getD,List.getElem?_append_left h]
theorem gn_end (l:List Nat)(x:Nat):gn (l++[x]) l.length=x:=by
 rw[gn,List.getD_eq_getElem?_getD,List.getElem?_append_right (lR_ _)];simp
theorem row_app {F k:List (List Rat)}{i:Nat}(h:i<F.length):(F++k).getD i []=F.getD i []:=by
 rw[List.getD_eq_getElem?_getD,List.getD_eq_getElem?_getD,List.getElem?_append_left h]
theorem row_end (F:List (List Rat))(x:List Rat):(F++[x]).getD F.length []=x:=by
 rw[List.getD_eq_getElem?_getD,List.getElem?_append_right (lR_ _)];simp
section
variable {T:Tb} {r e i:Nat}
theorem Tb.D_row (h:i<T.F.length):T.D.row i=T.r i:=row_app h
theorem Tb.D_obj:T.D.row T.F.length=T.O:=row_end T.F T.O
theorem Tb.D_B (h:i<T.B.length):gn T.D.B i=gn T.B i:=gn_app h
theorem Tb.D_z:gn T.D.B T.B.length=T.z:=gn_end T.B T.z
theorem Tb.D_len:T.D.B.length=T.B.length+1:=by simp[Tb.D]
theorem Tb.pv_D (hr:r<T.B.length)(hF:T.F.length=T.B.length):(T.pv r e).D=T.D.pv r e:=by
 have h1:T.D.row r=T.r r:=Tb.D_row (by omega);have h2:gn T.D.B r=gn T.B r:=Tb.D_B hr;unfold Tb.D Tb.pv Dk.pv;unfold Tb.D at h1 h2;simp only at h1 h2 ⊢;rw[h1,h2,List.set_append_left _ _ hr,List.length_append,List.length_singleton,List.range_succ,List.map_append,List.map_singleton]
 congr 1
 congr 1
 ·refine List.map_congr_left fun j hj=> ?_;have hj':=List.mem_range.1 hj
  by_cases h:j=r
  ·rw[if_pos h,if_pos h]
  ·rw[if_neg h,if_neg h];show _=sbL ((T.F++[T.O]).getD j []) _ _;rw[row_app hj']
 ·rw[if_neg (by omega)];show _=[sbL ((T.F++[T.O]).getD T.F.length []) _ _];rw[row_end]
theorem Tb.pv_r (h:i<T.F.length):(T.pv r e).r i=if i=r then pvL (T.r r) e else sbL (T.r i) e (pvL (T.r r) e):=by
 unfold Tb.pv Tb.r;rw[List.getD_eq_getElem?_getD,List.getElem?_map,List.getElem?_range h];rfl
end
structure Run (T0 T:Tb):Prop where
 n:T.n=T0.n
 m:T.m=T0.m
 bl:T.B.length=T0.m
 fl:T.F.length=T0.m
 s:Same T0.D T.D
theorem Run.pv {T0 T:Tb}{r e:Nat}(h:Run T0 T)(hr:r<T0.m)(he:e<T.N.length)(ha:gq (T.r r) e≠0):Run T0 (T.pv r e):=by
 have hr':r<T.B.length:=by rw[h.bl];exact hr
 refine⟨h.n,h.m,by simp[Tb.pv,h.bl],by simp[Tb.pv,h.fl],?_⟩;rw[Tb.pv_D hr' (by rw[h.fl,h.bl])];exact h.s.pv (by rw[Tb.D_len];omega) he (by rw[Tb.D_row (by rw[h.fl];exact hr)];exact ha)
def frV (T:Tb)(x:Nat):Prop:=x<T.n∨x=T.z
def Zc (T:Tb)(k:Nat):Prop:=∀e,e<k→e<T.N.length→gn T.N e<T.n→∀r,r<T.B.length→¬gn T.B r<T.n→gq (T.r r) e=0
theorem Zc.pv {T:Tb}{k r e:Nat}(h:Zc T k)(hF:T.F.length=T.B.length)(hl:∀i,i<T.B.length→(T.r i).length=T.N.length+1)(hr:r<T.B.length)(hrf:¬gn T.B r<T.n)(he:e<T.N.length):Zc (T.pv r e) k:=by
 intro e' hk' he' hf i hi hif;have he2:e'<T.N.length:=by simpa [Tb.pv]using he'
 have hi2:i<T.B.length:=by simpa [Tb.pv]using hi
 have hN:gn (T.pv r e).N e'=if e'=e then gn T.B r else gn T.N e':=gn_set he
 have hne:e'≠e:=by
  intro h1;rw[hN,if_pos h1]at hf;exact hrf hf
 rw[hN,if_neg hne]at hf;have hB:gn (T.pv r e).B i=if i=r then gn T.N e else gn T.B i:=gn_set hr
 have h0:gq (T.r r) e'=0:=h e' hk' he2 hf r hr hrf;have hp:gq (pvL (T.r r) e) e'=0:=by
  rw[pvL_at (by rw[hl r hr];omega),if_neg hne,h0,Rat.div_def];grind
 rw[Tb.pv_r (by rw[hF];exact hi2)]
 by_cases h1:i=r
 ·rw[if_pos h1];exact hp
 ·rw[hB,if_neg h1]at hif;rw[if_neg h1,sbL_at (by rw[hl i hi2];omega),if_neg hne,hp,h e' hk' he2 hf i hi2 hif];grind
theorem Run.rl {T0 T:Tb}(h:Run T0 T){i:Nat}(hi:i<T.B.length):(T.r i).length=T.N.length+1:=by
 have:=h.s.w'.rl i (by rw[Tb.D_len];omega)
 rwa [Tb.D_row (by rw[h.fl,←h.bl];exact hi)]at this
theorem Run.ol {T0 T:Tb}(h:Run T0 T):T.O.length=T.N.length+1:=by
 have:=h.s.w'.rl T.B.length (by rw[Tb.D_len];omega)
 rwa [h.bl,←h.fl,Tb.D_obj]at this
def Tb.fd (T:Tb)(e:Nat):Option Nat:=(List.range T.B.length).find? fun r=>decide (¬gn T.B r<T.n)&&decide (gq (T.r r) e≠0)
def Tb.rls (T:Tb):Nat→Tb
 |0=>T
 |e+1=>if gn T.N e<T.n then match (T.rls e).fd e with
  |some r=>(T.rls e).pv r e
  |none=>T.rls e else T.rls e
theorem fd_some {T:Tb}{e r:Nat}(h:T.fd e=some r):r<T.B.length∧¬gn T.B r<T.n∧gq (T.r r) e≠0:=by
 have h1:=List.find?_some h;have h2:=List.mem_range.1 (List.mem_of_find?_eq_some h);simp only[Bool.and_eq_true,decide_eq_true_eq]at h1;exact⟨h2,h1.1,h1.2⟩
theorem fd_none {T:Tb}{e r:Nat}(h:T.fd e=none)(hr:r<T.B.length)(hf:¬gn T.B r<T.n):gq (T.r r) e=0:=by
 have h1:=List.find?_eq_none.1 h r (List.mem_range.2 hr);simp only[Bool.and_eq_true,decide_eq_true_eq,not_and]at h1;exact Classical.not_not.1 (h1 hf)
structure RlI (T0 T:Tb)(k:Nat)(U:Tb):Prop where
 run:Run T0 U
 len:U.N.length=T.N.length
 nx:∀e,k≤e→gn U.N e=gn T.N e
 zc:Zc U k
 p:U.p≤T.p+k
theorem rls_ok {T0 T:Tb}(h:Run T0 T):∀k,k≤T.N.length→RlI T0 T k (T.rls k)
 |0,_=>⟨h,rfl,fun _ _=>rfl,fun e he=>by omega,by simp[Tb.rls]⟩
 |k+1,hk=>by
  have ih:=rls_ok h k (by omega);generalize hU:T.rls k=U at ih;obtain⟨i1,i2,i3,i4,i5⟩:=ih;have en:U.n=T.n:=by rw[i1.n,h.n]
  have hnk:=i3 k (lR_ _);rw[Tb.rls,hU]
  by_cases hf:gn T.N k<T.n
  ·rw[if_pos hf]
   cases hfd:U.fd k with
   |none=>
    refine⟨i1,i2,fun e he=>i3 e (by omega),fun e he he' hef r hr hrf=> ?_,tL_ i5 (by omega)⟩;rcases Nat.lt_succ_iff_lt_or_eq.1 he with h1|h1
    ·exact i4 e h1 he' hef r hr hrf
    ·subst h1;exact fd_none hfd hr hrf
   |some r=>
    obtain⟨r1,r2,r3⟩:=fd_some hfd;have hkl:k<U.N.length:=by omega
    have hr0:r<T0.m:=by rw[←i1.bl];exact r1
    refine⟨i1.pv hr0 hkl r3,by simp[Tb.pv,i2],fun e he=> ?_,?_,by simp only[Tb.pv];omega⟩
    ·show gn (U.N.set k _) e=_;rw[gn_set hkl,if_neg (by omega)];exact i3 e (by omega)
    ·have hz:=Zc.pv (k:=k) (e:=k) i4 (by rw[i1.fl,i1.bl]) (fun i hi=>i1.rl hi) r1 r2 hkl;intro e he he' hef;rcases Nat.lt_succ_iff_lt_or_eq.1 he with h1|h1
     ·exact hz e h1 he' hef
     ·subst h1;exfalso;have:gn (U.pv r e).N e=gn U.B r:=by show gn (U.N.set e _) e=_;rw[gn_set hkl,if_pos rfl]
      rw[this]at hef;exact r2 hef
  ·rw[if_neg hf];refine⟨i1,i2,fun e he=>i3 e (by omega),fun e he he' hef r hr hrf=> ?_,by omega⟩;rcases Nat.lt_succ_iff_lt_or_eq.1 he with h1|h1
   ·exact i4 e h1 he' hef r hr hrf
   ·subst h1;rw[hnk,en]at hef;exact absurd hef hf
def Tb.du (T:Tb)(l:List Rat):List Rat:=(List.range T.m).map fun k=>smR (fun j=>if gn T.N j=T.n+k then gq l j else 0) T.N.length
theorem smR_swap (f:Nat→Nat→Rat)(n m:Nat):smR (fun i=>smR (f i) m) n=smR (fun j=>smR (fun i=>f i j) n) m:=by
 induction n with
 |zero=>rw[smR,smR_zero (f:=fun j=>smR (fun i=>f i j) 0) fun _ _=>rfl]
 |succ n ih=>rw[smR,ih,←smR_add];rfl
theorem du_at {T:Tb}{l:List Rat}{k:Nat}(hk:k<T.m):gq (T.du l) k=smR (fun j=>if gn T.N j=T.n+k then gq l j else 0) T.N.length:=by
 unfold Tb.du gq;rw[List.getD_eq_getElem?_getD,List.getElem?_map,List.getElem?_range hk];rfl
theorem du_sum {T:Tb}{l:List Rat}(v:Nat→Rat):smR (fun k=>gq (T.du l) k*v (T.n+k)) T.m=smR (fun j=>if T.n≤gn T.N j∧gn T.N j<T.n+T.m then gq l j*v (gn T.N j)else 0) T.N.length:=by
 rw[smR_congr (g:=fun k=>smR (fun j=>if gn T.N j=T.n+k then gq l j*v (T.n+k)else 0) T.N.length) fun k hk=> ?_,smR_swap]
 ·refine smR_congr fun j hj=> ?_
  by_cases h:T.n≤gn T.N j∧gn T.N j<T.n+T.m
  ·rw[if_pos h,smR_single (e:=gn T.N j-T.n) (by omega) fun k hk hne=>if_neg (by omega),if_pos (by omega)];rw[show T.n+(gn T.N j-T.n)=gn T.N j by omega]
  ·rw[if_neg h,smR_zero fun k hk=>if_neg (by omega)]
 ·rw[du_at hk,Rat.mul_comm,←smR_mul];refine smR_congr fun j hj=> ?_;split
  ·rw[Rat.mul_comm]
  ·exact Rat.mul_zero _
theorem du_nonneg {T:Tb}{l:List Rat}(h:∀j,j<T.N.length→¬gn T.N j<T.n→0≤gq l j){k:Nat}(hk:k<T.m):0≤gq (T.du l) k:=by
 rw[du_at hk];refine smR_nonneg fun j hj=> ?_;split
 ·exact h j hj (by omega)
 ·exact Rat.le_refl
theorem line_du {T:Tb}{l:List Rat}{v:Nat→Rat}(h:∀j,j<T.N.length→¬(T.n≤gn T.N j∧gn T.N j<T.n+T.m)→gq l j*v (gn T.N j)=0):lv T.N l v=smR (fun k=>gq (T.du l) k*v (T.n+k)) T.m+gq l T.N.length:=by
 unfold lv;rw[du_sum,smR_congr fun j hj=> ?_];split
 ·rfl
 ·exact h j hj ‹_›
def insC (l:List Rat)(k:Nat)(c:Rat):List Rat:=l.take k++c::l.drop k
theorem insC_len {l:List Rat}{k:Nat}{c:Rat}(h:k≤l.length):(insC l k c).length=l.length+1:=by
 simp only[insC,List.length_append,List.length_take,List.length_cons,List.length_drop];omega
theorem insC_at {l:List Rat}{k j:Nat}{c:Rat}(h:k≤l.length):gq (insC l k c) j=if j<k then gq l j else if j=k then c else gq l (j-1):=by
 unfold insC gq;rw[List.getD_eq_getElem?_getD,List.getElem?_append,List.length_take,Nat.min_eq_left h]
 by_cases h1:j<k
 ·rw[if_pos h1,if_pos h1,List.getElem?_take_of_lt h1,List.getD_eq_getElem?_getD]
 ·rw[if_neg h1,if_neg h1]
  by_cases h2:j=k
  ·rw[if_pos h2,h2];simp
  ·rw[if_neg h2,show j-k=(j-1-k)+1 by omega,List.getElem?_cons_succ,List.getElem?_drop,List.getD_eq_getElem?_getD,show k+(j-1-k)=j-1 by omega]
theorem lv_ins {N:List Nat}{l:List Rat}{x:Nat}{c:Rat}{v:Nat→Rat}(hl:l.length=N.length+1):lv (N++[x]) (insC l N.length c) v=lv N l v+c*v x:=by
 unfold lv
 rw[List.length_append,List.length_singleton,smR,insC_at (by omega),if_neg (by omega),if_pos rfl,insC_at (j:=N.length+1) (by omega),if_neg (by omega),if_neg (by omega),gn_end,
  smR_congr (g:=fun j=>gq l j*v (gn N j)) fun j hj=>by rw[insC_at (by omega),if_pos hj,gn_app hj]]
 rw[Nat.add_sub_cancel];grind
abbrev Tb.a (T:Tb):Nat:=T.n+T.m
abbrev Tb.ac (T:Tb)(i:Nat):Rat:=if gn T.B i<T.n then 0 else 1
def Tb.ax (T:Tb):Tb:=⟨T.n,T.m,T.B,T.N++[T.a],(List.range T.F.length).map fun i=>insC (T.r i) T.N.length (T.ac i),insC T.O T.N.length 0,T.p⟩
theorem Tb.ax_r {T:Tb}{i:Nat}(h:i<T.F.length):T.ax.r i=insC (T.r i) T.N.length (T.ac i):=by
 unfold Tb.ax Tb.r;rw[List.getD_eq_getElem?_getD,List.getElem?_map,List.getElem?_range h];rfl
theorem Tb.sat {T:Tb}{v:Nat→Rat}(hF:T.F.length=T.B.length):T.D.Sat v↔(∀i,i<T.B.length→v (gn T.B i)=lv T.N (T.r i) v)∧v T.z=lv T.N T.O v:=by
 constructor
 ·intro h;refine⟨fun i hi=> ?_,?_⟩
  ·have:=h i (by rw[Tb.D_len];omega)
   rwa [Tb.D_B hi,Tb.D_row (by omega)]at this
  ·have:=h T.B.length (by rw[Tb.D_len];omega);rw[Tb.D_z]at this;rw[this,←hF,Tb.D_obj];rfl
 ·rintro⟨h1,h2⟩ i hi;rw[Tb.D_len]at hi
  by_cases h:i<T.B.length
  ·rw[Tb.D_B h,Tb.D_row (by omega)];exact h1 i h
  ·rw[show i=T.B.length by omega,Tb.D_z,←hF,Tb.D_obj];exact h2
theorem Tb.ax_sat {T0 T:Tb}(h:Run T0 T){v:Nat→Rat}:T.ax.D.Sat v↔(∀i,i<T.B.length→v (gn T.B i)=lv T.N (T.r i) v+T.ac i*v T.a)∧v T.z=lv T.N T.O v:=by
 have hF:T.F.length=T.B.length:=by rw[h.fl,h.bl]
 rw[Tb.sat (by simp[Tb.ax,hF])];refine and_congr (forall_congr' fun i=>forall_congr' fun hi=> ?_) ?_
 ·rw[Tb.ax_r (by rw[hF];exact hi)];show v (gn T.B i)=lv (T.N++[T.a]) _ v↔_;rw[lv_ins (h.rl hi)]
 ·show v T.z=lv (T.N++[T.a]) (insC T.O T.N.length 0) v↔_;rw[lv_ins h.ol,Rat.zero_mul,Rat.add_zero]
theorem Tb.ax_sat0 {T0 T:Tb}(h:Run T0 T){v:Nat→Rat}(ha:v T.a=0):T.ax.D.Sat v↔T.D.Sat v:=by
 rw[Tb.ax_sat h,Tb.sat (by rw[h.fl,h.bl])];refine and_congr (forall_congr' fun i=>forall_congr' fun hi=> ?_) Iff.rfl;rw[ha,Rat.mul_zero,Rat.add_zero]
theorem Tb.ax_wf {T0 T:Tb}(h:Run T0 T)(hb:∀x,x∈T.B∨x∈T.N→x<T.a):T.ax.D.Wf:=by
 have hF:T.F.length=T.B.length:=by rw[h.fl,h.bl]
 have hw:=h.s.w';refine⟨by simp[Tb.ax,Tb.D,hF],fun i hi=> ?_,?_⟩
 ·rw[Tb.D_len]at hi;have hi':i<T.B.length+1:=hi;show _=(T.N++[T.a]).length+1
  by_cases h1:i<T.B.length
  ·rw[Tb.D_row (by simp[Tb.ax,hF];exact h1),Tb.ax_r (by omega),insC_len (by rw[h.rl h1];omega),h.rl h1];simp
  ·have e1:i=T.ax.F.length:=by simp[Tb.ax];omega
   rw[e1,Tb.D_obj];show(insC T.O T.N.length 0).length=_;rw[insC_len (by rw[h.ol];omega),h.ol];simp
 ·have hnd:=hw.nd;show((T.B++[T.z])++(T.N++[T.a])).Nodup;have hnd':((T.B++[T.z])++T.N).Nodup:=hnd;rw[←List.append_assoc,List.nodup_append];refine⟨hnd',by simp,fun x hx y hy=> ?_⟩;rw[List.mem_singleton]at hy;subst hy;intro e;subst e;rcases List.mem_append.1 hx with h1|h1
  ·rcases List.mem_append.1 h1 with h2|h2
   ·exact absurd (hb _ (.inl h2)) (Nat.lt_irrefl _)
   ·rw[List.mem_singleton]at h2;simp only[Tb.a,Tb.z]at h2;omega
  ·exact absurd (hb _ (.inr h1)) (Nat.lt_irrefl _)
def Bs (z:Nat)(T T':Tb):Prop:=∃r e rz,Bd (frV T) z T.D T'.D r e rz∧r<T.B.length∧T'=T.pv r e
def Rn (z:Nat)(T T':Tb)(k:Nat):Prop:=∃f:Nat→Tb,f 0=T∧f k=T'∧∀i,i<k→Bs z (f i) (f (i+1))
theorem Rn.refl (z:Nat)(T:Tb):Rn z T T 0:=⟨fun _=>T,rfl,rfl,fun i h=>by omega⟩
theorem Rn.step {z k:Nat}{T T' T'':Tb}(h:Rn z T T' k)(b:Bs z T' T''):Rn z T T'' (k+1):=by
 obtain⟨f,h0,h1,h2⟩:=h;refine⟨fun i=>if i≤k then f i else T'',by simp[h0],if_neg (by omega),fun i hi=> ?_⟩
 by_cases h3:i<k
 ·simp only[show i≤k by omega,show i+1≤k by omega,if_true];exact h2 i h3
 ·rw[show i=k by omega];simp only[lR_,if_true,show ¬k+1≤k by omega,if_false];rw[h1];exact b
theorem frV_pv {T:Tb}{r e:Nat}:frV (T.pv r e)=frV T:=rfl
structure Kp (T0 T T':Tb)(k:Nat):Prop where
 run:Run T0 T'
 fs:Fs (frV T) T'.D
 fr:frV T'=frV T
 zc:Zc T' T'.N.length
 p:T'.p=T.p+k
 nl:T'.N.length=T.N.length
theorem Rn.keep {z k:Nat}{T0 T T':Tb}(h:Rn z T T' k)(hr:Run T0 T)(hf:Fs (frV T) T.D)(hz:Zc T T.N.length):Kp T0 T T' k:=by
 obtain⟨f,h0,h1,h2⟩:=h;have:∀i,i≤k→Kp T0 T (f i) i:=by
  intro i
  induction i with
  |zero=>intro _;rw[h0];exact⟨hr,hf,rfl,hz,rfl,rfl⟩
  |succ i ih=>
   intro hi;obtain⟨q1,q2,q3,q4,q5,q6⟩:=ih (by omega);obtain⟨r,e,rz,b,hrl,heq⟩:=h2 i (by omega);have hrow:(f i).D.row r=(f i).r r:=Tb.D_row (by rw[q1.fl,←q1.bl];exact hrl);have hB:gn (f i).D.B r=gn (f i).B r:=Tb.D_B hrl;have ha:gq ((f i).r r) e≠0:=by have:=b.rn;rw[Dk.a,hrow]at this;grind
   have he:e<(f i).N.length:=b.eb;have hrf:¬gn (f i).B r<(f i).n:=fun h=>b.rf (by rw[hB];exact .inl h);rw[heq]at b ⊢;refine⟨q1.pv (by rw[←q1.bl];exact hrl) he ha,?_,by rw[frV_pv,q3],?_,by simp only[Tb.pv];omega,by simp[Tb.pv,q6]⟩
   ·rw[←q3]at q2 ⊢;exact b.fs q1.s.w' q2
   ·have:=q4.pv (by rw[q1.fl,q1.bl]) (fun i hi=>q1.rl hi) hrl hrf he
    rwa [show(f i).N.length=((f i).pv r e).N.length by simp[Tb.pv]]at this
 rw[←h1];exact this k (lR_ _)
theorem Rn.few {z k n:Nat}{T T':Tb}(h:Rn z T T' k)(hw:T.D.Wf)(hf:Fs (frV T) T.D)(hn:∀x∈T.D.B++T.D.N,x<n):k<2^n:=by
 obtain⟨f,h0,h1,h2⟩:=h;have hfr:∀i,i≤k→frV (f i)=frV T:=by
  intro i
  induction i with
  |zero=>intro _;rw[h0]
  |succ i ih=>intro hi;obtain⟨r,e,rz,b,_,heq⟩:=h2 i (by omega);rw[heq,frV_pv];exact ih (by omega)
 have c:Ch (frV T) z (fun i=>(f i).D) k:=⟨by simp only[h0];exact hw,by simp only[h0];exact hf,fun i hi=>by
  obtain⟨r,e,rz,b,_,_⟩:=h2 i hi;rw[hfr i (by omega)]at b;exact⟨r,e,rz,b⟩⟩
 exact c.few (by simp only[h0];exact hn)
theorem Dk.sat_congr {D:Dk}{v u:Nat→Rat}(h:∀x,x∈D.B∨x∈D.N→v x=u x):D.Sat v↔D.Sat u:=by
 refine forall_congr' fun i=>forall_congr' fun hi=> ?_;rw[h _ (.inl (gn_mem hi)),lv_congr fun x hx=>h x (.inr hx)]
structure Wst (T:Tb)(w:Nat):Prop where
 l:w<T.B.length
 f:¬gn T.B w<T.n
 c:gq (T.r w) T.N.length<0
 m:∀r,r<T.B.length→¬gn T.B r<T.n→gq (T.r w) T.N.length≤gq (T.r r) T.N.length
structure Vr (T:Tb):Prop where
 v:∀x,x∈T.B∨x∈T.N→x<T.n+T.m
section
variable {T0 T:Tb}
theorem ax_run (h:Run T0 T)(hv:Vr T):Run T.ax T.ax:=by
 have hw:=Tb.ax_wf h hv.v;exact⟨rfl,rfl,by show T.B.length=T.m;rw[h.bl,h.m],by simp[Tb.ax,h.fl,h.m],Same.refl hw⟩
theorem ax_zc (h:Run T0 T)(hz:Zc T T.N.length):Zc T.ax T.ax.N.length:=by
 intro e _ he hf r hr hrf;have he':e<T.N.length+1:=by simpa [Tb.ax]using he
 have hr':r<T.B.length:=hr;rcases Nat.lt_succ_iff_lt_or_eq.1 he' with h1|h1
 ·have:gn T.ax.N e=gn T.N e:=gn_app h1;rw[this]at hf;rw[Tb.ax_r (by rw[h.fl,←h.bl];exact hr'),insC_at (by rw[h.rl hr'];omega),if_pos h1];exact hz e h1 h1 hf r hr' hrf
 ·exfalso;have:gn T.ax.N e=T.a:=by rw[h1];exact gn_end _ _
  rw[this]at hf;have:T.n+T.m<T.n:=hf;omega
theorem ax_start (h:Run T0 T)(hv:Vr T)(hz:Zc T T.N.length){w:Nat}(hw:Wst T w):
  Run T.ax (T.ax.pv w T.N.length)∧Fs (frV (T.ax.pv w T.N.length)) (T.ax.pv w T.N.length).D∧Zc (T.ax.pv w T.N.length) (T.ax.pv w T.N.length).N.length:=by
 have ra:=ax_run h hv;have hFB:T.F.length=T.B.length:=by rw[h.fl,h.bl]
 have hwB:w<T.B.length:=hw.l;have hrw:∀i,i<T.B.length→T.ax.r i=insC (T.r i) T.N.length (T.ac i):=fun i hi=>Tb.ax_r (by omega)
 have hat:∀i,i<T.B.length→gq (T.ax.r i) T.N.length=T.ac i∧gq (T.ax.r i) (T.N.length+1)=gq (T.r i) T.N.length:=fun i hi=>by
  have hl:=h.rl hi;rw[hrw i hi,insC_at (by omega),insC_at (by omega)];exact⟨by rw[if_neg (by omega),if_pos rfl],by rw[if_neg (by omega),if_neg (by omega)];rfl⟩
 have h1:T.ac w=1:=if_neg hw.f;have hNl:T.N.length<T.ax.N.length:=by simp[Tb.ax]
 have hne:gq (T.ax.r w) T.N.length≠0:=by rw[(hat w hwB).1,h1];decide
 have hwm:w<T.ax.m:=by show w<T.m;rw[h.m,←h.bl];exact hwB
 have rp:=ra.pv hwm hNl hne;refine⟨rp,fun i hi hf=> ?_,?_⟩
 ·rw[Tb.D_len]at hi;have hBl:(T.ax.pv w T.N.length).B.length=T.B.length:=by simp[Tb.pv,Tb.ax]
  have hFl:(T.ax.pv w T.N.length).F.length=T.B.length:=by simp[Tb.pv,Tb.ax,hFB]
  have hNN:(T.ax.pv w T.N.length).N.length=T.N.length+1:=by simp[Tb.pv,Tb.ax]
  rw[hBl]at hi;have hi':i<T.B.length:=by
   rcases Nat.lt_succ_iff_lt_or_eq.1 hi with h2|h2
   ·exact h2
   ·exfalso;refine hf ?_;rw[h2,←hBl,Tb.D_z];exact .inr rfl
  have hB:gn (T.ax.pv w T.N.length).B i=if i=w then gn T.ax.N T.N.length else gn T.B i:=gn_set hwB
  rw[Tb.D_B (by rw[hBl];exact hi'),hB]at hf;show 0≤gq ((T.ax.pv w T.N.length).D.row i) (T.ax.pv w T.N.length).N.length;rw[hNN,Tb.D_row (by rw[hFl];exact hi'),Tb.pv_r (by simp[Tb.ax];omega)];have hlw:(T.ax.r w).length=T.N.length+2:=by rw[hrw w hwB,insC_len (by rw[h.rl hwB];omega),h.rl hwB]
  have hpc:gq (pvL (T.ax.r w) T.N.length) (T.N.length+1)= -gq (T.r w) T.N.length:=by
   rw[pvL_at (by omega),if_neg (by omega),(hat w hwB).1,(hat w hwB).2,h1,Rat.div_def];grind
  have hc:=hw.c
  by_cases h2:i=w
  ·rw[if_pos h2,hpc];grind
  ·rw[if_neg h2]at hf;have hl:(T.ax.r i).length=T.N.length+2:=by rw[hrw i hi',insC_len (by rw[h.rl hi'];omega),h.rl hi']
   have hif:¬gn T.B i<T.n:=fun h3=>hf (.inl h3);have hm:=hw.m i hi' hif;rw[if_neg h2,sbL_at (by omega),if_neg (by omega),hpc,(hat i hi').1,(hat i hi').2,show T.ac i=1 from if_neg hif];grind
 ·have:=(ax_zc h hz).pv (by show(List.map _ _).length=_;simp[Tb.ax,hFB]) (fun i hi=>ra.rl hi) (show w<T.ax.B.length from hwB) (show ¬gn T.ax.B w<T.ax.n from hw.f) hNl
  rwa [show T.ax.N.length=(T.ax.pv w T.N.length).N.length by simp[Tb.pv]]at this
end
def upd1 (v:Nat→Rat)(a:Nat)(c:Rat):Nat→Rat:=fun x=>if x=a then c else v x
theorem refuted {T0 T T':Tb}{r:Nat}(h:Run T0 T)(hv:Vr T)(k:Run T.ax T')(hn:T'.n=T.n)(hm:T'.m=T.m)(hz:Zc T' T'.N.length)(hr:r<T'.B.length)(ha:gn T'.B r=T.a){v:Nat→Rat}(hs:T0.D.Sat v)(hv0:∀x,x∈T0.D.B∨x∈T0.D.N→x≠T.a):
  smR (fun i=>gq (T'.du (T'.r r)) i*v (T.n+i)) T.m= -gq (T'.r r) T'.N.length:=by
 have s0:T0.D.Sat (upd1 v T.a 0):=(Dk.sat_congr fun x hx=>(if_neg (hv0 x hx):upd1 v T.a 0 x=v x).symm).1 hs;have s1:T.ax.D.Sat (upd1 v T.a 0):=(Tb.ax_sat0 h (if_pos rfl)).2 ((h.s.s _).2 s0);have s2:=((Tb.sat (by rw[k.fl,k.bl])).1 ((k.s.s _).2 s1)).1 r hr;rw[ha,show upd1 v T.a 0 T.a=0 from if_pos rfl]at s2
 have vars:∀j,j<T'.N.length→gn T'.N j<T.n∨(T.n≤gn T'.N j∧gn T'.N j<T.n+T.m):=fun j hj=>by
  have hmem:gn T'.N j∈T'.D.B∨gn T'.N j∈T'.D.N:= .inr (gn_mem hj);have h1:=k.s.mem.1 hmem;have h2:gn T'.N j∉T'.D.B:=fun h3=>k.s.w'.disj h3 (gn_mem hj);have h3:gn T'.N j≠T.a:=fun e=>h2 (by rw[e,←ha,←Tb.D_B hr];exact gn_mem (by rw[Tb.D_len];omega))
  have h4:gn T'.N j≠T.z:=fun e=>h2 (by
   have:T'.z=T.z:=by simp only[Tb.z];omega
   rw[e,←this,←Tb.D_z];exact gn_mem (by rw[Tb.D_len];omega))
  have h5:gn T'.N j<T.n+T.m:=by
   rcases h1 with h1|h1
   ·rcases List.mem_append.1 (show _∈T.B++[T.z]from h1)with h6|h6
    ·exact hv.v _ (.inl h6)
    ·rw[List.mem_singleton]at h6;exact absurd h6 h4
   ·rcases List.mem_append.1 (show _∈T.N++[T.a]from h1)with h6|h6
    ·exact hv.v _ (.inr h6)
    ·rw[List.mem_singleton]at h6;exact absurd h6 h3
  omega
 rw[line_du fun j hj hne=> ?_]at s2
 ·have e1:smR (fun i=>gq (T'.du (T'.r r)) i*upd1 v T.a 0 (T'.n+i)) T'.m=smR (fun i=>gq (T'.du (T'.r r)) i*v (T.n+i)) T.m:=by
   rw[hm,hn];exact smR_congr fun i hi=>by rw[show upd1 v T.a 0 (T.n+i)=v (T.n+i)from if_neg (by show ¬T.n+i=T.n+T.m;omega)]
  rw[e1]at s2;grind
 ·rcases vars j hj with h1|h1
  ·rw[hz j hj hj (by omega) r hr (by rw[ha];show ¬T.n+T.m<_;omega)];grind
  ·exact absurd h1 (by omega)
theorem aux_col {T0 T T':Tb}{r:Nat}(h:Run T0 T)(hv:Vr T)(k:Run T.ax T')(hr:r<T'.B.length)(ha:gn T'.B r=T.a):∃e,e<T'.N.length∧gq (T'.r r) e≠0:=by
 by_cases hx:∃e,e<T'.N.length∧gq (T'.r r) e≠0
 ·exact hx
 ·exfalso;have hz:∀e,e<T'.N.length→gq (T'.r r) e=0:=fun e he=>Classical.byContradiction fun h1=>hx ⟨e,he,h1⟩;have haN:T.a∈T.ax.D.N:=by show T.a∈T.N++[T.a];simp
  have w:=(ax_run h hv).s.w
  have val:∀y:Nat→Rat,y T.a=gq (T'.r r) T'.N.length:=fun y=>by
   have s:=((Tb.sat (by rw[k.fl,k.bl])).1 ((k.s.s _).2 (w.as_sat y))).1 r hr;rw[ha,Dk.as_N haN]at s;rw[s];unfold lv;rw[smR_zero fun e he=>by rw[hz e he];exact Rat.zero_mul _];grind
  have v0:=val fun _=>0;have v1:=val fun _=>1;rw[←v0]at v1;exact absurd v1 (by decide)
theorem aux_out {T T':Tb}{r e:Nat}(k:Run T T')(hf:Fs (frV T') T'.D)(hz:Zc T' T'.N.length)(hr:r<T'.B.length)(hrf:¬gn T'.B r<T'.n)(h0:gq (T'.r r) T'.N.length=0)(he:e<T'.N.length)(ha:gq (T'.r r) e≠0):
  Run T (T'.pv r e)∧Fs (frV (T'.pv r e)) (T'.pv r e).D∧Zc (T'.pv r e) (T'.pv r e).N.length:=by
 have hFB:T'.F.length=T'.B.length:=by rw[k.fl,k.bl]
 have hl:=k.rl hr;have hef:¬gn T'.N e<T'.n:=fun h1=>ha (hz e he he h1 r hr hrf);refine⟨k.pv (by rw[←k.bl];exact hr) he ha,fun i hi hfi=> ?_,?_⟩
 ·rw[Tb.D_len]at hi;have hBl:(T'.pv r e).B.length=T'.B.length:=by simp[Tb.pv]
  have hNN:(T'.pv r e).N.length=T'.N.length:=by simp[Tb.pv]
  rw[hBl]at hi;have hi':i<T'.B.length:=by
   rcases Nat.lt_succ_iff_lt_or_eq.1 hi with h2|h2
   ·exact h2
   ·exfalso;refine hfi ?_;rw[h2,←hBl,Tb.D_z];exact .inr rfl
  have hB:gn (T'.pv r e).B i=if i=r then gn T'.N e else gn T'.B i:=gn_set hr
  rw[Tb.D_B (by rw[hBl];exact hi'),hB]at hfi;show 0≤gq ((T'.pv r e).D.row i) (T'.pv r e).N.length;rw[hNN,Tb.D_row (by simp[Tb.pv,hFB];exact hi'),Tb.pv_r (by omega)];have hp:gq (pvL (T'.r r) e) T'.N.length=0:=by rw[pvL_at (by omega),if_neg (by omega),h0,Rat.div_def];grind
  by_cases h2:i=r
  ·rw[if_pos h2,hp];exact Rat.le_refl
  ·rw[if_neg h2]at hfi;have:=hf i (by rw[Tb.D_len];omega) (by rw[Tb.D_B hi'];exact hfi);rw[if_neg h2,sbL_at (by rw[k.rl hi'];omega),if_neg (by omega),hp];rw[Dk.c,Tb.D_row (by omega)]at this;have h3:0≤gq (T'.r i) T'.N.length:=this;grind
 ·have:=hz.pv hFB (fun i hi=>k.rl hi) hr hrf he
  rwa [show T'.N.length=(T'.pv r e).N.length by simp[Tb.pv]]at this
theorem gq_erase {l:List Rat}{c j:Nat}:gq (l.eraseIdx c) j=if j<c then gq l j else gq l (j+1):=by
 unfold gq;rw[List.getD_eq_getElem?_getD,List.getElem?_eraseIdx];split<;>rw[List.getD_eq_getElem?_getD]
theorem gn_erase {l:List Nat}{c j:Nat}:gn (l.eraseIdx c) j=if j<c then gn l j else gn l (j+1):=by
 unfold gn;rw[List.getD_eq_getElem?_getD,List.getElem?_eraseIdx];split<;>rw[List.getD_eq_getElem?_getD]
theorem smR_erase {f:Nat→Rat}{c:Nat}:∀{n:Nat},c≤n→smR (fun j=>if j<c then f j else f (j+1)) n+f c=smR f (n+1)
 |0,h=>by rw[show c=0 by omega];rfl
 |n+1,h=>by
  rcases Nat.lt_or_eq_of_le h with h1|h1
  ·have:=smR_erase (f:=f) (n:=n) (c:=c) (by omega);rw[smR,smR,←this,if_neg (by omega)];grind
  ·subst h1;rw[smR_congr (g:=f) fun j hj=>if_pos hj];rfl
theorem lv_erase {N:List Nat}{l:List Rat}{c:Nat}{v:Nat→Rat}(hc:c<N.length):lv (N.eraseIdx c) (l.eraseIdx c) v+gq l c*v (gn N c)=lv N l v:=by
 unfold lv;rw[List.length_eraseIdx,if_pos hc,gq_erase,if_neg (by omega),show N.length-1+1=N.length by omega];have:=smR_erase (f:=fun j=>gq l j*v (gn N j)) (n:=N.length-1) (c:=c) (by omega);rw[show N.length-1+1=N.length by omega]at this
 rw[←this,smR_congr (f:=fun j=>gq (l.eraseIdx c) j*v (gn (N.eraseIdx c) j)) (g:=fun j=>if j<c then gq l j*v (gn N j)else gq l (j+1)*v (gn N (j+1))) fun j hj=>by
  rw[gq_erase,gn_erase];split<;>rfl]
 grind
def Tb.er (T:Tb)(c:Nat):Tb:=⟨T.n,T.m,T.B,T.N.eraseIdx c,(List.range T.F.length).map fun i=>(T.r i).eraseIdx c,T.O.eraseIdx c,T.p⟩
theorem Tb.er_r {T:Tb}{c i:Nat}(h:i<T.F.length):(T.er c).r i=(T.r i).eraseIdx c:=by
 unfold Tb.er Tb.r;rw[List.getD_eq_getElem?_getD,List.getElem?_map,List.getElem?_range h];rfl
theorem er_ok {T0 T T':Tb}{c:Nat}(h:Run T0 T)(hv:Vr T)(k:Run T.ax T')(hn:T'.n=T.n)(hm:T'.m=T.m)(hf:Fs (frV T') T'.D)(hz:Zc T' T'.N.length)(hc:c<T'.N.length)(ha:gn T'.N c=T.a)(hv0:∀x,x∈T0.D.B∨x∈T0.D.N→x≠T.a):
  Run T0 (T'.er c)∧Fs (frV (T'.er c)) (T'.er c).D∧Zc (T'.er c) (T'.er c).N.length:=by
 have hFB:T'.F.length=T'.B.length:=by rw[k.fl,k.bl]
 have hw:=k.s.w';have hNl:(T'.er c).N.length+1=T'.N.length:=by show(T'.N.eraseIdx c).length+1=_;rw[List.length_eraseIdx,if_pos hc];omega
 have hN':T'.N.length=T.N.length+1:=by rw[show T'.N.length=T'.D.N.length from rfl,k.s.l];show(T.N++[T.a]).length=_;simp
 have hBz:T'.z=T.z:=by simp only[Tb.z];omega
 have hsat:∀v,(T'.er c).D.Sat v↔(∀i,i<T'.B.length→v (gn T'.B i)=lv T'.N (T'.r i) v-gq (T'.r i) c*v T.a)∧v T'.z=lv T'.N T'.O v-gq T'.O c*v T.a:=fun v=>by
  rw[Tb.sat (by simp[Tb.er,hFB])];refine and_congr (forall_congr' fun i=>forall_congr' fun hi=> ?_) ?_
  ·rw[Tb.er_r (by rw[hFB];exact hi)];have:=lv_erase (N:=T'.N) (l:=T'.r i) (v:=v) hc;rw[ha]at this;show v (gn T'.B i)=lv (T'.N.eraseIdx c) ((T'.r i).eraseIdx c) v↔_;rw[←this];constructor<;>intro h1<;>grind
  ·have:=lv_erase (N:=T'.N) (l:=T'.O) (v:=v) hc;rw[ha]at this;show v T'.z=lv (T'.N.eraseIdx c) (T'.O.eraseIdx c) v↔_;rw[←this];constructor<;>intro h1<;>grind
 have hsat0:∀v:Nat→Rat,v T.a=0→((T'.er c).D.Sat v↔T'.D.Sat v):=fun v hv1=>by
  rw[hsat,Tb.sat hFB,hv1];refine and_congr (forall_congr' fun i=>forall_congr' fun hi=> ?_) ?_
  ·rw[Rat.mul_zero,Rat.sub_eq_add_neg,Rat.neg_zero,Rat.add_zero]
  ·rw[Rat.mul_zero,Rat.sub_eq_add_neg,Rat.neg_zero,Rat.add_zero]
 obtain⟨a1,a2,e1,e2⟩:∃a1 a2,T'.N=a1++T.a::a2∧T'.N.eraseIdx c=a1++a2:=by
  refine⟨T'.N.take c,T'.N.drop (c+1),?_,List.eraseIdx_eq_take_drop_succ ..⟩;rw[←ha,gn,List.getD_eq_getElem?_getD,List.getElem?_eq_getElem hc];simp
 have hperm:((T'.er c).D.B++(T'.er c).D.N).Perm (T.D.B++T.D.N):=by
  have h1:=k.s.p;show((T'.B++[T'.z])++T'.N.eraseIdx c).Perm ((T.B++[T.z])++T.N);have h2:((T'.B++[T'.z])++T'.N).Perm ((T.B++[T.z])++(T.N++[T.a])):=h1;rw[e1]at h2;rw[e2];rw[List.perm_iff_count]at h2 ⊢;intro x;have:=h2 x;simp only[List.count_append,List.count_cons,List.count_nil]at this ⊢;omega
 have hwf:(T'.er c).D.Wf:=by
  refine⟨by simp[Tb.er,Tb.D,hFB],fun i hi=> ?_,?_⟩
  ·rw[Tb.D_len]at hi;have hi2:i<T'.B.length+1:=hi;show _=(T'.er c).N.length+1;rw[hNl]
   by_cases h1:i<T'.B.length
   ·rw[Tb.D_row (by simp[Tb.er,hFB];exact h1),Tb.er_r (by omega),List.length_eraseIdx,if_pos (by rw[k.rl h1];omega),k.rl h1];rfl
   ·have e1:i=(T'.er c).F.length:=by simp[Tb.er];omega
    rw[e1,Tb.D_obj];show(T'.O.eraseIdx c).length=_;rw[List.length_eraseIdx,if_pos (by rw[k.ol];omega),k.ol];rfl
  ·exact hperm.nodup_iff.2 h.s.w'.nd
 have same:Same T.D (T'.er c).D:=by
  refine⟨h.s.w',hwf,hperm,by show(T'.er c).N.length=T.N.length;omega,fun v=> ?_⟩
  have hva:T.a∉T.D.B++T.D.N:=fun hm=>by
   have h1:T.a∈(T.B++[T.z])++T.N:=hm;rcases List.mem_append.1 h1 with h2|h2
   ·rcases List.mem_append.1 h2 with h3|h3
    ·exact absurd (hv.v _ (.inl h3)) (Nat.lt_irrefl _)
    ·rw[List.mem_singleton]at h3;simp only[Tb.a,Tb.z]at h3;omega
   ·exact absurd (hv.v _ (.inr h2)) (Nat.lt_irrefl _)
  have hu:∀x,x∈T.D.B∨x∈T.D.N→v x=upd1 v T.a 0 x:=fun x hx=>(if_neg fun e=>hva (List.mem_append.2 (by rw[←e];exact hx)):upd1 v T.a 0 x=v x).symm;rw[Dk.sat_congr (D:=(T'.er c).D) (v:=v) (u:=upd1 v T.a 0) fun x hx=>hu x (by rw[←List.mem_append]at hx ⊢;exact hperm.mem_iff.1 hx),Dk.sat_congr (D:=T.D) hu,hsat0 _ (if_pos rfl),k.s.s,Tb.ax_sat0 h (if_pos rfl)]
 have run:Run T0 (T'.er c):=⟨by show T'.n=_;rw[hn,h.n],by show T'.m=_;rw[hm,h.m],by show T'.B.length=_;rw[k.bl];show T.m=_;rw[h.m],by show(List.map _ _).length=_;simp only[List.length_map,List.length_range];rw[k.fl];show T.m=_;rw[h.m],h.s.trans same⟩;refine⟨run,fun i hi hfi=> ?_,fun e he he' hef r hr hrf=> ?_⟩
 ·rw[Tb.D_len]at hi;have hi':i<T'.B.length:=by
   rcases Nat.lt_succ_iff_lt_or_eq.1 hi with h2|h2
   ·exact h2
   ·exfalso;refine hfi ?_;rw[h2,Tb.D_z];exact .inr rfl
  have hBe:gn (T'.er c).D.B i=gn T'.B i:=Tb.D_B (T:=T'.er c) hi';rw[hBe]at hfi;have:=hf i (by rw[Tb.D_len];omega) (by rw[Tb.D_B hi'];exact hfi);rw[Dk.c,Tb.D_row (by omega)]at this;show 0≤gq ((T'.er c).D.row i) (T'.er c).N.length;rw[Tb.D_row (by simp[Tb.er,hFB];exact hi'),Tb.er_r (by omega),gq_erase,if_neg (by omega),hNl];exact this
 ·have hr':r<T'.B.length:=hr;have hrf':¬gn T'.B r<T'.n:=hrf;have hef':gn (T'.N.eraseIdx c) e<T'.n:=hef;rw[gn_erase]at hef';rw[Tb.er_r (by rw[hFB];exact hr'),gq_erase]
  by_cases h1:e<c
  ·rw[if_pos h1]at hef' ⊢;exact hz e (by omega) (by omega) hef' r hr' hrf'
  ·rw[if_neg h1]at hef' ⊢;exact hz (e+1) (by omega) (by omega) hef' r hr' hrf'
section
variable {T0 T:Tb} (h:Run T0 T) (hf:Fs (frV T) T.D)
theorem opt_sum (hv:Vr T)(hz0:∀e,e<T.N.length→gn T.N e<T.n→gq T.O e=0)(h:Run T0 T){v:Nat→Rat}(hs:T0.D.Sat v):
  v T.z=smR (fun i=>gq (T.du T.O) i*v (T.n+i)) T.m+gq T.O T.N.length:=by
 have s:=((Tb.sat (by rw[h.fl,h.bl])).1 ((h.s.s _).2 hs)).2;rw[s];refine line_du fun j hj hne=> ?_;have:=hv.v _ (.inr (gn_mem hj));rw[hz0 j hj (by omega)];exact Rat.zero_mul _
theorem pt_sat (h:Run T0 T):T0.D.Sat (bz T.D):=(h.s.s _).1 (h.s.w'.as_sat _)
theorem pt_nonneg (h:Run T0 T)(hf:Fs (frV T) T.D){x:Nat}(hx:x∈T.B∨x∈T.N)(hn:T.n≤x)(hz:x≠T.z):0≤bz T.D x:=by
 rcases hx with hx|hx
 ·obtain⟨i,hi,rfl⟩:=gn_of_mem hx;have hi':i<T.D.B.length:=by rw[Tb.D_len];omega
  rw[←Tb.D_B hi,bz,as0_B h.s.w' hi'];refine hf i hi' ?_;rw[Tb.D_B hi];rintro(h1|h1)
  ·omega
  ·exact hz h1
 ·exact(Dk.as_N hx:bz T.D x=0)▸Rat.le_refl
theorem pt_z (h:Run T0 T):bz T.D T.z=gq T.O T.N.length:=by
 have:=as0_B h.s.w' (i:=T.B.length) (by rw[Tb.D_len];omega);rw[Tb.D_z]at this;rw[bz,this,Dk.c,h.bl,←h.fl,Tb.D_obj];rfl
def Tb.di (T:Tb)(e:Nat)(x:Nat):Rat:=T.D.as (one1 (gn T.N e)) x-bz T.D x
theorem di_B (h:Run T0 T){e i:Nat}(he:e<T.N.length)(hi:i<T.B.length):T.di e (gn T.B i)=gq (T.r i) e:=by
 have hi':i<T.D.B.length:=by rw[Tb.D_len];omega
 unfold Tb.di bz;rw[←Tb.D_B hi,h.s.w'.as_B hi',h.s.w'.as_B hi',Tb.D_row (by rw[h.fl,←h.bl];exact hi)];have e1:lv T.N (T.r i) (one1 (gn T.N e))=_:=lv_one h.s.w'.ndN he;show lv T.N (T.r i) (one1 (gn T.N e))-lv T.N _ _=_;rw[e1,lv_zero];show gq (T.r i) e+gq (T.r i) T.N.length-_=_;grind
theorem di_N {e j:Nat}(h:Run T0 T)(he:e<T.N.length)(hj:j<T.N.length):T.di e (gn T.N j)=if j=e then 1 else 0:=by
 unfold Tb.di bz;have hm:gn T.N j∈T.D.N:=gn_mem hj;rw[Dk.as_N hm,Dk.as_N hm,one1]
 by_cases h1:j=e
 ·rw[if_pos h1,if_pos (by rw[h1])];grind
 ·rw[if_neg h1,if_neg fun e1:gn T.N j=gn T.N e=>h1 (gn_inj h.s.w'.ndN hj he e1)];grind
theorem di_z (h:Run T0 T){e:Nat}(he:e<T.N.length):T.di e T.z=gq T.O e:=by
 have hi':T.B.length<T.D.B.length:=by rw[Tb.D_len];omega
 have h1:=h.s.w'.as_B (y:=one1 (gn T.N e)) hi';have h0:=h.s.w'.as_B (y:=fun _=>0) hi';rw[Tb.D_z]at h1 h0;unfold Tb.di bz;rw[h1,h0,h.bl,←h.fl,Tb.D_obj];have e1:lv T.N T.O (one1 (gn T.N e))=_:=lv_one h.s.w'.ndN he;show lv T.N T.O (one1 (gn T.N e))-lv T.N _ _=_;rw[e1,lv_zero];show gq T.O e+gq T.O T.N.length-_=_;grind
theorem di_lv (h:Run T0 T){e i:Nat}(hi:i<T0.B.length)(hF:T0.F.length=T0.B.length):T.di e (gn T0.B i)=smR (fun j=>gq (T0.r i) j*T.di e (gn T0.N j)) T0.N.length:=by
 have s1:=((Tb.sat hF).1 ((h.s.s _).1 (h.s.w'.as_sat (one1 (gn T.N e))))).1 i hi;have s0:=((Tb.sat hF).1 ((h.s.s _).1 (h.s.w'.as_sat fun _=>0))).1 i hi;unfold Tb.di bz;rw[s1,s0];unfold lv;rw[smR_congr (f:=fun j=>gq (T0.r i) j*(T.D.as (one1 (gn T.N e)) (gn T0.N j)-T.D.as (fun _=>0) (gn T0.N j))) (g:=fun j=>gq (T0.r i) j*T.D.as (one1 (gn T.N e)) (gn T0.N j)-gq (T0.r i) j*T.D.as (fun _=>0) (gn T0.N j)) fun j _=>by grind,smR_sub];grind
theorem di_lvO (h:Run T0 T){e:Nat}(hF:T0.F.length=T0.B.length):T.di e T0.z=smR (fun j=>gq T0.O j*T.di e (gn T0.N j)) T0.N.length:=by
 have s1:=((Tb.sat hF).1 ((h.s.s _).1 (h.s.w'.as_sat (one1 (gn T.N e))))).2;have s0:=((Tb.sat hF).1 ((h.s.s _).1 (h.s.w'.as_sat fun _=>0))).2;unfold Tb.di bz;rw[s1,s0];unfold lv;rw[smR_congr (f:=fun j=>gq T0.O j*(T.D.as (one1 (gn T.N e)) (gn T0.N j)-T.D.as (fun _=>0) (gn T0.N j))) (g:=fun j=>gq T0.O j*T.D.as (one1 (gn T.N e)) (gn T0.N j)-gq T0.O j*T.D.as (fun _=>0) (gn T0.N j)) fun j _=>by grind,smR_sub];grind
end
theorem Bt.int {z:Int}{k:Nat}(h:z.natAbs≤2^k):Bt k (z:Rat):=⟨by rw[Rat.num_intCast];exact h,by rw[Rat.den_intCast];exact Nat.one_le_two_pow⟩
def isIn (d:Dc):Bool:=(d.k==3)||(d.k==4)
def cntI (l:List Dc):Nat:=(l.filter isIn).length
def cof:List Tm→Int→Rat
 |[],_=>0
 |t::ts,w=>(if t.v=w then t.q else 0)+cof ts w
theorem cof_app (a b:List Tm)(w:Int):cof (a++b) w=cof a w+cof b w:=by
 induction a with
 |nil=>simp[cof,Rat.zero_add]
 |cons t a ih=>simp only[List.cons_append,cof,ih,Rat.add_assoc]
def nz1 (t:Tm):List Tm:=if t.q=0 then []else [t]
theorem cof_nz1 (t:Tm)(w:Int):cof (nz1 t) w=if t.v=w then t.q else 0:=by
 unfold nz1;split
 ·rename_i h;simp[cof,h]
 ·simp[cof,Rat.add_zero]
def ins (v:Int)(c:Rat):List Tm→List Tm
 |[]=>nz1 ⟨v,c⟩
 |t::ts=>if t.v=v then nz1 ⟨v,t.q+c⟩++ts else if v<t.v then nz1 ⟨v,c⟩++t::ts else t::ins v c ts
theorem cof_ins (v:Int)(c:Rat)(ts:List Tm)(w:Int):cof (ins v c ts) w=cof ts w+if v=w then c else 0:=by
 induction ts with
 |nil=>simp[ins,cof_nz1,cof,Rat.zero_add]
 |cons t ts ih=>
  simp only[ins];split
  ·rename_i h;rw[cof_app,cof_nz1,cof,h];split<;>grind
  ·split
   ·rw[cof_app,cof_nz1];grind
   ·simp only[cof,ih,Rat.add_assoc]
def TsOk (n:Int):Int→List Tm→Prop
 |_,[]=>True
 |lo,t::ts=>lo≤t.v∧t.v<n∧t.q≠0∧TsOk n (t.v+1) ts
theorem TsOk.lo {n lo lo':Int}{ts:List Tm}(h:TsOk n lo ts)(hl:lo'≤lo):TsOk n lo' ts:=by
 cases ts with
 |nil=>trivial
 |cons t ts=>exact⟨by have:=h.1;omega,h.2⟩
theorem TsOk.up {n n':Int}{ts:List Tm}(hn:n≤n'):∀{lo:Int},TsOk n lo ts→TsOk n' lo ts:=by
 induction ts with
 |nil=>intros;trivial
 |cons t ts ih=>exact fun h=>⟨h.1,by have:=h.2.1;omega,h.2.2.1,ih h.2.2.2⟩
theorem TsOk.nz {n lo v:Int}{q:Rat}{ts:List Tm}(h:TsOk n (v+1) ts)(h1:lo≤v)(h2:v<n):TsOk n lo (nz1 ⟨v,q⟩++ts):=by
 unfold nz1;split
 ·exact h.lo (by omega)
 ·exact⟨h1,h2,by assumption,h⟩
theorem TsOk.ins {n v:Int}{c:Rat}(h2:v<n){ts:List Tm}:∀{lo:Int},TsOk n lo ts→lo≤v→TsOk n lo (Lf.ins v c ts):=by
 induction ts with
 |nil=>
  intro lo h h1;have:=TsOk.nz (q:=c) (lo:=lo) (show TsOk n (v+1) []from trivial) h1 h2
  rwa [List.append_nil]at this
 |cons t ts ih=>
  intro lo h h1;simp only[Lf.ins];split
  ·rename_i e;exact TsOk.nz (e▸h.2.2.2) h1 h2
  ·split
   ·exact TsOk.nz ⟨by omega,h.2⟩ h1 h2
   ·exact⟨h.1,h.2.1,h.2.2.1,ih h.2.2.2 (by omega)⟩
theorem TsOk.cof_lt {n:Int}{ts:List Tm}:∀{lo w:Int},TsOk n lo ts→w<lo→cof ts w=0:=by
 induction ts with
 |nil=>intros;rfl
 |cons t ts ih=>
  intro lo w h hw;have:=h.1;rw[cof,if_neg (by omega),ih h.2.2.2 (by omega),Rat.add_zero]
theorem TsOk.cof_mem {n:Int}{ts:List Tm}:∀{lo:Int},TsOk n lo ts→∀t∈ts,cof ts t.v=t.q∧lo≤t.v∧t.v<n∧t.q≠0:=by
 induction ts with
 |nil=>intro lo h t ht;cases ht
 |cons s ts ih=>
  intro lo h t ht;have h1:=h.1;rcases List.mem_cons.1 ht with rfl|ht
  ·exact⟨by rw[cof,if_pos rfl,h.2.2.2.cof_lt (by omega),Rat.add_zero],h.1,h.2.1,h.2.2.1⟩
  ·obtain⟨k1,k2,k3,k4⟩:=ih h.2.2.2 t ht;exact⟨by rw[cof,if_neg (by omega),k1,Rat.zero_add],by omega,k3,k4⟩
theorem TsOk.len {n:Int}{ts:List Tm}:∀{lo:Int},TsOk n lo ts→lo≤n→(ts.length:Int)≤n-lo:=by
 induction ts with
 |nil=>intro lo h hn;simp;omega
 |cons t ts ih=>
  intro lo h hn;have:=ih h.2.2.2 (by have:=h.2.1;omega);have:=h.1;have:=h.2.1;simp only[List.length_cons];omega
theorem TsOk.next {n:Int}{ts:List Tm}:∀{lo:Int},TsOk n lo ts→∀(i:Nat) (t u:Tm),ts[i]? =some t→ts[i+1]? =some u→t.v<u.v:=by
 induction ts with
 |nil=>intro lo h i t u h1;simp at h1
 |cons s ts ih=>
  intro lo h i t u h1 h2
  cases i with
  |zero=>
   simp at h1 h2;subst h1
   cases ts with
   |nil=>simp at h2
   |cons r ts=>simp at h2;subst h2;have:=h.2.2.2.1;omega
  |succ i=>exact ih h.2.2.2 i t u (by simpa using h1) (by simpa using h2)
structure FB (k:Nat)(n:Int)(f:Af):Prop where
 ts:TsOk n 0 f.ts
 co:∀w,Bt k (cof f.ts w)
 c:Bt k f.c
theorem FB.ok {k:Nat}{n:Int}{f:Af}(h:FB k n f)(hk:k≤3000000000)(h0:0≤n)(hn:n≤1000000):AfOk f n:=by
 refine⟨fun i t ht=> ?_,h.ts.next,h.c.mono hk,?_⟩
 ·obtain⟨k1,k2,k3,k4⟩:=h.ts.cof_mem t (mG_ ht);exact⟨k2,k3,k4,k1▸(h.co t.v).mono hk⟩
 ·have:=h.ts.len h0;omega
theorem FB.tm {k:Nat}{n:Int}{f:Af}(h:FB k n f):∀t∈f.ts,0≤t.v∧t.v<n∧t.q≠0∧Bt k t.q:=fun t ht=>
 let ⟨k1,k2,k3,k4⟩:=h.ts.cof_mem t ht;⟨k2,k3,k4,k1▸h.co t.v⟩
theorem FB.up {k k':Nat}{n n':Int}{f:Af}(h:FB k n f)(hk:k≤k')(hn:n≤n'):FB k' n' f:=⟨h.ts.up hn,fun w=>(h.co w).mono hk,h.c.mono hk⟩
def plusS (f:Af)(v:Int)(c:Rat):Af:=⟨ins v c f.ts,f.c⟩
def addS (f g:Af):Af:=⟨g.ts.foldl (fun a t=>ins t.v t.q a) f.ts,f.c+g.c⟩
def scaleS (f:Af)(c:Rat):Af:=⟨f.ts.flatMap fun t=>nz1 ⟨t.v,t.q*c⟩,f.c*c⟩
def subS (f g:Af):Af:=addS f (scaleS g ((-1:Int):Rat))
def varS (v:Int):Af:=⟨[⟨v,((1:Int):Rat)⟩],0⟩
def numS (c:Rat):Af:=⟨[],c⟩
theorem cof_fold (b:List Tm)(w:Int):∀a:List Tm,cof (b.foldl (fun a t=>ins t.v t.q a) a) w=cof a w+cof b w:=by
 induction b with
 |nil=>intro a;simp[cof,Rat.add_zero]
 |cons t b ih=>intro a;rw[List.foldl_cons,ih,cof_ins,cof,Rat.add_assoc]
theorem ok_fold {n:Int}{b:List Tm}(hb:∀t∈b,0≤t.v∧t.v<n):∀{a:List Tm},TsOk n 0 a→TsOk n 0 (b.foldl (fun a t=>ins t.v t.q a) a):=by
 induction b with
 |nil=>intro a h;exact h
 |cons t b ih=>intro a h;exact ih (fun t ht=>hb t (by simp[ht])) (h.ins (hb t (by simp)).2 (hb t (by simp)).1)
theorem FB.add {k l:Nat}{n:Int}{f g:Af}(h:FB k n f)(h':FB l n g):FB (k+l+1) n (addS f g):=
 ⟨ok_fold (fun t ht=>let h:=h'.tm t ht;⟨h.1,h.2.1⟩) h.ts,fun w=>by rw[addS,cof_fold];exact(h.co w).add (h'.co w),h.c.add h'.c⟩
theorem cof_scale (c:Rat)(w:Int):∀ts:List Tm,cof (ts.flatMap fun t=>nz1 ⟨t.v,t.q*c⟩) w=cof ts w*c
 |[]=>by simp[cof]
 |t::ts=>by
  rw[List.flatMap_cons,cof_app,cof_nz1,cof_scale c w ts,cof,Rat.add_mul]
  congr 1
  split<;>simp
theorem ok_scale {n:Int}(c:Rat):∀{ts:List Tm} {lo:Int},TsOk n lo ts→TsOk n lo (ts.flatMap fun t=>nz1 ⟨t.v,t.q*c⟩)
 |[],_,_=>trivial
 |t::ts,lo,h=>by
  rw[List.flatMap_cons];exact TsOk.nz (ok_scale c h.2.2.2) h.1 h.2.1
theorem FB.scale {k l:Nat}{n:Int}{f:Af}{c:Rat}(h:FB k n f)(hc:Bt l c):FB (k+l) n (scaleS f c):=
 ⟨ok_scale c h.ts,fun w=>by rw[scaleS,cof_scale];exact(h.co w).mul hc,h.c.mul hc⟩
theorem FB.num {k:Nat}{n:Int}{c:Rat}(h:Bt k c):FB k n (numS c):=⟨trivial,fun w=>bt0 _,h⟩
theorem FB.var {n v:Int}(h:0≤v)(h2:v<n):FB 0 n (varS v):=by
 have h1:Bt 0 ((1:Int):Rat):=Bt.int (by decide);refine⟨⟨h,h2,by show((1:Int):Rat)≠0;decide,trivial⟩,fun w=> ?_,bt0 _⟩;rw[varS,cof,cof,Rat.add_zero];split
 ·exact h1
 ·exact bt0 _
theorem FB.sub {k l:Nat}{n:Int}{f g:Af}(h:FB k n f)(h':FB l n g):FB (k+l+1) n (subS f g):=
 h.add (h'.scale (l:=0) (Bt.int (by decide)))
def plStep (v:Int)(c:Rat)(a:List Tm×Bool)(t:Tm):List Tm×Bool:=
 if t.v=v then(a.1++nz1 ⟨t.v,t.q+c⟩,true)
 else if a.2=false∧v<t.v then(a.1++nz1 ⟨v,c⟩++nz1 t,true)else(a.1++nz1 t,a.2)
def plTo (v:Int)(c:Rat)(ts:List Tm)(i:Nat):List Tm×Bool:=(ts.take i).foldl (plStep v c) ([],false)
def plEnd (v:Int)(c:Rat)(a:List Tm×Bool):List Tm:=if a.2=false then a.1++nz1 ⟨v,c⟩else a.1
theorem plTo_succ {v:Int}{c:Rat}{ts:List Tm}{i:Nat}{t:Tm}(h:ts[i]? =some t):plTo v c ts (i+1)=plStep v c (plTo v c ts i) t:=by
 unfold plTo;rw[take_snoc h,List.foldl_append];rfl
theorem nz1_ne {t:Tm}(h:t.q≠0):nz1 t=[t]:=if_neg h
theorem pl_done {n v:Int}{c:Rat}:∀{ts:List Tm} {lo:Int} (o:List Tm),TsOk n lo ts→v<lo→ts.foldl (plStep v c) (o,true)=(o++ts,true)
 |[],_,o,_,_=>by simp
 |t::ts,lo,o,h,hv=>by
  have h1:=h.1;rw[List.foldl_cons,plStep,if_neg (by omega),if_neg (by simp),nz1_ne h.2.2.1,pl_done _ h.2.2.2 (by omega)];simp
theorem pl_all {n v:Int}{c:Rat}:∀{ts:List Tm} {lo:Int} (o:List Tm),TsOk n lo ts→plEnd v c (ts.foldl (plStep v c) (o,false))=o++ins v c ts
 |[],_,o,_=>by simp[plEnd,ins]
 |t::ts,lo,o,h=>by
  rw[List.foldl_cons,plStep,ins];split
  ·rename_i e;rw[pl_done _ h.2.2.2 (by omega),plEnd,e];simp
  ·split
   ·rename_i e h1;rw[pl_done _ h.2.2.2 (by omega),plEnd,if_pos h1.2,nz1_ne h.2.2.1];simp
   ·rename_i e h1;rw[pl_all _ h.2.2.2,if_neg (fun h2=>h1 ⟨rfl,h2⟩),nz1_ne h.2.2.1];simp
theorem pl_eq {n v:Int}{c:Rat}{ts:List Tm}(h:TsOk n 0 ts):plEnd v c (plTo v c ts ts.length)=ins v c ts:=by
 rw[plTo,List.take_length];exact pl_all [] h
theorem Cn.o {P:Program}{F:FuncId}{vs:List V}{H:List (Nat×Ent)}{n:Nat}{K:V→List (Nat×Ent)→List Nat→Nat→Prop}{v:V}{Hs H1:List (Nat×Ent)}(ks:List Nat)(hc:LX P F (vs.map (renV fun k=>ks.idxOf k)) Hs fun v' H'=>v'=v∧H'=H1)
  (hk:fX (renV (back ks n) v) fun v=>fHs (H1.map fun p=>(back ks n p.1,p.2)) fun sets=>K v sets (ks++H1.map fun p=>back ks n p.1) (n+H1.length)) (he:entT P F=true:=by rfl)
  (hl:lendFrom (look H) 0 ks=some Hs:=by rfl) (hok:okF ks n vs H H1=true:=by rfl):Cn P F vs H n K:=by
 unfold okF at hok;simp only[Bool.and_eq_true,Bool.or_eq_true,decide_eq_true_eq,List.all_eq_true,Nat.blt_eq,List.contains_eq_mem]at hok;obtain⟨⟨⟨o1,o2⟩,o3⟩,o4⟩:=hok;refine .lend ks _ Hs _ he hc (wks_refl vs) o1 o2 hl o3 fun v' H1' hR=> ?_;obtain⟨rfl,rfl⟩:=hR;exact⟨List.all_eq_true.2 fun p hp=>(o4 p hp).1,fun p hp hle=>(o4 p hp).2.elim (fun h=>absurd h (by omega)) fun h=>by simpa using h,hk⟩
theorem All2.set {α β:Type}{R:α→β→Prop}:∀{xs:List α} {ys:List β} {j:Nat} {x y:α},All2 R xs ys→xs[j]? =some x→(∀v,R x v→R y v)→All2 R (xs.set j y) ys
 |[],[],_,_,_,_,h,_=>by simp at h
 |a::xs,b::ys,0,x,y,k,h,f=>by simp at h;subst h;exact⟨f b k.1,k.2⟩
 |a::xs,b::ys,j+1,x,y,k,h,f=>⟨k.1,All2.set k.2 (by simpa using h) f⟩
 |[],_::_,_,_,_,k,_,_=>k.elim
 |_::_,[],_,_,_,k,_,_=>k.elim
theorem relabel {γ:Gh}{h:Hp}{M:MS}{w:World}{b key j k:Nat}{t e:TypeId}{cs:List A}(r:Rel γ h M w)(hb:h b=some (.box t cs))(hj:cs[j]? =some (.d (.lit (.slice none 0 0))))(hk:h key=some (.arr e k 0))(hg:γ key= .slice none 0 0):
  Rel γ (over [(b,.box t (cs.set j (.own key k [])))] h) M w∧Stp γ h M w γ (over [(b,.box t (cs.set j (.own key k [])))] h) M w:=by
 have hne:key≠b:=by intro e1;subst e1;rw[hb]at hk;cases hk
 have ho:∀key' b' i,Owns γ (over [(b,.box t (cs.set j (.own key k [])))] h) key' b' i↔Owns γ h key' b' i:=fun key' b' i=>by
  by_cases e1:key'=b
  ·subst e1;simp only[Owns,over_same,hb]
  ·exact owns_congr rfl (over_other e1)
 have hl:∀key',live (over [(b,.box t (cs.set j (.own key k [])))] h key')=live (h key'):=fun key'=>by
  by_cases e1:key'=b
  ·subst e1;rw[over_same,hb];rfl
  ·rw[over_other e1]
 have s:Stp γ h M w γ (over [(b,.box t (cs.set j (.own key k [])))] h) M w:=by
  refine⟨rfl,rfl,rfl,lR_ _,fun _ _ _ k=>k,fun _ _ _=>rfl,fun _ _ k _=>k,fun key' b' i h1 _=>⟨key',(ho _ _ _).1 h1⟩,fun key' e' he=> ?_⟩
  by_cases e1:key'=b
  ·subst e1;rw[hb]at he;injection he with he;subst he;exact⟨_,over_same,trivial,.inl rfl⟩
  ·exact⟨e',by rw[over_other e1];exact he,Goes.refl _,.inl rfl⟩
 refine⟨⟨fun key' e' he=> ?_,fun key' b' i h1=>r.own key' b' i ((ho _ _ _).1 h1),fun k1 k2 b' l1 l2 b1 b2=>r.inj k1 k2 b' (by rw[←hl];exact l1) (by rw[←hl];exact l2) b1 b2,r.u32,r.dom,r.glb⟩,s⟩
 by_cases e1:key'=b
 ·subst e1;rw[over_same]at he;injection he with he;subst he;obtain⟨g,vs,k1,k2,k3⟩:=r.ent _ _ hb;refine⟨g,vs,k1,k2,All2.set (All2.imp (fun x v k=>RdA.stp s k) k3) hj fun v hv=> ?_⟩;rw[show v= .slice none 0 0 from lit_inv hv];refine⟨nil_ok k,by rw[over_other hne,hk];rfl,fun e' k' n he=> ?_⟩;rw[over_other hne,hk]at he;injection he with he;injection he with _ _ he;subst he;exact⟨lR_ _,fun _=>hg.symm⟩
 ·rw[over_other e1]at he;exact EntR.stp s (r.ent key' e' he) rfl fun _ _ _=>rfl
theorem Wk.ownB {m:Nat}{s:St}(b key j:Nat)(e:TypeId)(k:Nat){t:TypeId}{cs:List A}(hb:look s.H b=some (.box t cs))(hj:cs[j]? =some (.d (.lit (.slice none 0 0))))(hk:look s.H key=none):
  Wk m s ⟨s.T,(b,.box t (cs.set j (.own key k [])))::(key,.arr e k 0)::s.H,s.n⟩:=by
 intro N γ0 h0 M0 w0 a w hm hd hS;obtain⟨γ,M,k1,k2,k3,k4,k5⟩:=hS;have hne:b≠key:=by intro e1;subst e1;rw[hb]at hk;cases hk
 obtain⟨q1,q2⟩:=new_nil k1 hk e k;obtain⟨q3,q4⟩:=relabel (b:=b) (j:=j) (k:=k) (cs:=cs) q1 (by rw[over_other hne];exact hb) hj over_same upd_same;have q5:=Stp.trans q2 q4 k1.dom;have e1:look ((b,Ent.box t (cs.set j (.own key k [])))::(key,Ent.arr e k 0)::s.H)=over [(b,.box t (cs.set j (.own key k [])))] (over [(key,.arr e k 0)] (look s.H)):=by
  rw[←look_app [(key,Ent.arr e k 0)] s.H];exact look_app [(b,_)] ((key,Ent.arr e k 0)::s.H)
 refine⟨_,M,by rw[e1];exact q3,⟨k2.1,fun d' v' hv'=> ?_⟩,k3,k4,by rw[e1];exact k5.trans q5 hd⟩;obtain⟨x,y1,y2⟩:=k2.2 d' v' hv';exact⟨x,y1,by rw[e1];exact RdV.stp q5 y2⟩
abbrev tmH (l:List Tm):List (Nat×Ent):=[(0,.arr 79 4 (l.map Tm.D).length)]
theorem lx_nonzero {l:List Tm}{t:Tm}(hl:l.length≤1000000)(ht:Sz t.q):
  LX Tryz.prog 96 [.a (.own 0 4 (l.map Tm.D)),.agg t.A] (tmH l) fun v H=>v= .a (.own 0 4 ((l++nz1 t).map Tm.D))∧H=tmH (l++nz1 t):=by
 refine LX_run (m:=1) (n0:=1) mix Tryz.func96 rfl rfl rfl rfl ?_;conv=>whnf
 refine .c (lx_zsign (.c ht)) ?_;conv=>whnf
 refine bs (fun h1=> ?_) (fun h1=> ?_)
 ·conv=>whnf
  have h0:t.q=0:=by simpa [Int.sign_eq_zero_iff_zero]using h1
  have e:l++nz1 t=l:=by rw[nz1,if_pos h0,List.append_nil]
  rw[e];exact⟨_,_,⟨rfl,rfl⟩,vR_ _,rfl,⟨⟨_,rfl,wke_refl _,rfl⟩,trivial⟩,rfl⟩
 ·conv=>whnf
  have h0:¬t.q=0:=by simpa [Int.sign_eq_zero_iff_zero]using h1
  have e:l++nz1 t=l++[t]:=by rw[nz1,if_neg h0]
  rw[e];refine .mk ((l++[t]).map Tm.D) rfl (by rw[List.map_append];rfl) (by simp;omega) ?_;conv=>whnf
  exact⟨_,_,⟨rfl,rfl⟩,vR_ _,rfl,⟨⟨_,rfl,wke_refl _,rfl⟩,trivial⟩,rfl⟩
theorem lx_plus {f:Af}{n v:Int}{c:Rat}{k l:Nat}(h:FB k n f)(hc:Bt l c)(h0:0≤v)(hv:v<n)(hn:n≤100000)(hk:k+l+1≤3000000000):
  LV Tryz.prog 94 [.agg f.A,vl (.int .i64 v),.agg (can c).A] (.agg (plusS f v c).A):=by
 have hlen:=h.ts.len (by omega);have hcz:Sz c:=hc.mono (by omega)
 have hol:∀i,(plTo v c f.ts i).1.length≤2*i+1:=fun i=>by
  induction i with
  |zero=>simp[plTo]
  |succ i ih=>
   rcases Nat.lt_or_ge i f.ts.length with hi|hi
   ·obtain⟨t,ht⟩:=at_some hi;have hz:∀t:Tm,(nz1 t).length≤1:=fun t=>by unfold nz1;split<;>simp
    rw[plTo_succ ht,plStep];have z1:=hz ⟨t.v,t.q+c⟩;have z2:=hz ⟨v,c⟩;have z3:=hz t
    repeat' split
    all_goals (simp only[List.length_append];omega)
   ·have:plTo v c f.ts (i+1)=plTo v c f.ts i:=by rw[plTo,plTo,List.take_of_length_le (by omega),List.take_of_length_le (by omega)]
    rw[this];omega
 refine LX_run (m:=0) (n0:=0) mix Tryz.func94 rfl rfl rfl rfl ?_;conv=>whnf
 refine .mk Nat (fun i=>⟨[(9,vl (.int .i64 i)),(8,vl (.bool (plTo v c f.ts i).2)),(7,.a (.own 3 4 ((plTo v c f.ts i).1.map Tm.D))),(6,.a (.ptr 2 0)),(5,.a (.ptr 1 0)),(3,.a (.ptr 0 0)),(1,vl (.int .i64 v))],
  [(0,.box 32 f.A),(1,.box 30 (can c).A),(2,.box 32 [.d (.lit (.slice none 0 0)),.d (.lit (.bool false)),.d (.nat 0),.d (.nat 0)]),(3,.arr 79 4 ((plTo v c f.ts i).1.map Tm.D).length)],4⟩) (fun i=>i≤f.ts.length) (fun i=>f.ts.length-i) 0
  (Wk.trans (Wk.own 7 3 79 4 rfl rfl (zL_ _)) Wk.go) (zL_ _) fun i hi=> ?_
 have hsucc:=fun t ht=>plTo_succ (v:=v) (c:=c) (ts:=f.ts) (i:=i) (t:=t) ht;have hoi:=hol i;have hen:i=f.ts.length→plEnd v c (plTo v c f.ts i)=ins v c f.ts:=fun e=>by rw[e];exact pl_eq h.ts
 generalize plTo v c f.ts i=a at *
 obtain⟨o,done⟩:=a;simp only at hoi;have hz:∀t:Tm,(nz1 t).length≤1:=fun t=>by unfold nz1;split<;>simp
 have z2:=hz ⟨v,c⟩;have fin:i=f.ts.length→f.ts.length=i:=fun e=>e.symm
 cases done
 all_goals conv=>whnf
 ·refine bs (fun h1=> ?_) (fun h1=> ?_)
  ·conv=>whnf
   have h1':i<f.ts.length:=by simpa using h1
   obtain⟨t,ht⟩:=at_some h1';obtain⟨t1,t2,t3,t4⟩:=h.tm t (mG_ ht);have z3:=hz t;have tz:Sz t.q:=t4.mono (by omega);have tc:Sz (t.q+c):=(t4.add hc).mono (by omega)
   specialize hsucc t ht
   refine .mk (i) (t.D) (rfl) (at_map ht) ?_;conv=>whnf
   conv=>whnf
   refine bs (fun h2=> ?_) (fun h2=> ?_)
   ·conv=>whnf
    have e2:t.v=v:=by simpa using h2
    refine .c (lx_zadd (.c tz) (.c hcz)) ?_;conv=>whnf
    refine Cn.o [3] (lx_nonzero (l:=o) (t:=⟨t.v,t.q+c⟩) (by omega) tc) ?_;conv=>whnf
    exact⟨i+1,by rw[hsucc,plStep,if_pos e2];exact Wk.go,h1',by omega⟩
   ·conv=>whnf
    have e2:¬t.v=v:=by simpa using h2
    refine bs (fun h3=> ?_) (fun h3=> ?_)
    ·conv=>whnf
     have e3:v<t.v:=by simpa using h3
     refine .c (lx_zcanon (.c hcz)) ?_;conv=>whnf
     refine Cn.o [3] (lx_nonzero (l:=o) (t:=⟨v,c⟩) (by omega) hcz) ?_;conv=>whnf
     refine Cn.o [3] (lx_nonzero (l:=o++nz1 ⟨v,c⟩) (t:=t) (by simp only[List.length_append];omega) tz) ?_;conv=>whnf
     exact⟨i+1,by rw[hsucc,plStep,if_neg e2,if_pos ⟨rfl,e3⟩];exact Wk.go,h1',by omega⟩
    ·conv=>whnf
     have e3:¬v<t.v:=by simpa using h3
     refine Cn.o [3] (lx_nonzero (l:=o) (t:=t) (by omega) tz) ?_;conv=>whnf
     exact⟨i+1,by rw[hsucc,plStep,if_neg e2,if_neg (fun h=>e3 h.2)];exact Wk.go,h1',by omega⟩
  ·conv=>whnf
   have e:i=f.ts.length:=by simp at h1;omega
   have hh:=hen e;rw[plEnd,if_pos rfl]at hh;refine .c (lx_zcanon (.c hcz)) ?_;conv=>whnf
   refine Cn.o [3] (lx_nonzero (l:=o) (t:=⟨v,c⟩) (by omega) hcz) ?_;conv=>whnf
   exact .s ⟨by rw[plusS,←hh];rfl,rfl⟩
 ·refine bs (fun h1=> ?_) (fun h1=> ?_)
  ·conv=>whnf
   have h1':i<f.ts.length:=by simpa using h1
   obtain⟨t,ht⟩:=at_some h1';obtain⟨t1,t2,t3,t4⟩:=h.tm t (mG_ ht);have z3:=hz t;have tz:Sz t.q:=t4.mono (by omega);have tc:Sz (t.q+c):=(t4.add hc).mono (by omega)
   specialize hsucc t ht
   refine .mk (i) (t.D) (rfl) (at_map ht) ?_;conv=>whnf
   conv=>whnf
   refine bs (fun h2=> ?_) (fun h2=> ?_)
   ·conv=>whnf
    have e2:t.v=v:=by simpa using h2
    refine .c (lx_zadd (.c tz) (.c hcz)) ?_;conv=>whnf
    refine Cn.o [3] (lx_nonzero (l:=o) (t:=⟨t.v,t.q+c⟩) (by omega) tc) ?_;conv=>whnf
    exact⟨i+1,by rw[hsucc,plStep,if_pos e2];exact Wk.go,h1',by omega⟩
   ·conv=>whnf
    have e2:¬t.v=v:=by simpa using h2
    refine Cn.o [3] (lx_nonzero (l:=o) (t:=t) (by omega) tz) ?_;conv=>whnf
    exact⟨i+1,by rw[hsucc,plStep,if_neg e2,if_neg (fun h=>Bool.noConfusion h.1)];exact Wk.go,h1',by omega⟩
  ·conv=>whnf
   have e:i=f.ts.length:=by simp at h1;omega
   have hh:=hen e;rw[plEnd,if_neg (fun h=>Bool.noConfusion h)]at hh;exact .s ⟨by rw[plusS,←hh];rfl,rfl⟩
theorem lx_zvar {v:Int}:LV Tryz.prog 13 [vl (.int .i64 v)] (.agg (varS v).A):=by
 refine LX_run (m:=0) (n0:=0) mix Tryz.func13 rfl rfl rfl rfl ?_;conv=>whnf
 refine .c (lx_zof (z:=1) (by decide) (by decide)) ?_;conv=>whnf
 exact .s ⟨by show _=V.agg (A.d _::(can 0).A);rw[can0];rfl,rfl⟩
theorem TsOk.take {n:Int}:∀{ts:List Tm} {lo:Int} (i:Nat),TsOk n lo ts→TsOk n lo (ts.take i)
 |[],_,i,_=>by simp[TsOk]
 |t::ts,_,0,_=>trivial
 |t::ts,lo,i+1,h=>⟨h.1,h.2.1,h.2.2.1,TsOk.take i h.2.2.2⟩
theorem TsOk.cof_b {n:Int}{k:Nat}(w:Int):∀{ts:List Tm} {lo:Int},TsOk n lo ts→(∀t∈ts,Bt k t.q)→Bt k (cof ts w)
 |[],_,_,_=>bt0 k
 |t::ts,lo,h,hb=>by
  rw[cof];split
  ·rename_i e;rw[h.2.2.2.cof_lt (by omega),Rat.add_zero];exact hb t (by simp)
  ·rw[Rat.zero_add];exact TsOk.cof_b w h.2.2.2 fun t ht=>hb t (by simp[ht])
theorem FB.take {k:Nat}{n:Int}{f:Af}(h:FB k n f)(i:Nat):FB k n ⟨f.ts.take i,f.c⟩:=
 ⟨h.ts.take i,fun w=>(h.ts.take i).cof_b w fun t ht=>(h.tm t (List.mem_of_mem_take ht)).2.2.2,h.c⟩
def addTo (f g:Af)(i:Nat):List Tm:=(g.ts.take i).foldl (fun a t=>ins t.v t.q a) f.ts
theorem lx_add {f g:Af}{n:Int}{k l:Nat}(h:FB k n f)(h':FB l n g)(h0:0≤n)(hn:n≤100000)(hk:k+l+1≤1000000000):LV Tryz.prog 53 [.agg f.A,.agg g.A] (.agg (addS f g).A):=by
 have hlen:=h'.ts.len h0;refine LX_run (m:=0) (n0:=0) mix Tryz.func53 rfl rfl rfl rfl ?_;conv=>whnf
 refine .c (lx_zadd (.c (h.c.mono (by omega))) (.c (h'.c.mono (by omega)))) ?_;conv=>whnf
 refine .mk (by kernel_rfl) ?_;conv=>whnf
 refine .mk Nat (fun i=>⟨[(6,vl (.int .i64 i)),(5,.a (.ptr 3 0)),(4,.a (.ptr 2 0)),(3,.a (.ptr 1 0))],[(1,.box 32 g.A),(2,.box 32 [.d (.lit (.slice none 0 0)),.d (.lit (.bool false)),.d (.nat 0),.d (.nat 0)]),(3,.box 32 (Af.A ⟨addTo f g i,f.c+g.c⟩))],4⟩) (fun i=>i≤g.ts.length) (fun i=>g.ts.length-i) 0 Wk.go (zL_ _) fun i hi=> ?_;conv=>whnf
 conv=>whnf
 have hp:FB (k+l+1) n ⟨addTo f g i,f.c+g.c⟩:=h.add (h'.take i);have hlp:=hp.ts.len h0;refine bs (fun h1=> ?_) (fun h1=> ?_)
 ·conv=>whnf
  have h1':i<g.ts.length:=by simpa using h1
  obtain⟨t,ht⟩:=at_some h1';obtain⟨t1,t2,t3,t4⟩:=h'.tm t (mG_ ht);have e:addTo f g (i+1)=ins t.v t.q (addTo f g i):=by rw[addTo,take_snoc ht,List.foldl_append];rfl
  refine .mk (i) (t.D) (rfl) (at_map ht) ?_;conv=>whnf
  conv=>whnf
  refine .mk (i) (t.D) (rfl) (at_map ht) ?_;conv=>whnf
  conv=>whnf
  refine .c (lx_plus hp t4 t1 t2 hn (by omega)) ?_;conv=>whnf
  refine .mk (by kernel_rfl) ?_;conv=>whnf
  exact⟨i+1,by rw[e];exact Wk.go,h1',by omega⟩
 ·conv=>whnf
  have e:i=g.ts.length:=by simp at h1;omega
  have e2:addTo f g i=(addS f g).ts:=by rw[addTo,e,List.take_length];rfl
  simp only at hlp;refine .own ?_;conv=>whnf
  refine .mk ((addTo f g i).map Tm.D) rfl rfl (by simp;omega) ?_;conv=>whnf
  refine .mk (by kernel_rfl) ?_;conv=>whnf
  exact .s ⟨by rw[e2];rfl,rfl⟩
def scTo (f:Af)(c:Rat)(i:Nat):List Tm:=(f.ts.take i).flatMap fun t=>nz1 ⟨t.v,t.q*c⟩
theorem scTo_len (f:Af)(c:Rat)(i:Nat):(scTo f c i).length≤i:=by
 unfold scTo;refine tL_ ?_ (List.length_take_le i f.ts);generalize f.ts.take i=l
 induction l with
 |nil=>simp
 |cons t l ih=>
  have:(nz1 ⟨t.v,t.q*c⟩).length≤1:=by unfold nz1;split<;>simp
  simp only[List.flatMap_cons,List.length_append,List.length_cons];omega
theorem lx_scale {f:Af}{n:Int}{c:Rat}{k l:Nat}(h:FB k n f)(hc:Bt l c)(h0:0≤n)(hn:n≤100000)(hk:k+l≤3000000000):LV Tryz.prog 54 [.agg f.A,.agg (can c).A] (.agg (scaleS f c).A):=by
 have hlen:=h.ts.len h0;refine LX_run (m:=0) (n0:=0) mix Tryz.func54 rfl rfl rfl rfl ?_;conv=>whnf
 refine .c (lx_zmul (.c (h.c.mono (by omega))) (.c (hc.mono (by omega)))) ?_;conv=>whnf
 refine .mk Nat (fun i=>⟨[(6,vl (.int .i64 i)),(5,.a (.ptr 3 0)),(4,.a (.ptr 2 0)),(3,.a (.ptr 1 0)),(2,.a (.ptr 0 0))],[(0,.box 32 f.A),(1,.box 30 (can c).A),(2,.box 32 [.d (.lit (.slice none 0 0)),.d (.lit (.bool false)),.d (.nat 0),.d (.nat 0)]),
  (3,.box 32 (.own 4 4 ((scTo f c i).map Tm.D)::(can (f.c*c)).A)),(4,.arr 79 4 ((scTo f c i).map Tm.D).length)],5⟩) (fun i=>i≤f.ts.length) (fun i=>f.ts.length-i) 0
  (Wk.trans (Wk.ownB 3 4 0 79 4 rfl rfl rfl) Wk.go) (zL_ _) fun i hi=> ?_
 conv=>whnf
 have hsl:=scTo_len f c i;refine bs (fun h1=> ?_) (fun h1=> ?_)
 ·conv=>whnf
  have h1':i<f.ts.length:=by simpa using h1
  obtain⟨t,ht⟩:=at_some h1';obtain⟨t1,t2,t3,t4⟩:=h.tm t (mG_ ht);have e:scTo f c (i+1)=scTo f c i++nz1 ⟨t.v,t.q*c⟩:=by rw[scTo,take_snoc ht,List.flatMap_append];simp;rfl
  refine .mk (i) (t.D) (rfl) (at_map ht) ?_;conv=>whnf
  conv=>whnf
  refine .mk (i) (t.D) (rfl) (at_map ht) ?_;conv=>whnf
  conv=>whnf
  refine .c (lx_zmul (.c (t4.mono (by omega))) (.c (hc.mono (by omega)))) ?_;conv=>whnf
  refine Cn.o [4] (lx_nonzero (l:=scTo f c i) (t:=⟨t.v,t.q*c⟩) (by omega) ((t4.mul hc).mono (by omega))) ?_;conv=>whnf
  refine .mk (by kernel_rfl) ?_;conv=>whnf
  exact⟨i+1,by rw[e];exact Wk.go,h1',by omega⟩
 ·conv=>whnf
  have e:i=f.ts.length:=by simp at h1;omega
  have e2:scTo f c i=(scaleS f c).ts:=by rw[scTo,e,List.take_length];rfl
  exact .s ⟨by rw[e2];rfl,rfl⟩
abbrev bysD (raw:List Nat):D:= .sl 1 (raw.map fun b=>[.lit (.int .u8 (b:Nat))])
abbrev fdH (raw:List Nat)(a:Nat):List (Nat×Ent):=[(0,.box 117 [.d (bysD raw),.d (.lit (.int .i64 (a:Nat)))])]
structure RawOk (raw:List Nat):Prop where
 len:raw.length≤1000000
 by_:∀b∈raw,b<256
theorem lx_new2 {raw:List Nat}(h:RawOk raw):LX Tryz.prog 18 [.a (.d (bysD raw))] [] fun v H=>v= .a (.ptr 2 0)∧H=[(2,.box 117 [.d (bysD raw),.d (.lit (.int .i64 (0:Nat)))])]:=by
 have hl:=h.len;refine LX_run (m:=0) (n0:=0) mix Tryz.func18 rfl rfl rfl rfl ?_;conv=>whnf
 refine .own ?_;conv=>whnf
 refine .mk (raw.map fun b=>[.lit (.int .u8 (b:Nat))]) rfl rfl (by simp;omega) ?_;conv=>whnf
 exact⟨_,_,⟨rfl,rfl⟩,vR_ _,rfl,⟨⟨_,rfl,⟨_,rfl,WkA.own,aR_ _,trivial⟩,rfl⟩,trivial⟩,rfl⟩
theorem all2_dd {γ γ':Gh}{h h':Hp}{M:MS}{w:World}:∀{ds:List D} {vs:List Value},All2 (RdA γ h M w) (ds.map A.d) vs→All2 (RdA γ' h' M w) (ds.map A.d) vs
 |[],[],_=>trivial
 |d::ds,v::vs,k=>⟨k.1,all2_dd k.2⟩
 |[],_::_,k=>k.elim
 |_::_,[],k=>k.elim
theorem LC.key0 {P:Program}{F:FuncId}{args:List V}{j:Nat}{t:TypeId}{ds:List D}(hc:LC P F args [] (.a (.ptr j 0)) [(j,.box t (ds.map A.d))]):LC P F args [] (.a (.ptr 0 0)) [(0,.box t (ds.map A.d))]:=by
 intro γ M w rs hr ha;refine cM (hc γ M w rs hr ha) ?_;rintro e w' ⟨r,γ',M',h1,h2,h3,h4⟩
 have hl0:∀key e',look [(0,Ent.box t (ds.map A.d))] key=some e'→key=0∧e'= .box t (ds.map A.d):=fun key e' h=>by
  simp only[look]at h;split at h
  ·injection h with h;exact⟨by omega,h.symm⟩
  ·cases h
 have hlj:look [(j,Ent.box t (ds.map A.d))] j=some (.box t (ds.map A.d)):=by simp[look]
 have ho:∀key b i,Owns (fun _=>γ' j) (look [(0,Ent.box t (ds.map A.d))]) key b i→Owns γ' (look [(j,Ent.box t (ds.map A.d))]) j b i:=fun key b i h=>by
  unfold Owns at h
  cases h5:look [(0,Ent.box t (ds.map A.d))] key with
  |none=>rw[h5]at h;exact h.elim
  |some e'=>
   obtain⟨rfl,rfl⟩:=hl0 key e' h5;rw[h5]at h;simp only[Owns,hlj];exact h
 refine⟨r,fun _=>γ' j,M',h1,⟨fun key e' h=> ?_,fun key b i h=>h2.own j b i (ho key b i h),fun k1 k2 b l1 l2 _ _=> ?_,h2.u32,h2.dom,h2.glb⟩,?_,⟨h4.os,h4.tape,h4.output,h4.size,h4.fx,h4.other,h4.keep,fun key b i h hb=>h4.new j b i (ho key b i h) hb,fun key e h=>by simp[look]at h⟩⟩
 ·obtain⟨rfl,rfl⟩:=hl0 key e' h;obtain⟨g,vs,q1,q2,q3⟩:=h2.ent j _ hlj;exact⟨g,vs,q1,q2,all2_dd q3⟩
 ·cases h5:look [(0,Ent.box t (ds.map A.d))] k1 with
  |none=>rw[h5]at l1;cases l1
  |some e1=>
   cases h6:look [(0,Ent.box t (ds.map A.d))] k2 with
   |none=>rw[h6]at l2;cases l2
   |some e2=>rw[(hl0 _ _ h5).1,(hl0 _ _ h6).1]
 ·obtain⟨_,g,q1,q2⟩:=h3;exact⟨rfl,g,q1,q2⟩
theorem lx_new {raw:List Nat}(h:RawOk raw):LX Tryz.prog 18 [.a (.d (bysD raw))] [] fun v H=>v= .a (.ptr 0 0)∧H=fdH raw 0:=by
 obtain⟨v,H,⟨rfl,rfl⟩,hc⟩:=lx_new2 h;exact⟨_,_,⟨rfl,rfl⟩,LC.key0 (ds:=[bysD raw,.lit (.int .i64 (0:Nat))]) hc⟩
theorem lx_next {raw:List Nat}{a n:Nat}(h:RawOk raw)(ha:a≤raw.length)(hn:1≤n∧n≤9):∃a' m:Nat,a'≤raw.length∧m<n∧LX Tryz.prog 19 [.a (.ptr 0 0),vl (.int .i64 (n:Nat))] (fdH raw a) fun v H=>v=vl (.int .i64 (m:Nat))∧H=fdH raw a':=by
 have hl:=h.len;rcases Nat.lt_or_ge a raw.length with h1|h1
 ·obtain⟨b,hb⟩:=at_some h1;have hbb:=h.by_ b (mG_ hb);refine⟨a+1,b % n,h1,Nat.mod_lt _ (by omega),?_⟩;have hw:IntKind.i64.wrap ((a:Int)+1)=((a+1:Nat):Int):=by rw[wr64 (by omega) (by omega)];omega
  have hw2:IntKind.i64.wrap (((a+1:Nat):Int)-1)=(a:Int):=by rw[wr64 (by omega) (by omega)];omega
  have hw3:IntKind.i64.wrap (b:Int)=(b:Int):=wr64 (by omega) (by omega);obtain rfl|rfl|rfl|rfl|rfl|rfl|rfl|rfl|rfl:n=1∨n=2∨n=3∨n=4∨n=5∨n=6∨n=7∨n=8∨n=9:=by omega
  all_goals refine LX_run (m:=1) (n0:=1) mix Tryz.func19 rfl rfl rfl rfl ?_
            conv=>whnf
  all_goals refine bF (decide_eq_false (by simp;omega)) ?_
            conv=>whnf
  all_goals refine .mk (by kernel_rfl) ?_
            conv=>whnf
  all_goals rw[hw,hw2]
  all_goals refine .mk (a) ([.lit (.int .u8 (b:Nat))]) (rfl) (at_map hb) ?_
            conv=>whnf
  all_goals conv=>whnf
  all_goals refine .mk _ ⟨by decide,rfl⟩ rfl ?_
  all_goals conv=>whnf
  all_goals refine .mk (by kernel_rfl) ?_
            conv=>whnf
  all_goals exact⟨_,_,⟨rfl,rfl⟩,WkV.int (by rw[hw3];rfl),rfl,⟨⟨_,rfl,wke_refl _,rfl⟩,trivial⟩,rfl⟩
 ·refine⟨a,0,ha,by omega,?_⟩;refine LX_run (m:=1) (n0:=1) mix Tryz.func19 rfl rfl rfl rfl ?_;conv=>whnf
  refine bT (decide_eq_true (by simp;omega)) ?_;conv=>whnf
  refine .mk (by kernel_rfl) ?_;conv=>whnf
  exact⟨_,_,⟨rfl,rfl⟩,vR_ _,rfl,⟨⟨_,rfl,wke_refl _,rfl⟩,trivial⟩,rfl⟩
theorem frac_b {z d:Int}(hz:z.natAbs≤2^3)(hd:d=1∨d=2∨d=4):Bt 5 ((z:Rat)/(d:Rat)):=by
 have h1:Bt 3 (z:Rat):=Bt.int hz;have h2:Bt 2 (d:Rat):=Bt.int (by rcases hd with rfl|rfl|rfl<;>decide);exact h1.div h2 (by rcases hd with rfl|rfl|rfl<;>decide)
theorem lx_number {raw:List Nat}{a:Nat}(h:RawOk raw)(ha:a≤raw.length):∃(a':Nat) (q:Rat),a'≤raw.length∧Bt 5 q∧LX Tryz.prog 59 [.a (.ptr 0 0)] (fdH raw a) fun v H=>v=ratV q∧H=fdH raw a':=by
 obtain⟨a1,m1,h1,h2,c1⟩:=lx_next (n:=9) h ha (by omega);obtain⟨a2,m2,h3,h4,c2⟩:=lx_next (n:=4) h h1 (by omega);have hw:IntKind.i64.wrap ((m1:Int)-4)=(m1:Int)-4:=wr64 (by omega) (by omega);have hz:((m1:Int)-4).natAbs≤2^3:=by omega
 have go:∀d:Int,(d=1∨d=2∨d=4)→∃(a':Nat) (q:Rat),q=(((m1:Int)-4:Int):Rat)/(d:Rat)∧a'≤raw.length∧Bt 5 q∧a'=a2:=fun d hd=>⟨a2,_,rfl,h3,frac_b hz hd,rfl⟩;obtain⟨d,hd,hm⟩:∃d:Int,(d=1∨d=2∨d=4)∧((m2=0∧d=1)∨(m2=1∧d=1)∨(m2=2∧d=2)∨(m2=3∧d=4)):=by
  obtain e|e|e|e:m2=0∨m2=1∨m2=2∨m2=3:=by omega
  ·exact⟨1,by omega,by omega⟩
  ·exact⟨1,by omega,by omega⟩
  ·exact⟨2,by omega,by omega⟩
  ·exact⟨4,by omega,by omega⟩
 refine⟨a2,_,h3,frac_b hz hd,?_⟩;obtain⟨rfl,rfl⟩|⟨rfl,rfl⟩|⟨rfl,rfl⟩|⟨rfl,rfl⟩:=hm
 all_goals refine LX_run (m:=1) (n0:=1) mix Tryz.func59 rfl rfl rfl rfl ?_
           conv=>whnf
 all_goals refine .l [0] (c1) ?_
           conv=>whnf
 all_goals refine .l [0] (c2) ?_
           conv=>whnf
 all_goals rw[hw]
 ·refine .c (lx_zfrac (z:=1) (by omega) (by omega) (by omega) (by omega) (by omega)) ?_;conv=>whnf
  exact⟨_,_,⟨rfl,rfl⟩,vR_ _,rfl,⟨⟨_,rfl,wke_refl _,rfl⟩,trivial⟩,rfl⟩
 ·refine .c (lx_zfrac (z:=1) (by omega) (by omega) (by omega) (by omega) (by omega)) ?_;conv=>whnf
  exact⟨_,_,⟨rfl,rfl⟩,vR_ _,rfl,⟨⟨_,rfl,wke_refl _,rfl⟩,trivial⟩,rfl⟩
 ·refine .c (lx_zfrac (z:=2) (by omega) (by omega) (by omega) (by omega) (by omega)) ?_;conv=>whnf
  exact⟨_,_,⟨rfl,rfl⟩,vR_ _,rfl,⟨⟨_,rfl,wke_refl _,rfl⟩,trivial⟩,rfl⟩
 ·refine .c (lx_zfrac (z:=4) (by omega) (by omega) (by omega) (by omega) (by omega)) ?_;conv=>whnf
  exact⟨_,_,⟨rfl,rfl⟩,vR_ _,rfl,⟨⟨_,rfl,wke_refl _,rfl⟩,trivial⟩,rfl⟩
theorem TsOk.cof_ge {n:Int}{ts:List Tm}{lo w:Int}(h:TsOk n lo ts)(hw:n≤w):cof ts w=0:=by
 induction ts generalizing lo with
 |nil=>rfl
 |cons t ts ih=>
  have:=h.2.1;rw[cof,if_neg (by omega),ih h.2.2.2,Rat.add_zero]
theorem FB.snoc {v:Nat}{f:Af}{q:Rat}(h:FB 5 v f)(hq:Bt 5 q):FB 5 (v+1:Nat) (addS f (scaleS (varS v) q)):=by
 have h1:=(FB.var (n:=((v+1:Nat):Int)) (v:=v) (by omega) (by omega)).scale hq
 have e1:∀w:Int,cof (scaleS (varS v) q).ts w=if(v:Int)=w then q else 0:=fun w=>by
  rw[scaleS,cof_scale,varS,cof,cof,Rat.add_zero];split
  ·exact Rat.one_mul q
  ·exact Rat.zero_mul q
 refine⟨ok_fold (fun t ht=>let h:=h1.tm t ht;⟨h.1,h.2.1⟩) (h.ts.up (by omega)),fun w=> ?_,?_⟩
 ·rw[addS,cof_fold,e1];split
  ·rename_i e;rw[h.ts.cof_ge (by omega),Rat.zero_add];exact hq
  ·rw[Rat.add_zero];exact h.co w
 ·show Bt 5 (f.c+0*q);rw[Rat.zero_mul,Rat.add_zero];exact h.c
theorem lx_form {raw:List Nat}{a n:Nat}(h:RawOk raw)(ha:a≤raw.length)(hn:n≤10000):∃(a':Nat) (f:Af),a'≤raw.length∧FB 5 n f∧LX Tryz.prog 20 [.a (.ptr 0 0),vl (.int .i64 (n:Nat))] (fdH raw a) fun v H=>v= .agg f.A∧H=fdH raw a':=by
 suffices hh:LX Tryz.prog 20 [.a (.ptr 0 0),vl (.int .i64 (n:Nat))] (fdH raw a) fun v H=>∃(a':Nat) (f:Af),(a'≤raw.length∧FB 5 n f)∧v= .agg f.A∧H=fdH raw a' by
  obtain⟨v,H',⟨a',f,⟨h1,h2⟩,rfl,rfl⟩,hc⟩:=hh;exact⟨a',f,h1,h2,_,_,⟨rfl,rfl⟩,hc⟩
 obtain⟨a1,q,h1,h2,c1⟩:=lx_number h ha;refine LX_run (m:=1) (n0:=1) mix Tryz.func20 rfl rfl rfl rfl ?_;conv=>whnf
 refine .l [0] (c1) ?_;conv=>whnf
 refine .mk (Nat×Nat×Af) (fun(i,a,f)=>⟨[(6,vl (.int .i64 (i:Nat))),(5,.a (.ptr 3 0)),(4,.a (.ptr 1 0)),(1,vl (.int .i64 (n:Nat))),(0,.a (.ptr 0 0))],[(0,.box 117 [.d (bysD raw),.d (.lit (.int .i64 (a:Nat)))]),(1,.box 32 [.d (.lit (.slice none 0 0)),.d (.lit (.bool false)),.d (.nat 0),.d (.nat 0)]),(3,.box 32 f.A)],4⟩)
  (fun b=>b.1≤n∧b.2.1≤raw.length∧FB 5 b.1 b.2.2) (fun b=>n-b.1) (0,a1,numS q) ?_ ⟨zL_ _,h1,FB.num h2⟩ fun⟨i,a,f⟩ hb=> ?_
 ·exact Wk.go (h2:=⟨⟨_,rfl,wke_refl _,rfl⟩,⟨_,rfl,wke_refl _,rfl⟩,⟨_,rfl,⟨_,rfl,WkA.nil,aR_ _,aR_ _,aR_ _,trivial⟩,rfl⟩,trivial⟩)
 obtain⟨hi,ha,hf⟩:=hb;simp only at hi ha hf;conv=>whnf
 refine bs (fun h3=> ?_) (fun h3=> ?_)
 ·conv=>whnf
  have h3':i<n:=by simpa using h3
  obtain⟨a2,m,k1,k2,c2⟩:=lx_next (n:=3) h ha (by omega);refine .l [0] (c2) ?_;conv=>whnf
  refine bs (fun h4=> ?_) (fun h4=> ?_)
  ·conv=>whnf
   obtain⟨a3,q',k3,k4,c3⟩:=lx_number h k1;have hv:=FB.var (n:=((i+1:Nat):Int)) (v:=i) (by omega) (by omega);refine .c (lx_zvar) ?_;conv=>whnf
   refine .l [0] (c3) ?_;conv=>whnf
   refine .c (lx_scale hv k4 (by omega) (by omega) (by omega)) ?_;conv=>whnf
   refine .c (lx_add (hf.up (n':=((i+1:Nat):Int)) (lR_ 5) (by omega)) (hv.scale k4) (by omega) (by omega) (by omega)) ?_;conv=>whnf
   refine .mk (by kernel_rfl) ?_;conv=>whnf
   exact⟨(i+1,a3,addS f (scaleS (varS i) q')),Wk.go,⟨h3',k3,hf.snoc k4⟩,by simp only;omega⟩
  ·conv=>whnf
   exact⟨(i+1,a2,f),Wk.go,⟨h3',k1,hf.up (lR_ 5) (by simp only;omega)⟩,by simp only;omega⟩
 ·conv=>whnf
  have e:i=n:=by simp at h3;omega
  subst e;exact⟨_,_,⟨a,f,⟨ha,hf⟩,rfl,rfl⟩,vR_ _,rfl,⟨⟨_,rfl,wke_refl _,rfl⟩,trivial⟩,rfl⟩
structure FsB (n:Int)(fs:List Af):Prop where
 fb:∀f∈fs,FB 5 n f
structure GrB (g:Gr):Prop where
 n1:1≤g.n
 n2:g.n≤3
 u1:g.us.length≤4
 o1:1≤g.os.length
 o2:g.os.length≤3
 us:∀(j:Nat) (f:Af),g.us[j]? =some f→FB 5 (g.n+j:Nat) f
 os:∀f∈g.os,FB 5 (g.n+g.us.length:Nat) f
theorem GrB.ok {g:Gr}(h:GrB g):GrOk g:=by
 have:=h.n1;have:=h.n2;have:=h.u1;have:=h.o1;have:=h.o2;exact⟨by omega,by omega,by omega,by omega,by omega,fun j f hj=>(h.us j f hj).ok (by decide) (by omega) (by have:=at_lt hj;omega),fun f hf=>(h.os f hf).ok (by decide) (by omega) (by omega)⟩
structure RgB (r:Rg)(n:Nat):Prop where
 lo:r.lo.length=n
 hi:r.hi.length=n
 rl:r.rs.length≤2
 sl:∀q∈r.lo,Bt 11 q
 sh:∀q∈r.hi,Bt 11 q
 le:∀(i:Nat) (a b:Rat),r.lo[i]? =some a→r.hi[i]? =some b→a≤b
 rs:∀f∈r.rs,FB 5 n f
theorem RgB.ok {r:Rg}{n:Nat}(h:RgB r n)(h1:1≤n)(h2:n≤3):RgOk r n:=
 ⟨h1,by omega,h.lo,h.hi,by have:=h.rl;omega,h.le,fun q hq=>(h.sl q hq).mono (by decide),fun q hq=>(h.sh q hq).mono (by decide),fun f hf=>(h.rs f hf).ok (by decide) (by omega) (by omega)⟩
structure QuB (q:Qu):Prop where
 g:GrB q.g
 r:RgB q.r q.g.n
 goal:FB 5 (q.g.n+q.g.us.length:Nat) q.goal
theorem QuB.ok {q:Qu}(h:QuB q):QuOk q:=by
 have:=h.g.u1;have:=h.g.n2;exact⟨h.g.ok,h.r.ok h.g.n1 h.g.n2,h.goal.ok (by decide) (by omega) (by omega)⟩
def cU (n:Nat)(P:List Dc):Nat:=((List.range n).filter fun u:Nat=>seenB P (u:Int)).length
structure PathI (q:Qu)(P:List Dc):Prop where
 fit:∀d∈P,fitB q d=true
 tw:twB P=false
 c4:cntI P≤4
 len:P.length=cU q.g.us.length P+cntI P
 bt:∀d∈P,Bt (16^(cntI P+1)) d.at_.q
 sm:∀d∈P,d.at_.sm
structure Ro where
 k:Int
 i:Int
 l:Int
 h:Int
deriving DecidableEq
structure Mu where
 r:Ro
 c:Rat
abbrev Ro.A (r:Ro):List A:=[.d (.lit (.int .i64 r.k)),.d (.lit (.int .i64 r.i)),.d (.lit (.int .i64 r.l)),.d (.lit (.int .i64 r.h))]
abbrev Mu.D (m:Mu):List D:=[.lit (.int .i64 m.r.k),.lit (.int .i64 m.r.i),.lit (.int .i64 m.r.l),.lit (.int .i64 m.r.h),.lit (.bool (decide (m.c<0))),.lm (limbs m.c.num.natAbs),.lm (limbs (dn m.c))]
abbrev musD (l:List Mu):D:= .sl 7 (l.map Mu.D)
def MuB (K:Nat)(l:List Mu):Prop:=∀m∈l,Bt K m.c
def wsum (φ:Ro→Rat):List Mu→Rat
 |[]=>0
 |m::l=>m.c*φ m.r+wsum φ l
theorem MuB.up {K K':Nat}{l:List Mu}(h:MuB K l)(hk:K≤K'):MuB K' l:=fun m hm=>(h m hm).mono hk
theorem numS0_A:(numS 0).A=[.d (.sl 4 []),.d (.lit (.bool false)),.d (.nat 0),.d (.nat 0)]:=by
 show A.d _::(can 0).A=_;rw[can0];rfl
theorem wsum_app (φ:Ro→Rat)(m:Mu):∀l:List Mu,wsum φ (l++[m])=wsum φ l+m.c*φ m.r
 |[]=>by simp[wsum,Rat.add_zero,Rat.zero_add]
 |x::l=>by simp only[List.cons_append,wsum,wsum_app φ m l,Rat.add_assoc]
theorem FB.z (k:Nat)(n:Int):FB k n (numS 0):=FB.num (bt0 k)
theorem lx_num {q:Rat}(h:Sz q):LV Tryz.prog 15 [.agg (can q).A] (.agg (numS q).A):=by
 refine LX_run (m:=0) (n0:=0) mix Tryz.func15 rfl rfl rfl rfl ?_;conv=>whnf
 exact .mk _ [] ⟨rfl,rfl⟩ (WkV.agg ⟨WkA.nil,aR_ _,aR_ _,aR_ _,trivial⟩) rfl trivial rfl
def m1:Rat:=((-1:Int):Rat)
theorem m1_b:Bt 0 m1:=Bt.int (by decide)
theorem lx_zofm:LV Tryz.prog 16 [vl (.int .i64 (-1))] (ratV m1):=lx_zof (z:= -1) (by decide) (by decide)
theorem lx_sub {f g:Af}{n:Int}{k l:Nat}(h:FB k n f)(h':FB l n g)(h0:0≤n)(hn:n≤100000)(hk:k+l+1≤1000000000):LV Tryz.prog 14 [.agg f.A,.agg g.A] (.agg (subS f g).A):=by
 refine LX_run (m:=0) (n0:=0) mix Tryz.func14 rfl rfl rfl rfl ?_;conv=>whnf
 refine .c (lx_zofm) ?_;conv=>whnf
 refine .c (lx_scale h' m1_b h0 hn (by omega)) ?_;conv=>whnf
 refine .c (lx_add h (h'.scale m1_b) h0 hn (by omega)) ?_;conv=>whnf
 refine .mk (by kernel_rfl) ?_;conv=>whnf
 exact .q ⟨rfl,rfl⟩
def lmOk (s:Sp)(n u:Int)(up:Bool):Bool:=decide (1≤n)&&decide (n≤(s.ls.length:Int))&&decide ((atL s.ls n).u=u)&&((atL s.ls n).up==up)
def lmV (s:Sp)(n u:Int)(up:Bool):Rat:=bif lmOk s n u up then vAt s.ls n else 0
def RoU (r:Ro):Prop:=(r.k=5∧r.l=0∧r.h=0)∨(r.k=8∧1≤r.l∧r.h=0)∨(r.k=10∧r.l=0∧1≤r.h)∨(r.k=12∧r.l=0∧1≤r.h)∨(r.k=13∧1≤r.l∧1≤r.h)
theorem lmOk0 (s:Sp)(u:Int)(up:Bool):lmOk s 0 u up=false:=by simp[lmOk]
def atQ (l:List Rat)(i:Int):Rat:=(l[i.toNat]?).getD 0
def atF (l:List Af)(i:Int):Af:=(l[i.toNat]?).getD (numS 0)
def RoI (s:Sp)(r:Ro):Prop:=(r.k=1∨r.k=2)∧0≤r.i∧r.i<s.q.g.n∧r.l=0∧r.h=0
structure RoV (s:Sp)(B:Nat)(r:Ro):Prop where
 u:RoU r
 i0:0≤r.i
 i1:r.i<s.q.g.us.length
 l:r.l≤1000000
 h:r.h≤1000000
 bl:Bt B (lmV s r.l r.i false)
 bu:Bt B (lmV s r.h r.i true)
def q1:Rat:=((1:Int):Rat)
theorem q1_b:Bt 0 q1:=Bt.int (by decide)
theorem q1_z:Sz q1:=q1_b.mono (by decide)
theorem lx_zofp:LV Tryz.prog 16 [vl (.int .i64 1)] (ratV q1):=lx_zof (z:=1) (by decide) (by decide)
def rabs (q:Rat):Rat:=if q<0 then -q else q
theorem Bt.rabs {k:Nat}{q:Rat}(h:Bt k q):Bt k (rabs q):=by
 unfold Lf.rabs;split
 ·exact h.neg
 ·exact h
theorem TsOk.ext {n n':Int}:∀{a b:List Tm} {lo lo':Int},TsOk n lo a→TsOk n' lo' b→(∀w,cof a w=cof b w)→a=b
 |[],[],_,_,_,_,_=>rfl
 |[],t::b,_,_,_,hb,h=>by
  have:=h t.v;rw[(hb.cof_mem t (by simp)).1]at this;exact absurd this.symm hb.2.2.1
 |t::a,[],_,_,ha,_,h=>by
  have:=h t.v;rw[(ha.cof_mem t (by simp)).1]at this;exact absurd this ha.2.2.1
 |t::a,u::b,lo,lo',ha,hb,h=>by
  have e1:t.v=u.v:=by
   rcases Int.lt_trichotomy t.v u.v with h1|h1|h1
   ·have:=h t.v;rw[(ha.cof_mem t (by simp)).1,cof,if_neg (by omega),hb.2.2.2.cof_lt (by omega),Rat.zero_add]at this;exact absurd this ha.2.2.1
   ·exact h1
   ·have:=h u.v;rw[(hb.cof_mem u (by simp)).1,cof,if_neg (by omega),ha.2.2.2.cof_lt (by omega),Rat.zero_add]at this;exact absurd this.symm hb.2.2.1
  have e2:t.q=u.q:=by
   have:=h t.v;rw[(ha.cof_mem t (by simp)).1,e1,(hb.cof_mem u (by simp)).1]at this;exact this
  have e3:t=u:=by obtain⟨a,b⟩:=t;obtain⟨c,d⟩:=u;simp only at e1 e2;rw[e1,e2]
  subst e3
  rw[TsOk.ext ha.2.2.2 hb.2.2.2 fun w=>by
   have:=h w;rw[cof,cof]at this
   by_cases hw:t.v=w
   ·rw[ha.2.2.2.cof_lt (by omega),hb.2.2.2.cof_lt (by omega)]
   ·rw[if_neg hw]at this;simpa [Rat.zero_add]using this]
theorem Af.ext' {n n':Int}{f g:Af}(hf:TsOk n 0 f.ts)(hg:TsOk n' 0 g.ts)(h:∀w,cof f.ts w=cof g.ts w)(hc:f.c=g.c):f=g:=by
 obtain⟨a,b⟩:=f;obtain⟨c,d⟩:=g;simp only at hc hf hg h;subst hc;rw[TsOk.ext hf hg h]
def mrgT (c:Rat):List Tm→List Tm→List Tm
 |[],[]=>[]
 |[],b::ys=>nz1 ⟨b.v,b.q*c⟩++mrgT c [] ys
 |a::xs,[]=>nz1 a++mrgT c xs []
 |a::xs,b::ys=>if a.v<b.v then nz1 a++mrgT c xs (b::ys)else if b.v<a.v then nz1 ⟨b.v,b.q*c⟩++mrgT c (a::xs) ys else nz1 ⟨a.v,a.q+b.q*c⟩++mrgT c xs ys
 termination_by xs ys=>xs.length+ys.length
theorem cof_mrg (c:Rat)(w:Int):∀xs ys:List Tm,cof (mrgT c xs ys) w=cof xs w+cof ys w*c
 |[],[]=>by rw[mrgT];simp[cof,Rat.add_zero]
 |[],b::ys=>by
  rw[mrgT,cof_app,cof_nz1,cof_mrg c w [] ys,cof,cof];split<;>grind
 |a::xs,[]=>by
  rw[mrgT,cof_app,cof_nz1,cof_mrg c w xs [],cof,cof];split<;>grind
 |a::xs,b::ys=>by
  rw[mrgT];split
  ·rw[cof_app,cof_nz1,cof_mrg c w xs (b::ys)];simp only[cof];split<;>grind
  ·split
   ·rw[cof_app,cof_nz1,cof_mrg c w (a::xs) ys];simp only[cof];split<;>grind
   ·rw[cof_app,cof_nz1,cof_mrg c w xs ys];have e:b.v=a.v:=by omega
    simp only[cof,e];split<;>grind
 termination_by xs ys=>xs.length+ys.length
theorem TsOk.mrg {n:Int}(c:Rat):∀{xs ys:List Tm} {lo:Int},TsOk n lo xs→TsOk n lo ys→TsOk n lo (mrgT c xs ys)
 |[],[],lo,_,_=>by rw[mrgT];trivial
 |[],b::ys,lo,ha,hb=>by
  rw[mrgT];exact TsOk.nz (TsOk.mrg c (xs:=[]) trivial hb.2.2.2) hb.1 hb.2.1
 |a::xs,[],lo,ha,hb=>by
  rw[mrgT];obtain⟨av,aq⟩:=a;exact TsOk.nz (TsOk.mrg c (ys:=[]) ha.2.2.2 trivial) ha.1 ha.2.1
 |a::xs,b::ys,lo,ha,hb=>by
  rw[mrgT];obtain⟨av,aq⟩:=a;split
  ·rename_i h;exact TsOk.nz (TsOk.mrg c ha.2.2.2 ⟨by simp only at h ⊢;omega,hb.2⟩) ha.1 ha.2.1
  ·split
   ·rename_i h;exact TsOk.nz (TsOk.mrg c (xs:=⟨av,aq⟩::xs) ⟨by simp only at h ⊢;omega,ha.2⟩ hb.2.2.2) hb.1 hb.2.1
   ·rename_i h h';simp only at h h';have e:av=b.v:=by omega
    exact TsOk.nz (TsOk.mrg c ha.2.2.2 (by simp only;rw[e];exact hb.2.2.2)) ha.1 ha.2.1
 termination_by xs ys=>xs.length+ys.length
theorem mrg_eq {n:Int}{f g:Af}{c:Rat}{k l:Nat}(hf:FB k n f)(hg:FB l n g):(⟨mrgT c f.ts g.ts,f.c+g.c*c⟩:Af)=addS f (scaleS g c):=
 Af.ext' (n:=n) (n':=n) (TsOk.mrg c hf.ts hg.ts) (ok_fold (fun t ht=>let h:=(ok_scale c hg.ts).cof_mem t ht;⟨h.2.1,h.2.2.1⟩) hf.ts)
  (fun w=>by rw[cof_mrg,addS,cof_fold,scaleS,cof_scale]) rfl
abbrev ptH (l:List Tm):List (Nat×Ent):=[(0,.arr 79 4 (l.map Tm.D).length)]
theorem lx_put {l:List Tm}{c q:Rat}{v:Int}(hl:l.length≤1000000)(hq:Sz q):
  LX Tryz.prog 123 [.agg (.own 0 4 (l.map Tm.D)::(can c).A),vl (.int .i64 v),.agg (can q).A] (ptH l) fun r H=>r= .agg (.own 0 4 ((l++nz1 ⟨v,q⟩).map Tm.D)::(can c).A)∧H=ptH (l++nz1 ⟨v,q⟩):=by
 refine LX_run (m:=1) (n0:=1) mix Tryz.func123 rfl rfl rfl rfl ?_;conv=>whnf
 refine .c (lx_rsign (.c hq)) ?_;conv=>whnf
 refine bs (fun h1=> ?_) (fun h1=> ?_)
 ·conv=>whnf
  have h0:¬q=0:=by simpa [Int.sign_eq_zero_iff_zero]using h1
  have e:l++nz1 ⟨v,q⟩=l++[⟨v,q⟩]:=by rw[nz1,if_neg h0]
  rw[e];refine .c (lx_rcanon (.c hq)) ?_;conv=>whnf
  refine .mk ((l++[(⟨v,q⟩:Tm)]).map Tm.D) rfl (by rw[List.map_append];rfl) (by simp;omega) ?_;conv=>whnf
  refine .mk (by kernel_rfl) ?_;conv=>whnf
  exact⟨_,_,⟨rfl,rfl⟩,vR_ _,rfl,⟨⟨_,rfl,wke_refl _,rfl⟩,trivial⟩,rfl⟩
 ·conv=>whnf
  have h0:q=0:=by simpa [Int.sign_eq_zero_iff_zero]using h1
  have e:l++nz1 ⟨v,q⟩=l:=by rw[nz1,if_pos h0,List.append_nil]
  rw[e];exact⟨_,_,⟨rfl,rfl⟩,vR_ _,rfl,⟨⟨_,rfl,wke_refl _,rfl⟩,trivial⟩,rfl⟩
structure MgI (R:List Tm)(c:Rat)(k l:Nat)(o xs ys:List Tm):Prop where
 eq:o++mrgT c xs ys=R
 x:∀t∈xs,Bt k t.q
 y:∀t∈ys,Bt l t.q
 n:o.length+xs.length+ys.length≤900000
theorem pl_merge {f g:Af}{n:Int}{c:Rat}{k l m:Nat}(h:FB k n f)(h':FB l n g)(hc:Bt m c)(h0:0≤n)(hn:n≤100000)(hk:k+l+m+1≤1000000000):
  LV Tryz.prog 78 [.agg f.A,.agg g.A,.agg (can c).A] (.agg (addS f (scaleS g c)).A):=by
 have hlf:=h.ts.len h0;have hlg:=h'.ts.len h0;have hcz:Sz c:=hc.mono (by omega);rw[←mrg_eq h h'];refine LX_run (m:=0) (n0:=0) mix Tryz.func78 rfl rfl rfl rfl ?_;conv=>whnf
 refine .c (lx_rmul (.c (h'.c.mono (by omega))) (.c hcz)) ?_;conv=>whnf
 refine .c (lx_radd (.c (h.c.mono (by omega))) (.c ((h'.c.mul hc).mono (by omega)))) ?_;conv=>whnf
 refine .mk (by kernel_rfl) ?_;conv=>whnf
 refine .mk (by kernel_rfl) ?_;conv=>whnf
 refine .mk (List Tm×List Tm×List Tm) (fun(o,xs,ys)=>⟨[(9,.a (.d (.sl 4 (ys.map Tm.D)))),(8,.a (.d (.sl 4 (xs.map Tm.D)))),(7,.a (.ptr 4 0)),(6,.a (.ptr 3 0)),(5,.a (.ptr 2 0))],
  [(2,.box 30 (can c).A),(3,.box 32 [.d (.lit (.slice none 0 0)),.d (.lit (.bool false)),.d (.nat 0),.d (.nat 0)]),(4,.box 32 (.own 5 4 (o.map Tm.D)::(can (f.c+g.c*c)).A)),(5,.arr 79 4 (o.map Tm.D).length)],6⟩)
  (fun b=>MgI (mrgT c f.ts g.ts) c k l b.1 b.2.1 b.2.2) (fun b=>b.2.1.length+b.2.2.length) ([],f.ts,g.ts)
  (Wk.trans (Wk.ownB 4 5 0 79 4 rfl rfl rfl) Wk.go) ⟨rfl,fun t ht=>(h.tm t ht).2.2.2,fun t ht=>(h'.tm t ht).2.2.2,by simp only[List.length_nil];omega⟩ fun⟨o,xs,ys⟩ hb=> ?_
 obtain⟨he,hx,hy,hl⟩:=hb;simp only at he hx hy hl;have hz:∀t:Tm,(nz1 t).length≤1:=fun t=>by unfold nz1;split<;>simp
 have lp:∀(t:Tm) (ts:List Tm),decide (((List.map Tm.D (t::ts)).length:Int)>0)=true:=fun t ts=>decide_eq_true (by rw[List.length_map,List.length_cons];omega);have lt:∀(t:Tm) (ts:List Tm),((t::ts).map Tm.D).length=ts.length+1:=fun t ts=>by rw[List.length_map,List.length_cons]
 cases xs with
 |nil=>cases ys with
  |nil=>
   conv=>whnf
   rw[mrgT,List.append_nil]at he;exact .s ⟨by rw[←he];rfl,rfl⟩
  |cons b ys=>
   have bb:=hy b (by simp);have bz:=(bb.mul hc);conv=>whnf
   refine bT (lp b ys) ?_;conv=>whnf
   refine .mk (by kernel_rfl) ?_;conv=>whnf
   refine .mk (by kernel_rfl) ?_;conv=>whnf
   refine .mk (0) (b.D) (rfl) (rfl) ?_;conv=>whnf
   conv=>whnf
   refine .mk (0) (b.D) (rfl) (rfl) ?_;conv=>whnf
   conv=>whnf
   refine .c (lx_rmul (.c (bb.mono (by omega))) (.c hcz)) ?_;conv=>whnf
   refine Cn.o [5] (lx_put (l:=o) (v:=b.v) (by omega) (bz.mono (by omega))) ?_;conv=>whnf
   refine .mk (by kernel_rfl) ?_;conv=>whnf
   refine .mk 1 (ys.length+1) (ys.map Tm.D) rfl (by rw[lt];rfl) (by omega) (by rw[lt];omega) (by rw[List.take_of_length_le (by rw[lt];omega)];rfl) ?_;conv=>whnf
   have z1:=hz ⟨b.v,b.q*c⟩;exact⟨(o++nz1 ⟨b.v,b.q*c⟩,[],ys),Wk.go,⟨by rw[List.append_assoc,←he,mrgT],hx,fun t ht=>hy t (by simp[ht]),by simp only[List.length_append,List.length_cons]at *;omega⟩,by simp only[List.length_cons];omega⟩
 |cons a xs=>cases ys with
  |nil=>
   have ab:=hx a (by simp);conv=>whnf
   refine bT (lp a xs) ?_;conv=>whnf
   refine .mk (by kernel_rfl) ?_;conv=>whnf
   refine .mk (0) (a.D) (rfl) (rfl) ?_;conv=>whnf
   conv=>whnf
   refine .mk (0) (a.D) (rfl) (rfl) ?_;conv=>whnf
   conv=>whnf
   refine Cn.o [5] (lx_put (l:=o) (v:=a.v) (by omega) (ab.mono (by omega))) ?_;conv=>whnf
   refine .mk (by kernel_rfl) ?_;conv=>whnf
   refine .mk 1 (xs.length+1) (xs.map Tm.D) rfl (by rw[lt];rfl) (by omega) (by rw[lt];omega) (by rw[List.take_of_length_le (by rw[lt];omega)];rfl) ?_;conv=>whnf
   have z1:=hz a;exact⟨(o++nz1 a,xs,[]),Wk.go,⟨by rw[List.append_assoc,←he,mrgT],fun t ht=>hx t (by simp[ht]),hy,by simp only[List.length_append,List.length_cons]at *;omega⟩,by simp only[List.length_cons];omega⟩
  |cons b ys=>
   have ab:=hx a (by simp);have bb:=hy b (by simp);have bz:=(bb.mul hc);have az:=(ab.add bz);conv=>whnf
   refine bT (lp a xs) ?_;conv=>whnf
   refine bT (lp a xs) ?_;conv=>whnf
   refine .mk (0) (a.D) (rfl) (rfl) ?_;conv=>whnf
   conv=>whnf
   refine .mk (0) (b.D) (rfl) (rfl) ?_;conv=>whnf
   conv=>whnf
   refine bs (fun h1=> ?_) (fun h1=> ?_)
   ·conv=>whnf
    refine .mk (by kernel_rfl) ?_;conv=>whnf
    have h1':a.v<b.v:=by simpa using h1
    refine .mk (0) (a.D) (rfl) (rfl) ?_;conv=>whnf
    conv=>whnf
    refine .mk (0) (a.D) (rfl) (rfl) ?_;conv=>whnf
    conv=>whnf
    refine Cn.o [5] (lx_put (l:=o) (v:=a.v) (by omega) (ab.mono (by omega))) ?_;conv=>whnf
    refine .mk (by kernel_rfl) ?_;conv=>whnf
    refine .mk 1 (xs.length+1) (xs.map Tm.D) rfl (by rw[lt];rfl) (by omega) (by rw[lt];omega) (by rw[List.take_of_length_le (by rw[lt];omega)];rfl) ?_;conv=>whnf
    have z1:=hz a;exact⟨(o++nz1 a,xs,b::ys),Wk.go,⟨by rw[List.append_assoc,←he,mrgT.eq_4,if_pos h1'],fun t ht=>hx t (by simp[ht]),hy,by simp only[List.length_append,List.length_cons]at *;omega⟩,by simp only[List.length_cons];omega⟩
   ·conv=>whnf
    refine .mk (by kernel_rfl) ?_;conv=>whnf
    have h1':¬a.v<b.v:=by simpa using h1
    refine .mk (0) (b.D) (rfl) (rfl) ?_;conv=>whnf
    conv=>whnf
    refine .mk (0) (a.D) (rfl) (rfl) ?_;conv=>whnf
    conv=>whnf
    refine bs (fun h2=> ?_) (fun h2=> ?_)
    ·conv=>whnf
     refine .mk (by kernel_rfl) ?_;conv=>whnf
     have h2':b.v<a.v:=by simpa using h2
     refine .mk (0) (b.D) (rfl) (rfl) ?_;conv=>whnf
     conv=>whnf
     refine .mk (0) (b.D) (rfl) (rfl) ?_;conv=>whnf
     conv=>whnf
     refine .c (lx_rmul (.c (bb.mono (by omega))) (.c hcz)) ?_;conv=>whnf
     refine Cn.o [5] (lx_put (l:=o) (v:=b.v) (by omega) (bz.mono (by omega))) ?_;conv=>whnf
     refine .mk (by kernel_rfl) ?_;conv=>whnf
     refine .mk 1 (ys.length+1) (ys.map Tm.D) rfl (by rw[lt];rfl) (by omega) (by rw[lt];omega) (by rw[List.take_of_length_le (by rw[lt];omega)];rfl) ?_;conv=>whnf
     have z1:=hz ⟨b.v,b.q*c⟩;exact⟨(o++nz1 ⟨b.v,b.q*c⟩,a::xs,ys),Wk.go,⟨by rw[List.append_assoc,←he,mrgT.eq_4,if_neg h1',if_pos h2'],hx,fun t ht=>hy t (by simp[ht]),by simp only[List.length_append,List.length_cons]at *;omega⟩,by simp only[List.length_cons];omega⟩
    ·conv=>whnf
     refine .mk (by kernel_rfl) ?_;conv=>whnf
     have h2':¬b.v<a.v:=by simpa using h2
     refine .mk (0) (a.D) (rfl) (rfl) ?_;conv=>whnf
     conv=>whnf
     refine .mk (0) (a.D) (rfl) (rfl) ?_;conv=>whnf
     conv=>whnf
     refine .mk (0) (b.D) (rfl) (rfl) ?_;conv=>whnf
     conv=>whnf
     refine .c (lx_rmul (.c (bb.mono (by omega))) (.c hcz)) ?_;conv=>whnf
     refine .c (lx_radd (.c (ab.mono (by omega))) (.c (bz.mono (by omega)))) ?_;conv=>whnf
     refine Cn.o [5] (lx_put (l:=o) (v:=a.v) (by omega) (az.mono (by omega))) ?_;conv=>whnf
     refine .mk (by kernel_rfl) ?_;conv=>whnf
     refine .mk 1 (xs.length+1) (xs.map Tm.D) rfl (by rw[lt];rfl) (by omega) (by rw[lt];omega) (by rw[List.take_of_length_le (by rw[lt];omega)];rfl) ?_;conv=>whnf
     refine .mk 1 (ys.length+1) (ys.map Tm.D) rfl (by rw[lt];rfl) (by omega) (by rw[lt];omega) (by rw[List.take_of_length_le (by rw[lt];omega)];rfl) ?_;conv=>whnf
     refine .mk (by kernel_rfl) ?_;conv=>whnf
     have z1:=hz ⟨a.v,a.q+b.q*c⟩;exact⟨(o++nz1 ⟨a.v,a.q+b.q*c⟩,xs,ys),Wk.go,⟨by rw[List.append_assoc,←he,mrgT.eq_4,if_neg h1',if_neg h2'],fun t ht=>hx t (by simp[ht]),fun t ht=>hy t (by simp[ht]),by simp only[List.length_append,List.length_cons]at *;omega⟩,by simp only[List.length_cons];omega⟩
theorem lx_nmake {xs:List Nat}:LV Tryz.prog 127 [.a (.d (.lm xs))] (.a (.d (.nat (val xs)))):=lv_of fun γ M w rs ha=>by
 obtain⟨r,rfl,k⟩:=all2_1 ha;exact Calls.ret (make_any _ _ _ (rd_sl k)) fun _ _ h=>h
theorem lx_copied {q:Rat}:LV Tryz.prog 81 [ratV q] (ratV q):=by
 refine LX_run (m:=0) (n0:=0) mix Tryz.func81 rfl rfl rfl rfl ?_;conv=>whnf
 repeat' first|(refine bs (fun h=> ?_) (fun h=> ?_)<;>conv=>whnf)|(refine Nc.mk (by kernel_rfl) ?_;conv=>whnf)|(refine .c (lx_nmake) ?_;conv=>whnf)
 all_goals exact .q ⟨by rw[val_limbs,val_limbs];simp only[ratV,h],rfl⟩
theorem cof_none {v:Int}:∀{ts:List Tm},(∀t∈ts,t.v≠v)→cof ts v=0
 |[],_=>rfl
 |t::ts,h=>by rw[cof,if_neg (h t (by simp)),cof_none fun u hu=>h u (by simp[hu]),Rat.zero_add]
theorem ratV0:V.agg [A.d (.lit (.bool false)),.d (.lm (limbs 0)),.d (.lm (limbs 0))]=ratV 0:=rat0V
theorem pl_coef {f:Af}{n v:Int}{k:Nat}(h:FB k n f)(h0:0≤n)(hn:n≤100000):LV Tryz.prog 39 [.agg f.A,vl (.int .i64 v)] (ratV (cof f.ts v)):=by
 have hlf:=h.ts.len h0;refine LX_run (m:=0) (n0:=0) mix Tryz.func39 rfl rfl rfl rfl ?_;conv=>whnf
 refine .mk Nat (fun i=>⟨[(10,vl (.int .i64 i)),(9,vl (.int .i64 (f.ts.map Tm.D).length)),(8,.a (.d (.sl 4 (f.ts.map Tm.D)))),(4,.a (.ptr 1 0)),(1,vl (.int .i64 v))],[(1,.box 30 [.d (.lit (.bool false)),.d (.nat 0),.d (.nat 0)])],2⟩)
  (fun i=>i≤f.ts.length∧∀j t,j<i→f.ts[j]? =some t→t.v≠v) (fun i=>f.ts.length-i) 0 Wk.go ⟨zL_ _,by intro j t h;omega⟩ fun i hi=> ?_
 obtain⟨hi,hall⟩:=hi;conv=>whnf
 refine bs (fun h1=> ?_) (fun h1=> ?_)
 ·conv=>whnf
  have h1':i<f.ts.length:=by simpa using h1
  obtain⟨t,ht⟩:=at_some h1';refine .mk (i) (t.D) (rfl) (at_map ht) ?_;conv=>whnf
  conv=>whnf
  refine bs (fun h2=> ?_) (fun h2=> ?_)
  ·conv=>whnf
   have h2':t.v=v:=by simpa using h2
   refine .c (lx_copied) ?_;conv=>whnf
   exact .q ⟨by rw[←h2',(h.ts.cof_mem t (mG_ ht)).1],rfl⟩
  ·conv=>whnf
   have h2':¬t.v=v:=by simpa using h2
   refine⟨i+1,Wk.go,⟨h1',fun j u hj hu=> ?_⟩,by omega⟩;rcases Nat.lt_succ_iff_lt_or_eq.1 hj with h3|h3
   ·exact hall j u h3 hu
   ·subst h3;rw[ht]at hu;injection hu with hu;rw[←hu];exact h2'
 ·conv=>whnf
  have e:cof f.ts v=0:=cof_none fun t ht=>by
   obtain⟨j,hj⟩:=List.mem_iff_getElem?.1 ht;have:=at_lt hj;exact hall j t (by simp at h1;omega) hj
  exact .q ⟨by rw[e];exact ratV0,rfl⟩
theorem lx_rofm:LV Tryz.prog 29 [vl (.int .i64 (-1))] (ratV m1):=lx_rof (z:= -1) (by decide) (by decide)
theorem lx_rofp:LV Tryz.prog 29 [vl (.int .i64 1)] (ratV q1):=lx_rof (z:=1) (by decide) (by decide)
theorem scale_one {n:Int}{k:Nat}{f:Af}(h:FB k n f):scaleS f q1=f:=
 Af.ext' (n:=n) (n':=n) (ok_scale _ h.ts) h.ts (fun w=>by rw[scaleS,cof_scale];exact Rat.mul_one _) (Rat.mul_one _)
theorem add_zeroL {n:Int}{k:Nat}{f:Af}(h:FB k n f):addS (numS 0) f=f:=
 Af.ext' (n:=n) (n':=n) (ok_fold (fun t ht=>let q:=h.tm t ht;⟨q.1,q.2.1⟩) trivial) h.ts (fun w=>by rw[addS,cof_fold];exact Rat.zero_add _) (Rat.zero_add _)
theorem pl_add {f g:Af}{n:Int}{k l:Nat}(h:FB k n f)(h':FB l n g)(h0:0≤n)(hn:n≤100000)(hk:k+l+1≤1000000000):LV Tryz.prog 124 [.agg f.A,.agg g.A] (.agg (addS f g).A):=by
 refine LX_run (m:=0) (n0:=0) mix Tryz.func124 rfl rfl rfl rfl ?_;conv=>whnf
 refine .c (lx_rofp) ?_;conv=>whnf
 refine .c (pl_merge (c:=q1) h h' q1_b h0 hn (by omega)) ?_;conv=>whnf
 refine .mk (by kernel_rfl) ?_;conv=>whnf
 exact .q ⟨by rw[scale_one h'],rfl⟩
theorem pl_sub {f g:Af}{n:Int}{k l:Nat}(h:FB k n f)(h':FB l n g)(h0:0≤n)(hn:n≤100000)(hk:k+l+1≤1000000000):LV Tryz.prog 36 [.agg f.A,.agg g.A] (.agg (subS f g).A):=by
 refine LX_run (m:=0) (n0:=0) mix Tryz.func36 rfl rfl rfl rfl ?_;conv=>whnf
 refine .c (lx_rofm) ?_;conv=>whnf
 refine .c (pl_merge (c:=m1) h h' m1_b h0 hn (by omega)) ?_;conv=>whnf
 refine .mk (by kernel_rfl) ?_;conv=>whnf
 exact .q ⟨rfl,rfl⟩
theorem nil_A:All2 WkV [V.agg [A.d (.lit (.slice none 0 0)),.d (.lit (.bool false)),.d (.nat 0),.d (.nat 0)]] [V.agg (numS 0).A]:=⟨WkV.agg (by rw[numS0_A];exact⟨WkA.nil,aR_ _,aR_ _,aR_ _,trivial⟩),trivial⟩
theorem pl_scale {f:Af}{n:Int}{c:Rat}{k m:Nat}(h:FB k n f)(hc:Bt m c)(h0:0≤n)(hn:n≤100000)(hk:k+m+1≤1000000000):LV Tryz.prog 38 [.agg f.A,.agg (can c).A] (.agg (scaleS f c).A):=by
 refine LX_run (m:=0) (n0:=0) mix Tryz.func38 rfl rfl rfl rfl ?_;conv=>whnf
 refine Cn.as (pl_merge (FB.num (n:=n) (bt0 0)) h hc h0 hn (by omega)) rfl ⟨nil_A.1,vR_ _,vR_ _,trivial⟩ rfl rfl ?_;conv=>whnf
 exact .q ⟨by rw[add_zeroL (h.scale hc)],rfl⟩
def without (ts:List Tm)(v:Int):List Tm:=ts.filter fun t=> !(t.v==v)
theorem cof_without (v w:Int):∀ts:List Tm,cof (without ts v) w=if w=v then 0 else cof ts w
 |[]=>by simp[without,cof]
 |t::ts=>by
  have ih:=cof_without v w ts;unfold without at ih ⊢;rw[List.filter_cons]
  by_cases h:t.v=v
  ·rw[if_neg (by simp[h]),ih];split
   ·rfl
   ·rename_i hw;rw[cof,if_neg (by rw[h];exact fun e=>hw e.symm),Rat.zero_add]
  ·rw[if_pos (by simp[h]),cof,ih,cof]
   by_cases hw:w=v
   ·rw[if_pos hw,if_pos hw,if_neg (fun e=>h (e.trans hw)),Rat.zero_add]
   ·rw[if_neg hw,if_neg hw]
theorem TsOk.without {n v:Int}:∀{ts:List Tm} {lo:Int},TsOk n lo ts→TsOk n lo (Lf.without ts v)
 |[],_,_=>trivial
 |t::ts,lo,h=>by
  unfold Lf.without;rw[List.filter_cons];have ih:=TsOk.without (v:=v) h.2.2.2;split
  ·exact⟨h.1,h.2.1,h.2.2.1,ih⟩
  ·exact ih.lo (by have:=h.1;omega)
def restS (f:Af)(v:Int):Af:=⟨without f.ts v,f.c⟩
theorem FB.rest {k:Nat}{n:Int}{f:Af}(h:FB k n f)(v:Int):FB k n (restS f v):=⟨h.ts.without,fun w=>by
 rw[restS,cof_without];split
 ·exact bt0 k
 ·exact h.co w,h.c⟩
def substS (f:Af)(v:Int)(g:Af):Af:=addS (restS f v) (scaleS g (cof f.ts v))
theorem take_filter {ts:List Tm}{i:Nat}{t:Tm}(h:ts[i]? =some t)(v:Int):without (ts.take (i+1)) v=without (ts.take i) v++if t.v=v then []else [t]:=by
 rw[take_snoc h];unfold without;rw[List.filter_append,List.filter_cons]
 by_cases e:t.v=v<;>simp[e]
theorem cof_take {n lo:Int}{ts:List Tm}(h:TsOk n lo ts){i:Nat}{t:Tm}(ht:ts[i]? =some t)(v:Int):cof (ts.take (i+1)) v=if t.v=v then t.q else cof (ts.take i) v:=by
 have h2:=h.take (i+1);split
 ·rename_i e;have hm:t∈ts.take (i+1):=by rw[take_snoc ht];simp
  rw[←e,(h2.cof_mem t hm).1]
 ·rename_i e;rw[take_snoc ht,cof_app,cof,cof,if_neg e,Rat.add_zero,Rat.add_zero]
theorem pl_subst {f g:Af}{n v:Int}{k l:Nat}(h:FB k n f)(h':FB l n g)(h0:0≤n)(hn:n≤100000)(hk:k+l+k+1≤1000000000):LV Tryz.prog 293 [.agg f.A,vl (.int .i64 v),.agg g.A] (.agg (substS f v g).A):=by
 have hlf:=h.ts.len h0;have hwl:∀i,(without (f.ts.take i) v).length≤i:=fun i=>tL_ (List.length_filter_le _ _) (List.length_take_le _ _);have hlast:addS (restS f v) (scaleS g (cof f.ts v))=substS f v g:=rfl;refine LX_run (m:=0) (n0:=0) mix Tryz.func293 rfl rfl rfl rfl ?_;conv=>whnf
 refine .mk Nat (fun i=>⟨[(18,vl (.int .i64 i)),(17,vl (.int .i64 (f.ts.map Tm.D).length)),(16,.a (.d (.sl 4 (f.ts.map Tm.D)))),(8,.a (.ptr 4 0)),(7,.a (.ptr 3 0)),(6,.a (.ptr 2 0)),(5,.a (.ptr 1 0)),(1,vl (.int .i64 v))],
  [(1,.box 32 g.A),(2,.box 32 [.d (.lit (.slice none 0 0)),.d (.lit (.bool false)),.d (.nat 0),.d (.nat 0)]),(3,.box 32 (.own 5 4 ((without (f.ts.take i) v).map Tm.D)::(can f.c).A)),(4,.box 30 (can (cof (f.ts.take i) v)).A),(5,.arr 79 4 ((without (f.ts.take i) v).map Tm.D).length)],6⟩)
  (fun i=>i≤f.ts.length) (fun i=>f.ts.length-i) 0
  (Wk.trans (Wk.ownB 3 5 0 79 4 rfl rfl rfl) (by rw[show cof (f.ts.take 0) v=0 from rfl,can0];exact Wk.go)) (zL_ _) fun i hi=> ?_
 have hw:=hwl i;conv=>whnf
 refine bs (fun h1=> ?_) (fun h1=> ?_)
 ·conv=>whnf
  have h1':i<f.ts.length:=by simpa using h1
  obtain⟨t,ht⟩:=at_some h1';have tf:=take_filter ht v;have tc:=cof_take h.ts ht v;refine .mk (i) (t.D) (rfl) (at_map ht) ?_;conv=>whnf
  conv=>whnf
  refine bs (fun h2=> ?_) (fun h2=> ?_)
  ·conv=>whnf
   have h2':t.v=v:=by simpa using h2
   rw[if_pos h2',List.append_nil]at tf;rw[if_pos h2']at tc;exact⟨i+1,by rw[tf,tc];exact Wk.go,h1',by omega⟩
  ·conv=>whnf
   have h2':¬t.v=v:=by simpa using h2
   rw[if_neg h2']at tf tc;refine .mk ((without (f.ts.take i) v++[t]).map Tm.D) rfl (by rw[List.map_append];rfl) (by simp;omega) ?_;conv=>whnf
   exact⟨i+1,by rw[tf,tc];exact Wk.go,h1',by omega⟩
 ·conv=>whnf
  have e:i=f.ts.length:=by simp at h1;omega
  subst e;rw[List.take_length];refine .c (pl_merge (f:=restS f v) (h.rest v) h' (h.co v) h0 hn (by omega)) ?_;conv=>whnf
  exact .q ⟨rfl,rfl⟩
theorem pl_var {v:Int}:LV Tryz.prog 229 [vl (.int .i64 v)] (.agg (varS v).A):=by
 refine LX_run (m:=0) (n0:=0) mix Tryz.func229 rfl rfl rfl rfl ?_;conv=>whnf
 refine .c (lx_rofp) ?_;conv=>whnf
 exact .s ⟨by show _=V.agg (A.d _::(can 0).A);rw[can0];rfl,rfl⟩
theorem pl_num {q:Rat}(h:Sz q):LV Tryz.prog 230 [.agg (can q).A] (.agg (numS q).A):=by
 refine LX_run (m:=0) (n0:=0) mix Tryz.func230 rfl rfl rfl rfl ?_;conv=>whnf
 refine .c (lx_rcanon (.c h)) ?_;conv=>whnf
 exact .mk _ [] ⟨rfl,rfl⟩ (WkV.agg ⟨WkA.nil,aR_ _,aR_ _,aR_ _,trivial⟩) rfl trivial rfl
theorem pl_minus {f:Af}{n:Int}{k:Nat}(h:FB k n f)(h0:0≤n)(hn:n≤100000)(hk:k+1≤1000000000):LV Tryz.prog 231 [.agg f.A] (.agg (scaleS f m1).A):=by
 refine LX_run (m:=0) (n0:=0) mix Tryz.func231 rfl rfl rfl rfl ?_;conv=>whnf
 refine .c (lx_rofm) ?_;conv=>whnf
 refine .c (pl_scale h m1_b h0 hn (by omega)) ?_;conv=>whnf
 refine .mk (by kernel_rfl) ?_;conv=>whnf
 exact .q ⟨rfl,rfl⟩
theorem pl_plain {k i:Int}:LV Tryz.prog 228 [.agg (Ro.A ⟨k,i,0,0⟩)] (vl (.bool true)):=by
 refine LX_run (m:=0) (n0:=0) mix Tryz.func228 rfl rfl rfl rfl ?_;conv=>whnf
 exact .q ⟨rfl,rfl⟩
theorem pl_lemma {s:Sp}{n u:Int}{up:Bool}(hs:SpOk s)(hn: -1000000≤n∧n≤2000000):
  LV Tryz.prog 232 [.agg s.A,vl (.int .i64 n),vl (.int .i64 u),vl (.bool up)] (.tup [.g (can (lmV s n u up)).A,.s (.d (.lit (.bool (lmOk s n u up))))]):=by
 have hl:=hs.ll
 by_cases h1:1≤n∧n≤s.ls.length
 ·have ha:=atL_some (z:=n) (ls:=s.ls) (by omega) h1.2;have hsm:=atL_sm hs.ln n;have hz:IntKind.i64.wrap (n-1)=((n-1).toNat:Int):=by rw[wr64 (by omega) (by omega)];omega
  have hV:lmV s n u up=bif lmOk s n u up then(atL s.ls n).v.q else 0:=rfl
  have hO:lmOk s n u up=(decide ((atL s.ls n).u=u)&&((atL s.ls n).up==up)):=by simp[lmOk,h1.1,h1.2]
  generalize atL s.ls n=m at *
  obtain⟨mu,mup,mv,mp⟩:=m;simp only at hO hV hsm
  have hF:lmOk s n u up=false→V.tup [.g [.d (.lit (.bool false)),.d (.lm (limbs 0)),.d (.lm (limbs 0))],.s (.d (.lit (.bool false)))]=V.tup [.g (can (lmV s n u up)).A,.s (.d (.lit (.bool (lmOk s n u up))))]:=fun e=>by
   rw[hV,e];show _=V.tup [.g (can 0).A,_];rw[can0]
  have hT:lmOk s n u up=true→V.tup [.g (can mv.q).A,.s (.d (.lit (.bool true)))]=V.tup [.g (can (lmV s n u up)).A,.s (.d (.lit (.bool (lmOk s n u up))))]:=fun e=>by
   rw[hV,e];rfl
  cases up<;>cases mup
  all_goals refine LX_run (m:=0) (n0:=0) mix Tryz.func232 rfl rfl rfl rfl ?_
            conv=>whnf
  all_goals refine bF (decide_eq_false (by omega)) ?_
            conv=>whnf
  all_goals refine bF (decide_eq_false (by simp;omega)) ?_
            conv=>whnf
  all_goals (repeat' first|(refine bs (fun h=> ?_) (fun h=> ?_)<;>conv=>whnf)|(refine Nc.mk (by kernel_rfl) ?_;conv=>whnf)|(refine .c (lx_rcanon hsm.rq) ?_;conv=>whnf)|(refine .mk (n-1).toNat (Lm.D ⟨mu,_,mv,mp⟩) hz (at_map ha) ?_;conv=>whnf))
  all_goals first
   |exact .q ⟨hT (by rw[hO];simp_all),rfl⟩
   |exact .q ⟨hF (by rw[hO];simp_all),rfl⟩
 ·have hO:lmOk s n u up=false:=by
   unfold lmOk
   by_cases h:n<1
   ·simp;omega
   ·simp;omega
  have hF:V.tup [.g [.d (.lit (.bool false)),.d (.lm (limbs 0)),.d (.lm (limbs 0))],.s (.d (.lit (.bool false)))]=V.tup [.g (can (lmV s n u up)).A,.s (.d (.lit (.bool (lmOk s n u up))))]:=by
   rw[lmV,hO];show _=V.tup [.g (can 0).A,_];rw[can0]
  refine LX_run (m:=0) (n0:=0) mix Tryz.func232 rfl rfl rfl rfl ?_;conv=>whnf
  refine bs (fun h2=> ?_) (fun h2=> ?_)
  ·conv=>whnf
   exact .q ⟨hF,rfl⟩
  ·conv=>whnf
   refine bT (decide_eq_true (by simp at h2 ⊢;omega)) ?_;conv=>whnf
   exact .q ⟨hF,rfl⟩
abbrev useA (s:Sp)(r:Ro)(v p:Af)(l u:Rat)(low top:Bool):List A:=s.A++r.A++v.A++p.A++(can l).A++(can u).A++[.d (.lit (.bool low)),.d (.lit (.bool top))]
theorem pl_on {s:Sp}{k i n:Int}{v p:Af}{l u:Rat}{top:Bool}(hn:1≤n)(hl:Sz l)(h0:0≤l):LV Tryz.prog 233 [.agg (useA s ⟨k,i,n,0⟩ v p l u true top)] (vl (.bool true)):=by
 refine LX_run (m:=0) (n0:=0) mix Tryz.func233 rfl rfl rfl rfl ?_;conv=>whnf
 refine bF (by simp;omega) ?_;conv=>whnf
 refine .c (lx_rsign (.c hl)) ?_;conv=>whnf
 refine bT (by have:= @sg_lt l;rw[decide_eq_false (Rat.not_lt.2 h0)]at this;simpa using this) ?_;conv=>whnf
 exact .q ⟨rfl,rfl⟩
theorem pl_off {s:Sp}{k i n:Int}{v p:Af}{l u:Rat}{low:Bool}(hn:1≤n)(hu:Sz u)(h0:u≤0):LV Tryz.prog 234 [.agg (useA s ⟨k,i,0,n⟩ v p l u low true)] (vl (.bool true)):=by
 refine LX_run (m:=0) (n0:=0) mix Tryz.func234 rfl rfl rfl rfl ?_;conv=>whnf
 refine bF (by simp;omega) ?_;conv=>whnf
 refine .c (lx_rsign (.c hu)) ?_;conv=>whnf
 refine bT (by have:= @sg_gt u;rw[decide_eq_false (Rat.not_lt.2 h0)]at this;simpa using this) ?_;conv=>whnf
 exact .q ⟨rfl,rfl⟩
def frmW (v:Int)(p:Af)(l u:Rat)(k:Int):Af:=
 if k=5 then varS v else if k=6 then subS (varS v) p else if k=8 then subS p (varS v)else if k=10 then scaleS (varS v) m1 else if k=11 then subS p (numS l)else if k=12 then subS (numS u) p
 else subS (scaleS (subS p (numS l)) u) (scaleS (varS v) (u-l))
structure RoW (s:Sp)(r:Ro):Prop where
 i0:0≤r.i
 i1:r.i<s.q.g.us.length
 l:0≤r.l∧r.l≤1000000
 h:0≤r.h∧r.h≤1000000
 k:(r.k=5∧r.l=0∧r.h=0)∨(r.k=6∧r.l=0∧r.h=0)∨(r.k=8∧1≤r.l∧lmOk s r.l r.i false=true∧0≤lmV s r.l r.i false∧r.h=0)∨(r.k=10∧r.l=0∧1≤r.h∧lmOk s r.h r.i true=true∧lmV s r.h r.i true≤0)
  ∨(r.k=11∧lmOk s r.l r.i false=true∧r.h=0)∨(r.k=12∧r.l=0∧lmOk s r.h r.i true=true)∨(r.k=13∧lmOk s r.l r.i false=true∧lmOk s r.h r.i true=true∧lmV s r.l r.i false<0∧0<lmV s r.h r.i true)
theorem frmW_b {v:Int}{p:Af}{l u:Rat}{n:Int}{B c:Nat}(k:Int)(h0:0≤v)(hv:v<n)(hp:FB c n p)(hl:Bt B l)(hu:Bt B u):FB (4*B+c+3) n (frmW v p l u k):=by
 unfold frmW
 repeat' split
 ·exact(FB.var h0 hv).up (by omega) (Int.le_refl _)
 ·exact((FB.var h0 hv).sub hp).up (by omega) (Int.le_refl _)
 ·exact(hp.sub (FB.var h0 hv)).up (by omega) (Int.le_refl _)
 ·exact((FB.var h0 hv).scale m1_b).up (by omega) (Int.le_refl _)
 ·exact(hp.sub (FB.num hl)).up (by omega) (Int.le_refl _)
 ·exact((FB.num hu).sub hp).up (by omega) (Int.le_refl _)
 ·exact(((hp.sub (FB.num hl)).scale hu).sub ((FB.var h0 hv).scale (hu.sub hl))).up (by omega) (Int.le_refl _)
theorem pl_unit {s:Sp}{r:Ro}{j:Nat}{p:Af}{B:Nat}(hs:SpOk s)(hr:RoW s r)(hj:r.i=j)(hp:s.q.g.us[j]? =some p)(hpf:FB 5 (s.q.g.n+s.q.g.us.length:Nat) p)
  (hl:Bt B (lmV s r.l r.i false)) (hu:Bt B (lmV s r.h r.i true)) (hB:4*B+8≤1000000000):
  LV Tryz.prog 215 [.agg s.A,.agg r.A] (.tup [.g (frmW (s.q.g.n+j:Nat) p (lmV s r.l r.i false) (lmV s r.h r.i true) r.k).A,.s (.d (.lit (.bool true)))]):=by
 obtain⟨rk,ri,rl,rh⟩:=r;obtain⟨i0,i1,hl1,hh1,hr⟩:=hr;simp only at hj hl hu hr i0 i1 hl1 hh1 ⊢;subst hj;have hjl:=at_lt hp;have hn2:=hs.q.g.n2;have hu1:=hs.q.g.u1;have hw:IntKind.i64.wrap ((s.q.g.n:Int)+(j:Int))=((s.q.g.n+j:Nat):Int):=by rw[wr64 (by omega) (by omega)];omega
 have fV:=FB.var (n:=((s.q.g.n+s.q.g.us.length:Nat):Int)) (v:=((s.q.g.n+j:Nat):Int)) (by omega) (by omega);have c1:=pl_lemma (n:=rl) (u:=(j:Int)) (up:=false) hs (by omega);have c2:=pl_lemma (n:=rh) (u:=(j:Int)) (up:=true) hs (by omega);show LV Tryz.prog _ [.agg s.A,.agg [.d (.lit (.int .i64 rk)),.d (.lit (.int .i64 j)),.d (.lit (.int .i64 rl)),.d (.lit (.int .i64 rh))]] _;have z1:rl=0→lmOk s rl j false=false:=fun h=>by rw[h];exact lmOk0 _ _ _
 have z2:rh=0→lmOk s rh j true=false:=fun h=>by rw[h];exact lmOk0 _ _ _
 generalize hlv:lmV s rl j false=l at *
 generalize huv:lmV s rh j true=u at *
 generalize lmOk s rl j false=ol at *
 generalize lmOk s rh j true=oh at *
 have lz:Sz l:=hl.mono (by omega);have uz:Sz u:=hu.mono (by omega);have start:LV Tryz.prog 215 [.agg s.A,.agg [.d (.lit (.int .i64 rk)),.d (.lit (.int .i64 j)),.d (.lit (.int .i64 rl)),.d (.lit (.int .i64 rh))]] (.tup [.g (frmW (s.q.g.n+j:Nat) p l u rk).A,.s (.d (.lit (.bool true)))]):=by
  rcases hr with⟨rfl,rfl,rfl⟩|⟨rfl,rfl,rfl⟩|⟨rfl,h1,rfl,h2,rfl⟩|⟨rfl,rfl,h1,rfl,h2⟩|⟨rfl,rfl,rfl⟩|⟨rfl,rfl,rfl⟩|⟨rfl,rfl,rfl,h1,h2⟩
  all_goals try obtain rfl:=z1 rfl
  all_goals try obtain rfl:=z2 rfl
  all_goals refine LX_run (m:=0) (n0:=0) mix Tryz.func215 rfl rfl rfl rfl ?_
            conv=>whnf
  all_goals refine bF (decide_eq_false (show ¬(j:Int)≥((s.q.g.us.map Af.D).length:Int) by rw[List.length_map];omega)) ?_
            conv=>whnf
  all_goals rw[hw]
  all_goals refine .c (pl_var) ?_
            conv=>whnf
  all_goals refine .mk j p.D (by rfl) (at_map hp) ?_
  all_goals conv=>whnf
  all_goals refine .mk (by kernel_rfl) ?_
            conv=>whnf
  all_goals repeat' first|(refine bs (fun h=> ?_) (fun h=> ?_)<;>conv=>whnf)|(refine Nc.mk (by kernel_rfl) ?_;conv=>whnf)|(refine .c (c1) ?_;conv=>whnf)|(refine .c (c2) ?_;conv=>whnf)
  ·refine .c (pl_plain) ?_;conv=>whnf
   exact .q ⟨rfl,rfl⟩
  ·refine .c (pl_plain) ?_;conv=>whnf
   refine .c (pl_sub fV hpf (by omega) (by omega) (by omega)) ?_;conv=>whnf
   exact .q ⟨rfl,rfl⟩
  ·refine .c (pl_on h1 lz h2) ?_;conv=>whnf
   refine .c (pl_sub hpf fV (by omega) (by omega) (by omega)) ?_;conv=>whnf
   exact .q ⟨rfl,rfl⟩
  ·refine .c (pl_off h1 uz h2) ?_;conv=>whnf
   refine .c (pl_minus fV (by omega) (by omega) (by omega)) ?_;conv=>whnf
   exact .q ⟨rfl,rfl⟩
  ·refine .c (pl_num lz) ?_;conv=>whnf
   refine .c (pl_sub hpf (FB.num hl) (by omega) (by omega) (by omega)) ?_;conv=>whnf
   refine .mk (by kernel_rfl) ?_;conv=>whnf
   exact .q ⟨rfl,rfl⟩
  ·refine .c (pl_num uz) ?_;conv=>whnf
   refine .c (pl_sub (FB.num hu) hpf (by omega) (by omega) (by omega)) ?_;conv=>whnf
   refine .mk (by kernel_rfl) ?_;conv=>whnf
   exact .q ⟨rfl,rfl⟩
  ·refine .c (lx_rsign (.c lz)) ?_;conv=>whnf
   refine bT (by rw[sg_lt];exact decide_eq_true h1) ?_;conv=>whnf
   refine .c (lx_rsign (.c uz)) ?_;conv=>whnf
   refine bT (by rw[sg_gt];exact decide_eq_true h2) ?_;conv=>whnf
   refine .c (pl_num lz) ?_;conv=>whnf
   refine .c (pl_sub hpf (FB.num hl) (by omega) (by omega) (by omega)) ?_;conv=>whnf
   refine .c (pl_scale (hpf.sub (FB.num hl)) hu (by omega) (by omega) (by omega)) ?_;conv=>whnf
   refine .mk (by kernel_rfl) ?_;conv=>whnf
   refine .c (lx_rsub (.c uz) (.c lz)) ?_;conv=>whnf
   refine .c (pl_scale fV (hu.sub hl) (by omega) (by omega) (by omega)) ?_;conv=>whnf
   refine .c (pl_sub ((hpf.sub (FB.num hl)).scale hu) (fV.scale (hu.sub hl)) (by omega) (by omega) (by omega)) ?_;conv=>whnf
   refine .mk (by kernel_rfl) ?_;conv=>whnf
   exact .q ⟨rfl,rfl⟩
 exact start
def frmI (s:Sp)(r:Ro):Af:=if r.k=1 then subS (varS r.i) (numS (atQ s.q.r.lo r.i))else subS (numS (atQ s.q.r.hi r.i)) (varS r.i)
def frm (s:Sp)(r:Ro):Af:=if r.k=1∨r.k=2 then frmI s r else frmW (s.q.g.n+r.i.toNat:Nat) (atF s.q.g.us r.i) (lmV s r.l r.i false) (lmV s r.h r.i true) r.k
def RoA (s:Sp)(r:Ro):Prop:=RoI s r∨RoW s r
theorem RoW.nk {s:Sp}{r:Ro}(h:RoW s r):5≤r.k∧r.k≤13:=by have:=h.k;omega
theorem atF_some {l:List Af}{i:Int}(h0:0≤i)(h1:i<l.length):l[i.toNat]? =some (atF l i):=by
 obtain⟨p,hp⟩:=at_some (l:=l) (i:=i.toNat) (by omega);rw[atF,hp];rfl
theorem atQ_some {l:List Rat}{i:Int}(h0:0≤i)(h1:i<l.length):l[i.toNat]? =some (atQ l i):=by
 obtain⟨p,hp⟩:=at_some (l:=l) (i:=i.toNat) (by omega);rw[atQ,hp];rfl
theorem pl_input {s:Sp}{r:Ro}(hs:SpOk s)(hq:QuB s.q)(hr:RoI s r):LV Tryz.prog 214 [.agg s.A,.agg r.A] (.tup [.g (frmI s r).A,.s (.d (.lit (.bool true)))]):=by
 obtain⟨rk,ri,rl,rh⟩:=r;obtain⟨h1,h2,h3,h4,h5⟩:=hr;simp only at h1 h2 h3 h4 h5;subst h4 h5;have hn2:=hs.q.g.n2;have hu1:=hs.q.g.u1;have hv:=FB.var (n:=((s.q.g.n+s.q.g.us.length:Nat):Int)) (v:=ri) h2 (by omega);have hlo:=hq.r.lo;have hhi:=hq.r.hi;have hx:=atQ_some (l:=s.q.r.lo) h2 (by omega);have hy:=atQ_some (l:=s.q.r.hi) h2 (by omega);have fx:=hq.r.sl _ (mG_ hx);have fy:=hq.r.sh _ (mG_ hy);show LV Tryz.prog _ [.agg s.A,.agg [.d (.lit (.int .i64 rk)),.d (.lit (.int .i64 ri)),.d (.lit (.int .i64 0)),.d (.lit (.int .i64 0))]] _;unfold frmI;simp only;generalize atQ s.q.r.lo ri=x at *
 generalize atQ s.q.r.hi ri=y at *
 rcases h1 with rfl|rfl
 all_goals refine LX_run (m:=0) (n0:=0) mix Tryz.func214 rfl rfl rfl rfl ?_
           conv=>whnf
 all_goals refine .mk (by kernel_rfl) ?_
           conv=>whnf
 all_goals refine .c (pl_plain) ?_
           conv=>whnf
 all_goals refine bF (decide_eq_false (by omega)) ?_
           conv=>whnf
 ·refine bT (decide_eq_true (by rw[List.length_map];omega)) ?_;conv=>whnf
  refine .c (pl_var) ?_;conv=>whnf
  refine .mk (ri.toNat) ((can x).D) (by omega) (at_map (f:=fun q=>(can q).D) hx) ?_;conv=>whnf
  conv=>whnf
  refine .c (pl_num (fx.mono (by decide))) ?_;conv=>whnf
  refine .c (pl_sub hv (FB.num fx) (by omega) (by omega) (by omega)) ?_;conv=>whnf
  refine .mk (by kernel_rfl) ?_;conv=>whnf
  exact .q ⟨rfl,rfl⟩
 ·refine bT (decide_eq_true (by rw[List.length_map];omega)) ?_;conv=>whnf
  refine .mk (ri.toNat) ((can y).D) (by omega) (at_map (f:=fun q=>(can q).D) hy) ?_;conv=>whnf
  conv=>whnf
  refine .c (pl_num (fy.mono (by decide))) ?_;conv=>whnf
  refine .c (pl_var) ?_;conv=>whnf
  refine .c (pl_sub (FB.num fy) hv (by omega) (by omega) (by omega)) ?_;conv=>whnf
  exact .q ⟨rfl,rfl⟩
theorem pl_form {s:Sp}{r:Ro}{B:Nat}(hs:SpOk s)(hq:QuB s.q)(hr:RoA s r)(hl:Bt B (lmV s r.l r.i false))(hu:Bt B (lmV s r.h r.i true))(hB:4*B+8≤1000000000):
  LV Tryz.prog 201 [.agg s.A,.agg r.A] (.tup [.g (frm s r).A,.s (.d (.lit (.bool true)))]):=by
 rcases hr with h|h
 ·have c:=pl_input hs hq h;have e:frm s r=frmI s r:=by rw[frm,if_pos h.1]
  rw[e];obtain⟨rk,ri,rl,rh⟩:=r;have h1:=h.1;simp only at h1;show LV Tryz.prog _ [.agg s.A,.agg [.d (.lit (.int .i64 rk)),.d (.lit (.int .i64 ri)),.d (.lit (.int .i64 rl)),.d (.lit (.int .i64 rh))]] _;rcases h1 with rfl|rfl
  all_goals refine LX_run (m:=0) (n0:=0) mix Tryz.func201 rfl rfl rfl rfl ?_
            conv=>whnf
  all_goals refine .c (lx_quvalid hs.q) ?_
            conv=>whnf
  all_goals refine .c (c) ?_
            conv=>whnf
  all_goals refine .mk (by kernel_rfl) ?_
            conv=>whnf
  all_goals exact .q ⟨rfl,rfl⟩
 ·have i0:=h.i0;have i1:=h.i1;have hp:=atF_some (l:=s.q.g.us) i0 i1;have c:=pl_unit hs h (j:=r.i.toNat) (by omega) hp ((hq.g.us _ _ hp).up (lR_ _) (by omega)) hl hu hB;have hk:=h.nk;have e:frm s r=frmW (s.q.g.n+r.i.toNat:Nat) (atF s.q.g.us r.i) (lmV s r.l r.i false) (lmV s r.h r.i true) r.k:=by rw[frm,if_neg (by omega)]
  rw[←e]at c;have hk':r.k=5∨r.k=6∨r.k=7∨r.k=8∨r.k=9∨r.k=10∨r.k=11∨r.k=12∨r.k=13:=by omega
  obtain⟨rk,ri,rl,rh⟩:=r;simp only at hk';show LV Tryz.prog _ [.agg s.A,.agg [.d (.lit (.int .i64 rk)),.d (.lit (.int .i64 ri)),.d (.lit (.int .i64 rl)),.d (.lit (.int .i64 rh))]] _;rcases hk' with rfl|rfl|rfl|rfl|rfl|rfl|rfl|rfl|rfl
  all_goals refine LX_run (m:=0) (n0:=0) mix Tryz.func201 rfl rfl rfl rfl ?_
            conv=>whnf
  all_goals refine .c (lx_quvalid hs.q) ?_
            conv=>whnf
  all_goals refine .c (c) ?_
            conv=>whnf
  all_goals refine .mk (by kernel_rfl) ?_
            conv=>whnf
  all_goals exact .q ⟨rfl,rfl⟩
end Go.Proofs.YthdoopaenanibaaGreatDoor.Lf
