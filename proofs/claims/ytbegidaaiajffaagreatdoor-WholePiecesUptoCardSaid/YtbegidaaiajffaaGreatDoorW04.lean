/- Texts LvB LvC LvD LvE LvF LfR LgD LgA LgB LgC LgE LgF LgG LgH LgK LgL LgM LgN LgO LgP LgQ LgS LgT LgU LgV LgW LgX LmA LmB LqA LrA LrB LrC LqB LqC LqD LqE LqF LqG of this proof, in this order. -/
import Derived.Test.YtbegidaaiajffaaGreatDoorW02
import Derived.Test.YtbegidaaiajffaaGreatDoorW03
import Derived.KernelRfl
import Derived.Maps.Views
set_option linter.unusedVariables false
set_option linter.unusedSimpArgs false
set_option maxRecDepth 100000
set_option maxHeartbeats 4000000
namespace Go.Proofs.YtbegidaaiajffaaGreatDoor.Lf
open Go.RowKit Nt
abbrev nx (xs:List Nat):V:= .a (.d (.lm xs))
abbrev bx (b:Bool):V:= .a (.d (.lit (.bool b)))
abbrev u1 (xs:List Nat):D:= .sl 1 (xs.map fun x=>[.lit (.int .u32 (x:Nat))])
theorem lm_u1 {xs:List Nat}:WkA (.d (.lm xs)) (.d (u1 xs)):=fun γ h M w r k=>by
 cases k with
 |lm _ _ hs hm=>
  obtain⟨ad,n,cap,rfl,h1,h2,h3,h4,h5⟩:=hs;subst h1;have q:RdD M w (u1 xs) (.slice ad (xs.map fun x=>[D.lit (.int .u32 (x:Nat))]).length cap):=by
   refine RdD.sl 1 _ ad cap (fun i _=> .int .u32 ((xs.getD i 0:Nat):Int)) (by simpa using h2) (by simpa using h3) (fun h0=> ?_) ?_ (fun _ _=>rfl) ?_
   ·obtain⟨b,o,rfl,hb,hc⟩:=h5 (by simpa using h0);refine⟨b,o,rfl,fun i row j d hi hj=> ?_⟩;rw[List.getElem?_map]at hi;obtain⟨x,hx,rfl⟩:=Option.map_eq_some_iff.1 hi;have hl:=(List.getElem?_eq_some_iff.1 hx).1;have hj0:j=0:=by
     have:=(List.getElem?_eq_some_iff.1 hj).1;simpa using this
    subst hj0;rw[Nat.mul_one,Nat.add_zero];exact⟨hm b o _ _ rfl i hl,hc i hl⟩
   ·intro i row hi;rw[List.getElem?_map]at hi;obtain⟨x,hx,rfl⟩:=Option.map_eq_some_iff.1 hi;rfl
   ·intro i row j d hi hj;rw[List.getElem?_map]at hi;obtain⟨x,hx,rfl⟩:=Option.map_eq_some_iff.1 hi;have hj0:j=0:=by
     have:=(List.getElem?_eq_some_iff.1 hj).1;simpa using this
    subst hj0;injection hj with hj;subst hj;rw[show xs.getD i 0=x by rw[List.getD_eq_getElem?_getD,hx];rfl];exact .lit _
  rw[List.length_map]at q;exact q
theorem u1_lm {xs:List Nat}(hl:lims xs):WkA (.d (u1 xs)) (.d (.lm xs)):=fun γ h M w r k=>by
 generalize e:u1 xs=d at k
 cases k with
 |lit v=>cases e
 |lm _ _ _ _=>cases e
 |sl k rows ad cap vs hc hll h0 hk h1 hr=>
  injection e with e1 e2;subst e1 e2;have hlen:(xs.map fun x=>[D.lit (.int .u32 (x:Nat))]).length=xs.length:=by simp
  rw[hlen]at hc hll h0;show RdD M w (.lm xs) _;rw[hlen]
  have hv:∀i,i<xs.length→vs i 0= .int .u32 ((xs.getD i 0:Nat):Int):=fun i hi=>by
   have:=hr i [D.lit (.int .u32 (xs[i]:Nat))] 0 _ (by rw[List.getElem?_map,List.getElem?_eq_getElem hi];rfl) rfl;rw[lit_inv this,List.getD_eq_getElem?_getD,List.getElem?_eq_getElem hi];rfl
  refine .lm xs _ ⟨ad,_,cap,rfl,rfl,hc,hll,hl,fun hp=> ?_⟩ fun b o l c ev i hi hm=> ?_
  ·obtain⟨b,o,rfl,hcell⟩:=h0 hp;refine⟨b,o,rfl,?_,fun i hi=> ?_⟩
   ·exact World.block_lt_of_cell? _ _ (hcell 0 [D.lit (.int .u32 (xs[0]:Nat))] 0 _ (by rw[List.getElem?_map,List.getElem?_eq_getElem hp];rfl) rfl).2
   ·have:=(hcell i [D.lit (.int .u32 (xs[i]:Nat))] 0 _ (by rw[List.getElem?_map,List.getElem?_eq_getElem hi];rfl) rfl).2;rw[Nat.mul_one,Nat.add_zero,hv i hi]at this;exact this
  ·injection ev with e1 e2 e3;subst e2 e3;obtain⟨b',o',e4,hcell⟩:=h0 (by omega);rw[e4]at e1;injection e1 with e1;injection e1 with e5 e6;subst e5 e6;have:=(hcell i [D.lit (.int .u32 (xs[i]:Nat))] 0 _ (by rw[List.getElem?_map,List.getElem?_eq_getElem hi];rfl) rfl).1;rw[Nat.mul_one,Nat.add_zero]at this;exact this hm
theorem wk_nil:WkA (.d (.lit (.slice none 0 0))) (.d (.nat 0)):=fun _ _ _ _ _ q=>by rw[lit_inv q];exact nat0_ok
theorem LV.no {P:Program}{F:FuncId}{args:List V}{v:V}(h:∀γ M w rs,¬All2 (RdV γ (look []) M w) args rs):LV P F args v:=⟨_,_,⟨rfl,rfl⟩,fun γ M w rs hr ha=>absurd ha (h γ M w rs)⟩
theorem Val.ov {u r:Value}{w:World}(k:Val u w r):OV w (vl u) r:=k
section
variable {xs ys:List Nat} {a b:Nat}
theorem num_ov {n:Nat}{w:World}{v:Value}(h:Num n w v):OV w (.a (.d (.nat n))) v:=h
theorem numE_ov {n:Nat}{e:Int}{w:World}{v:Value}(h:NumE n e w v):OV w (.tup [.s (.d (.nat n)),.s (.d (.lit (.int .i64 e)))]) v:=by
 obtain⟨x,rfl,q⟩:=h;exact⟨[x,_],rfl,q,rfl,trivial⟩
theorem num2E_ov {n m:Nat}{e:Int}{w:World}{v:Value}(h:Num2E n m e w v):OV w (.tup [.s (.d (.nat n)),.s (.d (.nat m)),.s (.d (.lit (.int .i64 e)))]) v:=by
 obtain⟨x,y,rfl,q,q2⟩:=h;exact⟨[x,y,_],rfl,q,q2,rfl,trivial⟩
theorem ln_make (e:val xs=a):LV Tryz.prog 179 [nx xs] (nx (limbs a)):=e▸lv_of fun γ M w rs ha=>by
 obtain⟨r,rfl,k⟩:=all2_1 ha;exact Calls.ret (make_any _ _ w (rd_sl k)) fun _ _=>num_ov
theorem lr_make (e:val xs=a):LV Tryz.prog 144 [nx xs] (nx (limbs a)):=e▸lv_of fun γ M w rs ha=>by
 obtain⟨r,rfl,k⟩:=all2_1 ha;exact Calls.ret (rmake_any _ _ w (rd_sl k)) fun _ _=>num_ov
theorem ln_bits (h:xs.length≤4294967296)(e:val xs=a):LV Tryz.prog 135 [nx xs] (vl (.int .i64 (blen a:Nat))):=e▸lv_of fun γ M w rs ha=>by
 obtain⟨r,rfl,k⟩:=all2_1 ha;exact Calls.ret (bits_any _ _ w (rd_sl k) (by omega)) fun _ _=>Val.ov
theorem ln_valid:LV Tryz.prog 164 [nx xs] (vl (.bool (canon xs))):=lv_of fun γ M w rs ha=>by
 obtain⟨r,rfl,k⟩:=all2_1 ha;exact Calls.ret (valid_any _ _ w (rd_sl k)) fun _ _=>Val.ov
theorem ln_of (h:a<18446744073709551616):LV Tryz.prog 139 [vl (.int .u64 (a:Nat))] (nx (limbs a)):=lv_of fun γ M w rs ha=>by
 obtain⟨r,rfl,k⟩:=all2_1 ha;rw[show r= .int .u64 (a:Nat)from lit_inv k];exact Calls.ret (of_any a w h) fun _ _=>num_ov
theorem lr_of (h:a<18446744073709551616):LV Tryz.prog 89 [vl (.int .u64 (a:Nat))] (nx (limbs a)):=lv_of fun γ M w rs ha=>by
 obtain⟨r,rfl,k⟩:=all2_1 ha;rw[show r= .int .u64 (a:Nat)from lit_inv k];exact Calls.ret (rof_any a w h) fun _ _=>num_ov
theorem ln_cmp (e:val xs=a)(e2:val ys=b):LV Tryz.prog 165 [nx xs,nx ys] (vl (.int .i64 (cmpN a b))):=e▸e2▸lv_of fun γ M w rs ha=>by
 obtain⟨r,s,rfl,k,k2⟩:=all2_2 ha;exact Calls.ret (cmp_any _ _ _ _ w (rd_sl k) (rd_sl k2)) fun _ _=>Val.ov
theorem lr_same:LV Tryz.prog 76 [nx xs,nx ys] (vl (.bool (same xs ys))):=lv_of fun γ M w rs ha=>by
 obtain⟨r,s,rfl,k,k2⟩:=all2_2 ha;exact Calls.ret (same_any _ _ _ _ w (rd_sl k) (rd_sl k2)) fun _ _=>Val.ov
theorem ln_add (h:xs.length≤4294967296)(h':ys.length≤4294967296)(e:val xs=a)(e2:val ys=b):LV Tryz.prog 184 [nx xs,nx ys] (nx (limbs (a+b))):=e▸e2▸lv_of fun γ M w rs ha=>by
 obtain⟨r,s,rfl,k,k2⟩:=all2_2 ha;exact Calls.ret (add_any _ _ _ _ w (rd_sl k) (rd_sl k2) h h') fun _ _=>num_ov
theorem lr_add (h:xs.length≤4294967296)(h':ys.length≤4294967296)(e:val xs=a)(e2:val ys=b):LV Tryz.prog 190 [nx xs,nx ys] (nx (limbs (a+b))):=e▸e2▸lv_of fun γ M w rs ha=>by
 obtain⟨r,s,rfl,k,k2⟩:=all2_2 ha;exact Calls.ret (radd_any _ _ _ _ w (rd_sl k) (rd_sl k2) h h') fun _ _=>num_ov
theorem ln_mul (h:xs.length≤4294967296)(h':ys.length≤4294967296)(e:val xs=a)(e2:val ys=b):LV Tryz.prog 132 [nx xs,nx ys] (nx (limbs (a*b))):=e▸e2▸lv_of fun γ M w rs ha=>by
 obtain⟨r,s,rfl,k,k2⟩:=all2_2 ha;exact Calls.ret (mul_any _ _ _ _ w (rd_sl k) (rd_sl k2) h h') fun _ _=>num_ov
theorem lr_mul (h:xs.length≤4294967296)(h':ys.length≤4294967296)(e:val xs=a)(e2:val ys=b):LV Tryz.prog 140 [nx xs,nx ys] (nx (limbs (a*b))):=e▸e2▸lv_of fun γ M w rs ha=>by
 obtain⟨r,s,rfl,k,k2⟩:=all2_2 ha;exact Calls.ret (rmul_any _ _ _ _ w (rd_sl k) (rd_sl k2) h h') fun _ _=>num_ov
theorem ln_sub (h:xs.length≤4294967296)(e:val xs=a)(e2:val ys=b):LV Tryz.prog 185 [nx xs,nx ys] (.tup [.s (.d (.nat (a-b))),.s (.d (.lit (.int .i64 (subErr a b))))]):=e▸e2▸lv_of fun γ M w rs ha=>by
 obtain⟨r,s,rfl,k,k2⟩:=all2_2 ha;exact Calls.ret (sub_any _ _ _ _ w (rd_sl k) (rd_sl k2) h) fun _ _=>numE_ov
theorem lr_sub (h:xs.length≤4294967296)(e:val xs=a)(e2:val ys=b):LV Tryz.prog 191 [nx xs,nx ys] (.tup [.s (.d (.nat (a-b))),.s (.d (.lit (.int .i64 (subErr a b))))]):=e▸e2▸lv_of fun γ M w rs ha=>by
 obtain⟨r,s,rfl,k,k2⟩:=all2_2 ha;exact Calls.ret (rsub_any _ _ _ _ w (rd_sl k) (rd_sl k2) h) fun _ _=>numE_ov
theorem ln_div (h:xs.length≤4294967296)(e:val xs=a)(e2:val ys=b)(hb:0<b):LV Tryz.prog 182 [nx xs,nx ys] (.tup [.s (.d (.nat (a/b))),.s (.d (.nat (a % b))),.s (.d (.lit (.int .i64 0)))]):=by
 subst e e2;refine lv_of fun γ M w rs ha=> ?_;obtain⟨r,s,rfl,k,k2⟩:=all2_2 ha;have:=divmod_any _ _ _ _ w (rd_sl k) (rd_sl k2) h;rw[dmR_pos hb,dmE_pos hb]at this;exact Calls.ret this fun _ _=>num2E_ov
theorem lr_div (h:xs.length≤2147483648)(h':ys.length≤2147483648)(e:val xs=a)(e2:val ys=b)(hb:0<b):LV Tryz.prog 193 [nx xs,nx ys] (.tup [.s (.d (.nat (a/b))),.s (.d (.nat (a % b))),.s (.d (.lit (.int .i64 0)))]):=by
 subst e e2;refine lv_of fun γ M w rs ha=> ?_;obtain⟨r,s,rfl,k,k2⟩:=all2_2 ha;have:=rdivmod_any _ _ _ _ w (rd_sl k) (rd_sl k2) h h';rw[dmR_pos hb,dmE_pos hb]at this;exact Calls.ret this fun _ _=>num2E_ov
theorem ln_gcd (h:xs.length≤4294967296)(h':ys.length≤4294967296)(e:val xs=a)(e2:val ys=b):LV Tryz.prog 181 [nx xs,nx ys] (nx (limbs (Nat.gcd a b))):=e▸e2▸lv_of fun γ M w rs ha=>by
 obtain⟨r,s,rfl,k,k2⟩:=all2_2 ha;exact Calls.ret (gcd_any _ _ _ _ w (rd_sl k) (rd_sl k2) h h') fun _ _=>num_ov
theorem lr_gcd (h:xs.length≤2147483648)(h':ys.length≤2147483648)(e:val xs=a)(e2:val ys=b):LV Tryz.prog 192 [nx xs,nx ys] (nx (limbs (Nat.gcd a b))):=e▸e2▸lv_of fun γ M w rs ha=>by
 obtain⟨r,s,rfl,k,k2⟩:=all2_2 ha;exact Calls.ret (rgcd_any _ _ _ _ w (rd_sl k) (rd_sl k2) h h') fun _ _=>num_ov
end
theorem sl_one1 (w:World)(t:TypeId):Sl (w.alloc (.cells #[.int .u32 1] t)) (.slice (some ⟨w.heap.size,0,none⟩) 1 1) (limbs 1):=by
 rw[limbs_one];exact sl_one w t 1 (by decide)
theorem ln_one:LV Tryz.prog 138 [] (nx (limbs 1)):=lv_of fun γ M w rs ha=>by
 obtain rfl:rs=[]:=by cases rs with|nil=>rfl|cons _ _=>exact ha.elim
 go_enter Tryz.func138,Tryz.ntmps138
 go_wp2
 go_ret
 exact⟨_,rfl,sl_one1 _ _,(bR_ _ _).alloc (lR_ _) _⟩
theorem ln_unit {n:Nat}:LV Tryz.prog 180 [nx (limbs n)] (bx (n==1)):=by
 refine LV.wk (gs:=[.a (.d (u1 (limbs n)))]) ?_ ⟨fun γ h M w r k=>lm_u1 γ h M w r k,trivial⟩;refine LX_run (m:=0) (n0:=0) mix Tryz.func180 rfl rfl rfl rfl ?_;conv=>whnf
 refine bs (fun h=> ?_) (fun h=> ?_)
 ·conv=>whnf
  have h1:((limbs n).length:Int)=1:=by simpa using h
  obtain⟨x,hx⟩:∃x,limbs n=[x]:=by
   match hm:limbs n with
   |[x]=>exact⟨x,rfl⟩
   |[]=>rw[hm]at h1;simp at h1
   |_::_::_=>rw[hm]at h1;simp at h1;omega
  have hn:n=x:=by rw[←val_limbs n,hx];simp[val]
  refine .mk (0) ([D.lit (.int .u32 (x:Nat))]) (rfl) (by rw[hx];rfl) ?_;conv=>whnf
  conv=>whnf
  have e:(((x:Nat):Int)==1)=(n==1):=by rw[hn,Bool.eq_iff_iff];simp;omega
  refine bs (fun g=> ?_) (fun g=> ?_)
  ·conv=>whnf
   rw[show(n==1)=true by rw[←e];simpa using g];exact .q ⟨rfl,rfl⟩
  ·conv=>whnf
   rw[show(n==1)=false by rw[←e];simpa using g];exact .q ⟨rfl,rfl⟩
 ·conv=>whnf
  have e:(n==1)=false:=by
   rw[beq_eq_false_iff_ne];rintro rfl;rw[limbs_one]at h;simp at h
  rw[e];exact .q ⟨rfl,rfl⟩
abbrev rI (b:Bool)(xs:List Nat):V:= .agg [.d (.lit (.bool b)),.d (.lm xs)]
abbrev cI (z:Int):V:=rI (decide (z<0)) (limbs z.natAbs)
theorem iv_self (z:Int):iv (decide (z<0)) z.natAbs=z:=by
 unfold iv;by_cases h:z<0<;>simp[h]<;>omega
theorem cI_iv (b:Bool)(n:Nat):cI (iv b n)=rI (b&&decide (0<(limbs n).length)) (limbs n):=by
 have:decide (0<(limbs n).length)=decide (0<n):=by
  rw[decide_eq_decide];have:= @sz_eq_zero n;unfold sz at this;omega
 rw[this,cI,iv_lt,iv_abs]
section
variable {b c:Bool} {xs ys:List Nat} {m n:Nat}
theorem li_make (e:val xs=n):LV Tryz.prog 136 [bx b,nx xs] (cI (iv b n)):=by
 rw[cI_iv];refine LX_run (m:=0) (n0:=0) mix Tryz.func136 rfl rfl rfl rfl ?_;conv=>whnf
 refine .c (ln_make e) ?_;conv=>whnf
 cases b
 ·conv=>whnf
  exact .q ⟨rfl,rfl⟩
 ·conv=>whnf
  refine bs (fun h=> ?_) (fun h=> ?_)
  ·conv=>whnf
   rw[show decide (0<(limbs n).length)=true by simpa using h];exact .q ⟨rfl,rfl⟩
  ·conv=>whnf
   rw[show decide (0<(limbs n).length)=false by simpa using h];exact .q ⟨rfl,rfl⟩
theorem lri_make (e:val xs=n):LV Tryz.prog 88 [bx b,nx xs] (cI (iv b n)):=by
 rw[cI_iv];refine LX_run (m:=0) (n0:=0) mix Tryz.func88 rfl rfl rfl rfl ?_;conv=>whnf
 refine .c (lr_make e) ?_;conv=>whnf
 cases b
 ·conv=>whnf
  exact .q ⟨rfl,rfl⟩
 ·conv=>whnf
  refine bs (fun h=> ?_) (fun h=> ?_)
  ·conv=>whnf
   rw[show decide (0<(limbs n).length)=true by simpa using h];exact .q ⟨rfl,rfl⟩
  ·conv=>whnf
   rw[show decide (0<(limbs n).length)=false by simpa using h];exact .q ⟨rfl,rfl⟩
theorem li_sign (e:val xs=n)(h:xs.length≤4294967296):LV Tryz.prog 79 [rI b xs] (vl (.int .i64 (iv b n).sign)):=by
 have hb:blen n=0↔n=0:=by unfold blen;split<;>omega
 refine LX_run (m:=0) (n0:=0) mix Tryz.func79 rfl rfl rfl rfl ?_;conv=>whnf
 refine .c (ln_bits h e) ?_;conv=>whnf
 refine bs (fun h0=> ?_) (fun h0=> ?_)
 ·conv=>whnf
  have:n=0:=hb.1 (by simpa using h0);rw[iv_sign_0 this];exact .q ⟨rfl,rfl⟩
 ·have h1:0<n:=by have:=mt hb.2 (show ¬blen n=0 by simpa using h0);omega
  cases b
  ·conv=>whnf
   rw[iv_sign_false h1];exact .q ⟨rfl,rfl⟩
  ·conv=>whnf
   rw[iv_sign_true h1];exact .q ⟨rfl,rfl⟩
theorem len0 {n:Nat}:(((limbs n).length:Int)==0)=(n==0):=by
 have:= @sz_eq_zero n;unfold sz at this;rw[Bool.eq_iff_iff];simp only[beq_iff_eq];omega
theorem lri_sign (e:val xs=n):LV Tryz.prog 87 [rI b xs] (vl (.int .i64 (iv b n).sign)):=by
 cases b
 ·refine LX_run (m:=0) (n0:=0) mix Tryz.func87 rfl rfl rfl rfl ?_;conv=>whnf
  refine .c (show LV _ _ _ (rI false (limbs n))from cI_iv false n▸lri_make (b:=false) e) ?_;conv=>whnf
  refine bs (fun h0=> ?_) (fun h0=> ?_)
  ·conv=>whnf
   rw[iv_sign_0 (by simpa [len0]using h0)];exact .q ⟨rfl,rfl⟩
  ·conv=>whnf
   rw[iv_sign_false (Nat.pos_of_ne_zero (by simpa [len0]using h0))];exact .q ⟨rfl,rfl⟩
 ·refine LX_run (m:=0) (n0:=0) mix Tryz.func87 rfl rfl rfl rfl ?_;conv=>whnf
  refine .c (show LV _ _ _ (rI (decide (0<(limbs n).length)) (limbs n))from cI_iv true n▸lri_make (b:=true) e) ?_;conv=>whnf
  refine bs (fun h0=> ?_) (fun h0=> ?_)
  ·conv=>whnf
   rw[iv_sign_0 (by simpa [len0]using h0)];exact .q ⟨rfl,rfl⟩
  ·conv=>whnf
   have h1:=Nat.pos_of_ne_zero (n:=n) (by simpa [len0]using h0);refine bT (decide_eq_true (show 0<sz n from sz_pos h1)) ?_;conv=>whnf
   rw[iv_sign_true h1];exact .q ⟨rfl,rfl⟩
theorem cmpN_iv (b c:Bool)(m n:Nat):(if(iv b m).sign<(iv c n).sign then(-1:Int)else if(iv c n).sign<(iv b m).sign then 1 else if(iv b m).sign<0 then cmpN n m else cmpN m n)=(iv b m-iv c n).sign:=by
 split
 ·next h=>rw[sub_sign_lt h]
 ·split
  ·next h=>rw[sub_sign_gt h]
  ·split
   ·next h=>exact cmp_neg h (by omega)
   ·next h=>exact cmp_pos h (by omega)
theorem li_cmp (e:val xs=m)(e2:val ys=n)(h:xs.length≤4294967296)(h':ys.length≤4294967296):LV Tryz.prog 175 [rI b xs,rI c ys] (vl (.int .i64 (iv b m-iv c n).sign)):=by
 rw[←cmpN_iv];refine LX_run (m:=0) (n0:=0) mix Tryz.func175 rfl rfl rfl rfl ?_;conv=>whnf
 refine .c (li_sign e h) ?_;conv=>whnf
 refine .c (li_sign e2 h') ?_;conv=>whnf
 refine .mk (by kernel_rfl) ?_;conv=>whnf
 refine bs (fun h1=> ?_) (fun h1=> ?_)
 ·conv=>whnf
  rw[if_pos (by simpa using h1)];exact .q ⟨rfl,rfl⟩
 ·conv=>whnf
  rw[if_neg (by simpa using h1)];refine bs (fun h2=> ?_) (fun h2=> ?_)
  ·conv=>whnf
   rw[if_pos (by simpa using h2)];exact .q ⟨rfl,rfl⟩
  ·conv=>whnf
   rw[if_neg (by simpa using h2)];refine bs (fun h3=> ?_) (fun h3=> ?_)
   ·conv=>whnf
    rw[if_pos (by simpa using h3)];refine .c (ln_cmp e2 e) ?_;conv=>whnf
    exact .q ⟨rfl,rfl⟩
   ·conv=>whnf
    rw[if_neg (by simpa using h3)];refine .c (ln_cmp e e2) ?_;conv=>whnf
    exact .q ⟨rfl,rfl⟩
theorem cmpN_lt {a b:Nat}(h:a<b):decide (cmpN a b<0)=true:=by unfold cmpN;rw[if_pos h];rfl
theorem li_add (e:val xs=m)(e2:val ys=n)(h:xs.length≤4294967296)(h':ys.length≤4294967296):LV Tryz.prog 131 [rI b xs,rI c ys] (cI (iv b m+iv c n)):=by
 by_cases hbc:b=c
 ·subst hbc;rw[←iv_add]
  cases b
  ·refine LX_run (m:=0) (n0:=0) mix Tryz.func131 rfl rfl rfl rfl ?_;conv=>whnf
   refine .c (ln_add h h' e e2) ?_;conv=>whnf
   refine .c (li_make (b:=false) (val_limbs _)) ?_;conv=>whnf
   refine .mk (by kernel_rfl) ?_;conv=>whnf
   exact .q ⟨rfl,rfl⟩
  ·refine LX_run (m:=0) (n0:=0) mix Tryz.func131 rfl rfl rfl rfl ?_;conv=>whnf
   refine .c (ln_add h h' e e2) ?_;conv=>whnf
   refine .c (li_make (b:=true) (val_limbs _)) ?_;conv=>whnf
   refine .mk (by kernel_rfl) ?_;conv=>whnf
   exact .q ⟨rfl,rfl⟩
 ·cases b<;>cases c<;>first|exact absurd rfl hbc|skip
  ·rcases Nat.lt_or_ge m n with hl|hl
   ·rw[show iv false m+iv true n=iv true (n-m)from(iv_sub' false (Nat.le_of_lt hl)).symm];refine LX_run (m:=0) (n0:=0) mix Tryz.func131 rfl rfl rfl rfl ?_;conv=>whnf
    refine .c (ln_cmp e e2) ?_;conv=>whnf
    refine bT (cmpN_lt hl) ?_;conv=>whnf
    refine .c (ln_sub h' e2 e) ?_;conv=>whnf
    refine .c (li_make (b:=true) (val_limbs _)) ?_;conv=>whnf
    exact .q ⟨rfl,rfl⟩
   ·rw[show iv false m+iv true n=iv false (m-n)from(iv_sub false hl).symm];refine LX_run (m:=0) (n0:=0) mix Tryz.func131 rfl rfl rfl rfl ?_;conv=>whnf
    refine .c (ln_cmp e e2) ?_;conv=>whnf
    refine bF (cmpN_ge hl) ?_;conv=>whnf
    refine .c (ln_sub h e e2) ?_;conv=>whnf
    refine .c (li_make (b:=false) (val_limbs _)) ?_;conv=>whnf
    exact .q ⟨rfl,rfl⟩
  ·rcases Nat.lt_or_ge m n with hl|hl
   ·rw[show iv true m+iv false n=iv false (n-m)from(iv_sub' true (Nat.le_of_lt hl)).symm];refine LX_run (m:=0) (n0:=0) mix Tryz.func131 rfl rfl rfl rfl ?_;conv=>whnf
    refine .c (ln_cmp e e2) ?_;conv=>whnf
    refine bT (cmpN_lt hl) ?_;conv=>whnf
    refine .c (ln_sub h' e2 e) ?_;conv=>whnf
    refine .c (li_make (b:=false) (val_limbs _)) ?_;conv=>whnf
    exact .q ⟨rfl,rfl⟩
   ·rw[show iv true m+iv false n=iv true (m-n)from(iv_sub true hl).symm];refine LX_run (m:=0) (n0:=0) mix Tryz.func131 rfl rfl rfl rfl ?_;conv=>whnf
    refine .c (ln_cmp e e2) ?_;conv=>whnf
    refine bF (cmpN_ge hl) ?_;conv=>whnf
    refine .c (ln_sub h e e2) ?_;conv=>whnf
    refine .c (li_make (b:=true) (val_limbs _)) ?_;conv=>whnf
    exact .q ⟨rfl,rfl⟩
theorem lri_add (e:val xs=m)(e2:val ys=n)(h:xs.length≤4294967296)(h':ys.length≤4294967296):LV Tryz.prog 142 [rI b xs,rI c ys] (cI (iv b m+iv c n)):=by
 by_cases hbc:b=c
 ·subst hbc;rw[←iv_add]
  cases b
  ·refine LX_run (m:=0) (n0:=0) mix Tryz.func142 rfl rfl rfl rfl ?_;conv=>whnf
   refine .c (lr_add h h' e e2) ?_;conv=>whnf
   refine .c (lri_make (b:=false) (val_limbs _)) ?_;conv=>whnf
   refine .mk (by kernel_rfl) ?_;conv=>whnf
   exact .q ⟨rfl,rfl⟩
  ·refine LX_run (m:=0) (n0:=0) mix Tryz.func142 rfl rfl rfl rfl ?_;conv=>whnf
   refine .c (lr_add h h' e e2) ?_;conv=>whnf
   refine .c (lri_make (b:=true) (val_limbs _)) ?_;conv=>whnf
   refine .mk (by kernel_rfl) ?_;conv=>whnf
   exact .q ⟨rfl,rfl⟩
 ·cases b<;>cases c<;>first|exact absurd rfl hbc|skip
  ·rcases Nat.lt_or_ge m n with hl|hl
   ·rw[show iv false m+iv true n=iv true (n-m)from(iv_sub' false (Nat.le_of_lt hl)).symm];have es:subErr m n=2:=if_pos hl;refine LX_run (m:=0) (n0:=0) mix Tryz.func142 rfl rfl rfl rfl ?_;conv=>whnf
    refine .c (es▸lr_sub h e e2) ?_;conv=>whnf
    refine .c (lr_sub h' e2 e) ?_;conv=>whnf
    refine .c (lri_make (b:=true) (val_limbs _)) ?_;conv=>whnf
    exact .q ⟨rfl,rfl⟩
   ·rw[show iv false m+iv true n=iv false (m-n)from(iv_sub false hl).symm];have es:subErr m n=0:=if_neg (by omega);refine LX_run (m:=0) (n0:=0) mix Tryz.func142 rfl rfl rfl rfl ?_;conv=>whnf
    refine .c (es▸lr_sub h e e2) ?_;conv=>whnf
    refine .c (lri_make (b:=false) (val_limbs _)) ?_;conv=>whnf
    exact .q ⟨rfl,rfl⟩
  ·rcases Nat.lt_or_ge m n with hl|hl
   ·rw[show iv true m+iv false n=iv false (n-m)from(iv_sub' true (Nat.le_of_lt hl)).symm];have es:subErr m n=2:=if_pos hl;refine LX_run (m:=0) (n0:=0) mix Tryz.func142 rfl rfl rfl rfl ?_;conv=>whnf
    refine .c (es▸lr_sub h e e2) ?_;conv=>whnf
    refine .c (lr_sub h' e2 e) ?_;conv=>whnf
    refine .c (lri_make (b:=false) (val_limbs _)) ?_;conv=>whnf
    exact .q ⟨rfl,rfl⟩
   ·rw[show iv true m+iv false n=iv true (m-n)from(iv_sub true hl).symm];have es:subErr m n=0:=if_neg (by omega);refine LX_run (m:=0) (n0:=0) mix Tryz.func142 rfl rfl rfl rfl ?_;conv=>whnf
    refine .c (es▸lr_sub h e e2) ?_;conv=>whnf
    refine .c (lri_make (b:=true) (val_limbs _)) ?_;conv=>whnf
    exact .q ⟨rfl,rfl⟩
theorem li_mul (e:val xs=m)(e2:val ys=n)(h:xs.length≤4294967296)(h':ys.length≤4294967296):LV Tryz.prog 183 [rI b xs,rI c ys] (cI (iv b m*iv c n)):=by
 rw[←iv_mul]
 cases b<;>cases c
 ·refine LX_run (m:=0) (n0:=0) mix Tryz.func183 rfl rfl rfl rfl ?_;conv=>whnf
  refine .c (ln_mul h h' e e2) ?_;conv=>whnf
  refine .c (li_make (b:=false) (val_limbs _)) ?_;conv=>whnf
  refine .mk (by kernel_rfl) ?_;conv=>whnf
  exact .q ⟨rfl,rfl⟩
 ·refine LX_run (m:=0) (n0:=0) mix Tryz.func183 rfl rfl rfl rfl ?_;conv=>whnf
  refine .c (ln_mul h h' e e2) ?_;conv=>whnf
  refine .c (li_make (b:=true) (val_limbs _)) ?_;conv=>whnf
  refine .mk (by kernel_rfl) ?_;conv=>whnf
  exact .q ⟨rfl,rfl⟩
 ·refine LX_run (m:=0) (n0:=0) mix Tryz.func183 rfl rfl rfl rfl ?_;conv=>whnf
  refine .c (ln_mul h h' e e2) ?_;conv=>whnf
  refine .c (li_make (b:=true) (val_limbs _)) ?_;conv=>whnf
  refine .mk (by kernel_rfl) ?_;conv=>whnf
  exact .q ⟨rfl,rfl⟩
 ·refine LX_run (m:=0) (n0:=0) mix Tryz.func183 rfl rfl rfl rfl ?_;conv=>whnf
  refine .c (ln_mul h h' e e2) ?_;conv=>whnf
  refine .c (li_make (b:=false) (val_limbs _)) ?_;conv=>whnf
  refine .mk (by kernel_rfl) ?_;conv=>whnf
  exact .q ⟨rfl,rfl⟩
theorem of_pos {z:Int}(h1:0≤z)(h2:z<9223372036854775808):IntKind.u64.wrap z=((z.natAbs:Nat):Int):=by rw[u64_wrap];omega
theorem of_neg {z:Int}(h1: -9223372036854775808≤z)(h2:z<0):IntKind.u64.wrap (0-IntKind.u64.wrap z)=((z.natAbs:Nat):Int):=by rw[Int.zero_sub];exact neg_arg h1 h2
theorem u64_lt {z:Int}(h1: -9223372036854775808≤z)(h2:z<9223372036854775808):z.natAbs<18446744073709551616:=by omega
theorem li_of {z:Int}(h1: -9223372036854775808≤z)(h2:z<9223372036854775808):LV Tryz.prog 84 [vl (.int .i64 z)] (cI z):=by
 have hu:=u64_lt h1 h2;refine LX_run (m:=0) (n0:=0) mix Tryz.func84 rfl rfl rfl rfl ?_;conv=>whnf
 refine bs (fun g=> ?_) (fun g=> ?_)
 ·have g':z<0:=by simpa using g
  rw[cI,decide_eq_true g'];conv=>whnf
  refine Cn.as (ln_of (a:=z.natAbs) hu) rfl ⟨WkV.int (of_neg h1 g'),trivial⟩ rfl rfl ?_;conv=>whnf
  exact .q ⟨rfl,rfl⟩
 ·have g':¬z<0:=by simpa using g
  rw[cI,decide_eq_false g'];conv=>whnf
  refine Cn.as (ln_of (a:=z.natAbs) hu) rfl ⟨WkV.int (of_pos (Int.not_lt.1 g') h2),trivial⟩ rfl rfl ?_;conv=>whnf
  exact .q ⟨rfl,rfl⟩
theorem lri_of {z:Int}(h1: -9223372036854775808≤z)(h2:z<9223372036854775808):LV Tryz.prog 50 [vl (.int .i64 z)] (cI z):=by
 have hu:=u64_lt h1 h2
 by_cases g':z<0
 ·have k:=lri_make (b:=true) (val_limbs z.natAbs);rw[iv_of_neg g']at k;refine LX_run (m:=0) (n0:=0) mix Tryz.func50 rfl rfl rfl rfl ?_;conv=>whnf
  refine bT (decide_eq_true g') ?_;conv=>whnf
  refine Cn.as (lr_of (a:=z.natAbs) hu) rfl ⟨WkV.int (of_neg h1 g'),trivial⟩ rfl rfl ?_;conv=>whnf
  refine .c (k) ?_;conv=>whnf
  exact .q ⟨rfl,rfl⟩
 ·have k:=lri_make (b:=false) (val_limbs z.natAbs);rw[iv_of_pos (Int.not_lt.1 g')]at k;refine LX_run (m:=0) (n0:=0) mix Tryz.func50 rfl rfl rfl rfl ?_;conv=>whnf
  refine bF (decide_eq_false g') ?_;conv=>whnf
  refine Cn.as (lr_of (a:=z.natAbs) hu) rfl ⟨WkV.int (of_pos (Int.not_lt.1 g') h2),trivial⟩ rfl rfl ?_;conv=>whnf
  refine .c (k) ?_;conv=>whnf
  exact .q ⟨rfl,rfl⟩
end
abbrev rawV (b:Bool)(xs ys:List Nat):V:= .agg [.d (.lit (.bool b)),.d (.lm xs),.d (.lm ys)]
abbrev ratV (q:Rat):V:=rawV (decide (q<0)) (limbs q.num.natAbs) (limbs (dn q))
def RQ (x:V)(q:Rat):Prop:=∃b xs ys,WkV x (rawV b xs ys)∧rv b (val xs) (val ys)=q∧xs.length≤100000000∧ys.length≤100000000
def Bt (k:Nat)(q:Rat):Prop:=q.num.natAbs≤2^k∧q.den≤2^k
theorem sz_pow2 {n k:Nat}(h:n≤2^k):sz n≤k/32+1:=by
 refine sz_le (Nat.lt_of_le_of_lt h ?_);rw[show 4294967296=2^32 from rfl,←Nat.pow_mul];exact Nat.pow_lt_pow_right (by decide) (by omega)
theorem Bt.sm {k:Nat}{q:Rat}(h:Bt k q)(hk:k≤3000000000):Sm 100000000 q:=⟨tL_ (sz_pow2 h.1) (by omega),tL_ (sz_pow2 h.2) (by omega)⟩
theorem RQ.can {k:Nat}{q:Rat}(h:Bt k q)(hk:k≤3000000000):RQ (ratV q) q:=by
 refine⟨_,_,_,vR_ _,?_,(h.sm hk).1,(h.sm hk).dn⟩;rw[val_limbs,val_limbs];exact rv_self q
theorem RQ.wk {x y:V}{q:Rat}(h:RQ y q)(hw:WkV x y):RQ x q:=let ⟨b,xs,ys,h1,h2,h3,h4⟩:=h;⟨b,xs,ys,fun γ h' M w r k=>h1 γ h' M w r (hw γ h' M w r k),h2,h3,h4⟩
theorem ratV_zero:ratV 0=rawV false [] []:=by
 have h1:decide ((0:Rat)<0)=false:=by decide
 have h2:limbs (0:Rat).num.natAbs=[]:=by rw[show(0:Rat).num.natAbs=0 from rfl,limbs_zero]
 have h3:limbs (dn 0)=[]:=by rw[show dn 0=0 from rfl,limbs_zero]
 unfold ratV;rw[h1,h2,h3]
theorem ratV_z:ratV 0=rawV false (limbs 0) (limbs 0):=by rw[ratV_zero,limbs_zero]
theorem mk_zero (b:Bool)(d:Nat):mkRat (iv b 0) d=0:=by rw[show iv b 0=0 by cases b<;>rfl,Rat.zero_mkRat]
theorem mk_neg {b:Bool}{n d:Nat}(hn:0<n)(hd:0<d):decide (mkRat (iv b n) d<0)=b:=by rw[Bool.eq_iff_iff];simp only[decide_eq_true_eq];rw[mkRat_lt hd,iv_neg_iff hn]
theorem mk_dn {b:Bool}{n d:Nat}(hd:0<d):dn (mkRat (iv b n) d)=if d/Nat.gcd n d=1 then 0 else d/Nat.gcd n d:=by unfold dn;rw[rat_den hd]
theorem back1 {b:Bool}{n d:Nat}(hn:0<n)(hd:0<d)(h:d/Nat.gcd n d=1):ratV (mkRat (iv b n) d)=rawV b (limbs (n/Nat.gcd n d)) (limbs 0):=by
 unfold ratV;rw[mk_neg hn hd,rat_num hd,mk_dn hd,if_pos h]
theorem back2 {b:Bool}{n d:Nat}(hn:0<n)(hd:0<d)(h:d/Nat.gcd n d≠1):ratV (mkRat (iv b n) d)=rawV b (limbs (n/Nat.gcd n d)) (limbs (d/Nat.gcd n d)):=by
 unfold ratV;rw[mk_neg hn hd,rat_num hd,mk_dn hd,if_neg h]
theorem rdV_raw {γ:Gh}{h:Hp}{M:MS}{w:World}{r:Value}{b:Bool}{xs ys:List Nat}(k:RdV γ h M w (rawV b xs ys) r):∃s t,r= .agg #[.bool b,s,t]∧Sl w s xs∧Sl w t ys:=by
 obtain⟨vs,rfl,h1⟩:=k
 match vs,h1 with
 |[p,s,t],h1=>exact⟨s,t,by rw[show p= .bool b from lit_inv h1.1],rd_sl h1.2.1,rd_sl h1.2.2.1⟩
 |[],h1=>exact h1.elim
 |[_],h1=>exact h1.2.elim
 |[_,_],h1=>exact h1.2.2.elim
 |_::_::_::_::_,h1=>exact h1.2.2.2.elim
theorem lims_raw {γ:Gh}{h:Hp}{M:MS}{w:World}{r:Value}{b:Bool}{xs ys:List Nat}(k:RdV γ h M w (rawV b xs ys) r):lims xs∧lims ys:=let ⟨_,_,_,h1,h2⟩:=rdV_raw k;⟨h1.lims,h2.lims⟩
section
variable {P:Program} {F:FuncId} {x y v:V} {a b:Rat}
structure Rl (b:Bool)(xs ys:List Nat)(q:Rat):Prop where
 e:rv b (val xs) (val ys)=q
 n:xs.length≤100000000
 d:ys.length≤100000000
 ln:lims xs
 ld:lims ys
theorem Rl.sn {b:Bool}{xs ys:List Nat}{q:Rat}(h:Rl b xs ys q):(limbs (val xs)).length≤100000000:=tL_ (sz_val h.ln) h.n
theorem Rl.su {b:Bool}{xs ys:List Nat}{q:Rat}(h:Rl b xs ys q):sz (un (val ys))≤100000000:=by
 unfold un;split
 ·exact tL_ (sz_le (k:=1) (by decide)) (by decide)
 ·exact tL_ (sz_val h.ld) h.d
theorem rq1 (hx:RQ x a)(h:∀b xs ys,Rl b xs ys a→LV P F [rawV b xs ys] v):LV P F [x] v:=by
 obtain⟨b,xs,ys,h1,h2,h3,h4⟩:=hx;refine LV.wk (gs:=[rawV b xs ys]) ?_ ⟨h1,trivial⟩
 by_cases hl:lims xs∧lims ys
 ·exact h b xs ys ⟨h2,h3,h4,hl.1,hl.2⟩
 ·exact LV.no fun γ M w rs k=>hl (by obtain⟨r,rfl,k'⟩:=all2_1 k;exact lims_raw k')
theorem rq2 (hx:RQ x a)(hy:RQ y b)(h:∀c xs ys c' xs' ys',Rl c xs ys a→Rl c' xs' ys' b→LV P F [rawV c xs ys,rawV c' xs' ys'] v):LV P F [x,y] v:=by
 obtain⟨c,xs,ys,h1,h2,h3,h4⟩:=hx;obtain⟨c',xs',ys',h1',h2',h3',h4'⟩:=hy;refine LV.wk (gs:=[rawV c xs ys,rawV c' xs' ys']) ?_ ⟨h1,h1',trivial⟩
 by_cases hl:(lims xs∧lims ys)∧lims xs'∧lims ys'
 ·exact h _ _ _ _ _ _ ⟨h2,h3,h4,hl.1.1,hl.1.2⟩ ⟨h2',h3',h4',hl.2.1,hl.2.2⟩
 ·exact LV.no fun γ M w rs k=>hl (by obtain⟨r,s,rfl,k1,k2⟩:=all2_2 k;exact⟨lims_raw k1,lims_raw k2⟩)
end
section
variable {b c:Bool} {xs ys xs' ys':List Nat} {m n d:Nat} {p q:Rat}
theorem lq_under (h:Rl b xs ys q):LV Tryz.prog 129 [rawV b xs ys] (nx (if val ys=0 then limbs 1 else ys)):=by
 have hb:blen (val ys)=0↔val ys=0:=by unfold blen;split<;>omega
 have:=h.d;refine LX_run (m:=0) (n0:=0) mix Tryz.func129 rfl rfl rfl rfl ?_;conv=>whnf
 refine .c (ln_bits (by omega) rfl) ?_;conv=>whnf
 refine bs (fun h0=> ?_) (fun h0=> ?_)
 ·conv=>whnf
  rw[if_pos (hb.1 (by simpa using h0))];refine .c (ln_one) ?_;conv=>whnf
  exact .q ⟨rfl,rfl⟩
 ·conv=>whnf
  rw[if_neg (mt hb.2 (by simpa using h0))];exact .q ⟨rfl,rfl⟩
theorem und_val {ys:List Nat}:val (if val ys=0 then limbs 1 else ys)=un (val ys):=by
 unfold un;split
 ·exact val_limbs 1
 ·rfl
theorem und_len {ys:List Nat}(h:ys.length≤100000000):(if val ys=0 then limbs 1 else ys).length≤100000000:=by
 split
 ·rw[limbs_one];decide
 ·exact h
theorem lq_quot (e:val xs=n)(e2:val ys=d)(hd:0<d)(hn:(limbs n).length≤1000000000)(hdl:(limbs d).length≤1000000000):LV Tryz.prog 128 [bx b,nx xs,nx ys] (ratV (mkRat (iv b n) d)):=by
 have hg:=Nat.gcd_pos_of_pos_right n hd;rcases eP_ n with h0|h0
 ·rw[h0,mk_zero,ratV_z];refine LX_run (m:=0) (n0:=0) mix Tryz.func128 rfl rfl rfl rfl ?_;conv=>whnf
  refine .c (ln_make e) ?_;conv=>whnf
  refine bT (by rw[len0,h0];rfl) ?_;conv=>whnf
  exact .q ⟨rfl,rfl⟩
 ·refine LX_run (m:=0) (n0:=0) mix Tryz.func128 rfl rfl rfl rfl ?_;conv=>whnf
  refine .c (ln_make e) ?_;conv=>whnf
  refine bF (by rw[len0];simp;omega) ?_;conv=>whnf
  refine .c (ln_make e2) ?_;conv=>whnf
  refine .c (ln_unit) ?_;conv=>whnf
  refine bs (fun hu=> ?_) (fun hu=> ?_)
  ·have hu:d=1:=by simpa using hu
   have k:=back1 (b:=b) h0 hd (by rw[hu,Nat.gcd_one_right]);rw[show n/Nat.gcd n d=n by rw[hu,Nat.gcd_one_right,Nat.div_one]]at k;rw[k]
   cases b
   all_goals conv=>whnf
   all_goals exact .q ⟨rfl,rfl⟩
  ·have hu:d≠1:=by simpa using hu
   conv=>whnf
   refine .c (ln_gcd (by omega) (by omega) (val_limbs _) (val_limbs _)) ?_;conv=>whnf
   refine .c (ln_unit) ?_;conv=>whnf
   refine bs (fun hg1=> ?_) (fun hg1=> ?_)
   ·have hg1:Nat.gcd n d=1:=by simpa using hg1
    have k:=back2 (b:=b) h0 hd (by rw[hg1,Nat.div_one];exact hu);rw[hg1,Nat.div_one,Nat.div_one]at k;rw[k];conv=>whnf
    refine .c (ln_unit) ?_;conv=>whnf
    refine bF (by simpa using hu) ?_;conv=>whnf
    cases b
    all_goals conv=>whnf
    all_goals exact .q ⟨rfl,rfl⟩
   ·have hg1:Nat.gcd n d≠1:=by simpa using hg1
    conv=>whnf
    refine .c (ln_div (by omega) (val_limbs _) (val_limbs _) hg) ?_;conv=>whnf
    refine .c (ln_div (by omega) (val_limbs _) (val_limbs _) hg) ?_;conv=>whnf
    refine .c (ln_unit) ?_;conv=>whnf
    refine bs (fun hu1=> ?_) (fun hu1=> ?_)
    ·have hu1:d/Nat.gcd n d=1:=by simpa using hu1
     rw[back1 h0 hd hu1]
     cases b
     all_goals conv=>whnf
     all_goals exact⟨_,_,⟨rfl,rfl⟩,WkV.agg ⟨aR_ _,aR_ _,wk_nil,trivial⟩,rfl,trivial,rfl⟩
    ·have hu1:d/Nat.gcd n d≠1:=by simpa using hu1
     rw[back2 h0 hd hu1]
     cases b
     all_goals conv=>whnf
     all_goals exact .q ⟨rfl,rfl⟩
theorem Rl.szn (h:Rl b xs ys q):sz (val xs)≤100000000:=h.sn
theorem lq_canon (h:Rl b xs ys q):LV Tryz.prog 73 [rawV b xs ys] (ratV q):=by
 have hs:=h.sn;have hu:=h.su;unfold sz at hu;rw[←h.e]
 cases b
 all_goals refine LX_run (m:=0) (n0:=0) mix Tryz.func73 rfl rfl rfl rfl ?_
           conv=>whnf
 all_goals refine .c (lq_under h) ?_
           conv=>whnf
 all_goals refine .c (lq_quot rfl und_val (un_pos _) (by omega) (by omega)) ?_
           conv=>whnf
 all_goals try (refine Nc.mk (by kernel_rfl) ?_;conv=>whnf)
 all_goals exact .q ⟨rfl,rfl⟩
theorem lq_signed (h:Rl b xs ys q):LV Tryz.prog 80 [rawV b xs ys] (cI (iv b (val xs))):=by
 cases b
 all_goals refine LX_run (m:=0) (n0:=0) mix Tryz.func80 rfl rfl rfl rfl ?_
           conv=>whnf
 all_goals refine .c (li_make rfl) ?_
           conv=>whnf
 all_goals try (refine Nc.mk (by kernel_rfl) ?_;conv=>whnf)
 all_goals exact .q ⟨rfl,rfl⟩
theorem lq_sign (h:Rl b xs ys q):LV Tryz.prog 42 [rawV b xs ys] (vl (.int .i64 q.num.sign)):=by
 have hs:=h.sn;have k:=li_sign (b:=decide (iv b (val xs)<0)) (val_limbs (iv b (val xs)).natAbs) (by rw[iv_abs];omega);rw[iv_self,rv_sign b (val xs) (val ys),h.e]at k;refine LX_run (m:=0) (n0:=0) mix Tryz.func42 rfl rfl rfl rfl ?_;conv=>whnf
 refine .c (lq_signed h) ?_;conv=>whnf
 refine .c (k) ?_;conv=>whnf
 try (refine Nc.mk (by kernel_rfl) ?_;conv=>whnf)
 exact .q ⟨rfl,rfl⟩
abbrev cIA (z:Int):List A:=[.d (.lit (.bool (decide (z<0)))),.d (.nat z.natAbs)]
theorem lq_cross {q':Rat}(h:Rl b xs ys q)(h':Rl c xs' ys' q'):LV Tryz.prog 130 [rawV b xs ys,rawV c xs' ys']
  (.tup [.g (cIA (iv b (val xs)*(un (val ys'):Nat))),.g (cIA (iv c (val xs')*(un (val ys):Nat)))]):=by
 have hs:=h.sn;have hs':=h'.sn;have hd:=und_len h.d;have hd':=und_len h'.d;have k1:=li_mul (b:=decide (iv b (val xs)<0)) (c:=false) (val_limbs (iv b (val xs)).natAbs) (und_val (ys:=ys')) (by rw[iv_abs];omega) (by omega);have k2:=li_mul (b:=decide (iv c (val xs')<0)) (c:=false) (val_limbs (iv c (val xs')).natAbs) (und_val (ys:=ys)) (by rw[iv_abs];omega) (by omega);rw[iv_self]at k1 k2;refine LX_run (m:=0) (n0:=0) mix Tryz.func130 rfl rfl rfl rfl ?_;conv=>whnf
 refine .c (lq_under h) ?_;conv=>whnf
 refine .c (lq_under h') ?_;conv=>whnf
 refine .mk (by kernel_rfl) ?_;conv=>whnf
 refine .c (lq_signed h) ?_;conv=>whnf
 refine .c (k1) ?_;conv=>whnf
 refine .c (lq_signed h') ?_;conv=>whnf
 refine .c (k2) ?_;conv=>whnf
 try (refine Nc.mk (by kernel_rfl) ?_;conv=>whnf)
 exact .q ⟨rfl,rfl⟩
end
section
variable {b c:Bool} {xs ys xs' ys':List Nat} {m n d:Nat} {p q r:Rat}
theorem sz_cross {z:Int}{n u:Nat}(hz:z.natAbs=n)(hn:sz n≤100000000)(hu:sz u≤100000000):(limbs (z*(u:Nat)).natAbs).length≤200000000:=by
 rw[Int.natAbs_mul,hz];exact tL_ (sz_mul _ _) (by rw[Int.natAbs_natCast];omega)
theorem sz_mul_le {m n M N:Nat}(h:sz m≤M)(h':sz n≤N):(limbs (m*n)).length≤M+N:=tL_ (sz_mul _ _) (by omega)
theorem lq_cmp (h:Rl b xs ys q)(h':Rl c xs' ys' r):LV Tryz.prog 119 [rawV b xs ys,rawV c xs' ys'] (vl (.int .i64 (cmpQ q r))):=by
 have k:=li_cmp (b:=decide (iv b (val xs)*(un (val ys'):Nat)<0)) (c:=decide (iv c (val xs')*(un (val ys):Nat)<0)) (val_limbs (iv b (val xs)*(un (val ys'):Nat)).natAbs) (val_limbs (iv c (val xs')*(un (val ys):Nat)).natAbs)
  (tL_ (sz_cross (iv_abs _ _) h.szn h'.su) (by omega)) (tL_ (sz_cross (iv_abs _ _) h'.szn h.su) (by omega))
 have s1:=lq_sign h;have s2:=lq_sign h';have hc:=lq_cross h h';rw[iv_self,iv_self,←cmpQ_rv,h.e,h'.e]at k;rw[←h.e,←rv_sign]at s1;rw[←h'.e,←rv_sign]at s2;have hlt:=cross_lt (x:=iv b (val xs)) (y:=iv c (val xs')) (c:=val ys') (d:=val ys);have hgt:=cross_gt (x:=iv b (val xs)) (y:=iv c (val xs')) (c:=val ys') (d:=val ys);rw[←cmpQ_rv,h.e,h'.e]at hlt hgt;refine LX_run (m:=0) (n0:=0) mix Tryz.func119 rfl rfl rfl rfl ?_;conv=>whnf
 refine .c (s1) ?_;conv=>whnf
 refine .c (s2) ?_;conv=>whnf
 try (refine Nc.mk (by kernel_rfl) ?_;conv=>whnf)
 refine bs (fun g1=> ?_) (fun g1=> ?_)
 ·conv=>whnf
  refine bs (fun g2=> ?_) (fun g2=> ?_)
  ·rw[hlt (by simpa using g2)];conv=>whnf
   try (refine Nc.mk (by kernel_rfl) ?_;conv=>whnf)
   exact .q ⟨rfl,rfl⟩
  ·rw[hgt (by simp at g1 g2;omega)];conv=>whnf
   try (refine Nc.mk (by kernel_rfl) ?_;conv=>whnf)
   exact .q ⟨rfl,rfl⟩
 ·conv=>whnf
  refine .c (hc) ?_;conv=>whnf
  try (refine Nc.mk (by kernel_rfl) ?_;conv=>whnf)
  refine .c (k) ?_;conv=>whnf
  exact .q ⟨rfl,rfl⟩
theorem lq_add (h:Rl b xs ys q)(h':Rl c xs' ys' r):LV Tryz.prog 74 [rawV b xs ys,rawV c xs' ys'] (ratV (q+r)):=by
 have hc:=lq_cross h h';have hb:=und_len h.d;have hb':=und_len h'.d;have l1:=sz_cross (iv_abs b (val xs)) h.szn h'.su;have l2:=sz_cross (iv_abs c (val xs')) h'.szn h.su;have e:=add_parts (ba:=b) (bb:=c) (na:=val xs) (da:=val ys) (nb:=val xs') (db:=val ys') (iv_self _);rw[h.e,h'.e]at e;rw[←e];generalize iv b (val xs)*(un (val ys'):Nat)=X at *
 generalize iv c (val xs')*(un (val ys):Nat)=Y at *
 have k:=li_add (b:=decide (X<0)) (c:=decide (Y<0)) (val_limbs X.natAbs) (val_limbs Y.natAbs) (by omega) (by omega);rw[iv_self,iv_self]at k
 replace k:LV _ _ _ (rI (decide (X+Y<0)) (limbs (X+Y).natAbs)):=k
 have l3:(limbs (X+Y).natAbs).length≤300000000:=by
  refine tL_ (sz_mono (Int.natAbs_add_le X Y)) (tL_ (sz_add _ _) ?_);unfold sz;omega
 have l4:=sz_mul_le h.su h'.su;generalize decide (X+Y<0)=g at k ⊢
 cases g
 all_goals refine LX_run (m:=0) (n0:=0) mix Tryz.func74 rfl rfl rfl rfl ?_
           conv=>whnf
 all_goals refine .c (hc) ?_
           conv=>whnf
 all_goals try (refine Nc.mk (by kernel_rfl) ?_;conv=>whnf)
 all_goals refine .c (k) ?_
           conv=>whnf
 all_goals try (refine Nc.mk (by kernel_rfl) ?_;conv=>whnf)
 all_goals refine .c (lq_under h) ?_
           conv=>whnf
 all_goals refine .c (lq_under h') ?_
           conv=>whnf
 all_goals refine .c (ln_mul (by omega) (by omega) und_val und_val) ?_
           conv=>whnf
 all_goals refine .c (lq_quot (val_limbs _) (val_limbs _) (Nat.mul_pos (un_pos _) (un_pos _)) (by omega) (by omega)) ?_
           conv=>whnf
 all_goals try (refine Nc.mk (by kernel_rfl) ?_;conv=>whnf)
 all_goals exact .q ⟨rfl,rfl⟩
theorem lq_mul (h:Rl b xs ys q)(h':Rl c xs' ys' r):LV Tryz.prog 75 [rawV b xs ys,rawV c xs' ys'] (ratV (q*r)):=by
 have hb:=und_len h.d;have hb':=und_len h'.d;have hn:=h.n;have hn':=h'.n;have l1:=sz_mul_le h.szn h'.szn;have l2:=sz_mul_le h.su h'.su;rw[←h.e,←h'.e,←mul_parts]
 cases b<;>cases c
 all_goals refine LX_run (m:=0) (n0:=0) mix Tryz.func75 rfl rfl rfl rfl ?_
           conv=>whnf
 all_goals refine .c (ln_mul (by omega) (by omega) rfl rfl) ?_
           conv=>whnf
 all_goals refine .c (lq_under h) ?_
           conv=>whnf
 all_goals refine .c (lq_under h') ?_
           conv=>whnf
 all_goals refine .c (ln_mul (by omega) (by omega) und_val und_val) ?_
           conv=>whnf
 all_goals refine .c (lq_quot (val_limbs _) (val_limbs _) (Nat.mul_pos (un_pos _) (un_pos _)) (by omega) (by omega)) ?_
           conv=>whnf
 all_goals try (refine Nc.mk (by kernel_rfl) ?_;conv=>whnf)
 all_goals exact .q ⟨rfl,rfl⟩
abbrev qE (q:Rat):V:= .tup [.g [.d (.lit (.bool (decide (q<0)))),.d (.lm (limbs q.num.natAbs)),.d (.lm (limbs (dn q)))],.s (.d (.lit (.int .i64 0)))]
theorem Rl.ne (h:Rl b xs ys q)(h0:q≠0):0<val xs:=by
 refine Nat.pos_of_ne_zero fun e=>h0 ?_;rw[←h.e,e,rv,mk_zero]
theorem lq_div (h0:r≠0)(h:Rl b xs ys q)(h':Rl c xs' ys' r):LV Tryz.prog 153 [rawV b xs ys,rawV c xs' ys'] (qE (q/r)):=by
 have hb:=und_len h.d;have hb':=und_len h'.d;have hn:=h.n;have hn':=h'.n;have l1:=sz_mul_le h.szn h'.su;have l2:=sz_mul_le h.su h'.szn;have hp:=h'.ne h0;have hs:(r.num.sign==0)=false:=by simpa [Int.sign_eq_zero_iff_zero]using h0
 rw[←h.e,←h'.e,←div_parts _ _ _ _ _ _ hp]
 cases b<;>cases c
 all_goals refine LX_run (m:=0) (n0:=0) mix Tryz.func153 rfl rfl rfl rfl ?_
           conv=>whnf
 all_goals refine .c (lq_sign h') ?_
           conv=>whnf
 all_goals refine bF (hs) ?_
           conv=>whnf
 all_goals refine .c (lq_under h') ?_
           conv=>whnf
 all_goals refine .c (ln_mul (by omega) (by omega) rfl und_val) ?_
           conv=>whnf
 all_goals refine .c (lq_under h) ?_
           conv=>whnf
 all_goals refine .c (ln_mul (by omega) (by omega) und_val rfl) ?_
           conv=>whnf
 all_goals refine .c (lq_quot (val_limbs _) (val_limbs _) (Nat.mul_pos (un_pos _) hp) (by omega) (by omega)) ?_
           conv=>whnf
 all_goals try (refine Nc.mk (by kernel_rfl) ?_;conv=>whnf)
 all_goals exact .q ⟨rfl,rfl⟩
theorem lq_max (h:Rl b xs ys q)(h':Rl c xs' ys' r):LV Tryz.prog 68 [rawV b xs ys,rawV c xs' ys'] (ratV (if r≤q then q else r)):=by
 refine LX_run (m:=0) (n0:=0) mix Tryz.func68 rfl rfl rfl rfl ?_;conv=>whnf
 refine .c (lq_cmp h h') ?_;conv=>whnf
 refine bs (fun g=> ?_) (fun g=> ?_)
 ·rw[if_pos (cmpQ_ge.1 (by simpa using g))];conv=>whnf
  refine .c (lq_canon h) ?_;conv=>whnf
  try (refine Nc.mk (by kernel_rfl) ?_;conv=>whnf)
  exact .q ⟨rfl,rfl⟩
 ·rw[if_neg (mt cmpQ_ge.2 (by simpa using g))];conv=>whnf
  refine .c (lq_canon h') ?_;conv=>whnf
  try (refine Nc.mk (by kernel_rfl) ?_;conv=>whnf)
  exact .q ⟨rfl,rfl⟩
theorem lq_whole {z:Int}(hz:(limbs z.natAbs).length≤100000000):LV Tryz.prog 83 [cI z] (ratV (z:Rat)):=by
 have k:=lq_quot (b:=decide (z<0)) (val_limbs z.natAbs) (val_limbs 1) (by decide) (by omega) (by rw[limbs_one];decide);rw[iv_self,mkRat_one]at k;show LV _ _ [rI (decide (z<0)) (limbs z.natAbs)] _;generalize decide (z<0)=g at k ⊢
 cases g
 all_goals refine LX_run (m:=0) (n0:=0) mix Tryz.func83 rfl rfl rfl rfl ?_
           conv=>whnf
 all_goals refine .c (ln_one) ?_
           conv=>whnf
 all_goals refine .c (k) ?_
           conv=>whnf
 all_goals try (refine Nc.mk (by kernel_rfl) ?_;conv=>whnf)
 all_goals exact .q ⟨rfl,rfl⟩
theorem lx_rof {z:Int}(h1: -9223372036854775808≤z)(h2:z<9223372036854775808):LV Tryz.prog 47 [vl (.int .i64 z)] (ratV (z:Rat)):=by
 have hu:sz z.natAbs≤2:=sz_le_two.2 (u64_lt h1 h2);refine LX_run (m:=0) (n0:=0) mix Tryz.func47 rfl rfl rfl rfl ?_;conv=>whnf
 refine .c (li_of h1 h2) ?_;conv=>whnf
 refine .c (lq_whole (tL_ hu (by omega))) ?_;conv=>whnf
 try (refine Nc.mk (by kernel_rfl) ?_;conv=>whnf)
 exact .q ⟨rfl,rfl⟩
theorem lx_rvalid (h1:xs.length≤100000000)(h2:ys.length≤100000000):LV Tryz.prog 111 [rawV c xs ys] (vl (.bool (vB c xs ys (rv c (val xs) (val ys))))):=by
 by_cases hl:lims xs∧lims ys
 ·have h:Rl c xs ys _:=⟨rfl,h1,h2,hl.1,hl.2⟩;have hcn:=lq_canon h;rcases ys with _|⟨y,ys⟩
  ·rw[show val []=0 from rfl,vB_nil hl.1]
   cases c
   all_goals refine LX_run (m:=0) (n0:=0) mix Tryz.func111 rfl rfl rfl rfl ?_
             conv=>whnf
   all_goals repeat' first|(refine bs (fun h=> ?_) (fun h=> ?_)<;>conv=>whnf)|(refine Nc.mk (by kernel_rfl) ?_;conv=>whnf)|(refine .c (ln_valid) ?_;conv=>whnf)
   all_goals exact .q ⟨by simp_all,rfl⟩
  ·unfold vB;rw[same_parts hl.1,same_parts hl.2];generalize rv c (val xs) (val (y::ys))=q at hcn ⊢
   replace hcn:LV _ _ _ (rawV (decide (q<0)) (limbs q.num.natAbs) (limbs (dn q))):=hcn
   generalize decide (q<0)=g at hcn ⊢
   cases c<;>cases g
   all_goals refine LX_run (m:=0) (n0:=0) mix Tryz.func111 rfl rfl rfl rfl ?_
             conv=>whnf
   all_goals refine .c (hcn) ?_
             conv=>whnf
   all_goals repeat' first|(refine bs (fun h=> ?_) (fun h=> ?_)<;>conv=>whnf)|(refine Nc.mk (by kernel_rfl) ?_;conv=>whnf)|(refine .c (ln_cmp rfl (val_limbs _)) ?_;conv=>whnf)
   all_goals exact .q ⟨by first|(simp_all;done)|(simp_all;omega)|(simp_all;intros;omega),rfl⟩
 ·exact LV.no fun γ M w rs k=>hl (by obtain⟨r,rfl,k'⟩:=all2_1 k;exact lims_raw k')
end
section
variable {x y:V} {a b:Rat}
theorem lx_rcanon (hx:RQ x a):LV Tryz.prog 73 [x] (ratV a):=rq1 hx fun _ _ _=>lq_canon
theorem lx_rsign (hx:RQ x a):LV Tryz.prog 42 [x] (vl (.int .i64 a.num.sign)):=rq1 hx fun _ _ _=>lq_sign
theorem lx_radd (hx:RQ x a)(hy:RQ y b):LV Tryz.prog 74 [x,y] (ratV (a+b)):=rq2 hx hy fun _ _ _ _ _ _=>lq_add
theorem lx_rmul (hx:RQ x a)(hy:RQ y b):LV Tryz.prog 75 [x,y] (ratV (a*b)):=rq2 hx hy fun _ _ _ _ _ _=>lq_mul
theorem lx_rmax (hx:RQ x a)(hy:RQ y b):LV Tryz.prog 68 [x,y] (ratV (if b≤a then a else b)):=rq2 hx hy fun _ _ _ _ _ _=>lq_max
theorem lx_rdiv (h0:b≠0)(hx:RQ x a)(hy:RQ y b):LV Tryz.prog 153 [x,y] (qE (a/b)):=rq2 hx hy fun _ _ _ _ _ _=>lq_div h0
end
section
variable {b c:Bool} {xs ys xs' ys':List Nat} {m n d:Nat} {p q r:Rat}
theorem lz_one (e:val ys=d):LV Tryz.prog 141 [nx ys] (nx (limbs (un d))):=lv_of fun γ M w rs ha=>by
 obtain⟨r,rfl,k⟩:=all2_1 ha;have hs:=rd_sl k;clear k ha;have hcan:=sz_eq_zero (n:=val ys);unfold sz at hcan;rw[e]at hcan;rcases eP_ d with h0|h0
 ·go_enter Tryz.func141,Tryz.ntmps141
  go_wp2_with fail
  refine cM (rmake_any _ _ w hs) ?_;rintro e' w1 ⟨v1,rfl,hn,hb⟩;rw[e,h0]at hn
  replace hn:Sl w1 v1 (limbs 0):=hn
  rw[limbs_zero]at hn;obtain⟨a,n,c,rfl,hl,-⟩:=hn;obtain rfl:n=0:=hl.symm;have HB:=lH hb;have HE:=lH e;clear hb e hs hcan hl;go_wp2
  go_ret
  refine⟨_,rfl,?_,HB.out.alloc HB.out.size _⟩;rw[h0];exact sl_one1 _ _
 ·go_enter Tryz.func141,Tryz.ntmps141
  go_wp2_with fail
  refine cM (rmake_any _ _ w hs) ?_;rintro e' w1 ⟨v1,rfl,hn,hb⟩;rw[e]at hn;have Hn:=lH hn;obtain⟨a,n,c,rfl,hl,-⟩:=hn;have dx:((n:Int)==0)=false:=by rw[beq_eq_false_iff_ne];omega
  have HB:=lH hb;have H0:=lH h0;clear hb e hs hcan hl h0;go_wp2
  go_ret
  refine⟨_,rfl,?_,HB.out⟩;rw[←un_of H0.out];exact Hn.out
theorem gcd_sz {n d L:Nat}(h:sz d≤L)(hd:0<d):(limbs (Nat.gcd n d)).length≤L:=tL_ (sz_mono (Nat.le_of_dvd hd (Nat.gcd_dvd_right n d))) h
theorem wk_div {a b:A}{xs:List Nat}:WkV (.tup [.s (.d (.lm xs)),.s a,.s b]) (.tup [.s (.d (u1 xs)),.s a,.s b]):=fun γ h M w r k=>by
 obtain⟨vs,rfl,hk⟩:=k
 match vs,hk with
 |[x,y,z],hk=>exact⟨[x,y,z],rfl,lm_u1 γ h M w _ hk.1,hk.2.1,hk.2.2.1,trivial⟩
 |[],hk=>exact hk.elim
 |[_],hk=>exact hk.2.elim
 |[_,_],hk=>exact hk.2.2.elim
 |_::_::_::_::_,hk=>exact hk.2.2.2.elim
theorem lz_quot (e:val xs=n)(e2:val ys=d)(hd:0<d)(hn:xs.length≤1000000000)(hdl:ys.length≤1000000000):LV Tryz.prog 143 [bx b,nx xs,nx ys] (ratV (mkRat (iv b n) d)):=by
 by_cases hl:lims ys
 ·have hg:=Nat.gcd_pos_of_pos_right n hd;have hgl:(limbs (Nat.gcd n d)).length≤1000000000:=gcd_sz (e2▸tL_ (sz_val hl) hdl) hd;have hu:=(lr_div (xs:=ys) (ys:=limbs (Nat.gcd n d)) (by omega) (by omega) e2 (val_limbs _) hg).out wk_div;have hn0:(((limbs (n/Nat.gcd n d)).length:Int)>0)↔0<n:=by
   have h1:= @sz_eq_zero (n/Nat.gcd n d);unfold sz at h1;constructor
   ·intro h;refine Nat.pos_of_ne_zero fun h0=> ?_;rw[h0,Nat.zero_div]at h1;rw[h0,Nat.zero_div]at h;omega
   ·intro h;have:=num_pos (d:=d) h;omega
  have R1:d/Nat.gcd n d=1→ratV (mkRat (iv b n) d)=rawV (b&&decide (((limbs (n/Nat.gcd n d)).length:Int)>0)) (limbs (n/Nat.gcd n d)) (limbs 0):=fun hD=>by
   rcases eP_ n with h0|h0
   ·rw[h0,mk_zero,ratV_z,Nat.zero_div,limbs_zero];simp
   ·rw[back1 h0 hd hD,decide_eq_true (hn0.2 h0),Bool.and_true]
  have R2:d/Nat.gcd n d≠1→ratV (mkRat (iv b n) d)=rawV (b&&decide (((limbs (n/Nat.gcd n d)).length:Int)>0)) (limbs (n/Nat.gcd n d)) (limbs (d/Nat.gcd n d)):=fun hD=>by
   rcases eP_ n with h0|h0
   ·exact absurd (by simpa using den_zero h0 hd) hD
   ·rw[back2 h0 hd hD,decide_eq_true (hn0.2 h0),Bool.and_true]
  clear hn0;refine LX_run (m:=0) (n0:=0) mix Tryz.func143 rfl rfl rfl rfl ?_;conv=>whnf
  refine .c (lr_gcd (by omega) (by omega) e e2) ?_;conv=>whnf
  refine .c (lr_div (by omega) (by omega) e (val_limbs _) hg) ?_;conv=>whnf
  refine .c (hu) ?_;conv=>whnf
  refine bs (fun g1=> ?_) (fun g1=> ?_)
  ·have g1:(limbs (d/Nat.gcd n d)).length=1:=by simp at g1;omega
   obtain⟨x,hx⟩:∃x,limbs (d/Nat.gcd n d)=[x]:=by
    match hm:limbs (d/Nat.gcd n d)with
    |[x]=>exact⟨x,rfl⟩
    |[]=>rw[hm]at g1;cases g1
    |_::_::_=>rw[hm]at g1;simp at g1
   have hD:d/Nat.gcd n d=x:=by rw[←val_limbs (d/Nat.gcd n d),hx];simp[val]
   conv=>whnf
   refine .mk (0) ([D.lit (.int .u32 (x:Nat))]) (rfl) (by rw[hx];rfl) ?_;conv=>whnf
   conv=>whnf
   refine bs (fun g2=> ?_) (fun g2=> ?_)
   ·rw[R1 (by have:((x:Nat):Int)=1:=by simpa using g2
              omega)]
    conv=>whnf
    try (refine Nc.mk (by kernel_rfl) ?_;conv=>whnf)
    cases b
    ·conv=>whnf
     exact⟨_,_,⟨rfl,rfl⟩,WkV.agg ⟨aR_ _,aR_ _,wk_nil,trivial⟩,rfl,trivial,rfl⟩
    ·conv=>whnf
     refine bs (fun g3=> ?_) (fun g3=> ?_)
     all_goals rw[g3]
     all_goals conv=>whnf
     all_goals exact⟨_,_,⟨rfl,rfl⟩,WkV.agg ⟨aR_ _,aR_ _,wk_nil,trivial⟩,rfl,trivial,rfl⟩
   ·rw[R2 (by have:¬((x:Nat):Int)=1:=by simpa using g2
              omega)]
    conv=>whnf
    try (refine Nc.mk (by kernel_rfl) ?_;conv=>whnf)
    cases b
    ·conv=>whnf
     exact⟨_,_,⟨rfl,rfl⟩,WkV.agg ⟨aR_ _,aR_ _,u1_lm (lims_limbs _),trivial⟩,rfl,trivial,rfl⟩
    ·conv=>whnf
     refine bs (fun g3=> ?_) (fun g3=> ?_)
     all_goals rw[g3]
     all_goals conv=>whnf
     all_goals exact⟨_,_,⟨rfl,rfl⟩,WkV.agg ⟨aR_ _,aR_ _,u1_lm (lims_limbs _),trivial⟩,rfl,trivial,rfl⟩
  ·rw[R2 (fun h=>by rw[h,limbs_one]at g1;simp at g1)];conv=>whnf
   try (refine Nc.mk (by kernel_rfl) ?_;conv=>whnf)
   cases b
   ·conv=>whnf
    exact⟨_,_,⟨rfl,rfl⟩,WkV.agg ⟨aR_ _,aR_ _,u1_lm (lims_limbs _),trivial⟩,rfl,trivial,rfl⟩
   ·conv=>whnf
    refine bs (fun g3=> ?_) (fun g3=> ?_)
    all_goals rw[g3]
    all_goals conv=>whnf
    all_goals exact⟨_,_,⟨rfl,rfl⟩,WkV.agg ⟨aR_ _,aR_ _,u1_lm (lims_limbs _),trivial⟩,rfl,trivial,rfl⟩
 ·exact LV.no fun γ M w rs k=>hl (by
   match rs,k with
   |[_,_,_],k=>exact(rd_sl k.2.2.1).lims
   |[],k=>exact k.elim
   |[_],k=>exact k.2.elim
   |[_,_],k=>exact k.2.2.elim
   |_::_::_::_::_,k=>exact k.2.2.2.elim)
theorem lz_canon (h:Rl b xs ys q):LV Tryz.prog 217 [rawV b xs ys] (ratV q):=by
 have hs:=h.n;have hu:=h.su;unfold sz at hu;rw[←h.e]
 cases b
 all_goals refine LX_run (m:=0) (n0:=0) mix Tryz.func217 rfl rfl rfl rfl ?_
           conv=>whnf
 all_goals refine .c (lz_one rfl) ?_
           conv=>whnf
 all_goals refine .c (lz_quot rfl (val_limbs _) (un_pos _) (by omega) (by omega)) ?_
           conv=>whnf
 all_goals try (refine Nc.mk (by kernel_rfl) ?_;conv=>whnf)
 all_goals exact .q ⟨rfl,rfl⟩
theorem lz_sign (h:Rl b xs ys q):LV Tryz.prog 49 [rawV b xs ys] (vl (.int .i64 q.num.sign)):=by
 have k:=lri_sign (b:=b) (xs:=xs) rfl;rw[rv_sign b (val xs) (val ys),h.e]at k
 cases b
 all_goals refine LX_run (m:=0) (n0:=0) mix Tryz.func49 rfl rfl rfl rfl ?_
           conv=>whnf
 all_goals refine .c (k) ?_
           conv=>whnf
 all_goals exact .q ⟨rfl,rfl⟩
theorem lz_mul (h:Rl b xs ys q)(h':Rl c xs' ys' r):LV Tryz.prog 86 [rawV b xs ys,rawV c xs' ys'] (ratV (q*r)):=by
 have hn:=h.n;have hn':=h'.n;have l1:=sz_mul_le h.szn h'.szn;have l2:=sz_mul_le h.su h'.su;have hb:=h.su;have hb':=h'.su;unfold sz at hb hb';rw[←h.e,←h'.e,←mul_parts]
 cases b<;>cases c
 all_goals refine LX_run (m:=0) (n0:=0) mix Tryz.func86 rfl rfl rfl rfl ?_
           conv=>whnf
 all_goals refine .c (lr_mul (by omega) (by omega) rfl rfl) ?_
           conv=>whnf
 all_goals refine .c (lz_one rfl) ?_
           conv=>whnf
 all_goals refine .c (lz_one rfl) ?_
           conv=>whnf
 all_goals refine .c (lr_mul (by omega) (by omega) (val_limbs _) (val_limbs _)) ?_
           conv=>whnf
 all_goals refine .c (lz_quot (val_limbs _) (val_limbs _) (Nat.mul_pos (un_pos _) (un_pos _)) (by omega) (by omega)) ?_
           conv=>whnf
 all_goals try (refine Nc.mk (by kernel_rfl) ?_;conv=>whnf)
 all_goals exact .q ⟨rfl,rfl⟩
theorem lz_add (h:Rl b xs ys q)(h':Rl c xs' ys' r):LV Tryz.prog 85 [rawV b xs ys,rawV c xs' ys'] (ratV (q+r)):=by
 have hn:=h.n;have hn':=h'.n;have hb:=h.su;have hb':=h'.su;unfold sz at hb hb';have l1:=sz_mul_le h.szn h'.su;have l2:=sz_mul_le h'.szn h.su;have l4:=sz_mul_le h.su h'.su;have k1:=lr_mul (xs:=xs) (ys:=limbs (un (val ys'))) (by omega) (by omega) rfl (val_limbs _);have k2:=lr_mul (xs:=xs') (ys:=limbs (un (val ys))) (by omega) (by omega) rfl (val_limbs _);have k3:=lri_add (b:=b) (c:=c) (val_limbs (val xs*un (val ys'))) (val_limbs (val xs'*un (val ys))) (by omega) (by omega);have e:=zadd_parts (ba:=b) (bb:=c) (na:=val xs) (da:=val ys) (nb:=val xs') (db:=val ys') (iv_self _);rw[h.e,h'.e]at e;rw[←e];have l3:(limbs (iv b (val xs*un (val ys'))+iv c (val xs'*un (val ys))).natAbs).length≤300000000:=by
  refine tL_ (sz_mono (Int.natAbs_add_le _ _)) (tL_ (sz_add _ _) ?_);rw[iv_abs,iv_abs];unfold sz;omega
 generalize iv b (val xs*un (val ys'))+iv c (val xs'*un (val ys))=X at *
 replace k3:LV _ _ _ (rI (decide (X<0)) (limbs X.natAbs)):=k3
 generalize decide (X<0)=g at k3 ⊢
 cases b<;>cases c<;>cases g
 all_goals refine LX_run (m:=0) (n0:=0) mix Tryz.func85 rfl rfl rfl rfl ?_
           conv=>whnf
 all_goals refine .c (lz_one rfl) ?_
           conv=>whnf
 all_goals refine .c (k1) ?_
           conv=>whnf
 all_goals try (refine Nc.mk (by kernel_rfl) ?_;conv=>whnf)
 all_goals refine .c (lz_one rfl) ?_
           conv=>whnf
 all_goals refine .c (k2) ?_
           conv=>whnf
 all_goals try (refine Nc.mk (by kernel_rfl) ?_;conv=>whnf)
 all_goals refine .c (k3) ?_
           conv=>whnf
 all_goals try (refine Nc.mk (by kernel_rfl) ?_;conv=>whnf)
 all_goals refine .c (lz_one rfl) ?_
           conv=>whnf
 all_goals refine .c (lz_one rfl) ?_
           conv=>whnf
 all_goals refine .c (lr_mul (by omega) (by omega) (val_limbs _) (val_limbs _)) ?_
           conv=>whnf
 all_goals refine .c (lz_quot (val_limbs _) (val_limbs _) (Nat.mul_pos (un_pos _) (un_pos _)) (by omega) (by omega)) ?_
           conv=>whnf
 all_goals try (refine Nc.mk (by kernel_rfl) ?_;conv=>whnf)
 all_goals exact .q ⟨rfl,rfl⟩
end
section
variable {b c:Bool} {xs ys xs' ys':List Nat} {m n d:Nat} {p q r:Rat}
theorem ratV_int (z:Int):ratV (z:Rat)=rawV (decide (z<0)) (limbs z.natAbs) (limbs 0):=by
 unfold ratV;rw[Rat.num_intCast,show dn (z:Rat)=0 by unfold dn;rw[Rat.den_intCast];rfl,show decide ((z:Rat)<0)=decide (z<0)from decide_eq_decide.2 (by rw[Rat.lt_iff];simp)]
theorem lx_zof {z:Int}(h1: -9223372036854775808≤z)(h2:z<9223372036854775808):LV Tryz.prog 19 [vl (.int .i64 z)] (ratV (z:Rat)):=by
 have k:=lri_of h1 h2;rw[ratV_int]
 replace k:LV _ _ _ (rI (decide (z<0)) (limbs z.natAbs)):=k
 generalize decide (z<0)=g at k ⊢
 cases g
 all_goals refine LX_run (m:=0) (n0:=0) mix Tryz.func19 rfl rfl rfl rfl ?_
           conv=>whnf
 all_goals refine .c (k) ?_
           conv=>whnf
 all_goals try (refine Nc.mk (by kernel_rfl) ?_;conv=>whnf)
 all_goals exact .q ⟨rfl,rfl⟩
theorem lz_make {y z:Int}(hz:z≠0)(hy:(limbs y.natAbs).length≤100000000)(hzl:(limbs z.natAbs).length≤100000000):LV Tryz.prog 149 [cI y,cI z] (qE ((y:Rat)/z)):=by
 have hp:0<z.natAbs:=by omega
 have e:=div_sign (decide (y<0)) (decide (z<0)) y.natAbs z.natAbs hp;have k:=lri_sign (b:=decide (z<0)) (val_limbs z.natAbs);have hs:(z.sign==0)=false:=by simpa [Int.sign_eq_zero_iff_zero]using hz
 rw[iv_self]at k;rw[iv_self,iv_self]at e;rw[←e];show LV _ _ [rI (decide (y<0)) (limbs y.natAbs),rI (decide (z<0)) (limbs z.natAbs)] _;generalize decide (y<0)=g1 at *
 generalize decide (z<0)=g2 at *
 cases g1<;>cases g2
 all_goals refine LX_run (m:=0) (n0:=0) mix Tryz.func149 rfl rfl rfl rfl ?_
           conv=>whnf
 all_goals refine .c (k) ?_
           conv=>whnf
 all_goals refine bF (hs) ?_
           conv=>whnf
 all_goals refine .c (lz_quot (val_limbs _) (val_limbs _) hp (by omega) (by omega)) ?_
           conv=>whnf
 all_goals try (refine Nc.mk (by kernel_rfl) ?_;conv=>whnf)
 all_goals exact .q ⟨rfl,rfl⟩
theorem lx_zfrac {y z:Int}(h1: -9223372036854775808≤y)(h2:y<9223372036854775808)(h3: -9223372036854775808≤z)(h4:z<9223372036854775808)(hz:z≠0):
  LV Tryz.prog 95 [vl (.int .i64 y),vl (.int .i64 z)] (qE ((y:Rat)/z)):=by
 have hy:sz y.natAbs≤2:=sz_le_two.2 (u64_lt h1 h2);have hu:sz z.natAbs≤2:=sz_le_two.2 (u64_lt h3 h4);refine LX_run (m:=0) (n0:=0) mix Tryz.func95 rfl rfl rfl rfl ?_;conv=>whnf
 refine .c (lri_of h1 h2) ?_;conv=>whnf
 refine .c (lri_of h3 h4) ?_;conv=>whnf
 refine .c (lz_make hz (tL_ hy (by omega)) (tL_ hu (by omega))) ?_;conv=>whnf
 try (refine Nc.mk (by kernel_rfl) ?_;conv=>whnf)
 exact .q ⟨rfl,rfl⟩
theorem lz_same:LV Tryz.prog 39 [rawV b xs ys,rawV c xs' ys'] (vl (.bool (b==c&&same xs xs'&&same ys ys'))):=by
 have k1:=lr_same (xs:=xs) (ys:=xs');have k2:=lr_same (xs:=ys) (ys:=ys');generalize same xs xs'=g1 at *
 generalize same ys ys'=g2 at *
 cases b<;>cases c<;>cases g1<;>cases g2
 all_goals refine LX_run (m:=0) (n0:=0) mix Tryz.func39 rfl rfl rfl rfl ?_
           conv=>whnf
 all_goals repeat' first|(refine bs (fun h=> ?_) (fun h=> ?_)<;>conv=>whnf)|(refine Nc.mk (by kernel_rfl) ?_;conv=>whnf)|(refine .c (k1) ?_;conv=>whnf)|(refine .c (k2) ?_;conv=>whnf)
 all_goals exact .q ⟨rfl,rfl⟩
theorem lx_zsame {k:Nat}(hb:Bt k q)(hk:k≤3000000000):LV Tryz.prog 39 [rawV c xs ys,ratV q] (vl (.bool (vB c xs ys q))):=lz_same
theorem lx_zvalid (h1:xs.length≤100000000)(h2:ys.length≤100000000):LV Tryz.prog 194 [rawV c xs ys] (vl (.bool (vB c xs ys (rv c (val xs) (val ys))))):=by
 by_cases hl:lims xs∧lims ys
 ·have hcn:=lz_canon (b:=c) ⟨rfl,h1,h2,hl.1,hl.2⟩;have k:=lz_same (b:=c) (xs:=xs) (ys:=ys) (c:=decide (rv c (val xs) (val ys)<0)) (xs':=limbs (rv c (val xs) (val ys)).num.natAbs) (ys':=limbs (dn (rv c (val xs) (val ys))));refine LX_run (m:=0) (n0:=0) mix Tryz.func194 rfl rfl rfl rfl ?_;conv=>whnf
  refine .c (hcn) ?_;conv=>whnf
  refine .c (k) ?_;conv=>whnf
  repeat' first|(refine bs (fun h=> ?_) (fun h=> ?_)<;>conv=>whnf)|(refine Nc.mk (by kernel_rfl) ?_;conv=>whnf)
  all_goals simp only[vB, *]
  all_goals exact .q ⟨rfl,rfl⟩
 ·exact LV.no fun γ M w rs k=>hl (by obtain⟨r,rfl,k'⟩:=all2_1 k;exact lims_raw k')
end
section
variable {x y:V} {a b:Rat}
theorem lx_zsign (hx:RQ x a):LV Tryz.prog 49 [x] (vl (.int .i64 a.num.sign)):=rq1 hx fun _ _ _=>lz_sign
theorem lx_zadd (hx:RQ x a)(hy:RQ y b):LV Tryz.prog 85 [x,y] (ratV (a+b)):=rq2 hx hy fun _ _ _ _ _ _=>lz_add
theorem lx_zmul (hx:RQ x a)(hy:RQ y b):LV Tryz.prog 86 [x,y] (ratV (a*b)):=rq2 hx hy fun _ _ _ _ _ _=>lz_mul
end
structure Rw where
 b:Bool
 n:List Nat
 d:List Nat
def Rw.q (x:Rw):Rat:=rv x.b (val x.n) (val x.d)
abbrev Rw.D (x:Rw):List D:=[.lit (.bool x.b),.lm x.n,.lm x.d]
abbrev Rw.A (x:Rw):List A:=[.d (.lit (.bool x.b)),.d (.lm x.n),.d (.lm x.d)]
abbrev can (q:Rat):Rw:=⟨decide (q<0),limbs q.num.natAbs,limbs (dn q)⟩
abbrev Rw.sm (x:Rw):Prop:=x.n.length≤100000000∧x.d.length≤100000000
def Sz (q:Rat):Prop:=Bt 3000000000 q
theorem RQ.c {q:Rat}(h:Sz q):RQ (ratV q) q:=RQ.can h (lR_ _)
theorem can_q (q:Rat):(can q).q=q:=by unfold Rw.q;rw[val_limbs,val_limbs];exact rv_self q
theorem Sz.sm {q:Rat}(h:Sz q):(can q).sm:=⟨(Bt.sm h (lR_ _)).1,(Bt.sm h (lR_ _)).dn⟩
theorem Bt.mono {k l:Nat}{q:Rat}(h:Bt k q)(hl:k≤l):Bt l q:=⟨tL_ h.1 (Nat.pow_le_pow_right (by decide) hl),tL_ h.2 (Nat.pow_le_pow_right (by decide) hl)⟩
theorem Bt.sz {k:Nat}{q:Rat}(h:Bt k q)(hk:k≤3000000000):Sz q:=h.mono hk
theorem bt0 (k:Nat):Bt k 0:=⟨zL_ _,Nat.one_le_two_pow⟩
theorem sz0:Sz 0:=bt0 _
def Rw.ok (x:Rw):Bool:=vB x.b x.n x.d x.q
theorem can_ok (q:Rat):(can q).ok=true:=by unfold Rw.ok;rw[can_q];exact vB_can q
theorem ok_can {x:Rw}(h:x.ok=true):x=can x.q:=by
 unfold Rw.ok vB same at h;rw[Bool.and_eq_true,Bool.and_eq_true,beq_iff_eq,decide_eq_true_eq,decide_eq_true_eq]at h;obtain⟨⟨h1,h2⟩,h3⟩:=h;show x=⟨_,_,_⟩;rw[←h1,←h2,←h3]
theorem lx_ok {x:Rw}(h:x.sm):LV Tryz.prog 111 [.agg x.A] (vl (.bool x.ok)):=lx_rvalid h.1 h.2
theorem lx_zok {x:Rw}(h:x.sm):LV Tryz.prog 194 [.agg x.A] (vl (.bool x.ok)):=lx_zvalid h.1 h.2
theorem lx_okc {q:Rat}(h:Sz q):LV Tryz.prog 111 [ratV q] (vl (.bool true)):=by
 have:=lx_ok h.sm;rwa [can_ok]at this
structure Tm where
 v:Int
 q:Rat
structure Af where
 ts:List Tm
 c:Rat
structure Gr where
 n:Nat
 us:List Af
 os:List Af
structure Rg where
 lo:List Rat
 hi:List Rat
 rs:List Af
structure Qu where
 g:Gr
 r:Rg
 goal:Af
structure Dc where
 k:Int
 i:Int
 at_:Rw
structure Lm where
 u:Int
 up:Bool
 v:Rw
 pf:List (List D)
structure Sp where
 q:Qu
 path:List Dc
 ls:List Lm
abbrev Tm.D (t:Tm):List D:= .lit (.int .i64 t.v)::(can t.q).D
abbrev Af.D (f:Af):List D:= .sl 4 (f.ts.map Tm.D)::(can f.c).D
abbrev Af.A (f:Af):List A:= .d (.sl 4 (f.ts.map Tm.D))::(can f.c).A
abbrev afsD (l:List Af):D:= .sl 4 (l.map Af.D)
abbrev rqsD (l:List Rat):D:= .sl 3 (l.map fun q=>(can q).D)
abbrev Gr.A (g:Gr):List A:=[.d (.lit (.int .i64 g.n)),.d (afsD g.us),.d (afsD g.os)]
structure AfOk (f:Af)(n:Int):Prop where
 lo:∀(i:Nat) (t:Tm),f.ts[i]? =some t→0≤t.v∧t.v<n∧t.q≠0∧Sz t.q
 up:∀(i:Nat) (t u:Tm),f.ts[i]? =some t→f.ts[i+1]? =some u→t.v<u.v
 c:Sz f.c
 len:f.ts.length≤1000000
structure GrOk (g:Gr):Prop where
 n1:1≤g.n
 n2:g.n≤256
 u1:g.us.length≤1024
 o1:1≤g.os.length
 o2:g.os.length≤256
 us:∀(j:Nat) (f:Af),g.us[j]? =some f→AfOk f (g.n+j:Nat)
 os:∀f∈g.os,AfOk f (g.n+g.us.length:Nat)
structure RgOk (r:Rg)(n:Nat):Prop where
 n1:1≤n
 n2:n≤256
 lo:r.lo.length=n
 hi:r.hi.length=n
 rl:r.rs.length≤256
 le:∀(i:Nat) (a b:Rat),r.lo[i]? =some a→r.hi[i]? =some b→a≤b
 sl:∀q∈r.lo,Sz q
 sh:∀q∈r.hi,Sz q
 rs:∀f∈r.rs,AfOk f n
structure QuOk (q:Qu):Prop where
 g:GrOk q.g
 r:RgOk q.r q.g.n
 goal:AfOk q.goal (q.g.n+q.g.us.length:Nat)
theorem at_some {α:Type}{l:List α}{i:Nat}(h:i<l.length):∃x,l[i]? =some x:=⟨_,List.getElem?_eq_getElem h⟩
theorem at_lt {α:Type}{l:List α}{i:Nat}{x:α}(h:l[i]? =some x):i<l.length:=(List.getElem?_eq_some_iff.1 h).1
theorem at_map {α β:Type}{l:List α}{f:α→β}{i:Nat}{x:α}(h:l[i]? =some x):(l.map f)[i]? =some (f x):=by rw[List.getElem?_map,h];rfl
theorem sgn_ne {q:Rat}(h:q≠0):(q.num.sign==0)=false:=by simpa [Int.sign_eq_zero_iff_zero]using h
theorem take_snoc {α:Type}{l:List α}{i:Nat}{x:α}(h:l[i]? =some x):l.take (i+1)=l.take i++[x]:=by
 obtain⟨h1,h2⟩:=List.getElem?_eq_some_iff.1 h;rw[List.take_succ_eq_append_getElem h1,h2]
theorem lx_lvalid {f:Af}{n:Int}(hf:AfOk f n):LV Tryz.prog 77 [.agg f.A,vl (.int .i64 n)] (vl (.bool true)):=by
 refine LX_run (m:=0) (n0:=0) mix Tryz.func77 rfl rfl rfl rfl ?_;conv=>whnf
 have hl:=hf.len;refine .mk Nat (fun i=>⟨[(10,vl (.int .i64 i)),(9,vl (.int .i64 (f.ts.map Tm.D).length)),(8,.a (.d (.sl 4 (f.ts.map Tm.D)))),(2,.a (.ptr 0 0)),(1,vl (.int .i64 n))],[(0,.box 79 f.A)],1⟩) (fun i=>i≤f.ts.length) (fun i=>f.ts.length-i) 0 Wk.go (zL_ _) fun i hi=> ?_;conv=>whnf
 refine bs (fun h1=> ?_) (fun h1=> ?_)
 ·conv=>whnf
  have h1':i<f.ts.length:=by simpa using h1
  obtain⟨t,ht⟩:=at_some h1';obtain⟨a1,a2,a3,a4⟩:=hf.lo i t ht;refine .mk (i) (t.D) (rfl) (at_map ht) ?_;conv=>whnf
  conv=>whnf
  refine bF (decide_eq_false (by omega)) ?_;conv=>whnf
  refine bF (decide_eq_false (by omega)) ?_;conv=>whnf
  refine bs (fun h2=> ?_) (fun h2=> ?_)
  ·conv=>whnf
   have h2':0<i:=by simpa using h2
   obtain⟨u,hu⟩:=at_some (l:=f.ts) (i:=i-1) (by omega);have a5:=hf.up (i-1) u t hu (by rw[show i-1+1=i by omega];exact ht);refine .mk (i-1) (u.D) (by rw[wr64 (by omega) (by omega)];omega) (at_map hu) ?_;conv=>whnf
   conv=>whnf
   refine bF (decide_eq_false (by omega)) ?_;conv=>whnf
   refine .c (lx_rsign (.c a4)) ?_;conv=>whnf
   refine bF (sgn_ne a3) ?_;conv=>whnf
   refine .c (lx_okc a4) ?_;conv=>whnf
   refine .mk (by kernel_rfl) ?_;conv=>whnf
   exact⟨i+1,Wk.go,h1',by omega⟩
  ·conv=>whnf
   refine .c (lx_rsign (.c a4)) ?_;conv=>whnf
   refine bF (sgn_ne a3) ?_;conv=>whnf
   refine .c (lx_okc a4) ?_;conv=>whnf
   refine .mk (by kernel_rfl) ?_;conv=>whnf
   exact⟨i+1,Wk.go,h1',by omega⟩
 ·conv=>whnf
  refine .c (lx_okc hf.c) ?_;conv=>whnf
  exact .q ⟨rfl,rfl⟩
theorem AfOk.w {f:Af}{n m:Int}(h:AfOk f n)(e:m=n):AfOk f m:=e▸h
theorem lx_lvalidG {f:Af}{n:Int}(hf:AfOk f n):
  LX Tryz.prog 134 [.agg f.A,.a (.ptr 0 0)] [(0,.box 3 [.d (.lit (.int .i64 n))])] fun v H=>v=vl (.bool false)∧H=[(0,.box 3 [.d (.lit (.int .i64 n))])]:=by
 refine LX_run (m:=1) (n0:=1) mix Tryz.func134 rfl rfl rfl rfl ?_;conv=>whnf
 refine .c (lx_lvalid hf) ?_;conv=>whnf
 exact⟨_,_,⟨rfl,rfl⟩,vR_ _,rfl,⟨⟨_,rfl,wke_refl _,rfl⟩,trivial⟩,rfl⟩
theorem lx_cfA {F:FuncId}{fs:List Af}{n:Int}(hl:fs.length≤1000000)(he:entT Tryz.prog F=true)(hF:∀f∈fs,LX Tryz.prog F [.agg f.A,.a (.ptr 0 0)] [(0,.box 3 [.d (.lit (.int .i64 n))])] fun v H=>v=vl (.bool false)∧H=[(0,.box 3 [.d (.lit (.int .i64 n))])]):
  LX Tryz.prog 133 [.a (.d (afsD fs)),.a (.fn (.func F) [] [.ptr 0 0])] [(0,.box 3 [.d (.lit (.int .i64 n))])] fun v H=>v=vl (.bool false)∧H=[(0,.box 3 [.d (.lit (.int .i64 n))])]:=by
 have ix:LX Tryz.prog 187 [.a (.d (afsD fs)),.a (.fn (.func F) [] [.ptr 0 0])] [(0,.box 3 [.d (.lit (.int .i64 n))])] fun v H=>v=vl (.int .i64 (-1))∧H=[(0,.box 3 [.d (.lit (.int .i64 n))])]:=by
  refine LX_run (m:=1) (n0:=1) mix Tryz.func187 rfl rfl rfl rfl ?_;conv=>whnf
  refine .mk Nat (fun i=>⟨[(8,vl (.int .i64 i)),(7,vl (.int .i64 (fs.map Af.D).length)),(1,.a (.fn (.func F) [] [.ptr 0 0])),(0,.a (.d (afsD fs)))],[(0,.box 3 [.d (.lit (.int .i64 n))])],1⟩) (fun i=>i≤fs.length) (fun i=>fs.length-i) 0 Wk.go (zL_ _) fun i hi=> ?_;conv=>whnf
  refine bs (fun h1=> ?_) (fun h1=> ?_)
  ·conv=>whnf
   have h1':i<fs.length:=by simpa using h1
   obtain⟨f,hf⟩:=at_some h1';refine .mk (i) (f.D) (rfl) (at_map hf) ?_;conv=>whnf
   refine Cn.l [0] (hF f (mG_ hf)) ?_ he;conv=>whnf
   exact⟨i+1,Wk.go,h1',by omega⟩
  ·conv=>whnf
   exact⟨_,_,⟨rfl,rfl⟩,vR_ _,rfl,⟨⟨_,rfl,wke_refl _,rfl⟩,trivial⟩,rfl⟩
 refine LX_run (m:=1) (n0:=1) mix Tryz.func133 rfl rfl rfl rfl ?_;conv=>whnf
 refine .l [0] (ix) ?_;conv=>whnf
 exact⟨_,_,⟨rfl,rfl⟩,vR_ _,rfl,⟨⟨_,rfl,wke_refl _,rfl⟩,trivial⟩,rfl⟩
theorem lx_gvalid0 {fs:List Af}{n:Int}(hl:fs.length≤1000000)(hf:∀f∈fs,AfOk f n):LV Tryz.prog 78 [.a (.d (afsD fs)),vl (.int .i64 n)] (vl (.bool true)):=by
 refine LX_run (m:=0) (n0:=0) mix Tryz.func78 rfl rfl rfl rfl ?_;conv=>whnf
 refine .l [0] (lx_cfA hl rfl fun f hm=>lx_lvalidG (hf f hm)) ?_;conv=>whnf
 exact .q ⟨rfl,rfl⟩
theorem lx_gvalid {g:Gr}(hg:GrOk g):LV Tryz.prog 40 [.agg g.A] (vl (.bool true)):=by
 obtain⟨n1,n2,u1,o1,o2,hus,hos⟩:=hg;refine LX_run (m:=0) (n0:=0) mix Tryz.func40 rfl rfl rfl rfl ?_;conv=>whnf
 refine bF (decide_eq_false (by omega)) ?_;conv=>whnf
 refine bF (decide_eq_false (by omega)) ?_;conv=>whnf
 refine bF (decide_eq_false (by simp;omega)) ?_;conv=>whnf
 refine bF (decide_eq_false (by simp;omega)) ?_;conv=>whnf
 refine bF (decide_eq_false (by simp;omega)) ?_;conv=>whnf
 refine .mk Nat (fun i=>⟨[(34,vl (.int .i64 i)),(33,vl (.int .i64 (g.us.map Af.D).length)),(32,.a (.d (afsD g.us))),(1,.a (.ptr 0 0))],[(0,.box 36 g.A)],1⟩) (fun i=>i≤g.us.length) (fun i=>g.us.length-i) 0 Wk.go (zL_ _) fun i hi=> ?_;conv=>whnf
 refine bs (fun h1=> ?_) (fun h1=> ?_)
 ·conv=>whnf
  have h1':i<g.us.length:=by simpa using h1
  obtain⟨f,hf⟩:=at_some h1';refine .mk (i) (f.D) (rfl) (at_map hf) ?_;conv=>whnf
  conv=>whnf
  refine .c (lx_lvalid ((hus i f hf).w (by rw[wr64 (by omega) (by omega)];omega))) ?_;conv=>whnf
  exact⟨i+1,Wk.go,h1',by omega⟩
 ·conv=>whnf
  refine .c (lx_gvalid0 (by omega) fun f hf=>(hos f hf).w (by rw[wr64 (by simp;omega) (by simp;omega)];simp)) ?_;conv=>whnf
  exact .q ⟨rfl,rfl⟩
def Rw.z0 (x:Rw):Bool:= !x.b&&((x.n.length:Int)==0)&&((x.d.length:Int)==0)
def fitB (q:Qu)(d:Dc):Bool:=
 if d.k=1∨d.k=2 then decide (d.i≥0)&&decide (d.i<(q.g.us.length:Int))&&d.at_.z0
 else if d.k=3∨d.k=4 then decide (d.i≥0)&&decide (d.i<(q.g.n:Int))&&d.at_.ok else false
structure SpOk (s:Sp):Prop where
 q:QuOk s.q
 pl:s.path.length≤1000000
 pn:∀d∈s.path,d.at_.sm
 ll:s.ls.length≤1000000
 ln:∀m∈s.ls,m.v.sm
 rlo:∀q∈s.q.r.lo,Bt 300000000 q
 rhi:∀q∈s.q.r.hi,Bt 300000000 q
 pb:∀d∈s.path,Bt 300000000 d.at_.q
 lb:∀m∈s.ls,Bt 300000000 m.v.q
def atL (ls:List Lm)(z:Int):Lm:=(ls[(z-1).toNat]?).getD ⟨0,false,⟨false,[],[]⟩,[]⟩
abbrev vAt (ls:List Lm)(z:Int):Rat:=(atL ls z).v.q
open Go.Maps
theorem clone_nil {P:Program}{F:FuncId}{k:Nat}{e:TypeId}(h1:∀cap,LX P F [vl (.slice none 0 cap)] [] fun v H=>v=vl (.slice none 0 0)∧H=[])(h2:∀a cap,LX P F [vl (.slice (some a) 0 cap)] [] fun v H=>v= .a (.own 0 k [])∧H=[(0,.arr e k 0)]):
  LX P F [.a (.d (.sl k []))] [] fun v H=>v= .a (.own 0 k [])∧H=[(0,.arr e k 0)]:=by
 refine⟨_,_,⟨rfl,rfl⟩,fun γ M w rs hr ha=> ?_⟩;obtain⟨v,rfl,hv⟩:=all2_1 ha;have:∃ad cap,v= .slice ad 0 cap:=by
  generalize hx:(V.a (A.d (D.sl k [])))=x at hv;have hv':RdD M w (.sl k []) v:=by subst hx;exact hv
  cases hv';exact⟨_,_,rfl⟩
 obtain⟨ad,cap,rfl⟩:=this
 cases ad with
 |none=>
  obtain⟨v',H',⟨rfl,rfl⟩,hc⟩:=h1 cap;refine cM (hc γ M w _ hr ⟨.lit _,trivial⟩) ?_;rintro e1 w' ⟨r,γ',M',rfl,k1,k2,k3⟩;obtain⟨q1,q2⟩:=new_nil k1 (key:=0) rfl e k;have e2:look [(0,Ent.arr e k 0)]=over [(0,.arr e k 0)] (look []):=look_app [(0,Ent.arr e k 0)] [];have e3:=lit_inv k2;subst e3;refine⟨_,_,M',rfl,by rw[e2];exact q1,⟨nil_ok k,rfl,fun e' k' n he=> ?_⟩,by rw[e2];exact k3.trans q2 hr.dom⟩;simp only[look,if_true]at he;injection he with he;injection he with _ _ he;subst he;exact⟨lR_ _,fun _=>by rw[upd_same]⟩
 |some a=>
  obtain⟨v',H',⟨rfl,rfl⟩,hc⟩:=h2 a cap;exact hc γ M w _ hr ⟨.lit _,trivial⟩
def isU (d:Dc):Bool:=decide (d.k=1∨d.k=2)
def seenB (l:List Dc)(x:Int):Bool:=l.any fun d=>isU d&&d.i==x
def twTo (l:List Dc):Nat→Bool
 |0=>false
 |i+1=>twTo l i||(match l[i]? with
  |some d=>isU d&&seenB (l.take i) d.i
  |none=>false)
def twB (l:List Dc):Bool:=twTo l l.length
theorem can0:can 0=⟨false,limbs 0,limbs 0⟩:=by
 have h1:decide ((0:Rat)<0)=false:=by decide
 show Rw.mk _ _ _=_;rw[h1];rfl
structure Iv where
 lo:Rat
 hi:Rat
theorem bt_mk {k:Nat}{z:Int}{d:Nat}(hd:0<d)(h1:z.natAbs≤2^k)(h2:d≤2^k):Bt k (mkRat z d):=by
 refine⟨?_,?_⟩
 ·rw[Rat.num_mkRat];split
  ·simp
  ·refine tL_ ?_ h1;rw[Int.natAbs_ediv_of_dvd (Int.ofNat_dvd_left.2 (by first|exact Nat.gcd_dvd_left _ _|exact Nat.gcd_dvd_right _ _))];exact Nat.div_le_self _ _
 ·rw[Rat.den_mkRat];split
  ·exact Nat.one_le_two_pow
  ·exact tL_ (Nat.div_le_self _ _) h2
theorem Bt.mul {k l:Nat}{a b:Rat}(h:Bt k a)(h':Bt l b):Bt (k+l) (a*b):=by
 rw[←Rat.mkRat_self a,←Rat.mkRat_self b,Rat.mkRat_mul_mkRat];refine bt_mk (Nat.mul_pos a.den_pos b.den_pos) ?_ ?_
 ·rw[Int.natAbs_mul,Nat.pow_add];exact Nat.mul_le_mul h.1 h'.1
 ·rw[Nat.pow_add];exact Nat.mul_le_mul h.2 h'.2
theorem Bt.add {k l:Nat}{a b:Rat}(h:Bt k a)(h':Bt l b):Bt (k+l+1) (a+b):=by
 rw[←Rat.mkRat_self a,←Rat.mkRat_self b,Rat.mkRat_add_mkRat _ _ a.den_nz b.den_nz];have h1:=Nat.mul_le_mul h.1 h'.2;have h2:=Nat.mul_le_mul h'.1 h.2;have h3:=Nat.mul_le_mul h.2 h'.2;rw[←Nat.pow_add]at h1 h2 h3;rw[Nat.add_comm l k]at h2;have e:2^(k+l+1)=2^(k+l)+2^(k+l):=by rw[Nat.pow_succ];omega
 refine bt_mk (Nat.mul_pos a.den_pos b.den_pos) ?_ (by omega);refine tL_ (Int.natAbs_add_le _ _) ?_;rw[Int.natAbs_mul,Int.natAbs_mul,Int.natAbs_natCast,Int.natAbs_natCast];omega
theorem Bt.inv {k:Nat}{a:Rat}(h:Bt k a)(h0:a≠0):Bt k a⁻¹:=by
 have hn:a.num≠0:=by simpa using h0
 refine⟨?_,?_⟩
 ·rw[Rat.num_inv,Int.natAbs_mul,Int.natAbs_sign_of_ne_zero hn,Nat.one_mul,Int.natAbs_natCast];exact h.2
 ·rw[Rat.den_inv,if_neg (by simpa using h0)];exact h.1
theorem Bt.div {k l:Nat}{a b:Rat}(h:Bt k a)(h':Bt l b)(h0:b≠0):Bt (k+l) (a/b):=by
 rw[Rat.div_def];exact h.mul (h'.inv h0)
theorem rat0V:V.agg [A.d (.lit (.bool false)),.d (.lm (limbs 0)),.d (.lm (limbs 0))]=ratV 0:=by
 have h:=can0;injection h with h1 h2 h3;show _=V.agg [_,_,_];rw[h1,h2,h3]
def unB (l u:Rat):Bool:=decide (l<0)&&decide (0<u)
theorem un_ne {l u:Rat}(h:unB l u=true):u-l≠0:=by
 simp[unB]at h;grind
theorem Bt.int {z:Int}{k:Nat}(h:z.natAbs≤2^k):Bt k (z:Rat):=⟨by rw[Rat.num_intCast];exact h,by rw[Rat.den_intCast];exact Nat.one_le_two_pow⟩
def isIn (d:Dc):Bool:=(d.k==3)||(d.k==4)
def cntI (l:List Dc):Nat:=(l.filter isIn).length
def ivAt (L:List Iv)(j:Nat):Iv:=(L[j]?).getD ⟨0,0⟩
def wd (L:List Iv)(j:Nat):Rat:=(ivAt L j).hi-(ivAt L j).lo
def cof:List Tm→Int→Rat
 |[],_=>0
 |t::ts,w=>(if t.v=w then t.q else 0)+cof ts w
theorem cof_app (a b:List Tm)(w:Int):cof (a++b) w=cof a w+cof b w:=by
 induction a with
 |nil=>simp[cof,Rat.zero_add]
 |cons t a ih=>simp only[List.cons_append,cof,ih,Rat.add_assoc]
def nz1 (t:Tm):List Tm:=if t.q=0 then []else [t]
theorem cof_nz1 (t:Tm)(w:Int):cof (nz1 t) w=if t.v=w then t.q else 0:=by
 unfold nz1;split
 ·rename_i h;simp[cof,h]
 ·simp[cof,Rat.add_zero]
def ins (v:Int)(c:Rat):List Tm→List Tm
 |[]=>nz1 ⟨v,c⟩
 |t::ts=>if t.v=v then nz1 ⟨v,t.q+c⟩++ts else if v<t.v then nz1 ⟨v,c⟩++t::ts else t::ins v c ts
theorem cof_ins (v:Int)(c:Rat)(ts:List Tm)(w:Int):cof (ins v c ts) w=cof ts w+if v=w then c else 0:=by
 induction ts with
 |nil=>simp[ins,cof_nz1,cof,Rat.zero_add]
 |cons t ts ih=>
  simp only[ins];split
  ·rename_i h;rw[cof_app,cof_nz1,cof,h];split<;>grind
  ·split
   ·rw[cof_app,cof_nz1];grind
   ·simp only[cof,ih,Rat.add_assoc]
def TsOk (n:Int):Int→List Tm→Prop
 |_,[]=>True
 |lo,t::ts=>lo≤t.v∧t.v<n∧t.q≠0∧TsOk n (t.v+1) ts
theorem TsOk.lo {n lo lo':Int}{ts:List Tm}(h:TsOk n lo ts)(hl:lo'≤lo):TsOk n lo' ts:=by
 cases ts with
 |nil=>trivial
 |cons t ts=>exact⟨by have:=h.1;omega,h.2⟩
theorem TsOk.up {n n':Int}{ts:List Tm}(hn:n≤n'):∀{lo:Int},TsOk n lo ts→TsOk n' lo ts:=by
 induction ts with
 |nil=>intros;trivial
 |cons t ts ih=>exact fun h=>⟨h.1,by have:=h.2.1;omega,h.2.2.1,ih h.2.2.2⟩
theorem TsOk.nz {n lo v:Int}{q:Rat}{ts:List Tm}(h:TsOk n (v+1) ts)(h1:lo≤v)(h2:v<n):TsOk n lo (nz1 ⟨v,q⟩++ts):=by
 unfold nz1;split
 ·exact h.lo (by omega)
 ·exact⟨h1,h2,by assumption,h⟩
theorem TsOk.ins {n v:Int}{c:Rat}(h2:v<n){ts:List Tm}:∀{lo:Int},TsOk n lo ts→lo≤v→TsOk n lo (Lf.ins v c ts):=by
 induction ts with
 |nil=>
  intro lo h h1;have:=TsOk.nz (q:=c) (lo:=lo) (show TsOk n (v+1) []from trivial) h1 h2
  rwa [List.append_nil]at this
 |cons t ts ih=>
  intro lo h h1;simp only[Lf.ins];split
  ·rename_i e;exact TsOk.nz (e▸h.2.2.2) h1 h2
  ·split
   ·exact TsOk.nz ⟨by omega,h.2⟩ h1 h2
   ·exact⟨h.1,h.2.1,h.2.2.1,ih h.2.2.2 (by omega)⟩
theorem TsOk.cof_lt {n:Int}{ts:List Tm}:∀{lo w:Int},TsOk n lo ts→w<lo→cof ts w=0:=by
 induction ts with
 |nil=>intros;rfl
 |cons t ts ih=>
  intro lo w h hw;have:=h.1;rw[cof,if_neg (by omega),ih h.2.2.2 (by omega),Rat.add_zero]
theorem TsOk.cof_mem {n:Int}{ts:List Tm}:∀{lo:Int},TsOk n lo ts→∀t∈ts,cof ts t.v=t.q∧lo≤t.v∧t.v<n∧t.q≠0:=by
 induction ts with
 |nil=>intro lo h t ht;cases ht
 |cons s ts ih=>
  intro lo h t ht;have h1:=h.1;rcases List.mem_cons.1 ht with rfl|ht
  ·exact⟨by rw[cof,if_pos rfl,h.2.2.2.cof_lt (by omega),Rat.add_zero],h.1,h.2.1,h.2.2.1⟩
  ·obtain⟨k1,k2,k3,k4⟩:=ih h.2.2.2 t ht;exact⟨by rw[cof,if_neg (by omega),k1,Rat.zero_add],by omega,k3,k4⟩
theorem TsOk.len {n:Int}{ts:List Tm}:∀{lo:Int},TsOk n lo ts→lo≤n→(ts.length:Int)≤n-lo:=by
 induction ts with
 |nil=>intro lo h hn;simp;omega
 |cons t ts ih=>
  intro lo h hn;have:=ih h.2.2.2 (by have:=h.2.1;omega);have:=h.1;have:=h.2.1;simp only[List.length_cons];omega
theorem TsOk.next {n:Int}{ts:List Tm}:∀{lo:Int},TsOk n lo ts→∀(i:Nat) (t u:Tm),ts[i]? =some t→ts[i+1]? =some u→t.v<u.v:=by
 induction ts with
 |nil=>intro lo h i t u h1;simp at h1
 |cons s ts ih=>
  intro lo h i t u h1 h2
  cases i with
  |zero=>
   simp at h1 h2;subst h1
   cases ts with
   |nil=>simp at h2
   |cons r ts=>simp at h2;subst h2;have:=h.2.2.2.1;omega
  |succ i=>exact ih h.2.2.2 i t u (by simpa using h1) (by simpa using h2)
structure FB (k:Nat)(n:Int)(f:Af):Prop where
 ts:TsOk n 0 f.ts
 co:∀w,Bt k (cof f.ts w)
 c:Bt k f.c
theorem FB.ok {k:Nat}{n:Int}{f:Af}(h:FB k n f)(hk:k≤3000000000)(h0:0≤n)(hn:n≤1000000):AfOk f n:=by
 refine⟨fun i t ht=> ?_,h.ts.next,h.c.mono hk,?_⟩
 ·obtain⟨k1,k2,k3,k4⟩:=h.ts.cof_mem t (mG_ ht);exact⟨k2,k3,k4,k1▸(h.co t.v).mono hk⟩
 ·have:=h.ts.len h0;omega
theorem FB.tm {k:Nat}{n:Int}{f:Af}(h:FB k n f):∀t∈f.ts,0≤t.v∧t.v<n∧t.q≠0∧Bt k t.q:=fun t ht=>
 let ⟨k1,k2,k3,k4⟩:=h.ts.cof_mem t ht;⟨k2,k3,k4,k1▸h.co t.v⟩
def addS (f g:Af):Af:=⟨g.ts.foldl (fun a t=>ins t.v t.q a) f.ts,f.c+g.c⟩
def scaleS (f:Af)(c:Rat):Af:=⟨f.ts.flatMap fun t=>nz1 ⟨t.v,t.q*c⟩,f.c*c⟩
def subS (f g:Af):Af:=addS f (scaleS g ((-1:Int):Rat))
def varS (v:Int):Af:=⟨[⟨v,((1:Int):Rat)⟩],0⟩
def numS (c:Rat):Af:=⟨[],c⟩
theorem cof_fold (b:List Tm)(w:Int):∀a:List Tm,cof (b.foldl (fun a t=>ins t.v t.q a) a) w=cof a w+cof b w:=by
 induction b with
 |nil=>intro a;simp[cof,Rat.add_zero]
 |cons t b ih=>intro a;rw[List.foldl_cons,ih,cof_ins,cof,Rat.add_assoc]
theorem ok_fold {n:Int}{b:List Tm}(hb:∀t∈b,0≤t.v∧t.v<n):∀{a:List Tm},TsOk n 0 a→TsOk n 0 (b.foldl (fun a t=>ins t.v t.q a) a):=by
 induction b with
 |nil=>intro a h;exact h
 |cons t b ih=>intro a h;exact ih (fun t ht=>hb t (by simp[ht])) (h.ins (hb t (by simp)).2 (hb t (by simp)).1)
theorem cof_scale (c:Rat)(w:Int):∀ts:List Tm,cof (ts.flatMap fun t=>nz1 ⟨t.v,t.q*c⟩) w=cof ts w*c
 |[]=>by simp[cof]
 |t::ts=>by
  rw[List.flatMap_cons,cof_app,cof_nz1,cof_scale c w ts,cof,Rat.add_mul]
  congr 1
  split<;>simp
theorem ok_scale {n:Int}(c:Rat):∀{ts:List Tm} {lo:Int},TsOk n lo ts→TsOk n lo (ts.flatMap fun t=>nz1 ⟨t.v,t.q*c⟩)
 |[],_,_=>trivial
 |t::ts,lo,h=>by
  rw[List.flatMap_cons];exact TsOk.nz (ok_scale c h.2.2.2) h.1 h.2.1
theorem FB.scale {k l:Nat}{n:Int}{f:Af}{c:Rat}(h:FB k n f)(hc:Bt l c):FB (k+l) n (scaleS f c):=
 ⟨ok_scale c h.ts,fun w=>by rw[scaleS,cof_scale];exact(h.co w).mul hc,h.c.mul hc⟩
theorem FB.num {k:Nat}{n:Int}{c:Rat}(h:Bt k c):FB k n (numS c):=⟨trivial,fun w=>bt0 _,h⟩
theorem Cn.o {P:Program}{F:FuncId}{vs:List V}{H:List (Nat×Ent)}{n:Nat}{K:V→List (Nat×Ent)→List Nat→Nat→Prop}{v:V}{Hs H1:List (Nat×Ent)}(ks:List Nat)(hc:LX P F (vs.map (renV fun k=>ks.idxOf k)) Hs fun v' H'=>v'=v∧H'=H1)
  (hk:fX (renV (back ks n) v) fun v=>fHs (H1.map fun p=>(back ks n p.1,p.2)) fun sets=>K v sets (ks++H1.map fun p=>back ks n p.1) (n+H1.length)) (he:entT P F=true:=by rfl)
  (hl:lendFrom (look H) 0 ks=some Hs:=by rfl) (hok:okF ks n vs H H1=true:=by rfl):Cn P F vs H n K:=by
 unfold okF at hok;simp only[Bool.and_eq_true,Bool.or_eq_true,decide_eq_true_eq,List.all_eq_true,Nat.blt_eq,List.contains_eq_mem]at hok;obtain⟨⟨⟨o1,o2⟩,o3⟩,o4⟩:=hok;refine .lend ks _ Hs _ he hc (wks_refl vs) o1 o2 hl o3 fun v' H1' hR=> ?_;obtain⟨rfl,rfl⟩:=hR;exact⟨List.all_eq_true.2 fun p hp=>(o4 p hp).1,fun p hp hle=>(o4 p hp).2.elim (fun h=>absurd h (by omega)) fun h=>by simpa using h,hk⟩
theorem All2.set {α β:Type}{R:α→β→Prop}:∀{xs:List α} {ys:List β} {j:Nat} {x y:α},All2 R xs ys→xs[j]? =some x→(∀v,R x v→R y v)→All2 R (xs.set j y) ys
 |[],[],_,_,_,_,h,_=>by simp at h
 |a::xs,b::ys,0,x,y,k,h,f=>by simp at h;subst h;exact⟨f b k.1,k.2⟩
 |a::xs,b::ys,j+1,x,y,k,h,f=>⟨k.1,All2.set k.2 (by simpa using h) f⟩
 |[],_::_,_,_,_,k,_,_=>k.elim
 |_::_,[],_,_,_,k,_,_=>k.elim
theorem relabel {γ:Gh}{h:Hp}{M:MS}{w:World}{b key j k:Nat}{t e:TypeId}{cs:List A}(r:Rel γ h M w)(hb:h b=some (.box t cs))(hj:cs[j]? =some (.d (.lit (.slice none 0 0))))(hk:h key=some (.arr e k 0))(hg:γ key= .slice none 0 0):
  Rel γ (over [(b,.box t (cs.set j (.own key k [])))] h) M w∧Stp γ h M w γ (over [(b,.box t (cs.set j (.own key k [])))] h) M w:=by
 have hne:key≠b:=by intro e1;subst e1;rw[hb]at hk;cases hk
 have ho:∀key' b' i,Owns γ (over [(b,.box t (cs.set j (.own key k [])))] h) key' b' i↔Owns γ h key' b' i:=fun key' b' i=>by
  by_cases e1:key'=b
  ·subst e1;simp only[Owns,over_same,hb]
  ·exact owns_congr rfl (over_other e1)
 have hl:∀key',live (over [(b,.box t (cs.set j (.own key k [])))] h key')=live (h key'):=fun key'=>by
  by_cases e1:key'=b
  ·subst e1;rw[over_same,hb];rfl
  ·rw[over_other e1]
 have s:Stp γ h M w γ (over [(b,.box t (cs.set j (.own key k [])))] h) M w:=by
  refine⟨rfl,rfl,rfl,lR_ _,fun _ _ _ k=>k,fun _ _ _=>rfl,fun _ _ k _=>k,fun key' b' i h1 _=>⟨key',(ho _ _ _).1 h1⟩,fun key' e' he=> ?_⟩
  by_cases e1:key'=b
  ·subst e1;rw[hb]at he;injection he with he;subst he;exact⟨_,over_same,trivial,.inl rfl⟩
  ·exact⟨e',by rw[over_other e1];exact he,Goes.refl _,.inl rfl⟩
 refine⟨⟨fun key' e' he=> ?_,fun key' b' i h1=>r.own key' b' i ((ho _ _ _).1 h1),fun k1 k2 b' l1 l2 b1 b2=>r.inj k1 k2 b' (by rw[←hl];exact l1) (by rw[←hl];exact l2) b1 b2,r.u32,r.dom,r.glb⟩,s⟩
 by_cases e1:key'=b
 ·subst e1;rw[over_same]at he;injection he with he;subst he;obtain⟨g,vs,k1,k2,k3⟩:=r.ent _ _ hb;refine⟨g,vs,k1,k2,All2.set (All2.imp (fun x v k=>RdA.stp s k) k3) hj fun v hv=> ?_⟩;rw[show v= .slice none 0 0 from lit_inv hv];refine⟨nil_ok k,by rw[over_other hne,hk];rfl,fun e' k' n he=> ?_⟩;rw[over_other hne,hk]at he;injection he with he;injection he with _ _ he;subst he;exact⟨lR_ _,fun _=>hg.symm⟩
 ·rw[over_other e1]at he;exact EntR.stp s (r.ent key' e' he) rfl fun _ _ _=>rfl
theorem Wk.ownB {m:Nat}{s:St}(b key j:Nat)(e:TypeId)(k:Nat){t:TypeId}{cs:List A}(hb:look s.H b=some (.box t cs))(hj:cs[j]? =some (.d (.lit (.slice none 0 0))))(hk:look s.H key=none):
  Wk m s ⟨s.T,(b,.box t (cs.set j (.own key k [])))::(key,.arr e k 0)::s.H,s.n⟩:=by
 intro N γ0 h0 M0 w0 a w hm hd hS;obtain⟨γ,M,k1,k2,k3,k4,k5⟩:=hS;have hne:b≠key:=by intro e1;subst e1;rw[hb]at hk;cases hk
 obtain⟨q1,q2⟩:=new_nil k1 hk e k;obtain⟨q3,q4⟩:=relabel (b:=b) (j:=j) (k:=k) (cs:=cs) q1 (by rw[over_other hne];exact hb) hj over_same upd_same;have q5:=Stp.trans q2 q4 k1.dom;have e1:look ((b,Ent.box t (cs.set j (.own key k [])))::(key,Ent.arr e k 0)::s.H)=over [(b,.box t (cs.set j (.own key k [])))] (over [(key,.arr e k 0)] (look s.H)):=by
  rw[←look_app [(key,Ent.arr e k 0)] s.H];exact look_app [(b,_)] ((key,Ent.arr e k 0)::s.H)
 refine⟨_,M,by rw[e1];exact q3,⟨k2.1,fun d' v' hv'=> ?_⟩,k3,k4,by rw[e1];exact k5.trans q5 hd⟩;obtain⟨x,y1,y2⟩:=k2.2 d' v' hv';exact⟨x,y1,by rw[e1];exact RdV.stp q5 y2⟩
theorem TsOk.take {n:Int}:∀{ts:List Tm} {lo:Int} (i:Nat),TsOk n lo ts→TsOk n lo (ts.take i)
 |[],_,i,_=>by simp[TsOk]
 |t::ts,_,0,_=>trivial
 |t::ts,lo,i+1,h=>⟨h.1,h.2.1,h.2.2.1,TsOk.take i h.2.2.2⟩
abbrev bysD (raw:List Nat):D:= .sl 1 (raw.map fun b=>[.lit (.int .u8 (b:Nat))])
abbrev fdH (raw:List Nat)(a:Nat):List (Nat×Ent):=[(0,.box 144 [.d (bysD raw),.d (.lit (.int .i64 (a:Nat)))])]
structure RawOk (raw:List Nat):Prop where
 len:raw.length≤1000000
 by_:∀b∈raw,b<256
theorem lx_new2 {raw:List Nat}(h:RawOk raw):LX Tryz.prog 54 [.a (.d (bysD raw))] [] fun v H=>v= .a (.ptr 2 0)∧H=[(2,.box 144 [.d (bysD raw),.d (.lit (.int .i64 (0:Nat)))])]:=by
 have hl:=h.len;refine LX_run (m:=0) (n0:=0) mix Tryz.func54 rfl rfl rfl rfl ?_;conv=>whnf
 refine .own ?_;conv=>whnf
 refine .mk (raw.map fun b=>[.lit (.int .u8 (b:Nat))]) rfl rfl (by simp;omega) ?_;conv=>whnf
 exact⟨_,_,⟨rfl,rfl⟩,vR_ _,rfl,⟨⟨_,rfl,⟨_,rfl,WkA.own,aR_ _,trivial⟩,rfl⟩,trivial⟩,rfl⟩
theorem all2_dd {γ γ':Gh}{h h':Hp}{M:MS}{w:World}:∀{ds:List D} {vs:List Value},All2 (RdA γ h M w) (ds.map A.d) vs→All2 (RdA γ' h' M w) (ds.map A.d) vs
 |[],[],_=>trivial
 |d::ds,v::vs,k=>⟨k.1,all2_dd k.2⟩
 |[],_::_,k=>k.elim
 |_::_,[],k=>k.elim
theorem LC.key0 {P:Program}{F:FuncId}{args:List V}{j:Nat}{t:TypeId}{ds:List D}(hc:LC P F args [] (.a (.ptr j 0)) [(j,.box t (ds.map A.d))]):LC P F args [] (.a (.ptr 0 0)) [(0,.box t (ds.map A.d))]:=by
 intro γ M w rs hr ha;refine cM (hc γ M w rs hr ha) ?_;rintro e w' ⟨r,γ',M',h1,h2,h3,h4⟩
 have hl0:∀key e',look [(0,Ent.box t (ds.map A.d))] key=some e'→key=0∧e'= .box t (ds.map A.d):=fun key e' h=>by
  simp only[look]at h;split at h
  ·injection h with h;exact⟨by omega,h.symm⟩
  ·cases h
 have hlj:look [(j,Ent.box t (ds.map A.d))] j=some (.box t (ds.map A.d)):=by simp[look]
 have ho:∀key b i,Owns (fun _=>γ' j) (look [(0,Ent.box t (ds.map A.d))]) key b i→Owns γ' (look [(j,Ent.box t (ds.map A.d))]) j b i:=fun key b i h=>by
  unfold Owns at h
  cases h5:look [(0,Ent.box t (ds.map A.d))] key with
  |none=>rw[h5]at h;exact h.elim
  |some e'=>
   obtain⟨rfl,rfl⟩:=hl0 key e' h5;rw[h5]at h;simp only[Owns,hlj];exact h
 refine⟨r,fun _=>γ' j,M',h1,⟨fun key e' h=> ?_,fun key b i h=>h2.own j b i (ho key b i h),fun k1 k2 b l1 l2 _ _=> ?_,h2.u32,h2.dom,h2.glb⟩,?_,⟨h4.os,h4.tape,h4.output,h4.size,h4.fx,h4.other,h4.keep,fun key b i h hb=>h4.new j b i (ho key b i h) hb,fun key e h=>by simp[look]at h⟩⟩
 ·obtain⟨rfl,rfl⟩:=hl0 key e' h;obtain⟨g,vs,q1,q2,q3⟩:=h2.ent j _ hlj;exact⟨g,vs,q1,q2,all2_dd q3⟩
 ·cases h5:look [(0,Ent.box t (ds.map A.d))] k1 with
  |none=>rw[h5]at l1;cases l1
  |some e1=>
   cases h6:look [(0,Ent.box t (ds.map A.d))] k2 with
   |none=>rw[h6]at l2;cases l2
   |some e2=>rw[(hl0 _ _ h5).1,(hl0 _ _ h6).1]
 ·obtain⟨_,g,q1,q2⟩:=h3;exact⟨rfl,g,q1,q2⟩
theorem lx_new {raw:List Nat}(h:RawOk raw):LX Tryz.prog 54 [.a (.d (bysD raw))] [] fun v H=>v= .a (.ptr 0 0)∧H=fdH raw 0:=by
 obtain⟨v,H,⟨rfl,rfl⟩,hc⟩:=lx_new2 h;exact⟨_,_,⟨rfl,rfl⟩,LC.key0 (ds:=[bysD raw,.lit (.int .i64 (0:Nat))]) hc⟩
theorem lx_next {raw:List Nat}{a n:Nat}(h:RawOk raw)(ha:a≤raw.length)(hn:1≤n∧n≤9):∃a' m:Nat,a'≤raw.length∧m<n∧LX Tryz.prog 96 [.a (.ptr 0 0),vl (.int .i64 (n:Nat))] (fdH raw a) fun v H=>v=vl (.int .i64 (m:Nat))∧H=fdH raw a':=by
 have hl:=h.len;rcases Nat.lt_or_ge a raw.length with h1|h1
 ·obtain⟨b,hb⟩:=at_some h1;have hbb:=h.by_ b (mG_ hb);refine⟨a+1,b % n,h1,Nat.mod_lt _ (by omega),?_⟩;have hw:IntKind.i64.wrap ((a:Int)+1)=((a+1:Nat):Int):=by rw[wr64 (by omega) (by omega)];omega
  have hw2:IntKind.i64.wrap (((a+1:Nat):Int)-1)=(a:Int):=by rw[wr64 (by omega) (by omega)];omega
  have hw3:IntKind.i64.wrap (b:Int)=(b:Int):=wr64 (by omega) (by omega);obtain rfl|rfl|rfl|rfl|rfl|rfl|rfl|rfl|rfl:n=1∨n=2∨n=3∨n=4∨n=5∨n=6∨n=7∨n=8∨n=9:=by omega
  all_goals refine LX_run (m:=1) (n0:=1) mix Tryz.func96 rfl rfl rfl rfl ?_
            conv=>whnf
  all_goals refine bF (decide_eq_false (by simp;omega)) ?_
            conv=>whnf
  all_goals refine .mk (by kernel_rfl) ?_
            conv=>whnf
  all_goals rw[hw,hw2]
  all_goals refine .mk (a) ([.lit (.int .u8 (b:Nat))]) (rfl) (at_map hb) ?_
            conv=>whnf
  all_goals conv=>whnf
  all_goals refine .mk _ ⟨by decide,rfl⟩ rfl ?_
  all_goals conv=>whnf
  all_goals refine .mk (by kernel_rfl) ?_
            conv=>whnf
  all_goals exact⟨_,_,⟨rfl,rfl⟩,WkV.int (by rw[hw3];rfl),rfl,⟨⟨_,rfl,wke_refl _,rfl⟩,trivial⟩,rfl⟩
 ·refine⟨a,0,ha,by omega,?_⟩;refine LX_run (m:=1) (n0:=1) mix Tryz.func96 rfl rfl rfl rfl ?_;conv=>whnf
  refine bT (decide_eq_true (by simp;omega)) ?_;conv=>whnf
  refine .mk (by kernel_rfl) ?_;conv=>whnf
  exact⟨_,_,⟨rfl,rfl⟩,vR_ _,rfl,⟨⟨_,rfl,wke_refl _,rfl⟩,trivial⟩,rfl⟩
theorem frac_b {z d:Int}(hz:z.natAbs≤2^3)(hd:d=1∨d=2∨d=4):Bt 5 ((z:Rat)/(d:Rat)):=by
 have h1:Bt 3 (z:Rat):=Bt.int hz;have h2:Bt 2 (d:Rat):=Bt.int (by rcases hd with rfl|rfl|rfl<;>decide);exact h1.div h2 (by rcases hd with rfl|rfl|rfl<;>decide)
theorem lx_number {raw:List Nat}{a:Nat}(h:RawOk raw)(ha:a≤raw.length):∃(a':Nat) (q:Rat),a'≤raw.length∧Bt 5 q∧LX Tryz.prog 55 [.a (.ptr 0 0)] (fdH raw a) fun v H=>v=ratV q∧H=fdH raw a':=by
 obtain⟨a1,m1,h1,h2,c1⟩:=lx_next (n:=9) h ha (by omega);obtain⟨a2,m2,h3,h4,c2⟩:=lx_next (n:=4) h h1 (by omega);have hw:IntKind.i64.wrap ((m1:Int)-4)=(m1:Int)-4:=wr64 (by omega) (by omega);have hz:((m1:Int)-4).natAbs≤2^3:=by omega
 have go:∀d:Int,(d=1∨d=2∨d=4)→∃(a':Nat) (q:Rat),q=(((m1:Int)-4:Int):Rat)/(d:Rat)∧a'≤raw.length∧Bt 5 q∧a'=a2:=fun d hd=>⟨a2,_,rfl,h3,frac_b hz hd,rfl⟩;obtain⟨d,hd,hm⟩:∃d:Int,(d=1∨d=2∨d=4)∧((m2=0∧d=1)∨(m2=1∧d=1)∨(m2=2∧d=2)∨(m2=3∧d=4)):=by
  obtain e|e|e|e:m2=0∨m2=1∨m2=2∨m2=3:=by omega
  ·exact⟨1,by omega,by omega⟩
  ·exact⟨1,by omega,by omega⟩
  ·exact⟨2,by omega,by omega⟩
  ·exact⟨4,by omega,by omega⟩
 refine⟨a2,_,h3,frac_b hz hd,?_⟩;obtain⟨rfl,rfl⟩|⟨rfl,rfl⟩|⟨rfl,rfl⟩|⟨rfl,rfl⟩:=hm
 all_goals refine LX_run (m:=1) (n0:=1) mix Tryz.func55 rfl rfl rfl rfl ?_
           conv=>whnf
 all_goals refine .l [0] (c1) ?_
           conv=>whnf
 all_goals refine .l [0] (c2) ?_
           conv=>whnf
 all_goals rw[hw]
 ·refine .c (lx_zfrac (z:=1) (by omega) (by omega) (by omega) (by omega) (by omega)) ?_;conv=>whnf
  exact⟨_,_,⟨rfl,rfl⟩,vR_ _,rfl,⟨⟨_,rfl,wke_refl _,rfl⟩,trivial⟩,rfl⟩
 ·refine .c (lx_zfrac (z:=1) (by omega) (by omega) (by omega) (by omega) (by omega)) ?_;conv=>whnf
  exact⟨_,_,⟨rfl,rfl⟩,vR_ _,rfl,⟨⟨_,rfl,wke_refl _,rfl⟩,trivial⟩,rfl⟩
 ·refine .c (lx_zfrac (z:=2) (by omega) (by omega) (by omega) (by omega) (by omega)) ?_;conv=>whnf
  exact⟨_,_,⟨rfl,rfl⟩,vR_ _,rfl,⟨⟨_,rfl,wke_refl _,rfl⟩,trivial⟩,rfl⟩
 ·refine .c (lx_zfrac (z:=4) (by omega) (by omega) (by omega) (by omega) (by omega)) ?_;conv=>whnf
  exact⟨_,_,⟨rfl,rfl⟩,vR_ _,rfl,⟨⟨_,rfl,wke_refl _,rfl⟩,trivial⟩,rfl⟩
structure FsB (n:Int)(fs:List Af):Prop where
 fb:∀f∈fs,FB 5 n f
structure GrB (g:Gr):Prop where
 n1:1≤g.n
 n2:g.n≤3
 u1:g.us.length≤4
 o1:1≤g.os.length
 o2:g.os.length≤3
 us:∀(j:Nat) (f:Af),g.us[j]? =some f→FB 5 (g.n+j:Nat) f
 os:∀f∈g.os,FB 5 (g.n+g.us.length:Nat) f
structure RgB (r:Rg)(n:Nat):Prop where
 lo:r.lo.length=n
 hi:r.hi.length=n
 rl:r.rs.length≤2
 sl:∀q∈r.lo,Bt 11 q
 sh:∀q∈r.hi,Bt 11 q
 le:∀(i:Nat) (a b:Rat),r.lo[i]? =some a→r.hi[i]? =some b→a≤b
 rs:∀f∈r.rs,FB 5 n f
structure QuB (q:Qu):Prop where
 g:GrB q.g
 r:RgB q.r q.g.n
 goal:FB 5 (q.g.n+q.g.us.length:Nat) q.goal
def cU (n:Nat)(P:List Dc):Nat:=((List.range n).filter fun u:Nat=>seenB P (u:Int)).length
structure PathI (q:Qu)(P:List Dc):Prop where
 fit:∀d∈P,fitB q d=true
 tw:twB P=false
 c4:cntI P≤4
 len:P.length=cU q.g.us.length P+cntI P
 bt:∀d∈P,Bt (16^(cntI P+1)) d.at_.q
 sm:∀d∈P,d.at_.sm
structure Ro where
 k:Int
 i:Int
 l:Int
 h:Int
deriving DecidableEq
structure Mu where
 r:Ro
 c:Rat
theorem numS0_A:(numS 0).A=[.d (.sl 4 []),.d (.lit (.bool false)),.d (.nat 0),.d (.nat 0)]:=by
 show A.d _::(can 0).A=_;rw[can0];rfl
def m1:Rat:=((-1:Int):Rat)
theorem m1_b:Bt 0 m1:=Bt.int (by decide)
def lmOk (s:Sp)(n u:Int)(up:Bool):Bool:=decide (1≤n)&&decide (n≤(s.ls.length:Int))&&decide ((atL s.ls n).u=u)&&((atL s.ls n).up==up)
def lmV (s:Sp)(n u:Int)(up:Bool):Rat:=bif lmOk s n u up then vAt s.ls n else 0
def RoU (r:Ro):Prop:=(r.k=5∧r.l=0∧r.h=0)∨(r.k=8∧1≤r.l∧r.h=0)∨(r.k=10∧r.l=0∧1≤r.h)∨(r.k=12∧r.l=0∧1≤r.h)∨(r.k=13∧1≤r.l∧1≤r.h)
structure RoV (s:Sp)(B:Nat)(r:Ro):Prop where
 u:RoU r
 i0:0≤r.i
 i1:r.i<s.q.g.us.length
 l:r.l≤1000000
 h:r.h≤1000000
 bl:Bt B (lmV s r.l r.i false)
 bu:Bt B (lmV s r.h r.i true)
def q1:Rat:=((1:Int):Rat)
theorem q1_b:Bt 0 q1:=Bt.int (by decide)
theorem TsOk.ext {n n':Int}:∀{a b:List Tm} {lo lo':Int},TsOk n lo a→TsOk n' lo' b→(∀w,cof a w=cof b w)→a=b
 |[],[],_,_,_,_,_=>rfl
 |[],t::b,_,_,_,hb,h=>by
  have:=h t.v;rw[(hb.cof_mem t (by simp)).1]at this;exact absurd this.symm hb.2.2.1
 |t::a,[],_,_,ha,_,h=>by
  have:=h t.v;rw[(ha.cof_mem t (by simp)).1]at this;exact absurd this ha.2.2.1
 |t::a,u::b,lo,lo',ha,hb,h=>by
  have e1:t.v=u.v:=by
   rcases Int.lt_trichotomy t.v u.v with h1|h1|h1
   ·have:=h t.v;rw[(ha.cof_mem t (by simp)).1,cof,if_neg (by omega),hb.2.2.2.cof_lt (by omega),Rat.zero_add]at this;exact absurd this ha.2.2.1
   ·exact h1
   ·have:=h u.v;rw[(hb.cof_mem u (by simp)).1,cof,if_neg (by omega),ha.2.2.2.cof_lt (by omega),Rat.zero_add]at this;exact absurd this.symm hb.2.2.1
  have e2:t.q=u.q:=by
   have:=h t.v;rw[(ha.cof_mem t (by simp)).1,e1,(hb.cof_mem u (by simp)).1]at this;exact this
  have e3:t=u:=by obtain⟨a,b⟩:=t;obtain⟨c,d⟩:=u;simp only at e1 e2;rw[e1,e2]
  subst e3
  rw[TsOk.ext ha.2.2.2 hb.2.2.2 fun w=>by
   have:=h w;rw[cof,cof]at this
   by_cases hw:t.v=w
   ·rw[ha.2.2.2.cof_lt (by omega),hb.2.2.2.cof_lt (by omega)]
   ·rw[if_neg hw]at this;simpa [Rat.zero_add]using this]
theorem Af.ext' {n n':Int}{f g:Af}(hf:TsOk n 0 f.ts)(hg:TsOk n' 0 g.ts)(h:∀w,cof f.ts w=cof g.ts w)(hc:f.c=g.c):f=g:=by
 obtain⟨a,b⟩:=f;obtain⟨c,d⟩:=g;simp only at hc hf hg h;subst hc;rw[TsOk.ext hf hg h]
def mrgT (c:Rat):List Tm→List Tm→List Tm
 |[],[]=>[]
 |[],b::ys=>nz1 ⟨b.v,b.q*c⟩++mrgT c [] ys
 |a::xs,[]=>nz1 a++mrgT c xs []
 |a::xs,b::ys=>if a.v<b.v then nz1 a++mrgT c xs (b::ys)else if b.v<a.v then nz1 ⟨b.v,b.q*c⟩++mrgT c (a::xs) ys else nz1 ⟨a.v,a.q+b.q*c⟩++mrgT c xs ys
 termination_by xs ys=>xs.length+ys.length
theorem cof_mrg (c:Rat)(w:Int):∀xs ys:List Tm,cof (mrgT c xs ys) w=cof xs w+cof ys w*c
 |[],[]=>by rw[mrgT];simp[cof,Rat.add_zero]
 |[],b::ys=>by
  rw[mrgT,cof_app,cof_nz1,cof_mrg c w [] ys,cof,cof];split<;>grind
 |a::xs,[]=>by
  rw[mrgT,cof_app,cof_nz1,cof_mrg c w xs [],cof,cof];split<;>grind
 |a::xs,b::ys=>by
  rw[mrgT];split
  ·rw[cof_app,cof_nz1,cof_mrg c w xs (b::ys)];simp only[cof];split<;>grind
  ·split
   ·rw[cof_app,cof_nz1,cof_mrg c w (a::xs) ys];simp only[cof];split<;>grind
   ·rw[cof_app,cof_nz1,cof_mrg c w xs ys];have e:b.v=a.v:=by omega
    simp only[cof,e];split<;>grind
 termination_by xs ys=>xs.length+ys.length
theorem TsOk.mrg {n:Int}(c:Rat):∀{xs ys:List Tm} {lo:Int},TsOk n lo xs→TsOk n lo ys→TsOk n lo (mrgT c xs ys)
 |[],[],lo,_,_=>by rw[mrgT];trivial
 |[],b::ys,lo,ha,hb=>by
  rw[mrgT];exact TsOk.nz (TsOk.mrg c (xs:=[]) trivial hb.2.2.2) hb.1 hb.2.1
 |a::xs,[],lo,ha,hb=>by
  rw[mrgT];obtain⟨av,aq⟩:=a;exact TsOk.nz (TsOk.mrg c (ys:=[]) ha.2.2.2 trivial) ha.1 ha.2.1
 |a::xs,b::ys,lo,ha,hb=>by
  rw[mrgT];obtain⟨av,aq⟩:=a;split
  ·rename_i h;exact TsOk.nz (TsOk.mrg c ha.2.2.2 ⟨by simp only at h ⊢;omega,hb.2⟩) ha.1 ha.2.1
  ·split
   ·rename_i h;exact TsOk.nz (TsOk.mrg c (xs:=⟨av,aq⟩::xs) ⟨by simp only at h ⊢;omega,ha.2⟩ hb.2.2.2) hb.1 hb.2.1
   ·rename_i h h';simp only at h h';have e:av=b.v:=by omega
    exact TsOk.nz (TsOk.mrg c ha.2.2.2 (by simp only;rw[e];exact hb.2.2.2)) ha.1 ha.2.1
 termination_by xs ys=>xs.length+ys.length
theorem mrg_eq {n:Int}{f g:Af}{c:Rat}{k l:Nat}(hf:FB k n f)(hg:FB l n g):(⟨mrgT c f.ts g.ts,f.c+g.c*c⟩:Af)=addS f (scaleS g c):=
 Af.ext' (n:=n) (n':=n) (TsOk.mrg c hf.ts hg.ts) (ok_fold (fun t ht=>let h:=(ok_scale c hg.ts).cof_mem t ht;⟨h.2.1,h.2.2.1⟩) hf.ts)
  (fun w=>by rw[cof_mrg,addS,cof_fold,scaleS,cof_scale]) rfl
abbrev ptH (l:List Tm):List (Nat×Ent):=[(0,.arr 107 4 (l.map Tm.D).length)]
theorem lx_put {l:List Tm}{c q:Rat}{v:Int}(hl:l.length≤1000000)(hq:Sz q):
  LX Tryz.prog 137 [.agg (.own 0 4 (l.map Tm.D)::(can c).A),vl (.int .i64 v),.agg (can q).A] (ptH l) fun r H=>r= .agg (.own 0 4 ((l++nz1 ⟨v,q⟩).map Tm.D)::(can c).A)∧H=ptH (l++nz1 ⟨v,q⟩):=by
 refine LX_run (m:=1) (n0:=1) mix Tryz.func137 rfl rfl rfl rfl ?_;conv=>whnf
 refine .c (lx_rsign (.c hq)) ?_;conv=>whnf
 refine bs (fun h1=> ?_) (fun h1=> ?_)
 ·conv=>whnf
  have h0:¬q=0:=by simpa [Int.sign_eq_zero_iff_zero]using h1
  have e:l++nz1 ⟨v,q⟩=l++[⟨v,q⟩]:=by rw[nz1,if_neg h0]
  rw[e];refine .c (lx_rcanon (.c hq)) ?_;conv=>whnf
  refine .mk ((l++[(⟨v,q⟩:Tm)]).map Tm.D) rfl (by rw[List.map_append];rfl) (by simp;omega) ?_;conv=>whnf
  refine .mk (by kernel_rfl) ?_;conv=>whnf
  exact⟨_,_,⟨rfl,rfl⟩,vR_ _,rfl,⟨⟨_,rfl,wke_refl _,rfl⟩,trivial⟩,rfl⟩
 ·conv=>whnf
  have h0:q=0:=by simpa [Int.sign_eq_zero_iff_zero]using h1
  have e:l++nz1 ⟨v,q⟩=l:=by rw[nz1,if_pos h0,List.append_nil]
  rw[e];exact⟨_,_,⟨rfl,rfl⟩,vR_ _,rfl,⟨⟨_,rfl,wke_refl _,rfl⟩,trivial⟩,rfl⟩
structure MgI (R:List Tm)(c:Rat)(k l:Nat)(o xs ys:List Tm):Prop where
 eq:o++mrgT c xs ys=R
 x:∀t∈xs,Bt k t.q
 y:∀t∈ys,Bt l t.q
 n:o.length+xs.length+ys.length≤900000
theorem pl_merge {f g:Af}{n:Int}{c:Rat}{k l m:Nat}(h:FB k n f)(h':FB l n g)(hc:Bt m c)(h0:0≤n)(hn:n≤100000)(hk:k+l+m+1≤1000000000):
  LV Tryz.prog 82 [.agg f.A,.agg g.A,.agg (can c).A] (.agg (addS f (scaleS g c)).A):=by
 have hlf:=h.ts.len h0;have hlg:=h'.ts.len h0;have hcz:Sz c:=hc.mono (by omega);rw[←mrg_eq h h'];refine LX_run (m:=0) (n0:=0) mix Tryz.func82 rfl rfl rfl rfl ?_;conv=>whnf
 refine .c (lx_rmul (.c (h'.c.mono (by omega))) (.c hcz)) ?_;conv=>whnf
 refine .c (lx_radd (.c (h.c.mono (by omega))) (.c ((h'.c.mul hc).mono (by omega)))) ?_;conv=>whnf
 refine .mk (by kernel_rfl) ?_;conv=>whnf
 refine .mk (by kernel_rfl) ?_;conv=>whnf
 refine .mk (List Tm×List Tm×List Tm) (fun(o,xs,ys)=>⟨[(9,.a (.d (.sl 4 (ys.map Tm.D)))),(8,.a (.d (.sl 4 (xs.map Tm.D)))),(7,.a (.ptr 4 0)),(6,.a (.ptr 3 0)),(5,.a (.ptr 2 0))],
  [(2,.box 56 (can c).A),(3,.box 79 [.d (.lit (.slice none 0 0)),.d (.lit (.bool false)),.d (.nat 0),.d (.nat 0)]),(4,.box 79 (.own 5 4 (o.map Tm.D)::(can (f.c+g.c*c)).A)),(5,.arr 107 4 (o.map Tm.D).length)],6⟩)
  (fun b=>MgI (mrgT c f.ts g.ts) c k l b.1 b.2.1 b.2.2) (fun b=>b.2.1.length+b.2.2.length) ([],f.ts,g.ts)
  (Wk.trans (Wk.ownB 4 5 0 107 4 rfl rfl rfl) Wk.go) ⟨rfl,fun t ht=>(h.tm t ht).2.2.2,fun t ht=>(h'.tm t ht).2.2.2,by simp only[List.length_nil];omega⟩ fun⟨o,xs,ys⟩ hb=> ?_
 obtain⟨he,hx,hy,hl⟩:=hb;simp only at he hx hy hl;have hz:∀t:Tm,(nz1 t).length≤1:=fun t=>by unfold nz1;split<;>simp
 have lp:∀(t:Tm) (ts:List Tm),decide (((List.map Tm.D (t::ts)).length:Int)>0)=true:=fun t ts=>decide_eq_true (by rw[List.length_map,List.length_cons];omega);have lt:∀(t:Tm) (ts:List Tm),((t::ts).map Tm.D).length=ts.length+1:=fun t ts=>by rw[List.length_map,List.length_cons]
 cases xs with
 |nil=>cases ys with
  |nil=>
   conv=>whnf
   rw[mrgT,List.append_nil]at he;exact .s ⟨by rw[←he];rfl,rfl⟩
  |cons b ys=>
   have bb:=hy b (by simp);have bz:=(bb.mul hc);conv=>whnf
   refine bT (lp b ys) ?_;conv=>whnf
   refine .mk (by kernel_rfl) ?_;conv=>whnf
   refine .mk (by kernel_rfl) ?_;conv=>whnf
   refine .mk (0) (b.D) (rfl) (rfl) ?_;conv=>whnf
   conv=>whnf
   refine .mk (0) (b.D) (rfl) (rfl) ?_;conv=>whnf
   conv=>whnf
   refine .c (lx_rmul (.c (bb.mono (by omega))) (.c hcz)) ?_;conv=>whnf
   refine Cn.o [5] (lx_put (l:=o) (v:=b.v) (by omega) (bz.mono (by omega))) ?_;conv=>whnf
   refine .mk (by kernel_rfl) ?_;conv=>whnf
   refine .mk 1 (ys.length+1) (ys.map Tm.D) rfl (by rw[lt];rfl) (by omega) (by rw[lt];omega) (by rw[List.take_of_length_le (by rw[lt];omega)];rfl) ?_;conv=>whnf
   have z1:=hz ⟨b.v,b.q*c⟩;exact⟨(o++nz1 ⟨b.v,b.q*c⟩,[],ys),Wk.go,⟨by rw[List.append_assoc,←he,mrgT],hx,fun t ht=>hy t (by simp[ht]),by simp only[List.length_append,List.length_cons]at *;omega⟩,by simp only[List.length_cons];omega⟩
 |cons a xs=>cases ys with
  |nil=>
   have ab:=hx a (by simp);conv=>whnf
   refine bT (lp a xs) ?_;conv=>whnf
   refine .mk (by kernel_rfl) ?_;conv=>whnf
   refine .mk (0) (a.D) (rfl) (rfl) ?_;conv=>whnf
   conv=>whnf
   refine .mk (0) (a.D) (rfl) (rfl) ?_;conv=>whnf
   conv=>whnf
   refine Cn.o [5] (lx_put (l:=o) (v:=a.v) (by omega) (ab.mono (by omega))) ?_;conv=>whnf
   refine .mk (by kernel_rfl) ?_;conv=>whnf
   refine .mk 1 (xs.length+1) (xs.map Tm.D) rfl (by rw[lt];rfl) (by omega) (by rw[lt];omega) (by rw[List.take_of_length_le (by rw[lt];omega)];rfl) ?_;conv=>whnf
   have z1:=hz a;exact⟨(o++nz1 a,xs,[]),Wk.go,⟨by rw[List.append_assoc,←he,mrgT],fun t ht=>hx t (by simp[ht]),hy,by simp only[List.length_append,List.length_cons]at *;omega⟩,by simp only[List.length_cons];omega⟩
  |cons b ys=>
   have ab:=hx a (by simp);have bb:=hy b (by simp);have bz:=(bb.mul hc);have az:=(ab.add bz);conv=>whnf
   refine bT (lp a xs) ?_;conv=>whnf
   refine bT (lp a xs) ?_;conv=>whnf
   refine .mk (0) (a.D) (rfl) (rfl) ?_;conv=>whnf
   conv=>whnf
   refine .mk (0) (b.D) (rfl) (rfl) ?_;conv=>whnf
   conv=>whnf
   refine bs (fun h1=> ?_) (fun h1=> ?_)
   ·conv=>whnf
    refine .mk (by kernel_rfl) ?_;conv=>whnf
    have h1':a.v<b.v:=by simpa using h1
    refine .mk (0) (a.D) (rfl) (rfl) ?_;conv=>whnf
    conv=>whnf
    refine .mk (0) (a.D) (rfl) (rfl) ?_;conv=>whnf
    conv=>whnf
    refine Cn.o [5] (lx_put (l:=o) (v:=a.v) (by omega) (ab.mono (by omega))) ?_;conv=>whnf
    refine .mk (by kernel_rfl) ?_;conv=>whnf
    refine .mk 1 (xs.length+1) (xs.map Tm.D) rfl (by rw[lt];rfl) (by omega) (by rw[lt];omega) (by rw[List.take_of_length_le (by rw[lt];omega)];rfl) ?_;conv=>whnf
    have z1:=hz a;exact⟨(o++nz1 a,xs,b::ys),Wk.go,⟨by rw[List.append_assoc,←he,mrgT.eq_4,if_pos h1'],fun t ht=>hx t (by simp[ht]),hy,by simp only[List.length_append,List.length_cons]at *;omega⟩,by simp only[List.length_cons];omega⟩
   ·conv=>whnf
    refine .mk (by kernel_rfl) ?_;conv=>whnf
    have h1':¬a.v<b.v:=by simpa using h1
    refine .mk (0) (b.D) (rfl) (rfl) ?_;conv=>whnf
    conv=>whnf
    refine .mk (0) (a.D) (rfl) (rfl) ?_;conv=>whnf
    conv=>whnf
    refine bs (fun h2=> ?_) (fun h2=> ?_)
    ·conv=>whnf
     refine .mk (by kernel_rfl) ?_;conv=>whnf
     have h2':b.v<a.v:=by simpa using h2
     refine .mk (0) (b.D) (rfl) (rfl) ?_;conv=>whnf
     conv=>whnf
     refine .mk (0) (b.D) (rfl) (rfl) ?_;conv=>whnf
     conv=>whnf
     refine .c (lx_rmul (.c (bb.mono (by omega))) (.c hcz)) ?_;conv=>whnf
     refine Cn.o [5] (lx_put (l:=o) (v:=b.v) (by omega) (bz.mono (by omega))) ?_;conv=>whnf
     refine .mk (by kernel_rfl) ?_;conv=>whnf
     refine .mk 1 (ys.length+1) (ys.map Tm.D) rfl (by rw[lt];rfl) (by omega) (by rw[lt];omega) (by rw[List.take_of_length_le (by rw[lt];omega)];rfl) ?_;conv=>whnf
     have z1:=hz ⟨b.v,b.q*c⟩;exact⟨(o++nz1 ⟨b.v,b.q*c⟩,a::xs,ys),Wk.go,⟨by rw[List.append_assoc,←he,mrgT.eq_4,if_neg h1',if_pos h2'],hx,fun t ht=>hy t (by simp[ht]),by simp only[List.length_append,List.length_cons]at *;omega⟩,by simp only[List.length_cons];omega⟩
    ·conv=>whnf
     refine .mk (by kernel_rfl) ?_;conv=>whnf
     have h2':¬b.v<a.v:=by simpa using h2
     refine .mk (0) (a.D) (rfl) (rfl) ?_;conv=>whnf
     conv=>whnf
     refine .mk (0) (a.D) (rfl) (rfl) ?_;conv=>whnf
     conv=>whnf
     refine .mk (0) (b.D) (rfl) (rfl) ?_;conv=>whnf
     conv=>whnf
     refine .c (lx_rmul (.c (bb.mono (by omega))) (.c hcz)) ?_;conv=>whnf
     refine .c (lx_radd (.c (ab.mono (by omega))) (.c (bz.mono (by omega)))) ?_;conv=>whnf
     refine Cn.o [5] (lx_put (l:=o) (v:=a.v) (by omega) (az.mono (by omega))) ?_;conv=>whnf
     refine .mk (by kernel_rfl) ?_;conv=>whnf
     refine .mk 1 (xs.length+1) (xs.map Tm.D) rfl (by rw[lt];rfl) (by omega) (by rw[lt];omega) (by rw[List.take_of_length_le (by rw[lt];omega)];rfl) ?_;conv=>whnf
     refine .mk 1 (ys.length+1) (ys.map Tm.D) rfl (by rw[lt];rfl) (by omega) (by rw[lt];omega) (by rw[List.take_of_length_le (by rw[lt];omega)];rfl) ?_;conv=>whnf
     refine .mk (by kernel_rfl) ?_;conv=>whnf
     have z1:=hz ⟨a.v,a.q+b.q*c⟩;exact⟨(o++nz1 ⟨a.v,a.q+b.q*c⟩,xs,ys),Wk.go,⟨by rw[List.append_assoc,←he,mrgT.eq_4,if_neg h1',if_neg h2'],fun t ht=>hx t (by simp[ht]),fun t ht=>hy t (by simp[ht]),by simp only[List.length_append,List.length_cons]at *;omega⟩,by simp only[List.length_cons];omega⟩
theorem lx_rofm:LV Tryz.prog 47 [vl (.int .i64 (-1))] (ratV m1):=lx_rof (z:= -1) (by decide) (by decide)
theorem lx_rofp:LV Tryz.prog 47 [vl (.int .i64 1)] (ratV q1):=lx_rof (z:=1) (by decide) (by decide)
theorem scale_one {n:Int}{k:Nat}{f:Af}(h:FB k n f):scaleS f q1=f:=
 Af.ext' (n:=n) (n':=n) (ok_scale _ h.ts) h.ts (fun w=>by rw[scaleS,cof_scale];exact Rat.mul_one _) (Rat.mul_one _)
theorem add_zeroL {n:Int}{k:Nat}{f:Af}(h:FB k n f):addS (numS 0) f=f:=
 Af.ext' (n:=n) (n':=n) (ok_fold (fun t ht=>let q:=h.tm t ht;⟨q.1,q.2.1⟩) trivial) h.ts (fun w=>by rw[addS,cof_fold];exact Rat.zero_add _) (Rat.zero_add _)
theorem pl_add {f g:Af}{n:Int}{k l:Nat}(h:FB k n f)(h':FB l n g)(h0:0≤n)(hn:n≤100000)(hk:k+l+1≤1000000000):LV Tryz.prog 65 [.agg f.A,.agg g.A] (.agg (addS f g).A):=by
 refine LX_run (m:=0) (n0:=0) mix Tryz.func65 rfl rfl rfl rfl ?_;conv=>whnf
 refine .c (lx_rofp) ?_;conv=>whnf
 refine .c (pl_merge (c:=q1) h h' q1_b h0 hn (by omega)) ?_;conv=>whnf
 refine .mk (by kernel_rfl) ?_;conv=>whnf
 exact .q ⟨by rw[scale_one h'],rfl⟩
theorem pl_sub {f g:Af}{n:Int}{k l:Nat}(h:FB k n f)(h':FB l n g)(h0:0≤n)(hn:n≤100000)(hk:k+l+1≤1000000000):LV Tryz.prog 116 [.agg f.A,.agg g.A] (.agg (subS f g).A):=by
 refine LX_run (m:=0) (n0:=0) mix Tryz.func116 rfl rfl rfl rfl ?_;conv=>whnf
 refine .c (lx_rofm) ?_;conv=>whnf
 refine .c (pl_merge (c:=m1) h h' m1_b h0 hn (by omega)) ?_;conv=>whnf
 refine .mk (by kernel_rfl) ?_;conv=>whnf
 exact .q ⟨rfl,rfl⟩
theorem nil_A:All2 WkV [V.agg [A.d (.lit (.slice none 0 0)),.d (.lit (.bool false)),.d (.nat 0),.d (.nat 0)]] [V.agg (numS 0).A]:=⟨WkV.agg (by rw[numS0_A];exact⟨WkA.nil,aR_ _,aR_ _,aR_ _,trivial⟩),trivial⟩
theorem pl_scale {f:Af}{n:Int}{c:Rat}{k m:Nat}(h:FB k n f)(hc:Bt m c)(h0:0≤n)(hn:n≤100000)(hk:k+m+1≤1000000000):LV Tryz.prog 46 [.agg f.A,.agg (can c).A] (.agg (scaleS f c).A):=by
 refine LX_run (m:=0) (n0:=0) mix Tryz.func46 rfl rfl rfl rfl ?_;conv=>whnf
 refine Cn.as (pl_merge (FB.num (n:=n) (bt0 0)) h hc h0 hn (by omega)) rfl ⟨nil_A.1,vR_ _,vR_ _,trivial⟩ rfl rfl ?_;conv=>whnf
 exact .q ⟨by rw[add_zeroL (h.scale hc)],rfl⟩
def without (ts:List Tm)(v:Int):List Tm:=ts.filter fun t=> !(t.v==v)
theorem cof_without (v w:Int):∀ts:List Tm,cof (without ts v) w=if w=v then 0 else cof ts w
 |[]=>by simp[without,cof]
 |t::ts=>by
  have ih:=cof_without v w ts;unfold without at ih ⊢;rw[List.filter_cons]
  by_cases h:t.v=v
  ·rw[if_neg (by simp[h]),ih];split
   ·rfl
   ·rename_i hw;rw[cof,if_neg (by rw[h];exact fun e=>hw e.symm),Rat.zero_add]
  ·rw[if_pos (by simp[h]),cof,ih,cof]
   by_cases hw:w=v
   ·rw[if_pos hw,if_pos hw,if_neg (fun e=>h (e.trans hw)),Rat.zero_add]
   ·rw[if_neg hw,if_neg hw]
theorem TsOk.without {n v:Int}:∀{ts:List Tm} {lo:Int},TsOk n lo ts→TsOk n lo (Lf.without ts v)
 |[],_,_=>trivial
 |t::ts,lo,h=>by
  unfold Lf.without;rw[List.filter_cons];have ih:=TsOk.without (v:=v) h.2.2.2;split
  ·exact⟨h.1,h.2.1,h.2.2.1,ih⟩
  ·exact ih.lo (by have:=h.1;omega)
def restS (f:Af)(v:Int):Af:=⟨without f.ts v,f.c⟩
theorem FB.rest {k:Nat}{n:Int}{f:Af}(h:FB k n f)(v:Int):FB k n (restS f v):=⟨h.ts.without,fun w=>by
 rw[restS,cof_without];split
 ·exact bt0 k
 ·exact h.co w,h.c⟩
def substS (f:Af)(v:Int)(g:Af):Af:=addS (restS f v) (scaleS g (cof f.ts v))
theorem take_filter {ts:List Tm}{i:Nat}{t:Tm}(h:ts[i]? =some t)(v:Int):without (ts.take (i+1)) v=without (ts.take i) v++if t.v=v then []else [t]:=by
 rw[take_snoc h];unfold without;rw[List.filter_append,List.filter_cons]
 by_cases e:t.v=v<;>simp[e]
theorem cof_take {n lo:Int}{ts:List Tm}(h:TsOk n lo ts){i:Nat}{t:Tm}(ht:ts[i]? =some t)(v:Int):cof (ts.take (i+1)) v=if t.v=v then t.q else cof (ts.take i) v:=by
 have h2:=h.take (i+1);split
 ·rename_i e;have hm:t∈ts.take (i+1):=by rw[take_snoc ht];simp
  rw[←e,(h2.cof_mem t hm).1]
 ·rename_i e;rw[take_snoc ht,cof_app,cof,cof,if_neg e,Rat.add_zero,Rat.add_zero]
theorem pl_subst {f g:Af}{n v:Int}{k l:Nat}(h:FB k n f)(h':FB l n g)(h0:0≤n)(hn:n≤100000)(hk:k+l+k+1≤1000000000):LV Tryz.prog 173 [.agg f.A,vl (.int .i64 v),.agg g.A] (.agg (substS f v g).A):=by
 have hlf:=h.ts.len h0;have hwl:∀i,(without (f.ts.take i) v).length≤i:=fun i=>tL_ (List.length_filter_le _ _) (List.length_take_le _ _);have hlast:addS (restS f v) (scaleS g (cof f.ts v))=substS f v g:=rfl;refine LX_run (m:=0) (n0:=0) mix Tryz.func173 rfl rfl rfl rfl ?_;conv=>whnf
 refine .mk Nat (fun i=>⟨[(18,vl (.int .i64 i)),(17,vl (.int .i64 (f.ts.map Tm.D).length)),(16,.a (.d (.sl 4 (f.ts.map Tm.D)))),(8,.a (.ptr 4 0)),(7,.a (.ptr 3 0)),(6,.a (.ptr 2 0)),(5,.a (.ptr 1 0)),(1,vl (.int .i64 v))],
  [(1,.box 79 g.A),(2,.box 79 [.d (.lit (.slice none 0 0)),.d (.lit (.bool false)),.d (.nat 0),.d (.nat 0)]),(3,.box 79 (.own 5 4 ((without (f.ts.take i) v).map Tm.D)::(can f.c).A)),(4,.box 56 (can (cof (f.ts.take i) v)).A),(5,.arr 107 4 ((without (f.ts.take i) v).map Tm.D).length)],6⟩)
  (fun i=>i≤f.ts.length) (fun i=>f.ts.length-i) 0
  (Wk.trans (Wk.ownB 3 5 0 107 4 rfl rfl rfl) (by rw[show cof (f.ts.take 0) v=0 from rfl,can0];exact Wk.go)) (zL_ _) fun i hi=> ?_
 have hw:=hwl i;conv=>whnf
 refine bs (fun h1=> ?_) (fun h1=> ?_)
 ·conv=>whnf
  have h1':i<f.ts.length:=by simpa using h1
  obtain⟨t,ht⟩:=at_some h1';have tf:=take_filter ht v;have tc:=cof_take h.ts ht v;refine .mk (i) (t.D) (rfl) (at_map ht) ?_;conv=>whnf
  conv=>whnf
  refine bs (fun h2=> ?_) (fun h2=> ?_)
  ·conv=>whnf
   have h2':t.v=v:=by simpa using h2
   rw[if_pos h2',List.append_nil]at tf;rw[if_pos h2']at tc;exact⟨i+1,by rw[tf,tc];exact Wk.go,h1',by omega⟩
  ·conv=>whnf
   have h2':¬t.v=v:=by simpa using h2
   rw[if_neg h2']at tf tc;refine .mk ((without (f.ts.take i) v++[t]).map Tm.D) rfl (by rw[List.map_append];rfl) (by simp;omega) ?_;conv=>whnf
   exact⟨i+1,by rw[tf,tc];exact Wk.go,h1',by omega⟩
 ·conv=>whnf
  have e:i=f.ts.length:=by simp at h1;omega
  subst e;rw[List.take_length];refine .c (pl_merge (f:=restS f v) (h.rest v) h' (h.co v) h0 hn (by omega)) ?_;conv=>whnf
  exact .q ⟨rfl,rfl⟩
def lsum (ξ:Int→Rat):List Tm→Rat
 |[]=>0
 |t::ts=>t.q*ξ t.v+lsum ξ ts
theorem lsum_app (ξ:Int→Rat):∀a b:List Tm,lsum ξ (a++b)=lsum ξ a+lsum ξ b
 |[],b=>by simp[lsum,Rat.zero_add]
 |t::a,b=>by simp only[List.cons_append,lsum,lsum_app ξ a b,Rat.add_assoc]
theorem lsum_nz1 (ξ:Int→Rat)(t:Tm):lsum ξ (nz1 t)=t.q*ξ t.v:=by
 unfold nz1;split
 ·rename_i h;rw[h];simp[lsum]
 ·simp[lsum,Rat.add_zero]
theorem lsum_ins (ξ:Int→Rat)(v:Int)(c:Rat):∀ts:List Tm,lsum ξ (ins v c ts)=lsum ξ ts+c*ξ v
 |[]=>by simp[ins,lsum_nz1,lsum,Rat.zero_add]
 |t::ts=>by
  simp only[ins];split
  ·rename_i h;rw[lsum_app,lsum_nz1,lsum,h];grind
  ·split
   ·rw[lsum_app,lsum_nz1];grind
   ·simp only[lsum,lsum_ins ξ v c ts,Rat.add_assoc]
theorem lsum_fold (ξ:Int→Rat):∀b a:List Tm,lsum ξ (b.foldl (fun a t=>ins t.v t.q a) a)=lsum ξ a+lsum ξ b
 |[],a=>by simp[lsum,Rat.add_zero]
 |t::b,a=>by rw[List.foldl_cons,lsum_fold ξ b,lsum_ins,lsum,Rat.add_assoc]
theorem lsum_scale (ξ:Int→Rat)(c:Rat):∀ts:List Tm,lsum ξ (ts.flatMap fun t=>nz1 ⟨t.v,t.q*c⟩)=lsum ξ ts*c
 |[]=>by simp[lsum]
 |t::ts=>by
  rw[List.flatMap_cons,lsum_app,lsum_nz1,lsum_scale ξ c ts,lsum];grind
def ph (κ:Rat)(ξ:Int→Rat)(f:Af):Rat:=lsum ξ f.ts+κ*f.c
section
variable {κ:Rat} {ξ:Int→Rat}
theorem ph_add {f g:Af}:ph κ ξ (addS f g)=ph κ ξ f+ph κ ξ g:=by
 unfold ph addS;simp only[lsum_fold];grind
theorem ph_scale {f:Af}{c:Rat}:ph κ ξ (scaleS f c)=ph κ ξ f*c:=by
 unfold ph scaleS;simp only[lsum_scale];grind
theorem m1_r:((-1:Int):Rat)= -1:=by decide
theorem ph_sub {f g:Af}:ph κ ξ (subS f g)=ph κ ξ f-ph κ ξ g:=by
 rw[subS,ph_add,ph_scale,m1_r];grind
theorem ph_num {c:Rat}:ph κ ξ (numS c)=κ*c:=by
 unfold ph numS;simp[lsum,Rat.zero_add]
theorem ph_var {v:Int}:ph κ ξ (varS v)=ξ v:=by
 unfold ph varS;simp only[lsum];grind
theorem lsum_without (v:Int):∀ts:List Tm,lsum ξ (without ts v)=lsum ξ ts-cof ts v*ξ v
 |[]=>by simp[without,lsum,cof];grind
 |t::ts=>by
  have ih:=lsum_without v ts;unfold without at ih ⊢;rw[List.filter_cons]
  by_cases h:t.v=v
  ·rw[if_neg (by simp[h]),ih,lsum,cof,if_pos h,h];grind
  ·rw[if_pos (by simp[h]),lsum,ih,lsum,cof,if_neg h];grind
theorem ph_rest {f:Af}{v:Int}:ph κ ξ (restS f v)=ph κ ξ f-cof f.ts v*ξ v:=by
 unfold ph restS;simp only[lsum_without];grind
theorem ph_subst {f g:Af}{v:Int}:ph κ ξ (substS f v g)=ph κ ξ f-cof f.ts v*ξ v+cof f.ts v*ph κ ξ g:=by
 rw[substS,ph_add,ph_rest,ph_scale];grind
end
def Lv (L e:Nat)(q:Rat):Prop:=∃z:Int,q*((L^e:Nat):Rat)=(z:Rat)∧z.natAbs≤2^(30000*e)
structure LOk (L:Nat):Prop where
 pos:0<L
 le:∃b,b≤28000∧L≤2^b
section
variable {L e f:Nat} {a b:Rat}
theorem LOk.pw (h:LOk L)(e:Nat):L^e≤2^(28000*e):=by
 obtain⟨b,h1,h2⟩:=h.le;refine tL_ (Nat.pow_le_pow_left h2 e) ?_;rw[←Nat.pow_mul];exact Nat.pow_le_pow_right (by decide) (Nat.mul_le_mul_right _ h1)
theorem LOk.nz (h:LOk L)(e:Nat):((L^e:Nat):Rat)≠0:=by
 have:=Nat.pow_pos (n:=e) h.pos
 exact_mod_cast Nat.ne_of_gt this
theorem Lv.bt (h:LOk L)(k:Lv L e a):Bt (30000*e) a:=by
 obtain⟨z,h1,h2⟩:=k;have e1:a=mkRat z (L^e):=by
  rw[Rat.mkRat_eq_div,←h1,Rat.div_def,Rat.mul_assoc];show a=a*(((L^e:Nat):Rat)*((L^e:Nat):Rat)⁻¹);rw[Rat.mul_inv_cancel _ (h.nz e),Rat.mul_one]
 rw[e1];exact bt_mk (Nat.pow_pos h.pos) h2 (tL_ (h.pw e) (Nat.pow_le_pow_right (by decide) (by omega)))
theorem Lv.zero:Lv L e 0:=⟨0,by simp,by simp⟩
theorem Lv.mul (k:Lv L e a)(k':Lv L f b):Lv L (e+f) (a*b):=by
 obtain⟨z,h1,h2⟩:=k;obtain⟨y,h3,h4⟩:=k';refine⟨z*y,?_,?_⟩
 ·rw[Rat.intCast_mul,←h1,←h3,Nat.pow_add,Rat.natCast_mul];grind
 ·rw[Int.natAbs_mul,Nat.mul_add,Nat.pow_add];exact Nat.mul_le_mul h2 h4
theorem Lv.up1 (h:LOk L){m:Nat}{z:Int}(h1:a*((L^e:Nat):Rat)=(z:Rat))(h2:z.natAbs≤m*2^(30000*e))(hm:m≤2^100):Lv L (e+1) a:=by
 refine⟨z*L,?_,?_⟩
 ·rw[Rat.intCast_mul,←h1,Nat.pow_succ,Rat.natCast_mul];show a*(_*(L:Rat))=a*_*(L:Rat);grind
 ·rw[Int.natAbs_mul,Int.natAbs_natCast];obtain⟨b,h3,h4⟩:=h.le;refine tL_ (Nat.mul_le_mul h2 h4) ?_;refine tL_ (Nat.mul_le_mul_right _ (Nat.mul_le_mul_right _ hm)) ?_;rw[←Nat.pow_add,←Nat.pow_add];exact Nat.pow_le_pow_right (by decide) (by omega)
theorem Lv.up (h:LOk L)(k:Lv L e a):∀n,Lv L (e+n) a
 |0=>k
 |n+1=>let ⟨z,h1,h2⟩:=Lv.up h k n;Lv.up1 h (m:=1) h1 (by rw[Nat.one_mul];exact h2) Nat.one_le_two_pow
theorem Lv.mono (h:LOk L)(k:Lv L e a)(he:e≤f):Lv L f a:=by
 have:=k.up h (f-e);rwa [show e+(f-e)=f by omega]at this
theorem Lv.add (h:LOk L)(k:Lv L e a)(k':Lv L e b):Lv L (e+1) (a+b):=by
 obtain⟨z,h1,h2⟩:=k;obtain⟨y,h3,h4⟩:=k';refine Lv.up1 h (m:=2) (z:=z+y) (by rw[Rat.intCast_add,←h1,←h3];grind) ?_ (tL_ (by decide:2≤2^1) (Nat.pow_le_pow_right (by decide) (by decide)));rw[Nat.two_mul];exact tL_ (Int.natAbs_add_le _ _) (Nat.add_le_add h2 h4)
theorem Lv.neg (k:Lv L e a):Lv L e (-a):=by
 obtain⟨z,h1,h2⟩:=k;exact⟨-z,by rw[Rat.intCast_neg,←h1];grind,by rw[Int.natAbs_neg];exact h2⟩
theorem Lv.max (k:Lv L e a)(k':Lv L e b):Lv L e (if b≤a then a else b):=by split<;>assumption
theorem Lv.of (h:LOk L)(hd:a.den∣L)(hn:a.num.natAbs≤2^100)(he:e=1):Lv L e a:=by
 obtain⟨c,hc⟩:=hd;refine⟨a.num*c,?_,?_⟩
 ·rw[he,Nat.pow_one,hc,Rat.natCast_mul,Rat.intCast_mul,←Rat.mul_assoc]
  congr 1
  have:=Rat.mkRat_eq_div a.num a.den;rw[Rat.mkRat_self]at this;have h0:((a.den:Nat):Rat)≠0:=by have:=a.den_pos;exact_mod_cast Nat.ne_of_gt this
  refine(congrArg (· *((a.den:Nat):Rat)) this).trans ?_;show(a.num:Rat)/(a.den:Rat)*(a.den:Rat)=_;rw[Rat.div_def,Rat.mul_assoc,Rat.inv_mul_cancel _ h0,Rat.mul_one]
 ·rw[Int.natAbs_mul,Int.natAbs_natCast];have h1:c≤L:=by rw[hc];exact Nat.le_mul_of_pos_left _ a.den_pos
  obtain⟨b,h3,h4⟩:=h.le;have h5:=Nat.mul_le_mul hn (tL_ h1 h4);rw[←Nat.pow_add]at h5;exact tL_ h5 (Nat.pow_le_pow_right (by decide) (by omega))
theorem Lv.int {z:Int}(h:LOk L)(hz:z.natAbs≤2^100)(he:1≤e):Lv L e (z:Rat):=
 (Lv.of h (show((z:Int):Rat).den∣L by rw[Rat.den_intCast];exact Nat.one_dvd L) (show((z:Int):Rat).num.natAbs≤2^100 by rw[Rat.num_intCast];exact hz) rfl).mono h he
end
structure FLv (L e k:Nat)(n:Int)(f:Af):Prop where
 ts:TsOk n 0 f.ts
 co:∀w,Lv L e (cof f.ts w)
 c:Lv L k f.c
section
variable {L e k e' k' m:Nat} {n n':Int} {f g:Af} {c:Rat}
theorem FLv.fb (hL:LOk L)(h:FLv L e k n f)(he:e≤m)(hk:k≤m):FB (30000*m) n f:=⟨h.ts,fun w=>((h.co w).mono hL he).bt hL,(h.c.mono hL hk).bt hL⟩
theorem FLv.mono (hL:LOk L)(h:FLv L e k n f)(he:e≤e')(hk:k≤k')(hn:n≤n'):FLv L e' k' n' f:=⟨h.ts.up hn,fun w=>(h.co w).mono hL he,h.c.mono hL hk⟩
theorem FLv.add (hL:LOk L)(h:FLv L e k n f)(h':FLv L e k n g):FLv L (e+1) (k+1) n (addS f g):=
 ⟨ok_fold (fun t ht=>let ⟨k1,k2,k3,k4⟩:=h'.ts.cof_mem t ht;⟨k2,k3⟩) h.ts,fun w=>by rw[addS,cof_fold];exact(h.co w).add hL (h'.co w),h.c.add hL h'.c⟩
theorem FLv.scale (h:FLv L e k n f)(hc:Lv L m c):FLv L (e+m) (k+m) n (scaleS f c):=
 ⟨ok_scale c h.ts,fun w=>by rw[scaleS,cof_scale];exact(h.co w).mul hc,h.c.mul hc⟩
theorem FLv.num (h:Lv L k c):FLv L e k n (numS c):=⟨trivial,fun w=>Lv.zero,h⟩
theorem FLv.zero:FLv L e k n ⟨[],0⟩:=⟨trivial,fun w=>Lv.zero,Lv.zero⟩
theorem FLv.var (hL:LOk L){v:Int}(h:0≤v)(h2:v<n)(he:1≤e):FLv L e k n (varS v):=by
 refine⟨⟨h,h2,by show((1:Int):Rat)≠0;decide,trivial⟩,fun w=> ?_,Lv.zero⟩;rw[varS,cof,cof,Rat.add_zero];split
 ·exact Lv.int hL (by decide) he
 ·exact Lv.zero
theorem FLv.sub (hL:LOk L)(h:FLv L e k n f)(h':FLv L e k n g):FLv L (e+1) (k+1) n (subS f g):=by
 refine h.add hL ⟨ok_scale _ h'.ts,fun w=> ?_,?_⟩
 ·rw[scaleS,cof_scale,show((-1:Int):Rat)= -1 from by decide,show cof g.ts w* -1= -(cof g.ts w) by grind];exact(h'.co w).neg
 ·rw[scaleS,show((-1:Int):Rat)= -1 from by decide,show g.c* -1= -g.c by grind];exact h'.c.neg
end
abbrev inR (xs:List Int):List (List D):=xs.map fun z=>[D.lit (.int .i64 z)]
abbrev inD (xs:List Int):D:= .sl 1 (inR xs)
abbrev nI (s:List Nat):List Int:=s.map fun(n:Nat)=>(n:Int)
abbrev shD (s:List Nat):D:=inD (nI s)
def szS (s:List Nat):Nat:=s.foldl (fun a b=>a*b) 1
theorem szS_snoc (a:List Nat)(d:Nat):szS (a++[d])=szS a*d:=by simp[szS,List.foldl_append]
theorem szS_app (a b:List Nat):szS (a++b)=szS a*szS b:=by
 have key:∀(b:List Nat) (k:Nat),b.foldl (fun a b=>a*b) k=k*b.foldl (fun a b=>a*b) 1:=by
  intro b
  induction b with
  |nil=>intro k;simp
  |cons d b ih=>intro k;rw[List.foldl_cons,List.foldl_cons,ih,ih (1*d)];simp[Nat.mul_assoc]
 unfold szS;rw[List.foldl_append];exact key b _
theorem szS_pos:∀{s:List Nat},(∀d∈s,1≤d)→1≤szS s
 |[],_=>lR_ _
 |d::s,h=>by
  rw[show d::s=[d]++s from rfl,szS_app];exact Nat.mul_pos (by simp[szS];exact h d List.mem_cons_self) (szS_pos fun e he=>h e (List.mem_cons_of_mem _ he))
structure ShG (s:List Nat):Prop where
 l1:1≤s.length
 l4:s.length≤4
 pos:∀d∈s,1≤d
 sz:szS s≤16384
theorem ShG.to {s:List Nat}(h:ShG s)(i:Nat):szS (s.take i)≤16384:=by
 refine tL_ ?_ h.sz;have:=szS_app (s.take i) (s.drop i);rw[List.take_append_drop]at this;rw[this];exact Nat.le_mul_of_pos_right _ (szS_pos fun d hd=>h.pos d (List.mem_of_mem_drop hd))
theorem ShG.snoc {s:List Nat}(h:ShG s){i d:Nat}(hd:s[i]? =some d):szS (s.take i)*d≤16384:=by
 rw[←szS_snoc,←take_snoc hd];exact h.to _
theorem ShG.d {s:List Nat}(h:ShG s){i d:Nat}(hd:s[i]? =some d):1≤d∧d≤16384:=by
 have h1:=h.pos d (mG_ hd);have h2:=h.snoc hd;have h3:=szS_pos (s:=s.take i) fun e he=>h.pos e (List.mem_of_mem_take he);exact⟨h1,tL_ (Nat.le_mul_of_pos_left _ h3) h2⟩
theorem at_nI {s:List Nat}{i d:Nat}(h:s[i]? =some d):(inR (nI s))[i]? =some [D.lit (.int .i64 (d:Nat))]:=at_map (f:=fun z=>[D.lit (.int .i64 z)]) (at_map (f:=fun n:Nat=>(n:Int)) h)
theorem at_inR {s:List Int}{i:Nat}{d:Int}(h:s[i]? =some d):(inR s)[i]? =some [D.lit (.int .i64 d)]:=at_map (f:=fun z=>[D.lit (.int .i64 z)]) h
theorem lx_tvalid {s:List Nat}(h:ShG s):LV Tryz.prog 59 [.a (.d (shD s))] (vl (.bool true)):=by
 have l1:=h.l1;have l4:=h.l4;refine LX_run (m:=0) (n0:=0) mix Tryz.func59 rfl rfl rfl rfl ?_;conv=>whnf
 refine bF (decide_eq_false (by simp;omega)) ?_;conv=>whnf
 refine bF (decide_eq_false (by simp;omega)) ?_;conv=>whnf
 refine .mk Nat (fun i=>⟨[(16,vl (.int .i64 i)),(15,vl (.int .i64 (inR (nI s)).length)),(14,.a (.d (shD s))),(3,vl (.int .i64 (szS (s.take i):Nat)))],[],0⟩) (fun i=>i≤s.length) (fun i=>s.length-i) 0 Wk.go (zL_ _) fun i hi=> ?_;conv=>whnf
 refine bs (fun h1=> ?_) (fun h1=> ?_)
 ·conv=>whnf
  have h1':i<s.length:=by simpa using h1
  obtain⟨d,hd⟩:=at_some h1';have k1:=h.d hd;have k2:=h.snoc hd;have e:IntKind.i64.wrap (((szS (s.take i):Nat):Int)*(d:Int))=((szS (s.take (i+1)):Nat):Int):=by
   rw[take_snoc hd,szS_snoc,←Int.natCast_mul,wr64 (by omega) (by omega)]
  have k3:=h.to (i+1);refine .mk (i) ([D.lit (.int .i64 (d:Nat))]) (rfl) (at_nI hd) ?_;conv=>whnf
  conv=>whnf
  refine bF (decide_eq_false (by omega)) ?_;conv=>whnf
  refine bF (decide_eq_false (by omega)) ?_;conv=>whnf
  rw[e];refine bF (decide_eq_false (by omega)) ?_;conv=>whnf
  rw[e];exact⟨i+1,Wk.go,by omega,by omega⟩
 ·conv=>whnf
  exact .q ⟨rfl,rfl⟩
theorem lx_tsize {s:List Nat}(h:ShG s):LV Tryz.prog 27 [.a (.d (shD s))] (vl (.int .i64 (szS s:Nat))):=by
 have l1:=h.l1;have l4:=h.l4;refine LX_run (m:=0) (n0:=0) mix Tryz.func27 rfl rfl rfl rfl ?_;conv=>whnf
 refine .c (lx_tvalid h) ?_;conv=>whnf
 refine .mk Nat (fun i=>⟨[(11,vl (.int .i64 i)),(10,vl (.int .i64 (inR (nI s)).length)),(9,.a (.d (shD s))),(3,vl (.int .i64 (szS (s.take i):Nat)))],[],0⟩) (fun i=>i≤s.length) (fun i=>s.length-i) 0 Wk.go (zL_ _) fun i hi=> ?_;conv=>whnf
 refine bs (fun h1=> ?_) (fun h1=> ?_)
 ·conv=>whnf
  have h1':i<s.length:=by simpa using h1
  obtain⟨d,hd⟩:=at_some h1';have k1:=h.d hd;have k3:=h.to (i+1);have e:IntKind.i64.wrap (((szS (s.take i):Nat):Int)*(d:Int))=((szS (s.take (i+1)):Nat):Int):=by
   have k2:=h.snoc hd;rw[take_snoc hd,szS_snoc,←Int.natCast_mul,wr64 (by omega) (by omega)]
  refine .mk (i) ([D.lit (.int .i64 (d:Nat))]) (rfl) (at_nI hd) ?_;conv=>whnf
  conv=>whnf
  rw[e];exact⟨i+1,Wk.go,by omega,by omega⟩
 ·conv=>whnf
  have ei:i=s.length:=by simp at h1;omega
  exact .q ⟨by rw[ei,List.take_length],rfl⟩
theorem lx_tside {n:Int}(h:1≤n)(h':n≤64):LV Tryz.prog 198 [vl (.int .i64 n)] (vl (.bool true)):=by
 refine LX_run (m:=0) (n0:=0) mix Tryz.func198 rfl rfl rfl rfl ?_;conv=>whnf
 refine bT (decide_eq_true (by omega)) ?_;conv=>whnf
 refine bT (decide_eq_true (by omega)) ?_;conv=>whnf
 exact .q ⟨rfl,rfl⟩
def ShI (xs:List Int):Prop:=∃s:List Nat,xs=nI s∧ShG s
theorem lx_zvalidS {xs:List Int}(hl:xs.length≤1000):∃b,(b=true↔ShI xs)∧LV Tryz.prog 53 [.a (.d (inD xs))] (vl (.bool b)):=by
 suffices hh:LX Tryz.prog 53 [.a (.d (inD xs))] [] fun v H=>∃b,(b=true↔ShI xs)∧v=vl (.bool b)∧H=[] by
  obtain⟨v,H',⟨b,h1,rfl,rfl⟩,hc⟩:=hh;exact⟨b,h1,_,_,⟨rfl,rfl⟩,hc⟩
 have fin:∀H:List (Nat×Ent),¬ShI xs→Rt 0 H (vl (.bool false)) fun v H=>∃b,(b=true↔ShI xs)∧v=vl (.bool b)∧H=[]:=fun H hn=> .q ⟨false,⟨fun h=>(by cases h),fun h=>absurd h hn⟩,rfl,rfl⟩;refine LX_run (m:=0) (n0:=0) mix Tryz.func53 rfl rfl rfl rfl ?_;conv=>whnf
 refine bs (fun h0=> ?_) (fun h0=> ?_)
 ·conv=>whnf
  refine fin _ fun⟨s,e,h⟩=> ?_;have:=of_decide_eq_true h0;have:=h.l1;simp[e]at *;omega
 ·conv=>whnf
  refine bs (fun h0'=> ?_) (fun h0'=> ?_)
  ·conv=>whnf
   refine fin _ fun⟨s,e,h⟩=> ?_;have:=of_decide_eq_true h0';have:=h.l4;simp[e]at *;omega
  ·conv=>whnf
   have l1:1≤xs.length:=by have:=of_decide_eq_false h0;simp at this;omega
   have l4:xs.length≤4:=by have:=of_decide_eq_false h0';simp at this;omega
   refine .mk (Nat×List Nat) (fun(i,a)=>⟨[(4,vl (.int .i64 (i:Nat))),(3,vl (.int .i64 (szS a:Nat))),(0,.a (.d (inD xs)))],[],0⟩) (fun b=>b.1≤xs.length∧xs.take b.1=nI b.2∧(∀d∈b.2,1≤d)∧szS b.2≤16384) (fun b=>xs.length-b.1) (0,[]) Wk.go ⟨zL_ _,rfl,fun d hd=>(by cases hd),by decide⟩ fun⟨i,a⟩ hb=> ?_;obtain⟨hi,h2,h3,h4⟩:=hb;simp only at hi h2 h3 h4;conv=>whnf
   refine bs (fun h1=> ?_) (fun h1=> ?_)
   ·conv=>whnf
    have h1':i<xs.length:=by simpa using h1
    obtain⟨d,hd⟩:=at_some h1'
    have pre:∀s,xs=nI s→ShG s→∃n:Nat,d=n∧1≤n∧n≤16384∧szS a*n≤16384:=fun s e h=>by
     obtain⟨n,hn⟩:=at_some (l:=s) (i:=i) (by rw[e]at h1';simpa using h1');have hd':=at_map (f:=fun n:Nat=>(n:Int)) hn;rw[e]at hd h2;rw[hd]at hd';injection hd' with hd';have ea:a=s.take i:=by
      rw[←List.map_take]at h2;exact(List.map_inj_right fun x y h=>by omega).1 h2.symm
     obtain⟨k1,k2⟩:=h.d hn;exact⟨n,hd',k1,k2,by rw[ea];exact h.snoc hn⟩
    refine .mk (i) ([D.lit (.int .i64 d)]) (rfl) (at_inR hd) ?_;conv=>whnf
    conv=>whnf
    refine bs (fun g1=> ?_) (fun g1=> ?_)
    ·conv=>whnf
     refine fin _ fun⟨s,e,h⟩=> ?_;obtain⟨n,rfl,k1,k2,k3⟩:=pre s e h;have:=of_decide_eq_true g1;omega
    ·conv=>whnf
     refine .mk (i) ([D.lit (.int .i64 d)]) (rfl) (at_inR hd) ?_;conv=>whnf
     conv=>whnf
     refine bs (fun g2=> ?_) (fun g2=> ?_)
     ·conv=>whnf
      refine fin _ fun⟨s,e,h⟩=> ?_;obtain⟨n,rfl,k1,k2,k3⟩:=pre s e h;have:=of_decide_eq_true g2;omega
     ·conv=>whnf
      have q1:=of_decide_eq_false g1;have q2:=of_decide_eq_false g2;obtain⟨n,rfl⟩:∃n:Nat,d=n:=⟨d.toNat,by omega⟩;have hm:szS a*n≤16384*16384:=Nat.mul_le_mul h4 (by omega);have e1:IntKind.i64.wrap (((szS a:Nat):Int)*(n:Int))=((szS (a++[n]):Nat):Int):=by
       rw[szS_snoc,←Int.natCast_mul,wr64 (by omega) (by omega)]
      refine .mk (i) ([D.lit (.int .i64 (n:Nat))]) (rfl) (at_inR hd) ?_;conv=>whnf
      conv=>whnf
      rw[e1];refine bs (fun g3=> ?_) (fun g3=> ?_)
      ·conv=>whnf
       refine fin _ fun⟨s,e,h⟩=> ?_;obtain⟨m,em,k1,k2,k3⟩:=pre s e h;have:=of_decide_eq_true g3;rw[szS_snoc]at this;have:m=n:=by omega
       subst this;omega
      ·conv=>whnf
       have q3:=of_decide_eq_false g3
       exact⟨(i+1,a++[n]),Wk.go,⟨h1',by simp only;rw[take_snoc hd,h2,nI,nI,List.map_append];rfl,fun x hx=>by
        rcases List.mem_append.1 hx with hx|hx
        ·exact h3 x hx
        ·rw[List.mem_singleton.1 hx];omega,by simp only;omega⟩,by simp only;omega⟩
   ·conv=>whnf
    have ei:i=xs.length:=by simp at h1;omega
    subst ei;rw[List.take_length]at h2;exact .q ⟨true,⟨fun _=>⟨a,h2,by rw[h2]at l1;simpa using l1,by rw[h2]at l4;simpa using l4,h3,h4⟩,fun _=>rfl⟩,rfl,rfl⟩
theorem lx_zvalidT {s:List Nat}(h:ShG s):LV Tryz.prog 53 [.a (.d (shD s))] (vl (.bool true)):=by
 have l4:=h.l4;obtain⟨b,h1,h2⟩:=lx_zvalidS (xs:=nI s) (by simp;omega)
 rwa [h1.2 ⟨s,rfl,h⟩]at h2
theorem lx_zsize {s:List Nat}(h:ShG s):LV Tryz.prog 22 [.a (.d (shD s))] (vl (.int .i64 (szS s:Nat))):=by
 have l1:=h.l1;have l4:=h.l4;refine LX_run (m:=0) (n0:=0) mix Tryz.func22 rfl rfl rfl rfl ?_;conv=>whnf
 refine .c (lx_zvalidT h) ?_;conv=>whnf
 refine .mk Nat (fun i=>⟨[(4,vl (.int .i64 (i:Nat))),(3,vl (.int .i64 (szS (s.take i):Nat))),(0,.a (.d (shD s)))],[],0⟩) (fun i=>i≤s.length) (fun i=>s.length-i) 0 Wk.go (zL_ _) fun i hi=> ?_;conv=>whnf
 refine bs (fun h1=> ?_) (fun h1=> ?_)
 ·conv=>whnf
  have h1':i<s.length:=by simpa using h1
  obtain⟨d,hd⟩:=at_some h1';have k1:=h.d hd;have k3:=h.to (i+1);have e:IntKind.i64.wrap (((szS (s.take i):Nat):Int)*(d:Int))=((szS (s.take (i+1)):Nat):Int):=by
   have k2:=h.snoc hd;rw[take_snoc hd,szS_snoc,←Int.natCast_mul,wr64 (by omega) (by omega)]
  refine .mk (i) ([D.lit (.int .i64 (d:Nat))]) (rfl) (at_nI hd) ?_;conv=>whnf
  conv=>whnf
  rw[e];exact⟨i+1,Wk.go,by omega,by omega⟩
 ·conv=>whnf
  have ei:i=s.length:=by simp at h1;omega
  exact .q ⟨by rw[ei,List.take_length],rfl⟩
theorem lx_ints {xs ys:List Int}(hl:xs.length≤1000)(hl':ys.length≤1000):∃b,(b=true↔xs=ys)∧LV Tryz.prog 94 [.a (.d (inD xs)),.a (.d (inD ys))] (vl (.bool b)):=by
 suffices hh:LX Tryz.prog 94 [.a (.d (inD xs)),.a (.d (inD ys))] [] fun v H=>∃b,(b=true↔xs=ys)∧v=vl (.bool b)∧H=[] by
  obtain⟨v,H',⟨b,h1,rfl,rfl⟩,hc⟩:=hh;exact⟨b,h1,_,_,⟨rfl,rfl⟩,hc⟩
 have fin:∀H:List (Nat×Ent),xs≠ys→Rt 0 H (vl (.bool false)) fun v H=>∃b,(b=true↔xs=ys)∧v=vl (.bool b)∧H=[]:=fun H hn=> .q ⟨false,⟨fun h=>(by cases h),fun h=>absurd h hn⟩,rfl,rfl⟩;refine LX_run (m:=0) (n0:=0) mix Tryz.func94 rfl rfl rfl rfl ?_;conv=>whnf
 refine bs (fun h0=> ?_) (fun h0=> ?_)
 ·conv=>whnf
  exact fin _ fun e=>by subst e;simp at h0
 ·conv=>whnf
  have hlen:xs.length=ys.length:=by simp at h0;omega
  refine .mk Nat (fun i=>⟨[(5,vl (.int .i64 (i:Nat))),(1,.a (.d (inD ys))),(0,.a (.d (inD xs)))],[],0⟩) (fun i=>i≤xs.length∧xs.take i=ys.take i) (fun i=>xs.length-i) 0 Wk.go ⟨zL_ _,rfl⟩ fun i hb=> ?_;obtain⟨hi,h2⟩:=hb;conv=>whnf
  refine bs (fun h1=> ?_) (fun h1=> ?_)
  ·conv=>whnf
   have h1':i<xs.length:=by simpa using h1
   obtain⟨x,hx⟩:=at_some h1';obtain⟨y,hy⟩:=at_some (l:=ys) (i:=i) (by omega);refine .mk (i) ([D.lit (.int .i64 x)]) (rfl) (at_inR hx) ?_;conv=>whnf
   conv=>whnf
   refine .mk (i) ([D.lit (.int .i64 y)]) (rfl) (at_inR hy) ?_;conv=>whnf
   conv=>whnf
   refine bs (fun g1=> ?_) (fun g1=> ?_)
   ·conv=>whnf
    refine .mk (by kernel_rfl) ?_;conv=>whnf
    exact fin _ fun e=>by rw[e,hy]at hx;injection hx with hx;simp[hx]at g1
   ·conv=>whnf
    refine .mk (by kernel_rfl) ?_;conv=>whnf
    have e1:x=y:=by simpa using g1
    exact⟨i+1,Wk.go,⟨h1',by rw[take_snoc hx,take_snoc hy,h2,e1]⟩,by omega⟩
  ·conv=>whnf
   have ei:i=xs.length:=by simp at h1;omega
   subst ei;rw[List.take_length,List.take_of_length_le (by omega)]at h2;exact .q ⟨true,⟨fun _=>h2,fun _=>rfl⟩,rfl,rfl⟩
structure Wn where
 c:Nat
 h:Nat
 w:Nat
 kh:Nat
 kw:Nat
 st:Nat
 pad:Nat
namespace Wn
variable (W:Wn)
def rows:Nat:=(W.h+2*W.pad-W.kh)/W.st+1
def cols:Nat:=(W.w+2*W.pad-W.kw)/W.st+1
def idx (ch y x:Int):Int:=if 0≤y∧y<W.h∧0≤x∧x<W.w then(ch*W.h+y)*W.w+x else -1
def el (r q ch i k:Nat):Int:=W.idx ch ((r*W.st+i:Nat)-(W.pad:Int)) ((q*W.st+k:Nat)-(W.pad:Int))
def l1 (r q ch i:Nat)(n:Nat):List Int:=(List.range n).map fun k=>W.el r q ch i k
def l2 (r q ch:Nat)(n:Nat):List Int:=(List.range n).flatMap fun i=>W.l1 r q ch i W.kw
def l3 (r q:Nat)(n:Nat):List Int:=(List.range n).flatMap fun ch=>W.l2 r q ch W.kh
def l4 (r:Nat)(n:Nat):List (List Int):=(List.range n).map fun q=>W.l3 r q W.c
def l5 (n:Nat):List (List Int):=(List.range n).flatMap fun r=>W.l4 r W.cols
def all:List (List Int):=W.l5 W.rows
structure Ok:Prop where
 c:1≤W.c
 h:1≤W.h
 w:1≤W.w
 kh:1≤W.kh∧W.kh≤6
 kw:1≤W.kw∧W.kw≤6
 st:1≤W.st∧W.st≤6
 ph:W.pad<W.kh
 pw:W.pad<W.kw
 fh:W.kh≤W.h+2*W.pad
 fw:W.kw≤W.w+2*W.pad
 sz:W.c*W.h*W.w≤24
end Wn
theorem range_map_snoc {α:Type}(f:Nat→α)(n:Nat):(List.range (n+1)).map f=(List.range n).map f++[f n]:=by rw[List.range_succ,List.map_append];rfl
theorem range_fm_snoc {α:Type}(f:Nat→List α)(n:Nat):(List.range (n+1)).flatMap f=(List.range n).flatMap f++f n:=by rw[List.range_succ,List.flatMap_append];simp
theorem fm_len {α:Type}{f:Nat→List α}{m:Nat}(h:∀i,(f i).length=m):∀n,((List.range n).flatMap f).length=n*m
 |0=>by simp
 |n+1=>by rw[range_fm_snoc,List.length_append,fm_len h n,h,Nat.succ_mul]
namespace Wn
variable {W:Wn}
theorem l1_len {r q ch i n:Nat}:(W.l1 r q ch i n).length=n:=by simp[l1]
theorem l2_len {r q ch n:Nat}:(W.l2 r q ch n).length=n*W.kw:=fm_len (fun i=>l1_len) n
theorem l3_len {r q n:Nat}:(W.l3 r q n).length=n*(W.kh*W.kw):=fm_len (fun i=>l2_len) n
theorem l4_len {r n:Nat}:(W.l4 r n).length=n:=by simp[l4]
theorem l5_len {n:Nat}:(W.l5 n).length=n*W.cols:=fm_len (fun i=>l4_len) n
theorem mem_all {w:List Int}(h:w∈W.all):∃r q,r<W.rows∧q<W.cols∧w=W.l3 r q W.c:=by
 unfold all l5 at h;obtain⟨r,hr,h⟩:=List.mem_flatMap.1 h;unfold l4 at h;obtain⟨q,hq,rfl⟩:=List.mem_map.1 h;exact⟨r,q,List.mem_range.1 hr,List.mem_range.1 hq,rfl⟩
theorem mem_l3 {r q n:Nat}{z:Int}(h:z∈W.l3 r q n):∃ch i k,ch<n∧i<W.kh∧k<W.kw∧z=W.el r q ch i k:=by
 unfold l3 at h;obtain⟨ch,h1,h⟩:=List.mem_flatMap.1 h;unfold l2 at h;obtain⟨i,h2,h⟩:=List.mem_flatMap.1 h;unfold l1 at h;obtain⟨k,h3,rfl⟩:=List.mem_map.1 h;exact⟨ch,i,k,List.mem_range.1 h1,List.mem_range.1 h2,List.mem_range.1 h3,rfl⟩
theorem idx_b {ch:Nat}{y x:Int}(h:ch<W.c): -1≤W.idx ch y x∧W.idx ch y x<(W.c*W.h*W.w:Nat):=by
 unfold idx;split
 ·rename_i k;obtain⟨k1,k2,k3,k4⟩:=k;obtain⟨y',rfl⟩:∃n:Nat,y=n:=⟨y.toNat,by omega⟩;obtain⟨x',rfl⟩:∃n:Nat,x=n:=⟨x.toNat,by omega⟩;have h1:(ch*W.h+y'+1)*W.w≤W.c*W.h*W.w:=by
   refine Nat.mul_le_mul_right _ ?_;have:=Nat.mul_le_mul_right W.h (show ch+1≤W.c from h);rw[Nat.add_mul]at this;omega
  rw[Nat.add_mul,Nat.one_mul]at h1;have h2:(((ch:Int)*W.h+y')*W.w+x':Int)=((ch*W.h+y')*W.w+x':Nat):=by simp
  omega
 ·have:=zL_ (W.c*W.h*W.w);omega
theorem mem_b {w:List Int}(h:w∈W.all){z:Int}(hz:z∈w): -1≤z∧z<(W.c*W.h*W.w:Nat):=by
 obtain⟨r,q,_,_,rfl⟩:=mem_all h;obtain⟨ch,i,k,h1,_,_,rfl⟩:=mem_l3 hz;exact idx_b h1
theorem all_len {w:List Int}(h:w∈W.all):w.length=W.c*(W.kh*W.kw):=by
 obtain⟨r,q,_,_,rfl⟩:=mem_all h;exact l3_len
theorem mem_nn (hp:W.pad=0)(ok:W.Ok){w:List Int}(h:w∈W.all){z:Int}(hz:z∈w):0≤z:=by
 obtain⟨r,q,hr,hq,rfl⟩:=mem_all h;obtain⟨ch,i,k,h1,h2,h3,rfl⟩:=mem_l3 hz;have b:∀(st kh h r i:Nat),kh≤h→r<(h+2*0-kh)/st+1→i<kh→r*st+i<h:=by
  intro st kh h r i e1 e2 e3;have h4:r*st≤h+2*0-kh:=tL_ (Nat.mul_le_mul_right _ (Nat.lt_succ_iff.1 e2)) (Nat.div_mul_le_self _ _);omega
 have f1:=ok.fh;have f2:=ok.fw;unfold rows at hr;unfold cols at hq;rw[hp]at hr hq f1 f2;have b1:=b _ _ _ _ _ f1 hr h2;have b2:=b _ _ _ _ _ f2 hq h3;unfold el idx;rw[hp,if_pos (by omega)];have:=Int.mul_nonneg (Int.add_nonneg (Int.mul_nonneg (Int.natCast_nonneg ch) (Int.natCast_nonneg W.h)) (Int.natCast_nonneg (r*W.st+i))) (Int.natCast_nonneg W.w);simp only[Int.natCast_zero,Int.sub_zero]at *
 omega
structure Bd (W:Wn):Prop where
 c:W.c≤24
 h:W.h≤24
 w:W.w≤24
 r:W.rows≤30
 q:W.cols≤30
 r1:1≤W.rows
 q1:1≤W.cols
 p1:W.rows*W.cols≤900
 p2:W.rows*W.cols*W.c≤1000
 p3:W.rows*W.cols*W.c*W.kh≤6000
 p4:W.rows*W.cols*W.c*W.kh*W.kw≤36000
 len:W.c*(W.kh*W.kw)≤864
theorem div6 (a b:Nat):a/b≤a:=Nat.div_le_self _ _
theorem Ok.bd (ok:W.Ok):Bd W:=by
 obtain⟨c1,h1,w1,⟨k1,k2⟩,⟨k3,k4⟩,⟨s1,s2⟩,p1,p2,f1,f2,sz⟩:=ok;have hc:W.c≤24:=tL_ (tL_ (Nat.le_mul_of_pos_right _ h1) (Nat.le_mul_of_pos_right _ w1)) sz;have hh:W.h≤24:=tL_ (tL_ (Nat.le_mul_of_pos_left _ c1) (Nat.le_mul_of_pos_right _ w1)) sz;have hw:W.w≤24:=tL_ (Nat.le_mul_of_pos_left _ (Nat.mul_pos c1 h1)) sz;have d1:=div6 (W.h+2*W.pad-W.kh) W.st;have d2:=div6 (W.w+2*W.pad-W.kw) W.st;have r6:W.rows≤6*W.h:=by unfold rows;omega
 have q6:W.cols≤6*W.w:=by unfold cols;omega
 have r30:W.rows≤30:=by unfold rows;omega
 have q30:W.cols≤30:=by unfold cols;omega
 have m1:W.rows*W.cols≤30*30:=Nat.mul_le_mul r30 q30;have m2:W.rows*W.cols*W.c≤36*24:=by
  refine tL_ (Nat.mul_le_mul_right _ (Nat.mul_le_mul r6 q6)) ?_;have e:6*W.h*(6*W.w)*W.c=36*(W.c*W.h*W.w):=by
   simp only[Nat.mul_assoc,Nat.mul_comm,Nat.mul_left_comm]
  rw[e];omega
 have m3:W.rows*W.cols*W.c*W.kh≤864*6:=Nat.mul_le_mul m2 k2;have m4:W.rows*W.cols*W.c*W.kh*W.kw≤5184*6:=Nat.mul_le_mul m3 k4;have m5:W.c*(W.kh*W.kw)≤24*36:=Nat.mul_le_mul hc (Nat.mul_le_mul k2 k4);exact⟨hc,hh,hw,r30,q30,Nat.succ_le_succ (zL_ _),Nat.succ_le_succ (zL_ _),by omega,by omega,by omega,by omega,by omega⟩
end Wn
abbrev wnR (l:List (List Int)):List (List D):=l.map fun w=>[inD w]
abbrev wnD (l:List (List Int)):D:= .sl 1 (wnR l)
theorem ShG.of3 {W:Wn}(ok:W.Ok):ShG [W.c,W.h,W.w]:=by
 refine⟨by simp,by simp,fun d hd=> ?_,?_⟩
 ·simp at hd;rcases hd with rfl|rfl|rfl
  ·exact ok.c
  ·exact ok.h
  ·exact ok.w
 ·have:=ok.sz;simp[szS];omega
theorem wn_el {W:Wn}(ok:W.Ok){r q ch i k:Nat}(hr:r<W.rows)(hq:q<W.cols)(hc:ch<W.c)(hi:i<W.kh)(hk:k<W.kw):
  ∀y x:Int,y=(r*W.st+i:Nat)-(W.pad:Int)→x=(q*W.st+k:Nat)-(W.pad:Int)→(-1000≤y∧y≤1000)∧(-1000≤x∧x≤1000)∧r*W.st≤180∧q*W.st≤180∧ch*W.h≤576:=by
 have b:=ok.bd;have h1:r*W.st≤30*6:=Nat.mul_le_mul (by have:=b.r;omega) ok.st.2;have h2:q*W.st≤30*6:=Nat.mul_le_mul (by have:=b.q;omega) ok.st.2;have h3:ch*W.h≤24*24:=Nat.mul_le_mul (by have:=b.c;omega) b.h;have:=ok.kh;have:=ok.kw;have:=ok.ph;have:=ok.pw;intro y x ey ex;omega
abbrev wnT (W:Wn):List (Nat×V):=[(18,vl (.int .i64 (W.cols:Nat))),(17,vl (.int .i64 (W.rows:Nat))),(16,vl (.int .i64 (W.w:Nat))),(15,vl (.int .i64 (W.h:Nat))),(14,vl (.int .i64 (W.c:Nat))),(4,vl (.int .i64 (W.pad:Nat))),(3,vl (.int .i64 (W.st:Nat))),(2,vl (.int .i64 (W.kw:Nat))),(1,vl (.int .i64 (W.kh:Nat)))]
theorem wrN {n:Nat}(h:n<9223372036854775808):IntKind.i64.wrap (n:Int)=n:=wr64 (by omega) (by omega)
theorem wn_dim {a p k s:Nat}(h1:k≤a+2*p)(hs:1≤s)(ha:a≤1000)(hp:p≤1000):IntKind.i64.wrap (2*(p:Int))=((2*p:Nat):Int)∧IntKind.i64.wrap ((a:Int)+((2*p:Nat):Int))=((a+2*p:Nat):Int)∧IntKind.i64.wrap (((a+2*p:Nat):Int)-(k:Int))=((a+2*p-k:Nat):Int)∧IntKind.i64.wrap ((((a+2*p-k:Nat):Int)).tdiv (s:Int))=(((a+2*p-k)/s:Nat):Int)∧IntKind.i64.wrap ((((a+2*p-k)/s:Nat):Int)+1)=(((a+2*p-k)/s+1:Nat):Int):=by
 have d:=Nat.div_le_self (a+2*p-k) s;refine⟨?_,?_,?_,?_,?_⟩
 ·rw[wr64 (by omega) (by omega)];omega
 ·rw[wr64 (by omega) (by omega)];omega
 ·rw[wr64 (by omega) (by omega)];omega
 ·rw[Int.tdiv_eq_ediv_of_nonneg (by omega),←Int.natCast_ediv];generalize (a+2*p-k)/s=X at *
  rw[wr64 (by omega) (by omega)]
 ·generalize (a+2*p-k)/s=X at *
  rw[wr64 (by omega) (by omega)];omega
theorem wr_yx {a b c:Nat}(ha:a≤1000000)(hb:b≤1000000)(hc:c≤1000000):IntKind.i64.wrap (IntKind.i64.wrap (IntKind.i64.wrap (a:Int)+(b:Int))-(c:Int))=(a+b:Nat)-(c:Int):=by
 rw[wrN (n:=a) (by omega),←Int.natCast_add,wrN (n:=a+b) (by omega),wr64 (by omega) (by omega)]
theorem lx_windows {W:Wn}(ok:W.Ok):LV Tryz.prog 171 [.a (.d (shD [W.c,W.h,W.w])),vl (.int .i64 (W.kh:Nat)),vl (.int .i64 (W.kw:Nat)),vl (.int .i64 (W.st:Nat)),vl (.int .i64 (W.pad:Nat))]
  (.tup [.s (.d (wnD W.all)),.s (.d (.lit (.int .i64 (W.rows:Nat)))),.s (.d (.lit (.int .i64 (W.cols:Nat)))),.s (.d (.lit (.int .i64 0)))]):=by
 have b:=ok.bd;obtain⟨b1,b2,b3,b4,b5,b6,b7,b8,b9,b10,b11,b12⟩:=b;obtain⟨c1,h1,w1,⟨k1,k2⟩,⟨k3,k4⟩,⟨s1,s2⟩,p1,p2,f1,f2,sz⟩:=id ok;obtain⟨u1,u2,u3,u4,u5⟩:=wn_dim (a:=W.h) f1 s1 (by omega) (by omega);obtain⟨v1,v2,v3,v4,v5⟩:=wn_dim (a:=W.w) f2 s1 (by omega) (by omega);have ur:(W.h+2*W.pad-W.kh)/W.st+1=W.rows:=rfl;have vq:(W.w+2*W.pad-W.kw)/W.st+1=W.cols:=rfl;rw[ur]at u5;rw[vq]at v5;have m1:IntKind.i64.wrap ((W.rows:Int)*(W.cols:Int))=((W.rows*W.cols:Nat):Int):=by rw[←Int.natCast_mul,wrN (by omega)]
 have m2:IntKind.i64.wrap (((W.rows*W.cols:Nat):Int)*(W.c:Int))=((W.rows*W.cols*W.c:Nat):Int):=by rw[←Int.natCast_mul,wrN (by omega)]
 have m3:IntKind.i64.wrap (((W.rows*W.cols*W.c:Nat):Int)*(W.kh:Int))=((W.rows*W.cols*W.c*W.kh:Nat):Int):=by rw[←Int.natCast_mul,wrN (by omega)]
 have m4:IntKind.i64.wrap (((W.rows*W.cols*W.c*W.kh:Nat):Int)*(W.kw:Int))=((W.rows*W.cols*W.c*W.kh*W.kw:Nat):Int):=by rw[←Int.natCast_mul,wrN (by omega)]
 refine LX_run (m:=0) (n0:=0) mix Tryz.func171 rfl rfl rfl rfl ?_;conv=>whnf
 refine .c (lx_tvalid (ShG.of3 ok)) ?_;conv=>whnf
 refine .c (lx_tside (n:=(W.kh:Nat)) (by omega) (by omega)) ?_;conv=>whnf
 refine .c (lx_tside (n:=(W.kw:Nat)) (by omega) (by omega)) ?_;conv=>whnf
 refine .c (lx_tside (n:=(W.st:Nat)) (by omega) (by omega)) ?_;conv=>whnf
 refine bF (decide_eq_false (by omega)) ?_;conv=>whnf
 refine bF (decide_eq_false (by omega)) ?_;conv=>whnf
 refine .mk (1) ([D.lit (.int .i64 (W.h:Nat))]) (rfl) (rfl) ?_;conv=>whnf
 conv=>whnf
 rw[u1,u2];refine bF (decide_eq_false (by omega)) ?_;conv=>whnf
 refine .mk (2) ([D.lit (.int .i64 (W.w:Nat))]) (rfl) (rfl) ?_;conv=>whnf
 conv=>whnf
 rw[v1,v2];refine bF (decide_eq_false (by omega)) ?_;conv=>whnf
 refine .mk (0) ([D.lit (.int .i64 (W.c:Nat))]) (rfl) (rfl) ?_;conv=>whnf
 conv=>whnf
 refine .mk (1) ([D.lit (.int .i64 (W.h:Nat))]) (rfl) (rfl) ?_;conv=>whnf
 conv=>whnf
 refine .mk (2) ([D.lit (.int .i64 (W.w:Nat))]) (rfl) (rfl) ?_;conv=>whnf
 conv=>whnf
 refine .mk (by kernel_rfl) ?_;conv=>whnf
 rw[u1,u2,u3];refine .mk _ ⟨by omega,rfl⟩ u4 ?_;conv=>whnf
 rw[v1,v2,v3];refine .mk _ ⟨by omega,rfl⟩ v4 ?_;conv=>whnf
 refine .mk (by kernel_rfl) ?_;conv=>whnf
 rw[u5,v5,m1,m2,m3,m4];refine bF (decide_eq_false (by omega)) ?_;conv=>whnf
 refine .mk Nat (fun r=>⟨[(122,vl (.int .i64 (r:Nat))),(121,vl (.int .i64 (W.rows:Nat))),(19,.a (.own 0 1 (wnR (W.l5 r))))]++wnT W,[(0,.arr 22 1 (wnR (W.l5 r)).length)],1⟩) (fun r=>r≤W.rows) (fun r=>W.rows-r) 0
  (Wk.trans (Wk.own 19 0 22 1 rfl rfl (zL_ _)) Wk.go) (zL_ _) fun r hr=> ?_
 conv=>whnf
 refine bs (fun g0=> ?_) (fun g0=> ?_)
 ·conv=>whnf
  have hr':r<W.rows:=by simpa using g0
  refine .mk Nat (fun q=>⟨[(126,vl (.int .i64 (q:Nat))),(125,vl (.int .i64 (W.cols:Nat))),(20,vl (.int .i64 (r:Nat))),(122,vl (.int .i64 (r:Nat))),(121,vl (.int .i64 (W.rows:Nat))),(19,.a (.own 0 1 (wnR (W.l5 r++W.l4 r q))))]++wnT W,[(0,.arr 22 1 (wnR (W.l5 r++W.l4 r q)).length)],1⟩) (fun q=>q≤W.cols) (fun q=>W.cols-q) 0
   (by rw[show W.l5 r++W.l4 r 0=W.l5 r from List.append_nil _];exact Wk.go) (zL_ _) fun q hq=> ?_
  conv=>whnf
  refine bs (fun g1=> ?_) (fun g1=> ?_)
  ·conv=>whnf
   have hq':q<W.cols:=by simpa using g1
   refine .mk Nat (fun ch=>⟨[(130,vl (.int .i64 (ch:Nat))),(129,vl (.int .i64 (W.c:Nat))),(21,vl (.int .i64 (q:Nat))),(22,.a (.own 1 1 (inR (W.l3 r q ch)))),(126,vl (.int .i64 (q:Nat))),(125,vl (.int .i64 (W.cols:Nat))),(20,vl (.int .i64 (r:Nat))),(122,vl (.int .i64 (r:Nat))),(121,vl (.int .i64 (W.rows:Nat))),(19,.a (.own 0 1 (wnR (W.l5 r++W.l4 r q))))]++wnT W,
     [(1,.arr 3 1 (inR (W.l3 r q ch)).length),(0,.arr 22 1 (wnR (W.l5 r++W.l4 r q)).length)],2⟩) (fun ch=>ch≤W.c) (fun ch=>W.c-ch) 0
    (Wk.trans (Wk.own 22 1 3 1 rfl rfl (zL_ _)) Wk.go) (zL_ _) fun ch hc=> ?_
   conv=>whnf
   refine bs (fun g2=> ?_) (fun g2=> ?_)
   ·conv=>whnf
    have hc':ch<W.c:=by simpa using g2
    refine .mk Nat (fun i=>⟨[(134,vl (.int .i64 (i:Nat))),(133,vl (.int .i64 (W.kh:Nat))),(23,vl (.int .i64 (ch:Nat))),(130,vl (.int .i64 (ch:Nat))),(129,vl (.int .i64 (W.c:Nat))),(21,vl (.int .i64 (q:Nat))),(22,.a (.own 1 1 (inR (W.l3 r q ch++W.l2 r q ch i)))),(126,vl (.int .i64 (q:Nat))),(125,vl (.int .i64 (W.cols:Nat))),(20,vl (.int .i64 (r:Nat))),(122,vl (.int .i64 (r:Nat))),(121,vl (.int .i64 (W.rows:Nat))),(19,.a (.own 0 1 (wnR (W.l5 r++W.l4 r q))))]++wnT W,
      [(1,.arr 3 1 (inR (W.l3 r q ch++W.l2 r q ch i)).length),(0,.arr 22 1 (wnR (W.l5 r++W.l4 r q)).length)],2⟩) (fun i=>i≤W.kh) (fun i=>W.kh-i) 0
     (by rw[show W.l3 r q ch++W.l2 r q ch 0=W.l3 r q ch from List.append_nil _];exact Wk.go) (zL_ _) fun i hi=> ?_
    conv=>whnf
    refine bs (fun g3=> ?_) (fun g3=> ?_)
    ·conv=>whnf
     have hi':i<W.kh:=by simpa using g3
     refine .mk Nat (fun k=>⟨[(138,vl (.int .i64 (k:Nat))),(137,vl (.int .i64 (W.kw:Nat))),(24,vl (.int .i64 (i:Nat))),(134,vl (.int .i64 (i:Nat))),(133,vl (.int .i64 (W.kh:Nat))),(23,vl (.int .i64 (ch:Nat))),(130,vl (.int .i64 (ch:Nat))),(129,vl (.int .i64 (W.c:Nat))),(21,vl (.int .i64 (q:Nat))),(22,.a (.own 1 1 (inR (W.l3 r q ch++W.l2 r q ch i++W.l1 r q ch i k)))),(126,vl (.int .i64 (q:Nat))),(125,vl (.int .i64 (W.cols:Nat))),(20,vl (.int .i64 (r:Nat))),(122,vl (.int .i64 (r:Nat))),(121,vl (.int .i64 (W.rows:Nat))),(19,.a (.own 0 1 (wnR (W.l5 r++W.l4 r q))))]++wnT W,
       [(1,.arr 3 1 (inR (W.l3 r q ch++W.l2 r q ch i++W.l1 r q ch i k)).length),(0,.arr 22 1 (wnR (W.l5 r++W.l4 r q)).length)],2⟩) (fun k=>k≤W.kw) (fun k=>W.kw-k) 0
      (by rw[show W.l3 r q ch++W.l2 r q ch i++W.l1 r q ch i 0=W.l3 r q ch++W.l2 r q ch i from List.append_nil _];exact Wk.go) (zL_ _) fun k hk=> ?_
     conv=>whnf
     refine bs (fun g4=> ?_) (fun g4=> ?_)
     ·conv=>whnf
      have hk':k<W.kw:=by simpa using g4
      obtain⟨y,hy⟩:∃y:Int,y=(r*W.st+i:Nat)-(W.pad:Int):=⟨_,rfl⟩;obtain⟨x,hx⟩:∃x:Int,x=(q*W.st+k:Nat)-(W.pad:Int):=⟨_,rfl⟩;obtain⟨⟨y1,y2⟩,⟨x1,x2⟩,z1,z2,z3⟩:=wn_el ok hr' hq' hc' hi' hk' y x hy hx;have ey:IntKind.i64.wrap (IntKind.i64.wrap (IntKind.i64.wrap ((r:Int)*(W.st:Int))+(i:Int))-(W.pad:Int))=y:=by
       rw[←Int.natCast_mul,wr_yx (by omega) (by omega) (by omega),hy]
      have ex:IntKind.i64.wrap (IntKind.i64.wrap (IntKind.i64.wrap ((q:Int)*(W.st:Int))+(k:Int))-(W.pad:Int))=x:=by
       rw[←Int.natCast_mul,wr_yx (by omega) (by omega) (by omega),hx]
      have el:W.el r q ch i k=if 0≤y∧y<W.h∧0≤x∧x<W.w then(ch*W.h+y)*W.w+x else -1:=by rw[hy,hx];rfl
      have hlen:(W.l3 r q ch++W.l2 r q ch i++W.l1 r q ch i k++[W.el r q ch i k]).length≤100000:=by
       have q1:ch*(W.kh*W.kw)≤24*36:=Nat.mul_le_mul (by omega) (Nat.mul_le_mul k2 k4);have q2:i*W.kw≤6*6:=Nat.mul_le_mul (by omega) k4;simp only[List.length_append,Wn.l3_len,Wn.l2_len,Wn.l1_len,List.length_singleton];omega
      have nxt:W.l3 r q ch++W.l2 r q ch i++W.l1 r q ch i (k+1)=W.l3 r q ch++W.l2 r q ch i++W.l1 r q ch i k++[W.el r q ch i k]:=by
       rw[show W.l1 r q ch i (k+1)=W.l1 r q ch i k++[W.el r q ch i k]from range_map_snoc _ _,←List.append_assoc]
      rw[ey,ex];have app:∀z:Int,W.el r q ch i k=z→inR (W.l3 r q ch++W.l2 r q ch i++W.l1 r q ch i k++[W.el r q ch i k])=inR (W.l3 r q ch++W.l2 r q ch i++W.l1 r q ch i k)++[[D.lit (.int .i64 z)]]:=fun z h=>by rw[h,inR,List.map_append];rfl
      refine bs (fun t1=> ?_) (fun t1=> ?_)
      ·conv=>whnf
       refine bs (fun t2=> ?_) (fun t2=> ?_)
       ·conv=>whnf
        refine bs (fun t3=> ?_) (fun t3=> ?_)
        ·conv=>whnf
         refine bs (fun t4=> ?_) (fun t4=> ?_)
         ·conv=>whnf
          have a1:=of_decide_eq_true t1;have a2:=of_decide_eq_true t2;have a3:=of_decide_eq_true t3;have a4:=of_decide_eq_true t4;have el1:W.el r q ch i k=(ch*W.h+y)*W.w+x:=by rw[el,if_pos ⟨a1,a2,a3,a4⟩]
          obtain⟨yn,rfl⟩:∃n:Nat,y=n:=⟨y.toNat,by omega⟩;have z4:(ch*W.h+yn)*W.w≤2000*24:=Nat.mul_le_mul (by omega) (by omega);have e5:IntKind.i64.wrap (IntKind.i64.wrap (IntKind.i64.wrap (IntKind.i64.wrap ((ch:Int)*(W.h:Int))+(yn:Int))*(W.w:Int))+x)=W.el r q ch i k:=by
           have c1:IntKind.i64.wrap ((ch:Int)*(W.h:Int))=((ch*W.h:Nat):Int):=by rw[←Int.natCast_mul,wrN (by omega)]
           have c2:IntKind.i64.wrap (((ch*W.h:Nat):Int)+(yn:Int))=((ch*W.h+yn:Nat):Int):=by rw[←Int.natCast_add,wrN (by omega)]
           have c3:IntKind.i64.wrap (((ch*W.h+yn:Nat):Int)*(W.w:Int))=(((ch*W.h+yn)*W.w:Nat):Int):=by rw[←Int.natCast_mul];exact wrN (Nat.lt_of_le_of_lt z4 (by decide))
           have e6:(((ch:Int)*W.h+yn)*W.w+x:Int)=(((ch*W.h+yn)*W.w:Nat):Int)+x:=by simp
           rw[c1,c2,c3,el1,e6];generalize (ch*W.h+yn)*W.w=A at z4 ⊢;exact wr64 (by omega) (by omega)
          rw[e5];refine .mk _ rfl (app _ rfl) (by rw[inR,List.length_map];omega) ?_;conv=>whnf
          exact⟨k+1,by rw[nxt];exact Wk.go,hk',by omega⟩
         ·conv=>whnf
          have a4:=of_decide_eq_false t4;refine .mk _ rfl (app _ (by rw[el,if_neg (by omega)])) (by rw[inR,List.length_map];omega) ?_;conv=>whnf
          exact⟨k+1,by rw[nxt];exact Wk.go,hk',by omega⟩
        ·conv=>whnf
         have a3:=of_decide_eq_false t3;refine .mk _ rfl (app _ (by rw[el,if_neg (by omega)])) (by rw[inR,List.length_map];omega) ?_;conv=>whnf
         exact⟨k+1,by rw[nxt];exact Wk.go,hk',by omega⟩
       ·conv=>whnf
        have a2:=of_decide_eq_false t2;refine .mk _ rfl (app _ (by rw[el,if_neg (by omega)])) (by rw[inR,List.length_map];omega) ?_;conv=>whnf
        exact⟨k+1,by rw[nxt];exact Wk.go,hk',by omega⟩
      ·conv=>whnf
       have a1:=of_decide_eq_false t1;refine .mk _ rfl (app _ (by rw[el,if_neg (by omega)])) (by rw[inR,List.length_map];omega) ?_;conv=>whnf
       exact⟨k+1,by rw[nxt];exact Wk.go,hk',by omega⟩
     ·conv=>whnf
      have e:k=W.kw:=by simp at g4;omega
      subst e;exact⟨i+1,by rw[show W.l3 r q ch++W.l2 r q ch (i+1)=W.l3 r q ch++W.l2 r q ch i++W.l1 r q ch i W.kw by rw[show W.l2 r q ch (i+1)=W.l2 r q ch i++W.l1 r q ch i W.kw from range_fm_snoc _ _,←List.append_assoc]];exact Wk.go,hi',by omega⟩
    ·conv=>whnf
     have e:i=W.kh:=by simp at g3;omega
     subst e;exact⟨ch+1,by rw[show W.l3 r q (ch+1)=W.l3 r q ch++W.l2 r q ch W.kh from range_fm_snoc _ _];exact Wk.go,hc',by omega⟩
   ·conv=>whnf
    have e:ch=W.c:=by simp at g2;omega
    subst e;have nxt:W.l5 r++W.l4 r (q+1)=W.l5 r++W.l4 r q++[W.l3 r q W.c]:=by rw[show W.l4 r (q+1)=W.l4 r q++[W.l3 r q W.c]from range_map_snoc _ _,←List.append_assoc]
    have hlen:(W.l5 r++W.l4 r q++[W.l3 r q W.c]).length≤100000:=by
     have q1:r*W.cols≤30*30:=Nat.mul_le_mul (by omega) (by omega);simp only[List.length_append,Wn.l5_len,Wn.l4_len,List.length_singleton];omega
    refine .mk (wnR (W.l5 r++W.l4 r q++[W.l3 r q W.c])) rfl (by rw[wnR,List.map_append];rfl) (by rw[wnR,List.length_map];omega) ?_;conv=>whnf
    exact⟨q+1,by rw[nxt];exact Wk.go,hq',by omega⟩
  ·conv=>whnf
   have e:q=W.cols:=by simp at g1;omega
   subst e;exact⟨r+1,by rw[show W.l5 (r+1)=W.l5 r++W.l4 r W.cols from range_fm_snoc _ _];exact Wk.go,hr',by omega⟩
 ·conv=>whnf
  have e:r=W.rows:=by simp at g0;omega
  subst e;exact .s ⟨rfl,rfl⟩
structure Op (α:Type) where
 num:Rat→α
 add:α→α→α
 sc:α→Rat→α
structure Hm {α β:Type}(o:Op α)(p:Op β)(h:α→β):Prop where
 num:∀q,h (o.num q)=p.num q
 add:∀a b,h (o.add a b)=p.add (h a) (h b)
 sc:∀a q,h (o.sc a q)=p.sc (h a) q
def ratO:Op Rat:=⟨fun q=>q,fun a b=>a+b,fun a w=>w*a⟩
def afO:Op Af:=⟨numS,addS,scaleS⟩
section
variable {α β:Type} (o:Op α)
abbrev atO (x:List α)(k:Nat):α:=x.getD k (o.num 0)
def dotN (ws:List Rat)(off:Nat)(x:List α)(b:Rat):Nat→α
 |0=>o.num b
 |k+1=>o.add (dotN ws off x b k) (o.sc (atO o x k) (ws.getD (off+k) 0))
def denseG (ws bs:List Rat)(x:List α):List α:=(List.range bs.length).map fun r=>dotN o ws (r*x.length) x (bs.getD r 0) x.length
def cvN (ws:List Rat)(off:Nat)(w:List Int)(x:List α)(b:Rat):Nat→α
 |0=>o.num b
 |k+1=>if 0≤w.getD k 0 then o.add (cvN ws off w x b k) (o.sc (atO o x (w.getD k 0).toNat) (ws.getD (off+k) 0))else cvN ws off w x b k
def convG (W:List (List Int))(ws bs:List Rat)(x:List α):List α:=(List.range bs.length).flatMap fun c=>W.map fun w=>cvN o ws (c*w.length) w x (bs.getD c 0) w.length
def pick (x:List α)(n:Nat)(w:List Int)(ch:Nat):List α:=((w.take ((ch+1)*n)).drop (ch*n)).map fun i=>atO o x i.toNat
def picks (W:List (List Int))(c n:Nat)(x:List α):List (List α):=(List.range c).flatMap fun ch=>W.map fun w=>pick o x n w ch
def sumG (l:List α):α:=l.foldl o.add (o.num 0)
def meanG (l:List α):α:=o.sc (sumG o l) (1/(l.length:Rat))
def addG (x y:List α):List α:=(List.range x.length).map fun i=>o.add (atO o x i) (atO o y i)
end
section
variable {α β:Type} {o:Op α} {p:Op β} {h:α→β}
theorem Hm.at (H:Hm o p h)(x:List α)(k:Nat):h (atO o x k)=atO p (x.map h) k:=by
 unfold atO;rw[List.getD_eq_getElem?_getD,List.getD_eq_getElem?_getD,List.getElem?_map]
 cases x[k]? with
 |none=>exact H.num 0
 |some y=>rfl
theorem Hm.dotN (H:Hm o p h)(ws:List Rat)(off:Nat)(x:List α)(b:Rat):∀k,h (Lf.dotN o ws off x b k)=Lf.dotN p ws off (x.map h) b k
 |0=>H.num b
 |k+1=>by simp only[Lf.dotN,H.add,H.sc,H.at,H.dotN ws off x b k]
theorem Hm.cvN (H:Hm o p h)(ws:List Rat)(off:Nat)(w:List Int)(x:List α)(b:Rat):∀k,h (Lf.cvN o ws off w x b k)=Lf.cvN p ws off w (x.map h) b k
 |0=>H.num b
 |k+1=>by
  simp only[Lf.cvN];split
  ·simp only[H.add,H.sc,H.at,H.cvN ws off w x b k]
  ·exact H.cvN ws off w x b k
theorem Hm.dense (H:Hm o p h)(ws bs:List Rat)(x:List α):(denseG o ws bs x).map h=denseG p ws bs (x.map h):=by
 simp only[denseG,List.map_map,List.length_map];exact List.map_congr_left fun r _=>H.dotN ..
theorem Hm.conv (H:Hm o p h)(W:List (List Int))(ws bs:List Rat)(x:List α):(convG o W ws bs x).map h=convG p W ws bs (x.map h):=by
 simp only[convG,List.map_flatMap,List.map_map]
 congr 1;funext c
 exact List.map_congr_left fun w _=>H.cvN ..
theorem Hm.pick (H:Hm o p h)(x:List α)(n:Nat)(w:List Int)(ch:Nat):(Lf.pick o x n w ch).map h=Lf.pick p (x.map h) n w ch:=by
 simp only[Lf.pick,List.map_map];exact List.map_congr_left fun i _=>H.at ..
theorem Hm.picks (H:Hm o p h)(W:List (List Int))(c n:Nat)(x:List α):(Lf.picks o W c n x).map (List.map h)=Lf.picks p W c n (x.map h):=by
 simp only[Lf.picks,List.map_flatMap,List.map_map]
 congr 1;funext c
 exact List.map_congr_left fun w _=>H.pick ..
theorem Hm.fold (H:Hm o p h):∀(l:List α) (a:α),h (l.foldl o.add a)=(l.map h).foldl p.add (h a)
 |[],_=>rfl
 |x::l,a=>by rw[List.foldl_cons,H.fold l,H.add];rfl
theorem Hm.mean (H:Hm o p h)(l:List α):h (meanG o l)=meanG p (l.map h):=by
 simp only[meanG,sumG,H.sc,H.fold,H.num,List.length_map]
theorem Hm.addl (H:Hm o p h)(x y:List α):(addG o x y).map h=addG p (x.map h) (y.map h):=by
 simp only[addG,List.map_map,List.length_map];exact List.map_congr_left fun i _=>by simp only[Function.comp,H.add,H.at]
end
theorem hmPh (ξ:Int→Rat):Hm afO ratO (ph 1 ξ):=⟨fun q=>by rw[show afO.num q=numS q from rfl,ph_num];show 1*q=q;grind,fun a b=>ph_add,fun a q=>by rw[show afO.sc a q=scaleS a q from rfl,ph_scale];show _=q*_;grind⟩
def Lw (L e m:Nat)(q:Rat):Prop:=∃z:Int,q*((L^e:Nat):Rat)=(z:Rat)∧z.natAbs≤m*2^(30000*e)
section
variable {L e m n:Nat} {a b:Rat}
theorem Lv.w (k:Lv L e a):Lw L e 1 a:=by obtain⟨z,h1,h2⟩:=k;exact⟨z,h1,by rw[Nat.one_mul];exact h2⟩
theorem Lw.mono (k:Lw L e m a)(h:m≤n):Lw L e n a:=by obtain⟨z,h1,h2⟩:=k;exact⟨z,h1,tL_ h2 (Nat.mul_le_mul_right _ h)⟩
theorem Lw.add (k:Lw L e m a)(k':Lw L e n b):Lw L e (m+n) (a+b):=by
 obtain⟨z,h1,h2⟩:=k;obtain⟨y,h3,h4⟩:=k';refine⟨z+y,by rw[Rat.intCast_add,←h1,←h3];grind,?_⟩;rw[Nat.add_mul];exact tL_ (Int.natAbs_add_le _ _) (Nat.add_le_add h2 h4)
theorem le_w {m:Nat}(h:m≤1000000):m≤2^100:=tL_ h (tL_ (by decide:1000000≤2^20) (Nat.pow_le_pow_right (by decide) (by decide)))
theorem Lw.up (h:LOk L)(k:Lw L e m a)(hm:m≤1000000):Lv L (e+1) a:=let ⟨_,h1,h2⟩:=k;Lv.up1 h h1 h2 (le_w hm)
theorem Lv.at {x:List Rat}(h:∀v∈x,Lv L e v)(k:Nat):Lv L e (x.getD k 0):=by
 rw[List.getD_eq_getElem?_getD]
 cases hk:x[k]? with
 |none=>exact Lv.zero
 |some v=>exact h v (mG_ hk)
end
structure Pt (p:Op Rat):Prop where
 num:∀q,p.num q=q∨p.num q=0
 z:p.num 0=0
 add:∀a b,p.add a b=a+b
 sc:∀a w,p.sc a w=w*a
theorem pt_rat:Pt ratO:=⟨fun _=> .inl rfl,rfl,fun _ _=>rfl,fun _ _=>rfl⟩
def zO:Op Rat:=⟨fun _=>0,fun a b=>a+b,fun a w=>w*a⟩
theorem pt_z:Pt zO:=⟨fun _=> .inr rfl,rfl,fun _ _=>rfl,fun _ _=>rfl⟩
theorem hmCof (w:Int):Hm afO zO (fun f=>cof f.ts w):=⟨fun q=>rfl,fun a b=>by rw[show afO.add a b=addS a b from rfl,addS,cof_fold];rfl,fun a q=>by rw[show afO.sc a q=scaleS a q from rfl,scaleS,cof_scale];show _=q*_;grind⟩
theorem hmC:Hm afO ratO (fun f=>f.c):=⟨fun q=>rfl,fun a b=>rfl,fun a q=>by show a.c*q=q*a.c;grind⟩
section
variable {L e:Nat} {p:Op Rat}
theorem Pt.lv (P:Pt p){b:Rat}(h:Lv L e b):Lv L e (p.num b):=by
 rcases P.num b with k|k<;>rw[k]
 ·exact h
 ·exact Lv.zero
theorem Pt.at (P:Pt p){x:List Rat}(h:∀v∈x,Lv L e v)(k:Nat):Lv L e (atO p x k):=by unfold atO;rw[P.z];exact Lv.at h k
theorem Pt.dotN (P:Pt p)(hL:LOk L){ws x:List Rat}{b:Rat}(off:Nat)(hw:∀q∈ws,Lv L 1 q)(hx:∀v∈x,Lv L e v)(hb:Lv L 1 b):∀k,Lw L (e+1) (k+1) (Lf.dotN p ws off x b k)
 |0=>by rw[Lf.dotN];exact((P.lv hb).mono hL (by omega)).w
 |k+1=>by
  rw[Lf.dotN,P.add,P.sc];have h2:=(Lv.at hw (off+k)).mul (P.at hx k);rw[Nat.add_comm 1 e]at h2;exact(P.dotN hL off hw hx hb k).add h2.w
theorem Pt.cvN (P:Pt p)(hL:LOk L){ws x:List Rat}{b:Rat}(off:Nat)(w:List Int)(hw:∀q∈ws,Lv L 1 q)(hx:∀v∈x,Lv L e v)(hb:Lv L 1 b):∀k,Lw L (e+1) (k+1) (Lf.cvN p ws off w x b k)
 |0=>by rw[Lf.cvN];exact((P.lv hb).mono hL (by omega)).w
 |k+1=>by
  rw[Lf.cvN];split
  ·rw[P.add,P.sc];have h2:=(Lv.at hw (off+k)).mul (P.at hx (w.getD k 0).toNat);rw[Nat.add_comm 1 e]at h2;exact(P.cvN hL off w hw hx hb k).add h2.w
  ·exact(P.cvN hL off w hw hx hb k).mono (by omega)
theorem Pt.sum (P:Pt p):∀{x:List Rat} (hx:∀v∈x,Lv L e v) {a:Rat} {m:Nat} (ha:Lw L e m a),Lw L e (m+x.length) (x.foldl p.add a)
 |[],_,a,m,ha=>ha
 |v::x,hx,a,m,ha=>by
  rw[List.foldl_cons,List.length_cons,P.add];have:=P.sum (x:=x) (fun y hy=>hx y (List.mem_cons_of_mem _ hy)) (ha.add (hx v List.mem_cons_self).w)
  rwa [show m+1+x.length=m+(x.length+1) by omega]at this
theorem Pt.sum0 (P:Pt p){x:List Rat}(hx:∀v∈x,Lv L e v):Lw L e (x.length+1) (sumG p x):=by
 have:=P.sum hx (a:=p.num 0) (m:=1) (by rw[P.z];exact Lv.zero.w)
 rwa [Nat.add_comm]at this
theorem Pt.mean (P:Pt p)(hL:LOk L){x:List Rat}(hx:∀v∈x,Lv L e v)(hn:x.length≤1000)(hq:Lv L 1 (1/(x.length:Rat))):Lv L (e+2) (meanG p x):=by
 have h1:=(P.sum0 hx).up hL (by omega);rw[meanG,P.sc];have h2:=hq.mul h1
 rwa [show 1+(e+1)=e+2 by omega]at h2
end
inductive Lay where
 |dense (ws bs:List Rat)
 |conv (kh kw st pad:Nat) (ws bs:List Rat)
 |mx (kh kw st:Nat)
 |av (kh kw st:Nat)
 |relu
 |flat
 |add (fr:Int)
def maxQ (a b:Rat):Rat:=if b≤a then a else b
def maxL (l:List Rat):Rat:=l.tail.foldl maxQ (l.headD 0)
def winS (s:List Nat)(kh kw st pad:Nat):Wn:=⟨s.getD 0 0,s.getD 1 0,s.getD 2 0,kh,kw,st,pad⟩
def outS (l:Lay)(s:List Nat):List Nat:=match l with
 | .dense _ bs=>[bs.length]
 | .conv kh kw st pad _ bs=>[bs.length,(winS s kh kw st pad).rows,(winS s kh kw st pad).cols]
 | .mx kh kw st=>[s.getD 0 0,(winS s kh kw st 0).rows,(winS s kh kw st 0).cols]
 | .av kh kw st=>[s.getD 0 0,(winS s kh kw st 0).rows,(winS s kh kw st 0).cols]
 | .relu=>s
 | .flat=>[szS s]
 | .add _=>s
def eLay (l:Lay)(s:List Nat)(all:List (List Rat))(x:List Rat):List Rat:=match l with
 | .dense ws bs=>denseG ratO ws bs x
 | .conv kh kw st pad ws bs=>convG ratO (winS s kh kw st pad).all ws bs x
 | .mx kh kw st=>(picks ratO (winS s kh kw st 0).all (s.getD 0 0) (kh*kw) x).map maxL
 | .av kh kw st=>(picks ratO (winS s kh kw st 0).all (s.getD 0 0) (kh*kw) x).map (meanG ratO)
 | .relu=>x.map fun q=>maxQ q 0
 | .flat=>x
 | .add fr=>addG ratO x (all.getD (fr+1).toNat [])
def unS (l:Lay)(s:List Nat):Nat:=match l with
 | .mx kh kw st=>(kh*kw-1)*szS (outS l s)
 | .relu=>szS s
 |_=>0
structure ShOk (s:List Nat):Prop where
 l1:1≤s.length
 l4:s.length≤4
 pos:∀d∈s,1≤d
 sz:szS s≤24
def Fit (l:Lay)(i:Nat)(ss:List (List Nat))(s:List Nat):Prop:=match l with
 | .dense ws bs=>1≤bs.length∧ws.length=bs.length*szS s
 | .conv kh kw st pad ws bs=>(winS s kh kw st pad).Ok∧s.length=3∧1≤bs.length∧ws.length=bs.length*(s.getD 0 0*(kh*kw))
 | .mx kh kw st=>(winS s kh kw st 0).Ok∧s.length=3
 | .av kh kw st=>(winS s kh kw st 0).Ok∧s.length=3
 | .relu=>True
 | .flat=>True
 | .add fr=> -1≤fr∧fr<i∧ss.getD (fr+1).toNat []=s
def parS (l:Lay):List Rat:=match l with
 | .dense ws bs=>ws++bs
 | .conv _ _ _ _ ws bs=>ws++bs
 |_=>[]
structure Mo where
 inp:List Nat
 ls:List Lay
def Mo.lay (m:Mo)(i:Nat):Lay:=m.ls.getD i .flat
def Mo.sh (m:Mo):Nat→List Nat
 |0=>m.inp
 |i+1=>outS (m.lay i) (m.sh i)
def Mo.shs (m:Mo)(n:Nat):List (List Nat):=(List.range n).map m.sh
def Mo.un (m:Mo):Nat→Nat
 |0=>0
 |i+1=>m.un i+unS (m.lay i) (m.sh i)
def Mo.al (m:Mo)(x:List Rat):Nat→List (List Rat)
 |0=>[x]
 |i+1=>m.al x i++[eLay (m.lay i) (m.sh i) (m.al x i) ((m.al x i).getD i [])]
def Mo.out (m:Mo)(x:List Rat):List Rat:=(m.al x m.ls.length).getD m.ls.length []
structure MoOk (m:Mo):Prop where
 n:m.ls.length≤6
 sh:∀i,i≤m.ls.length→ShOk (m.sh i)
 fit:∀i,i<m.ls.length→Fit (m.lay i) i (m.shs (i+1)) (m.sh i)
 par:∀l∈m.ls,∀q∈parS l,q.num.natAbs≤4294967296∧q.den≤4294967296
 pn:∀l∈m.ls,(parS l).length≤104
 un:m.un m.ls.length≤20
theorem szS1 (a:Nat):szS [a]=a:=by simp[szS]
theorem szS3 (a b c:Nat):szS [a,b,c]=a*b*c:=by simp[szS]
theorem len3 {s:List Nat}(h:s.length=3):s=[s.getD 0 0,s.getD 1 0,s.getD 2 0]:=by
 match s,h with
 |[a,b,c],_=>rfl
theorem Wn.all_ln (W:Wn):W.all.length=W.rows*W.cols:=Wn.l5_len
section
variable {α:Type} {o:Op α}
theorem conv_ln (W:List (List Int))(ws bs:List Rat)(x:List α):(convG o W ws bs x).length=bs.length*W.length:=fm_len (fun i=>List.length_map ..) _
theorem picks_ln (W:List (List Int))(c n:Nat)(x:List α):(picks o W c n x).length=c*W.length:=fm_len (fun i=>List.length_map ..) _
theorem pick_ln {x:List α}{n ch c:Nat}{w:List Int}(hw:w.length=c*n)(hc:ch<c):(pick o x n w ch).length=n:=by
 have h1:(ch+1)*n≤c*n:=Nat.mul_le_mul_right _ hc;simp only[pick,List.length_map,List.length_drop,List.length_take,hw,Nat.min_eq_left h1];rw[Nat.add_mul];omega
theorem picks_mem {W:List (List Int)}{c n:Nat}{x l:List α}(h:l∈picks o W c n x):∃ch w,ch<c∧w∈W∧l=pick o x n w ch:=by
 unfold picks at h;obtain⟨ch,h1,h⟩:=List.mem_flatMap.1 h;obtain⟨w,h2,rfl⟩:=List.mem_map.1 h;exact⟨ch,w,List.mem_range.1 h1,h2,rfl⟩
end
theorem out_ln (l:Lay)(s:List Nat)(i:Nat)(ss:List (List Nat))(all:List (List Rat))(x:List Rat)(hx:x.length=szS s)(hf:Fit l i ss s):(eLay l s all x).length=szS (outS l s):=by
 cases l with
 |dense ws bs=>simp only[eLay,outS,szS1,denseG,List.length_map,List.length_range]
 |conv kh kw st pad ws bs=>simp only[eLay,outS,szS3,conv_ln,Wn.all_ln,Nat.mul_assoc]
 |mx kh kw st=>simp only[eLay,outS,szS3,List.length_map,picks_ln,Wn.all_ln,Nat.mul_assoc]
 |av kh kw st=>simp only[eLay,outS,szS3,List.length_map,picks_ln,Wn.all_ln,Nat.mul_assoc]
 |relu=>simp only[eLay,outS,List.length_map,hx]
 |flat=>simp only[eLay,outS,szS1,hx]
 |add fr=>simp only[eLay,outS,addG,List.length_map,List.length_range,hx]
structure LvO (L:Nat)(l:Lay):Prop where
 ok:LOk L
 par:∀q∈parS l,Lv L 1 q
 inv:∀n:Nat,n≤36→Lv L 1 (1/(n:Rat))
theorem maxL_mem:∀{l:List Rat},l≠[]→maxL l∈l
 |[],h=>absurd rfl h
 |a::l,_=>by
  have:∀(l:List Rat) (a:Rat),l.foldl maxQ a∈a::l:=by
   intro l
   induction l with
   |nil=>intro a;simp
   |cons b l ih=>
    intro a;rw[List.foldl_cons];rcases List.mem_cons.1 (ih (maxQ a b))with h|h
    ·rw[h];unfold maxQ;split<;>simp
    ·simp[h]
  exact this l a
theorem pick_lv {L e:Nat}{p:Op Rat}(P:Pt p){x:List Rat}(hx:∀v∈x,Lv L e v){n ch:Nat}{w:List Int}:∀v∈pick p x n w ch,Lv L e v:=fun v hv=>by
 obtain⟨i,_,rfl⟩:=List.mem_map.1 hv;exact P.at hx _
theorem khw {kh kw:Nat}(h1:kh≤6)(h2:kw≤6):kh*kw≤36:=Nat.mul_le_mul h1 h2
theorem Wn.Ok.n {W:Wn}(h:W.Ok):1≤W.kh*W.kw∧W.kh*W.kw≤36:=⟨Nat.mul_pos h.kh.1 h.kw.1,khw h.kh.2 h.kw.2⟩
theorem Wn.Ok.cn {W:Wn}(h:W.Ok):W.c*(W.kh*W.kw)≤864:=by
 have h1:=h.n.2;have h2:W.c≤24:=tL_ (tL_ (Nat.le_mul_of_pos_right _ h.h) (Nat.le_mul_of_pos_right _ h.w)) h.sz;exact Nat.mul_le_mul h2 h1
theorem ev_lv {L e:Nat}{l:Lay}{s:List Nat}{i:Nat}{ss:List (List Nat)}{all:List (List Rat)}{x:List Rat}(hl:LvO L l)(hs:szS s≤24)(hx:∀v∈x,Lv L e v)(hln:x.length=szS s)(ha:∀y∈all,∀v∈y,Lv L e v)(hf:Fit l i ss s):∀v∈eLay l s all x,Lv L (e+2) v:=by
 have hL:=hl.ok;have up:∀{v},Lv L e v→Lv L (e+2) v:=fun h=>h.mono hL (by omega);intro v hv
 cases l with
 |dense ws bs=>
  obtain⟨r,_,rfl⟩:=List.mem_map.1 hv;exact(pt_rat.dotN hL _ (fun q hq=>hl.par q (List.mem_append_left _ hq)) hx (Lv.at (fun q hq=>hl.par q (List.mem_append_right _ hq)) r) x.length).up hL (by omega)
 |conv kh kw st pad ws bs=>
  obtain⟨c,_,hv⟩:=List.mem_flatMap.1 hv;obtain⟨w,hw,rfl⟩:=List.mem_map.1 hv;have h1:=Wn.all_len hw;have h2:=hf.1.cn;exact(pt_rat.cvN hL _ w (fun q hq=>hl.par q (List.mem_append_left _ hq)) hx (Lv.at (fun q hq=>hl.par q (List.mem_append_right _ hq)) c) w.length).up hL (by omega)
 |mx kh kw st=>
  obtain⟨y,hy,rfl⟩:=List.mem_map.1 hv;obtain⟨ch,w,h1,h2,rfl⟩:=picks_mem hy;have h3:(pick ratO x (kh*kw) w ch).length=kh*kw:=pick_ln (Wn.all_len h2) h1;exact up (pick_lv pt_rat hx _ (maxL_mem fun h=>by rw[h]at h3;have h4:1≤kh*kw:=hf.1.n.1;rw[←h3]at h4;cases h4))
 |av kh kw st=>
  obtain⟨y,hy,rfl⟩:=List.mem_map.1 hv;obtain⟨ch,w,h1,h2,rfl⟩:=picks_mem hy;have h3:(pick ratO x (kh*kw) w ch).length=kh*kw:=pick_ln (Wn.all_len h2) h1;have h4:kh*kw≤36:=hf.1.n.2;exact pt_rat.mean hL (pick_lv pt_rat hx) (by rw[h3];omega) (by rw[h3];exact hl.inv _ h4)
 |relu=>
  obtain⟨q,hq,rfl⟩:=List.mem_map.1 hv;exact up ((hx q hq).max Lv.zero)
 |flat=>exact up (hx v hv)
 |add fr=>
  obtain⟨j,_,rfl⟩:=List.mem_map.1 hv;have:∀v∈all.getD (fr+1).toNat [],Lv L e v:=by
   rw[List.getD_eq_getElem?_getD]
   cases hk:all[(fr+1).toNat]? with
   |none=>intro v hv;cases hv
   |some y=>exact ha y (mG_ hk)
  exact((Lv.at hx j).add hL (Lv.at this j)).mono hL (by omega)
def fac:Nat→Nat
 |0=>1
 |n+1=>(n+1)*fac n
theorem fac_dvd:∀{n k:Nat},1≤k→k≤n→k∣fac n
 |0,k,h1,h2=>by omega
 |n+1,k,h1,h2=>by
  rw[fac];rcases Nat.lt_or_ge k (n+1)with h|h
  ·exact Nat.dvd_mul_left_of_dvd (fac_dvd h1 (by omega)) _
  ·rw[show k=n+1 by omega];exact Nat.dvd_mul_right _ _
def prodD:List Rat→Nat
 |[]=>1
 |q::l=>q.den*prodD l
theorem prodD_pos:∀l,0<prodD l
 |[]=>Nat.one_pos
 |q::l=>Nat.mul_pos q.den_pos (prodD_pos l)
theorem prodD_dvd {q:Rat}:∀{l},q∈l→q.den∣prodD l
 |[],h=>by cases h
 |p::l,h=>by
  rw[prodD];rcases List.mem_cons.1 h with rfl|h
  ·exact Nat.dvd_mul_right _ _
  ·exact Nat.dvd_mul_left_of_dvd (prodD_dvd h) _
theorem prodD_le:∀{l:List Rat},(∀q∈l,q.den≤4294967296)→prodD l≤2^(32*l.length)
 |[],_=>lR_ _
 |q::l,h=>by
  rw[prodD,List.length_cons,Nat.mul_succ,Nat.pow_add,Nat.mul_comm];exact Nat.mul_le_mul (prodD_le fun p hp=>h p (List.mem_cons_of_mem _ hp)) (h q List.mem_cons_self)
def Mo.L (m:Mo):Nat:=fac 36*prodD (m.ls.flatMap parS)
theorem fm_le {α β:Type}{f:α→List β}{k:Nat}:∀{l:List α},(∀a∈l,(f a).length≤k)→(l.flatMap f).length≤l.length*k
 |[],_=>by simp
 |a::l,h=>by
  rw[List.flatMap_cons,List.length_append,List.length_cons,Nat.succ_mul];have:=fm_le (l:=l) fun b hb=>h b (List.mem_cons_of_mem _ hb);have:=h a List.mem_cons_self;omega
theorem MoOk.L {m:Mo}(h:MoOk m):LOk m.L:=by
 refine⟨Nat.mul_pos (by decide) (prodD_pos _),160+32*(m.ls.flatMap parS).length,?_,?_⟩
 ·have h1:=fm_le (f:=parS) (l:=m.ls) h.pn;have h2:=h.n;omega
 ·rw[Nat.pow_add];refine Nat.mul_le_mul (by decide) (prodD_le fun q hq=> ?_);obtain⟨l,hl,hq⟩:=List.mem_flatMap.1 hq;exact(h.par l hl q hq).2
theorem MoOk.lv {m:Mo}(h:MoOk m){i:Nat}(hi:i<m.ls.length):LvO m.L (m.lay i):=by
 have e:m.lay i∈m.ls:=by
  rw[Mo.lay,List.getD_eq_getElem?_getD,List.getElem?_eq_getElem hi];exact List.getElem_mem hi
 refine⟨h.L,fun q hq=>Lv.of h.L (Nat.dvd_mul_left_of_dvd (prodD_dvd (List.mem_flatMap.2 ⟨_,e,hq⟩)) _) (tL_ (h.par _ e q hq).1 (tL_ (by decide:4294967296≤2^32) (Nat.pow_le_pow_right (by decide) (by decide)))) rfl,fun n hn=> ?_⟩;rcases eP_ n with h0|h0
 ·rw[h0];rw[show(1:Rat)/((0:Nat):Rat)=0 by rw[Rat.div_def,show((0:Nat):Rat)=0 from rfl,Rat.inv_zero,Rat.mul_zero]];exact Lv.zero
 ·have e1:(1:Rat)/(n:Rat)=mkRat 1 n:=by rw[Rat.mkRat_eq_div];rfl
  rw[e1];refine Lv.of h.L (Nat.dvd_mul_right_of_dvd ?_ _) ?_ rfl
  ·rw[Rat.den_mkRat,if_neg (by omega)];exact Nat.dvd_trans (Nat.div_dvd_of_dvd (Nat.gcd_dvd_left _ _)) (fac_dvd h0 hn)
  ·rw[Rat.num_mkRat,if_neg (by omega)];rw[show Nat.gcd n (1:Int).natAbs=1 from Nat.gcd_one_right n];exact tL_ (by decide:((1:Int)/((1:Nat):Int)).natAbs≤1) Nat.one_le_two_pow
def Sat (n:Nat)(us:List Af)(ξ:Int→Rat):Prop:=∀(j:Nat) (f:Af),us[j]? =some f→ξ ((n+j:Nat):Int)=maxQ (ph 1 ξ f) 0
def UsOk (L e n:Nat)(us:List Af):Prop:=∀(j:Nat) (f:Af),us[j]? =some f→FLv L e e ((n+j:Nat):Int) f
def z0:Af:=⟨[],0⟩
def mxF (n:Nat):Nat→List Af→List Af→List Af×Af
 |0,us,l=>(us,l.headD z0)
 |k+1,us,l=>
  if l.length=1 then(us,l.headD z0)
  else
   ((mxF n k (mxF n k us (l.take ((l.length+1)/2))).1 (l.drop ((l.length+1)/2))).1++[subS (mxF n k (mxF n k us (l.take ((l.length+1)/2))).1 (l.drop ((l.length+1)/2))).2 (mxF n k us (l.take ((l.length+1)/2))).2],
     addS (mxF n k us (l.take ((l.length+1)/2))).2 (varS ((n+(mxF n k (mxF n k us (l.take ((l.length+1)/2))).1 (l.drop ((l.length+1)/2))).1.length:Nat):Int)))
def mxs (n:Nat):List Af→List (List Af)→List Af×List Af
 |us,[]=>(us,[])
 |us,l::r=>((mxs n (mxF n l.length us l).1 r).1,(mxF n l.length us l).2::(mxs n (mxF n l.length us l).1 r).2)
def lowL (l:Lay)(s:List Nat)(n:Nat)(us:List Af)(all:List (List Af))(x:List Af):List Af×List Af:=match l with
 | .dense ws bs=>(us,denseG afO ws bs x)
 | .conv kh kw st pad ws bs=>(us,convG afO (winS s kh kw st pad).all ws bs x)
 | .mx kh kw st=>mxs n us (picks afO (winS s kh kw st 0).all (s.getD 0 0) (kh*kw) x)
 | .av kh kw st=>(us,(picks afO (winS s kh kw st 0).all (s.getD 0 0) (kh*kw) x).map (meanG afO))
 | .relu=>(us++x,(List.range x.length).map fun j=>varS ((n+(us.length+j):Nat):Int))
 | .flat=>(us,x)
 | .add fr=>(us,addG afO x (all.getD (fr+1).toNat []))
theorem Sat.pre {n:Nat}{us ex:List Af}{ξ:Int→Rat}(h:Sat n (us++ex) ξ):Sat n us ξ:=fun j f hj=>h j f (by rw[List.getElem?_append_left (List.getElem?_eq_some_iff.1 hj).1];exact hj)
theorem UsOk.snoc {L e n:Nat}{us:List Af}{f:Af}(h:UsOk L e n us)(hf:FLv L e e ((n+us.length:Nat):Int) f):UsOk L e n (us++[f]):=fun j g hj=>by
 rcases Nat.lt_trichotomy j us.length with h1|h1|h1
 ·rw[List.getElem?_append_left h1]at hj;exact h j g hj
 ·subst h1;simp at hj;subst hj;exact hf
 ·rw[List.getElem?_eq_none (by simp;omega)]at hj;cases hj
theorem FLv.up {L e e':Nat}{n n':Nat}{f:Af}(hL:LOk L)(h:FLv L e e (n:Int) f)(he:e≤e')(hn:n≤n'):FLv L e' e' (n':Int) f:=h.mono hL he he (Int.ofNat_le.2 hn)
theorem maxQ_assoc (a b c:Rat):maxQ (maxQ a b) c=maxQ a (maxQ b c):=by unfold maxQ;grind
theorem maxL_app:∀{l r:List Rat},l≠[]→r≠[]→maxL (l++r)=maxQ (maxL l) (maxL r)
 |[],_,h,_=>absurd rfl h
 |_::_,[],_,h=>absurd rfl h
 |a::l,b::r,_,_=>by
  have key:∀(r:List Rat) (a b:Rat),r.foldl maxQ (maxQ a b)=maxQ a (r.foldl maxQ b):=by
   intro r
   induction r with
   |nil=>intros;rfl
   |cons c r ih=>intro a b;rw[List.foldl_cons,maxQ_assoc,ih];rfl
  show(l++b::r).foldl maxQ a=maxQ (l.foldl maxQ a) (r.foldl maxQ b);rw[List.foldl_append,List.foldl_cons,key]
theorem maxQ_un (a b:Rat):maxQ a b=a+maxQ (b-a) 0:=by unfold maxQ;grind
structure MxR (L e E n:Nat)(us l:List Af)(r:List Af×Af):Prop where
 ex:∃ex,r.1=us++ex∧ex.length=l.length-1
 us:UsOk L E n r.1
 f:FLv L (e+l.length) (e+l.length) ((n+r.1.length:Nat):Int) r.2
 v:∀ξ,Sat n r.1 ξ→ph 1 ξ r.2=maxL (l.map (ph 1 ξ))
theorem mxF_ok {L E n:Nat}(hL:LOk L):∀(k:Nat) (e:Nat) (us l:List Af),1≤e→e+l.length≤E→1≤l.length→l.length≤k+1→UsOk L E n us→(∀f∈l,FLv L e e ((n+us.length:Nat):Int) f)→MxR L e E n us l (mxF n k us l):=by
 have one:∀(e:Nat) (us l:List Af),l.length=1→UsOk L E n us→(∀f∈l,FLv L e e ((n+us.length:Nat):Int) f)→MxR L e E n us l (us,l.headD z0):=by
  intro e us l h1 hu hl
  match l,h1 with
  |[f],_=>exact⟨⟨[],by simp,rfl⟩,hu,(hl f (by simp)).up hL (by omega) (lR_ _),fun ξ _=>rfl⟩
 intro k
 induction k with
 |zero=>intro e us l _ _ h1 h2 hu hl;exact one e us l (by omega) hu hl
 |succ k ih=>
  intro e us l he hE h1 h2 hu hl;rw[mxF];split
  ·rename_i h3;exact one e us l h3 hu hl
  ·rename_i h3;generalize hm:(l.length+1)/2=m;have m1:1≤m∧m+1≤l.length∧m≤k+1∧l.length-m≤k+1:=by omega
   have t1:(l.take m).length=m:=by rw[List.length_take];omega
   have t2:(l.drop m).length=l.length-m:=List.length_drop;obtain⟨⟨ea,e1,e2⟩,ua,fa,va⟩:=ih e us (l.take m) he (by omega) (by omega) (by omega) hu fun f hf=>hl f (List.mem_of_mem_take hf);generalize mxF n k us (l.take m)=A at *
   obtain⟨uA,gA⟩:=A;simp only at e1 ua fa va ⊢;have lA:uA.length=us.length+(m-1):=by rw[e1,List.length_append,e2,t1]
   obtain⟨⟨eb,e3,e4⟩,ub,fb,vb⟩:=ih e uA (l.drop m) he (by omega) (by omega) (by omega) ua fun f hf=>(hl f (List.mem_of_mem_drop hf)).up hL (lR_ _) (by omega);generalize mxF n k uA (l.drop m)=B at *
   obtain⟨uB,gB⟩:=B;simp only at e3 ub fb vb ⊢;have lB:uB.length=uA.length+(l.length-m-1):=by rw[e3,List.length_append,e4,t2]
   rw[t1]at fa;rw[t2]at fb
   have fs:FLv L (e+l.length) (e+l.length) ((n+uB.length:Nat):Int) (subS gB gA):=
    ((fb.up (e':=e+(l.length-1)) hL (by omega) (lR_ _)).sub hL (fa.up (e':=e+(l.length-1)) hL (by omega) (by omega))).up hL (by omega) (lR_ _)
   refine⟨⟨ea++eb++[subS gB gA],by rw[e3,e1];simp,by simp[e2,e4,t1,t2];omega⟩,ub.snoc (fs.up hL hE (lR_ _)),?_,fun ξ hξ=> ?_⟩
   ·rw[List.length_append];have f1:=fa.up (e':=e+(l.length-1)) (n':=n+(uB.length+1)) hL (by omega) (by omega);have f2:FLv L (e+(l.length-1)) (e+(l.length-1)) ((n+(uB.length+1):Nat):Int) (varS ((n+uB.length:Nat):Int)):=FLv.var hL (Int.natCast_nonneg _) (Int.ofNat_lt.2 (by omega)) (by omega);exact(f1.add hL f2).up hL (by omega) (lR_ _)
   ·have s1:Sat n uB ξ:=hξ.pre;have s2:Sat n uA ξ:=Sat.pre (by rw[←e3];exact s1);have hx:=hξ uB.length (subS gB gA) (by simp);rw[ph_add,ph_var,hx,ph_sub,va ξ s2,vb ξ s1,←maxQ_un,←maxL_app,←List.map_append,List.take_append_drop]
    ·intro h;rw[List.map_eq_nil_iff]at h;rw[h]at t1;simp at t1;omega
    ·intro h;rw[List.map_eq_nil_iff]at h;rw[h]at t2;simp at t2;omega
structure MsR (L e E n:Nat)(us:List Af)(ls:List (List Af))(r:List Af×List Af):Prop where
 ex:∃ex,r.1=us++ex
 len:r.1.length=us.length+(ls.map fun l=>l.length-1).sum
 us:UsOk L E n r.1
 ln:r.2.length=ls.length
 f:∀f∈r.2,FLv L e e ((n+r.1.length:Nat):Int) f
 v:∀ξ,Sat n r.1 ξ→r.2.map (ph 1 ξ)=ls.map fun l=>maxL (l.map (ph 1 ξ))
theorem mxs_ok {L e K E n:Nat}(hL:LOk L)(he:1≤e)(hE:e+K≤E):∀(ls:List (List Af)) (us:List Af),(∀l∈ls,1≤l.length∧l.length≤K)→UsOk L E n us→(∀l∈ls,∀f∈l,FLv L e e ((n+us.length:Nat):Int) f)→MsR L (e+K) E n us ls (mxs n us ls)
 |[],us,_,hu,_=>⟨⟨[],by simp[mxs]⟩,by simp[mxs],hu,rfl,fun f hf=>(by cases hf),fun ξ _=>rfl⟩
 |l::r,us,hl,hu,hf=>by
  have h1:=hl l List.mem_cons_self;obtain⟨⟨ex,e1,e2⟩,u1,f1,v1⟩:=mxF_ok hL l.length e us l he (by omega) h1.1 (by omega) hu (hf l List.mem_cons_self);rw[mxs];generalize mxF n l.length us l=A at *
  obtain⟨uA,gA⟩:=A;simp only at e1 u1 f1 v1 ⊢;have lA:uA.length=us.length+(l.length-1):=by rw[e1,List.length_append,e2]
  obtain⟨⟨ex2,e3⟩,ln,u2,l2,f2,v2⟩:=mxs_ok hL he hE r uA (fun y hy=>hl y (List.mem_cons_of_mem _ hy)) u1 fun y hy f h=>(hf y (List.mem_cons_of_mem _ hy) f h).up hL (lR_ _) (by omega);refine⟨⟨ex++ex2,by rw[e3,e1,List.append_assoc]⟩,by rw[ln,lA,List.map_cons,List.sum_cons];omega,u2,by simp[l2],fun f h=> ?_,fun ξ hξ=> ?_⟩
  ·rcases List.mem_cons.1 h with rfl|h
   ·exact f1.up hL (by omega) (by simp only[ln];omega)
   ·exact f2 f h
  ·have s1:Sat n uA ξ:=Sat.pre (by rw[←e3];exact hξ);simp only[List.map_cons,v1 ξ s1,v2 ξ hξ]
abbrev Ts (n:Int)(f:Af):Prop:=TsOk n 0 f.ts
section
variable {n:Int}
theorem Ts.num (q:Rat):Ts n (afO.num q):=trivial
theorem Ts.add {f g:Af}(h:Ts n f)(h':Ts n g):Ts n (afO.add f g):=ok_fold (fun t ht=>let ⟨k1,k2,k3,k4⟩:=h'.cof_mem t ht;⟨k2,k3⟩) h
theorem Ts.sc {f:Af}(h:Ts n f)(c:Rat):Ts n (afO.sc f c):=ok_scale c h
theorem Ts.at {x:List Af}(h:∀f∈x,Ts n f)(k:Nat):Ts n (atO afO x k):=by
 unfold atO;rw[List.getD_eq_getElem?_getD]
 cases hk:x[k]? with
 |none=>exact Ts.num 0
 |some v=>exact h v (mG_ hk)
theorem Ts.dotN {x:List Af}(h:∀f∈x,Ts n f)(ws:List Rat)(off:Nat)(b:Rat):∀k,Ts n (Lf.dotN afO ws off x b k)
 |0=>Ts.num b
 |k+1=>(Ts.dotN h ws off b k).add ((Ts.at h k).sc _)
theorem Ts.cvN {x:List Af}(h:∀f∈x,Ts n f)(ws:List Rat)(off:Nat)(w:List Int)(b:Rat):∀k,Ts n (Lf.cvN afO ws off w x b k)
 |0=>Ts.num b
 |k+1=>by
  rw[Lf.cvN];split
  ·exact(Ts.cvN h ws off w b k).add ((Ts.at h _).sc _)
  ·exact Ts.cvN h ws off w b k
theorem Ts.fold:∀{x:List Af} (h:∀f∈x,Ts n f) {a:Af},Ts n a→Ts n (x.foldl afO.add a)
 |[],_,a,ha=>ha
 |f::x,h,a,ha=>Ts.fold (x:=x) (fun g hg=>h g (List.mem_cons_of_mem _ hg)) (ha.add (h f List.mem_cons_self))
end
section
variable {L e k:Nat} {n:Int} {f:Af} {x:List Af}
theorem FLv.mk' {p:Nat}(h1:Ts n f)(h2:∀w,Lv L p (cof f.ts w))(h3:Lv L p f.c):FLv L p p n f:=⟨h1,h2,h3⟩
theorem fl_co (h:∀f∈x,FLv L e e n f)(w:Int):∀v∈x.map (fun f=>cof f.ts w),Lv L e v:=fun v hv=>by
 obtain⟨f,hf,rfl⟩:=List.mem_map.1 hv;exact(h f hf).co w
theorem fl_c (h:∀f∈x,FLv L e e n f):∀v∈x.map (fun f=>f.c),Lv L e v:=fun v hv=>by
 obtain⟨f,hf,rfl⟩:=List.mem_map.1 hv;exact(h f hf).c
theorem FLv.dotN (hL:LOk L){ws:List Rat}{b:Rat}(off:Nat)(hw:∀q∈ws,Lv L 1 q)(hx:∀f∈x,FLv L e e n f)(hb:Lv L 1 b)(hk:k≤100000):FLv L (e+2) (e+2) n (Lf.dotN afO ws off x b k):=
 .mk' (Ts.dotN (fun f hf=>(hx f hf).ts) ..) (fun w=>by rw[(hmCof w).dotN];exact(pt_z.dotN hL off hw (fl_co hx w) hb k).up hL (by omega)) (by rw[hmC.dotN];exact(pt_rat.dotN hL off hw (fl_c hx) hb k).up hL (by omega))
theorem FLv.cvN (hL:LOk L){ws:List Rat}{b:Rat}(off:Nat)(w:List Int)(hw:∀q∈ws,Lv L 1 q)(hx:∀f∈x,FLv L e e n f)(hb:Lv L 1 b)(hk:k≤100000):FLv L (e+2) (e+2) n (Lf.cvN afO ws off w x b k):=
 .mk' (Ts.cvN (fun f hf=>(hx f hf).ts) ..) (fun v=>by rw[(hmCof v).cvN];exact(pt_z.cvN hL off w hw (fl_co hx v) hb k).up hL (by omega)) (by rw[hmC.cvN];exact(pt_rat.cvN hL off w hw (fl_c hx) hb k).up hL (by omega))
theorem FLv.sumTo (hL:LOk L)(hx:∀f∈x,FLv L e e n f)(hk:x.length≤100000):FLv L (e+1) (e+1) n (sumG afO x):=
 .mk' (Ts.fold (fun f hf=>(hx f hf).ts) (Ts.num 0)) (fun v=>by rw[sumG,(hmCof v).fold];exact(pt_z.sum0 (fl_co hx v)).up hL (by simp;omega)) (by rw[sumG,hmC.fold];exact(pt_rat.sum0 (fl_c hx)).up hL (by simp;omega))
theorem FLv.mean (hL:LOk L)(hx:∀f∈x,FLv L e e n f)(hk:x.length≤100000)(hq:Lv L 1 (1/(x.length:Rat))):FLv L (e+2) (e+2) n (meanG afO x):=(FLv.sumTo hL hx hk).scale hq
theorem FLv.at (h:∀f∈x,FLv L e e n f)(k:Nat):FLv L e e n (atO afO x k):=by
 unfold atO;rw[List.getD_eq_getElem?_getD]
 cases hk:x[k]? with
 |none=>exact FLv.zero
 |some v=>exact h v (mG_ hk)
theorem fl_pick (h:∀f∈x,FLv L e e n f){m ch:Nat}{w:List Int}:∀f∈pick afO x m w ch,FLv L e e n f:=fun v hv=>by
 obtain⟨i,_,rfl⟩:=List.mem_map.1 hv;exact FLv.at h _
end
structure LwR (L e E n:Nat)(l:Lay)(s:List Nat)(us:List Af)(all:List (List Af))(x:List Af)(r:List Af×List Af):Prop where
 ex:∃ex,r.1=us++ex
 len:r.1.length=us.length+unS l s
 us:UsOk L E n r.1
 f:∀f∈r.2,FLv L (e+40) (e+40) ((n+r.1.length:Nat):Int) f
 v:∀ξ,Sat n r.1 ξ→r.2.map (ph 1 ξ)=eLay l s (all.map (List.map (ph 1 ξ))) (x.map (ph 1 ξ))
theorem getD_map {α β:Type}(h:α→β)(l:List α)(k:Nat)(d:α):(l.map h).getD k (h d)=h (l.getD k d):=by
 rw[List.getD_eq_getElem?_getD,List.getD_eq_getElem?_getD,List.getElem?_map]
 cases l[k]?<;>rfl
theorem lowL_ok {L e E n i:Nat}{l:Lay}{s:List Nat}{ss:List (List Nat)}{us:List Af}{all:List (List Af)}{x:List Af}(hl:LvO L l)(he:1≤e)(hE:e+40≤E)(hs:szS s≤24)(hf:Fit l i ss s)(hxl:x.length=szS s)
  (hu:UsOk L E n us) (hx:∀f∈x,FLv L e e ((n+us.length:Nat):Int) f) (ha:∀y∈all,∀f∈y,FLv L e e ((n+us.length:Nat):Int) f):LwR L e E n l s us all x (lowL l s n us all x):=by
 have hL:=hl.ok
 have same:∀{l':Lay} {y:List Af},unS l' s=0→(∀f∈y,FLv L (e+2) (e+2) ((n+us.length:Nat):Int) f)→(∀ξ,y.map (ph 1 ξ)=eLay l' s (all.map (List.map (ph 1 ξ))) (x.map (ph 1 ξ)))→LwR L e E n l' s us all x (us,y):=
  fun h0 h1 h2=>⟨⟨[],by simp⟩,by simp only[h0];omega,hu,fun f hf=>(h1 f hf).up hL (by omega) (lR_ _),fun ξ _=>h2 ξ⟩
 cases l with
 |dense ws bs=>
  refine same rfl (fun f hf=> ?_) fun ξ=>(hmPh ξ).dense ..;obtain⟨r,_,rfl⟩:=List.mem_map.1 hf;exact FLv.dotN hL _ (fun q hq=>hl.par q (List.mem_append_left _ hq)) hx (Lv.at (fun q hq=>hl.par q (List.mem_append_right _ hq)) r) (by omega)
 |conv kh kw st pad ws bs=>
  refine same rfl (fun f hf'=> ?_) fun ξ=>(hmPh ξ).conv ..;obtain⟨c,_,hf'⟩:=List.mem_flatMap.1 hf';obtain⟨w,hw,rfl⟩:=List.mem_map.1 hf';have h1:=Wn.all_len hw;have h2:=hf.1.cn;exact FLv.cvN hL _ w (fun q hq=>hl.par q (List.mem_append_left _ hq)) hx (Lv.at (fun q hq=>hl.par q (List.mem_append_right _ hq)) c) (by omega)
 |mx kh kw st=>
  have b1:1≤kh*kw:=hf.1.n.1;have b2:kh*kw≤36:=hf.1.n.2
  have hp:∀y∈picks afO (winS s kh kw st 0).all (s.getD 0 0) (kh*kw) x,y.length=kh*kw:=fun y hy=>by
   obtain⟨ch,w,h1,h2,rfl⟩:=picks_mem hy;exact pick_ln (Wn.all_len h2) h1
  obtain⟨h1,h2,h3,h4,h5,h6⟩:=mxs_ok hL he (K:=36) (E:=E) (by omega) (picks afO (winS s kh kw st 0).all (s.getD 0 0) (kh*kw) x) us (fun y hy=>by rw[hp y hy];omega) hu (fun y hy f hf=>by
   obtain⟨ch,w,_,_,rfl⟩:=picks_mem hy;exact fl_pick hx f hf)
  refine⟨h1,?_,h3,fun f hf=>(h5 f hf).up hL (by omega) (lR_ _),fun ξ hξ=> ?_⟩
  ·have hm:∀(ls:List (List Af)),(∀y∈ls,y.length=kh*kw)→(ls.map fun l=>l.length-1).sum=ls.length*(kh*kw-1):=by
    intro ls
    induction ls with
    |nil=>intro _;simp
    |cons y ls ih=>intro h;rw[List.map_cons,List.sum_cons,ih fun z hz=>h z (List.mem_cons_of_mem _ hz),h y List.mem_cons_self,List.length_cons,Nat.succ_mul];omega
   show(mxs n us _).1.length=_;rw[h2,hm _ hp,picks_ln,Wn.all_ln];simp only[unS,outS,szS3];rw[Nat.mul_comm (kh*kw-1),←Nat.mul_assoc (s.getD 0 0)]
  ·show(mxs n us _).2.map _=_;rw[h6 ξ hξ,eLay,←(hmPh ξ).picks,List.map_map];rfl
 |av kh kw st=>
  refine same rfl (fun f hf'=> ?_) fun ξ=>by rw[eLay,←(hmPh ξ).picks,List.map_map,List.map_map];exact List.map_congr_left fun y _=>(hmPh ξ).mean y
  obtain⟨y,hy,rfl⟩:=List.mem_map.1 hf';obtain⟨ch,w,h1,h2,rfl⟩:=picks_mem hy;have h3:(pick afO x (kh*kw) w ch).length=kh*kw:=pick_ln (Wn.all_len h2) h1;have b2:kh*kw≤36:=hf.1.n.2;exact FLv.mean hL (fl_pick hx) (by omega) (by rw[h3];exact hl.inv _ b2)
 |relu=>
  refine⟨⟨x,rfl⟩,by simp only[lowL,List.length_append,hxl,unS],?_,fun f hf=> ?_,fun ξ hξ=> ?_⟩
  ·have:∀(x us:List Af),UsOk L E n us→(∀f∈x,FLv L e e ((n+us.length:Nat):Int) f)→UsOk L E n (us++x):=by
    intro x
    induction x with
    |nil=>intro us h _;rwa [List.append_nil]
    |cons f x ih=>
     intro us h hx;have:=ih (us++[f]) (h.snoc ((hx f List.mem_cons_self).up hL (by omega) (lR_ _))) fun g hg=>(hx g (List.mem_cons_of_mem _ hg)).up hL (lR_ _) (by rw[List.length_append];omega)
     rwa [List.append_assoc]at this
   exact this x us hu hx
  ·obtain⟨j,hj,rfl⟩:=List.mem_map.1 hf;rw[List.mem_range]at hj;exact FLv.var hL (Int.natCast_nonneg _) (Int.ofNat_lt.2 (by simp only[lowL,List.length_append];omega)) (by omega)
  ·refine List.ext_getElem? fun j=> ?_;simp only[lowL,eLay,List.getElem?_map]
   by_cases hj:j<x.length
   ·rw[List.getElem?_range hj,List.getElem?_eq_getElem hj];simp only[Option.map_some];rw[ph_var,hξ (us.length+j) x[j] (by simp only[lowL];rw[List.getElem?_append_right (by omega),Nat.add_sub_cancel_left,List.getElem?_eq_getElem hj])]
   ·rw[List.getElem?_eq_none (by rw[List.length_range];omega),List.getElem?_eq_none (by omega)];rfl
 |flat=>exact same rfl (fun f hf=>(hx f hf).up hL (by omega) (lR_ _)) fun ξ=>rfl
 |add fr=>
  refine same rfl (fun f hf'=> ?_) fun ξ=>by
   rw[eLay,(hmPh ξ).addl];exact congrArg _ (getD_map (List.map (ph 1 ξ)) all (fr+1).toNat []).symm
  obtain⟨j,_,rfl⟩:=List.mem_map.1 hf';have:∀f∈all.getD (fr+1).toNat [],FLv L e e ((n+us.length:Nat):Int) f:=by
   rw[List.getD_eq_getElem?_getD]
   cases hk:all[(fr+1).toNat]? with
   |none=>intro v hv;cases hv
   |some y=>exact ha y (mG_ hk)
  exact((FLv.at hx j).add hL (FLv.at this j)).up hL (by omega) (lR_ _)
def renF (v:Int)(f:Af):Af:=⟨f.ts.map fun t=>⟨if v<t.v then t.v-1 else t.v,t.q⟩,f.c⟩
def repF (v:Int)(b f:Af):Af:=renF v (substS f v b)
def repU (n j:Nat)(b:Af)(us:List Af):List Af:=us.take j++(us.drop (j+1)).map (repF ((n+j:Nat):Int) b)
theorem lsum_congr {ξ ζ:Int→Rat}:∀{ts:List Tm},(∀t∈ts,ξ t.v=ζ t.v)→lsum ξ ts=lsum ζ ts
 |[],_=>rfl
 |t::ts,h=>by rw[lsum,lsum,h t List.mem_cons_self,lsum_congr (ts:=ts) fun s hs=>h s (List.mem_cons_of_mem _ hs)]
theorem ph_congr {ξ ζ:Int→Rat}{n:Int}{f:Af}(hf:Ts n f)(h:∀v,0≤v→v<n→ξ v=ζ v):ph 1 ξ f=ph 1 ζ f:=by
 unfold ph;rw[lsum_congr fun t ht=>let ⟨_,k2,k3,_⟩:=hf.cof_mem t ht;h t.v k2 k3]
def shf (v:Int)(ξ:Int→Rat):Int→Rat:=fun w=>if w<v then ξ w else ξ (w+1)
theorem lsum_ren {v:Int}{ξ:Int→Rat}:∀{ts:List Tm},(∀t∈ts,t.v≠v)→lsum (shf v ξ) (ts.map fun t=>⟨if v<t.v then t.v-1 else t.v,t.q⟩)=lsum ξ ts
 |[],_=>rfl
 |t::ts,h=>by
  rw[List.map_cons,lsum,lsum,lsum_ren (ts:=ts) fun s hs=>h s (List.mem_cons_of_mem _ hs)]
  congr 2
  have:=h t List.mem_cons_self;unfold shf;simp only;split
  ·rw[if_neg (by omega)];congr 1;omega
  ·rw[if_pos (by omega)]
section
variable {n v:Int} {f b:Af}
theorem cof_none' {w:Int}:∀{ts:List Tm},(∀t∈ts,t.v≠w)→cof ts w=0
 |[],_=>rfl
 |t::ts,h=>by rw[cof,if_neg (h t List.mem_cons_self),cof_none' (ts:=ts) fun s hs=>h s (List.mem_cons_of_mem _ hs),Rat.zero_add]
theorem Ts.subst (hf:Ts n f)(hb:Ts v b)(hv:v≤n):Ts n (substS f v b):=
 ok_fold (fun t ht=>let ⟨k1,k2,k3,k4⟩:=(ok_scale _ (hb.up hv)).cof_mem t ht;⟨k2,k3⟩) hf.without
theorem cof_subst (w:Int):cof (substS f v b).ts w=(if w=v then 0 else cof f.ts w)+cof b.ts w*cof f.ts v:=by
 unfold substS addS scaleS;rw[cof_fold,cof_scale]
 congr 1
 exact cof_without v w f.ts
theorem subst_out (hf:Ts n f)(hb:Ts v b)(hv:v≤n):∀t∈(substS f v b).ts,t.v≠v:=fun t ht e=>by
 obtain⟨k1,_,_,k4⟩:=(Ts.subst hf hb hv).cof_mem t ht;rw[e,cof_subst,if_pos rfl,cof_none' fun s hs=> ?_]at k1
 ·exact k4 (by rw[←k1];grind)
 ·have:=(hb.cof_mem s hs).2.2.1;omega
theorem ph_rep {ξ:Int→Rat}(hf:Ts n f)(hb:Ts v b)(hv:v≤n):ph 1 (shf v ξ) (repF v b f)=ph 1 ξ f+cof f.ts v*(ph 1 ξ b-ξ v):=by
 have h1:ph 1 (shf v ξ) (repF v b f)=ph 1 ξ (substS f v b):=by
  unfold repF renF ph;simp only;rw[lsum_ren (subst_out hf hb hv)]
 rw[h1,ph_subst];grind
theorem Ts.ren:∀{ts:List Tm} {lo:Int},TsOk n lo ts→(∀t∈ts,t.v≠v)→v<n→TsOk (n-1) (if v<lo then lo-1 else lo) (ts.map fun t=>⟨if v<t.v then t.v-1 else t.v,t.q⟩)
 |[],_,_,_,_=>trivial
 |t::ts,lo,h,ho,hv=>by
  have h0:=ho t List.mem_cons_self;have ih:=Ts.ren h.2.2.2 (fun s hs=>ho s (List.mem_cons_of_mem _ hs)) hv;have h1:=h.1;have h2:=h.2.1;refine⟨?_,?_,h.2.2.1,ih.lo ?_⟩
  ·simp only;split<;>split<;>omega
  ·simp only;split<;>omega
  ·simp only;split<;>split<;>omega
theorem Ts.rep (hf:Ts n f)(hb:Ts v b)(h0:0≤v)(hv:v<n):Ts (n-1) (repF v b f):=by
 have:=Ts.ren (Ts.subst hf hb (by omega)) (subst_out hf hb (by omega)) hv
 rwa [if_neg (by omega)]at this
theorem cof_ren {w:Int}:∀{ts:List Tm},(∀t∈ts,t.v≠v)→cof (ts.map fun t=>⟨if v<t.v then t.v-1 else t.v,t.q⟩) w=if w<v then cof ts w else cof ts (w+1)
 |[],_=>by simp[cof]
 |t::ts,h=>by
  have h0:=h t List.mem_cons_self;rw[List.map_cons,cof,cof_ren (ts:=ts) fun s hs=>h s (List.mem_cons_of_mem _ hs),cof,cof];simp only;split<;>split<;>split<;>first|rfl|(split<;>first|rfl|omega)|omega
theorem cof_rep (hf:Ts n f)(hb:Ts v b)(hv:v≤n)(w:Int):cof (repF v b f).ts w=if w<v then cof f.ts w+cof b.ts w*cof f.ts v else cof f.ts (w+1):=by
 unfold repF renF;simp only;rw[cof_ren (subst_out hf hb hv),cof_subst,cof_subst];split
 ·rw[if_neg (by omega)]
 ·rw[if_neg (by omega),cof_none' (ts:=b.ts) fun s hs=> ?_]
  ·grind
  ·have:=(hb.cof_mem s hs).2.2.1;omega
end
structure By (L k:Nat)(v:Int)(b:Af):Prop where
 ts:Ts v b
 co:∀w,cof b.ts w=0∨cof b.ts w=1
 c:Lv L k b.c
theorem FLv.rep {L e k:Nat}{n v:Int}{f b:Af}(hL:LOk L)(hf:FLv L e k n f)(hb:By L k v b)(h0:0≤v)(hv:v<n):FLv L (e+2) (k+e+2) (n-1) (repF v b f):=by
 refine⟨Ts.rep hf.ts hb.ts h0 hv,fun w=> ?_,?_⟩
 ·rw[cof_rep hf.ts hb.ts (by omega)];split
  ·rcases hb.co w with h|h<;>rw[h]
   ·exact((hf.co w).add hL (by rw[Rat.zero_mul];exact Lv.zero)).mono hL (by omega)
   ·exact((hf.co w).add hL (by rw[Rat.one_mul];exact hf.co v)).mono hL (by omega)
  ·exact(hf.co _).mono hL (by omega)
 ·show Lv L _ (f.c+b.c*cof f.ts v);have h1:=hb.c.mul (hf.co v);exact((hf.c.mono hL (by omega:k≤k+e)).add hL h1).mono hL (by omega)
def eL (m:Nat):Nat:=300+2*(20-m)
def kL (m:Nat):Nat:=300+400*(20-m)
structure Gk (L n:Nat)(us os:List Af):Prop where
 u:us.length≤20
 uf:∀(j:Nat) (f:Af),us[j]? =some f→FLv L (eL us.length) (kL us.length) ((n+j:Nat):Int) f
 of:∀f∈os,FLv L (eL us.length) (kL us.length) ((n+us.length:Nat):Int) f
def Eqg (n:Nat)(us os us' os':List Af):Prop:=∀ξ,Sat n us ξ→∃ξ',Sat n us' ξ'∧(∀i:Int,i<n→ξ' i=ξ i)∧os'.map (ph 1 ξ')=os.map (ph 1 ξ)
theorem Eqg.refl (n:Nat)(us os:List Af):Eqg n us os us os:=fun ξ h=>⟨ξ,h,fun _ _=>rfl,rfl⟩
theorem Eqg.trans {n:Nat}{us os us' os' us'' os'':List Af}(h:Eqg n us os us' os')(k:Eqg n us' os' us'' os''):Eqg n us os us'' os'':=fun ξ hξ=>by
 obtain⟨ξ1,s1,i1,o1⟩:=h ξ hξ;obtain⟨ξ2,s2,i2,o2⟩:=k ξ1 s1;exact⟨ξ2,s2,fun i hi=>(i2 i hi).trans (i1 i hi),o2.trans o1⟩
theorem repU_at {n j:Nat}{b:Af}{us:List Af}(hj:j<us.length)(i:Nat):(repU n j b us)[i]? =if i<j then us[i]? else us[i+1]?.map (repF ((n+j:Nat):Int) b):=by
 unfold repU;have h1:(us.take j).length=j:=by rw[List.length_take];omega
 split
 ·rename_i h;rw[List.getElem?_append_left (by omega),List.getElem?_take,if_pos h]
 ·rename_i h;rw[List.getElem?_append_right (by omega),h1,List.getElem?_map,List.getElem?_drop]
  congr 2;omega
theorem repU_len {n j:Nat}{b:Af}{us:List Af}(hj:j<us.length):(repU n j b us).length=us.length-1:=by
 unfold repU;simp;omega
theorem Gk.rep {L n j:Nat}{us os:List Af}{b:Af}(hL:LOk L)(h:Gk L n us os)(hj:j<us.length)(hb:By L (kL us.length) ((n+j:Nat):Int) b):Gk L n (repU n j b us) (os.map (repF ((n+j:Nat):Int) b)):=by
 have hl:=repU_len (n:=n) (b:=b) hj;have hu:=h.u;have e1:eL us.length+2=eL (us.length-1):=by unfold eL;omega
 have e2:kL us.length+eL us.length+2≤kL (us.length-1):=by unfold kL eL;omega
 have e3:kL us.length≤kL (us.length-1):=by omega
 refine⟨by omega,fun i f hi=> ?_,fun f hf=> ?_⟩
 ·rw[hl];rw[repU_at hj]at hi;split at hi
  ·exact(h.uf i f hi).mono hL (by omega) e3 (Int.le_refl _)
  ·obtain⟨g,hg,rfl⟩:=Option.map_eq_some_iff.1 hi;have:=FLv.rep hL (h.uf (i+1) g hg) hb (Int.natCast_nonneg _) (Int.ofNat_lt.2 (by omega));exact this.mono hL (by omega) e2 (by omega)
 ·rw[hl];obtain⟨g,hg,rfl⟩:=List.mem_map.1 hf;have:=FLv.rep hL (h.of g hg) hb (Int.natCast_nonneg _) (Int.ofNat_lt.2 (by omega));exact this.mono hL (by omega) e2 (by omega)
theorem Eqg.rep {L n j:Nat}{us os:List Af}{b:Af}(h:Gk L n us os)(hj:j<us.length)(hb:Ts ((n+j:Nat):Int) b)
  (hc:(∀ξ,Sat n us ξ→ξ ((n+j:Nat):Int)=ph 1 ξ b)∨((∀(i:Nat) f,j<i→us[i]? =some f→cof f.ts ((n+j:Nat):Int)=0)∧∀f∈os,cof f.ts ((n+j:Nat):Int)=0)):
  Eqg n us os (repU n j b us) (os.map (repF ((n+j:Nat):Int) b)):=by
 intro ξ hξ;have key:∀f (m:Int),Ts m f→((n+j:Nat):Int)≤m→((∀ξ,Sat n us ξ→ξ ((n+j:Nat):Int)=ph 1 ξ b)∨cof f.ts ((n+j:Nat):Int)=0)→ph 1 (shf ((n+j:Nat):Int) ξ) (repF ((n+j:Nat):Int) b f)=ph 1 ξ f:=by
  intro f m hf hm hor;rw[ph_rep hf hb hm];rcases hor with h|h
  ·rw[h ξ hξ];grind
  ·rw[h];grind
 refine⟨shf ((n+j:Nat):Int) ξ,fun i f hi=> ?_,fun i hi=>by unfold shf;rw[if_pos (by omega)],?_⟩
 ·rw[repU_at hj]at hi;split at hi
  ·rename_i hij;rw[ph_congr (h.uf i f hi).ts (ζ:=ξ) fun v h1 h2=>by unfold shf;rw[if_pos (by omega)]];have:=hξ i f hi;unfold shf;rw[if_pos (by omega)];exact this
  ·rename_i hij;obtain⟨g,hg,rfl⟩:=Option.map_eq_some_iff.1 hi;rw[key g _ (h.uf (i+1) g hg).ts (by omega) (hc.imp id fun h=>h.1 (i+1) g (by omega) hg),←hξ (i+1) g hg];unfold shf;rw[if_neg (by omega)];exact congrArg ξ (by omega)
 ·rw[List.map_map];exact List.map_congr_left fun f hf=>key f _ (h.of f hf).ts (by omega) (hc.imp id fun h=>h.2 f hf)
theorem By.num {L k:Nat}{v:Int}{c:Rat}(h:Lv L k c):By L k v (numS c):=⟨trivial,fun w=> .inl rfl,h⟩
theorem By.var {L k:Nat}{v w:Int}(h0:0≤w)(h:w<v):By L k v (varS w):=by
 refine⟨⟨h0,h,by show((1:Int):Rat)≠0;decide,trivial⟩,fun x=> ?_,Lv.zero⟩;rw[varS,cof,cof,Rat.add_zero];split
 ·exact .inr (show((1:Int):Rat)=1 by decide)
 ·exact .inl rfl
end Go.Proofs.YtbegidaaiajffaaGreatDoor.Lf
