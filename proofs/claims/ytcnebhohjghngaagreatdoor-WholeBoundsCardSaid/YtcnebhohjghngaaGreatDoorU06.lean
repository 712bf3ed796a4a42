/- Texts Ea LfR LgD LgA LgB LgC LgE LgF LgG LgH LgK LgL LgM LgN LgO LgP LgQ LgS LgT LgU LgV LgW LgX LmA LmB LmL LmC of this proof, in this order. -/
import Derived.Test.YtcnebhohjghngaaGreatDoorU05
import Derived.Test.YtcnebhohjghngaaGreatDoorU02
import Derived.KernelRfl
import Derived.Maps.Views
set_option linter.unusedVariables false
set_option linter.unusedSimpArgs false
set_option maxRecDepth 100000
set_option maxHeartbeats 4000000
namespace Go.Proofs.YtcnebhohjghngaaGreatDoor
open Go.RowKit Nt
theorem val_inj:∀{xs ys:List Nat},lims xs→lims ys→xs.length=ys.length→val xs=val ys→xs=ys:=by
 intro xs
 induction xs with
 |nil=>intro ys _ _ h _;cases ys with|nil=>rfl|cons y ys=>simp at h
 |cons x xs ih=>
  intro ys h1 h2 hl hv
  cases ys with
  |nil=>simp at hl
  |cons y ys=>
   have a:=h1 x List.mem_cons_self;have b:=h2 y List.mem_cons_self;simp only[val]at hv;have e:x=y:=by omega
   subst e;rw[ih (fun z hz=>h1 z (List.mem_cons_of_mem _ hz)) (fun z hz=>h2 z (List.mem_cons_of_mem _ hz)) (by simpa using hl) (by omega)]
def vB (b:Bool)(xs ys:List Nat)(q:Rat):Bool:=b==decide (q<0)&&same xs (limbs q.num.natAbs)&&same ys (limbs (dn q))
theorem same_parts {xs:List Nat}{n:Nat}(h:lims xs):same xs (limbs n)=((xs.length==(limbs n).length)&&(cmpN (val xs) n==0)):=by
 unfold same
 by_cases e:xs=limbs n
 ·rw[decide_eq_true e,e,val_limbs,cmpN_eq rfl];simp
 ·rw[decide_eq_false e]
  symm
  rw[Bool.and_eq_false_iff]
  by_cases hl:xs.length=(limbs n).length
  ·right
   rw[beq_eq_false_iff_ne];intro hc;have hv:val xs=n:=by
    unfold cmpN at hc
    by_cases h1:val xs<n
    ·rw[if_pos h1]at hc;cases hc
    ·rw[if_neg h1]at hc
     by_cases h2:val xs=n
     ·exact h2
     ·rw[if_neg h2]at hc;cases hc
   exact e (val_inj h (lims_limbs n) hl (by rw[val_limbs];exact hv))
  ·left;simpa using hl
theorem vB_nil {b:Bool}{xs:List Nat}(h:lims xs):vB b xs [] (rv b (val xs) 0)=(canon xs&&(!b||decide (0<xs.length))):=by
 have e:rv b (val xs) 0=((iv b (val xs):Int):Rat):=by unfold rv;rw[show un 0=1 from rfl,mkRat_one]
 have e1:((iv b (val xs):Int):Rat).num.natAbs=val xs:=by rw[Rat.num_intCast,iv_abs]
 have e2:dn ((iv b (val xs):Int):Rat)=0:=by unfold dn;rw[Rat.den_intCast];rfl
 have e3:(((iv b (val xs):Int):Rat)<0)↔iv b (val xs)<0:=by rw[Rat.lt_iff];simp
 unfold vB;rw[e,e1,e2,limbs_zero]
 by_cases hc:canon xs=true
 ·have hl:limbs (val xs)=xs:=limbs_val h (by
   unfold canon at hc;simp only[Bool.or_eq_true,beq_iff_eq,bne_iff_ne]at hc;rcases hc with h1|h1
   ·left;exact List.length_eq_zero_iff.1 h1
   ·right;exact h1)
  rw[hl,hc,show same xs xs=true by simp[same],show same ([]:List Nat) []=true by simp[same]]
  cases b
  ·have:¬iv false (val xs)<0:=by simp[iv]
   rw[decide_eq_false (mt e3.1 this)];simp
  ·by_cases h0:0<xs.length
   ·have hv:0<val xs:=by
     rcases eP_ (val xs)with h1|h1
     ·rw[h1,limbs_zero]at hl;rw[←hl]at h0;simp at h0
     ·exact h1
    rw[decide_eq_true (e3.2 ((iv_neg_iff hv).2 rfl)),decide_eq_true h0];rfl
   ·have hx:xs=[]:=List.length_eq_zero_iff.1 (by omega);subst hx;have:¬iv true (val [])<0:=by simp[iv,val]
    rw[decide_eq_false (mt e3.1 this)];simp
 ·have hn:same xs (limbs (val xs))=false:=by
   unfold same;rw[decide_eq_false];intro h1;rw[h1,canon_limbs]at hc;exact hc rfl
  rw[hn,Bool.eq_false_iff.2 hc];simp
theorem vB_can (q:Rat):vB (decide (q<0)) (limbs q.num.natAbs) (limbs (dn q)) q=true:=by simp[vB,same]
theorem Sl.lenE {w:World}{a:Option Addr}{n c:Nat}{xs:List Nat}(h:Sl w (.slice a n c) xs):n=xs.length:=by
 obtain⟨ad,m,cap,he,hl,_⟩:=h;injection he with _ e _;rw[e];exact hl.symm
theorem same_b {v v':Value}{xs ys:List Nat}{w:World}(B:Bool)(hB:same xs ys=B)(h:Sl w v xs)(h':Sl w v' ys):Calls Tryz.prog 42 #[v,v'] w (Ret w (Val (.bool B))):=by rw[←hB];exact same_any _ _ _ _ _ h h'
theorem cmp_slc {xs:List Nat}{b L:Nat}{u v:Value}{w:World}(k:Int)(hk:cmpN (val xs) b=k)(h:Sl w u xs)(h':Can b L w v):Calls Tryz.prog 97 #[u,v] w (Ret w (Val (.int .i64 k))):=
 cmp_is k ⟨xs,h,rfl,lR_ _⟩ h'.is hk
theorem eqI {a b c:Nat}{B:Bool}(e:b=c)(h:(a==c)=B):((a:Int)==(b:Int))=B:=by
 subst e;rw[←h,Bool.eq_iff_iff];simp;omega
theorem limbs_one:limbs 1=[1]:=by rw[limbs_pos (by decide)];simp[limbs_zero]
theorem zs_1 {ba:Bool}{sa ta:Value}{xa ya:List Nat}{bb:Bool}{sb tb:Value}{xb yb:List Nat}{w:World}(he:(ba==bb)=false)(hna:Sl w sa xa)(hda:Sl w ta ya)(hnb:Sl w sb xb)(hdb:Sl w tb yb):
  Calls Tryz.prog 17 #[.agg #[.bool ba,sa,ta],.agg #[.bool bb,sb,tb]] w (Ret w (Val (.bool false))):=by
 have Hna:=lH hna;have Hda:=lH hda;have Hnb:=lH hnb;have Hdb:=lH hdb;clear hna hda hnb hdb
 go_enter Tryz.func17,Tryz.ntmps17
 have HB:=lH (bR_ w.heap.size w);go_wp2;obtain⟨W1,hW⟩:∃W1,W1=(World.alloc (World.alloc w (.cells #[.bool ba,sa,ta] 34)) (.cells #[.bool bb,sb,tb] 34)):=⟨_,rfl⟩;rw[←hW];obtain⟨xa0,xb0,hk,hb⟩:=boxes_2 _ _ _ _ _ hW;clear hW;have Ga0:=lH (show w.heap.size≤w.heap.size from tL_ HB.out.size (by omega));have Gb0:=lH (show w.heap.size≤w.heap.size+1 from tL_ HB.out.size (by omega));have Xa0:=lH xa0;have Xb0:=lH xb0;have HB:=lH (bC HB.out hb);clear hk hb xa0 xb0
 go_ret
 exact⟨_,rfl,rfl,HB.out⟩
theorem zs_2 {ba:Bool}{sa ta:Value}{xa ya:List Nat}{bb:Bool}{sb tb:Value}{xb yb:List Nat}{w:World}(he:(ba==bb)=true)(h1:same xa xb=false)(hna:Sl w sa xa)(hda:Sl w ta ya)(hnb:Sl w sb xb)(hdb:Sl w tb yb):
  Calls Tryz.prog 17 #[.agg #[.bool ba,sa,ta],.agg #[.bool bb,sb,tb]] w (Ret w (Val (.bool false))):=by
 have Hna:=lH hna;have Hda:=lH hda;have Hnb:=lH hnb;have Hdb:=lH hdb;have H1:=lH h1;clear hna hda hnb hdb h1
 go_enter Tryz.func17,Tryz.ntmps17
 have HB:=lH (bR_ w.heap.size w)
 go_wp2_with fail
 obtain⟨W1,hW⟩:∃W1,W1=(World.alloc (World.alloc w (.cells #[.bool ba,sa,ta] 34)) (.cells #[.bool bb,sb,tb] 34)):=⟨_,rfl⟩;rw[←hW];obtain⟨xa0,xb0,hk,hb⟩:=boxes_2 _ _ _ _ _ hW;clear hW;have Hna:=lH (Sl.keep Hna.out hk);have Hnb:=lH (Sl.keep Hnb.out hk);have Ga0:=lH (show w.heap.size≤w.heap.size from tL_ HB.out.size (by omega));have Gb0:=lH (show w.heap.size≤w.heap.size+1 from tL_ HB.out.size (by omega));have Xa0:=lH xa0;have Xb0:=lH xb0;have HB:=lH (bC HB.out hb);clear hk hb xa0 xb0
 (first|(have hcall:=same_b false H1.out Hna.out Hnb.out;refine cM hcall ?_;clear hcall)|refine cM (same_b false H1.out Hna.out Hnb.out) ?_)
 rintro e w2 ⟨v2,rfl,rfl,hb⟩;have Xa0:=lH (xP hb Xa0.out);have Xb0:=lH (xP hb Xb0.out);have HB:=lH (bC HB.out hb);clear hb;obtain⟨ca00,ca01,ca02,fa00,fa01,fa02⟩:=Xa0.out.c3;have la0:=Xa0.out.lt;obtain⟨cb00,cb01,cb02,fb00,fb01,fb02⟩:=Xb0.out.c3;have lb0:=Xb0.out.lt;go_wp2;clear ca00 ca01 ca02 fa00 fa01 fa02 la0 cb00 cb01 cb02 fb00 fb01 fb02 lb0
 go_ret
 exact⟨_,rfl,rfl,HB.out⟩
theorem zs_3 {ba:Bool}{sa ta:Value}{xa ya:List Nat}{bb:Bool}{sb tb:Value}{xb yb:List Nat}{w:World}{B:Bool}(he:(ba==bb)=true)(h1:same xa xb=true)(h2:same ya yb=B)(hna:Sl w sa xa)(hda:Sl w ta ya)(hnb:Sl w sb xb)(hdb:Sl w tb yb):
  Calls Tryz.prog 17 #[.agg #[.bool ba,sa,ta],.agg #[.bool bb,sb,tb]] w (Ret w (Val (.bool B))):=by
 have Hna:=lH hna;have Hda:=lH hda;have Hnb:=lH hnb;have Hdb:=lH hdb;have H1:=lH h1;have H2:=lH h2;clear hna hda hnb hdb h1 h2
 go_enter Tryz.func17,Tryz.ntmps17
 have HB:=lH (bR_ w.heap.size w)
 go_wp2_with fail
 obtain⟨W1,hW⟩:∃W1,W1=(World.alloc (World.alloc w (.cells #[.bool ba,sa,ta] 34)) (.cells #[.bool bb,sb,tb] 34)):=⟨_,rfl⟩;rw[←hW];obtain⟨xa0,xb0,hk,hb⟩:=boxes_2 _ _ _ _ _ hW;clear hW;have Hna:=lH (Sl.keep Hna.out hk);have Hda:=lH (Sl.keep Hda.out hk);have Hnb:=lH (Sl.keep Hnb.out hk);have Hdb:=lH (Sl.keep Hdb.out hk);have Ga0:=lH (show w.heap.size≤w.heap.size from tL_ HB.out.size (by omega));have Gb0:=lH (show w.heap.size≤w.heap.size+1 from tL_ HB.out.size (by omega));have Xa0:=lH xa0;have Xb0:=lH xb0;have HB:=lH (bC HB.out hb);clear hk hb xa0 xb0
 (first|(have hcall:=same_b true H1.out Hna.out Hnb.out;refine cM hcall ?_;clear hcall)|refine cM (same_b true H1.out Hna.out Hnb.out) ?_)
 rintro e w2 ⟨v2,rfl,rfl,hb⟩;have Hda:=lH (Sl.keep Hda.out (kC hb));have Hdb:=lH (Sl.keep Hdb.out (kC hb));have Xa0:=lH (xP hb Xa0.out);have Xb0:=lH (xP hb Xb0.out);have HB:=lH (bC HB.out hb);clear hb;obtain⟨ca00,ca01,ca02,fa00,fa01,fa02⟩:=Xa0.out.c3;have la0:=Xa0.out.lt;obtain⟨cb00,cb01,cb02,fb00,fb01,fb02⟩:=Xb0.out.c3;have lb0:=Xb0.out.lt
 go_wp2_with fail
 clear ca00 ca01 ca02 fa00 fa01 fa02 la0 cb00 cb01 cb02 fb00 fb01 fb02 lb0
 (first|(have hcall:=same_b B H2.out Hda.out Hdb.out;refine cM hcall ?_;clear hcall)|refine cM (same_b B H2.out Hda.out Hdb.out) ?_)
 rintro e w3 ⟨v3,rfl,⟨⟩,hb⟩;have Xa0:=lH (xP hb Xa0.out);have Xb0:=lH (xP hb Xb0.out);have HB:=lH (bC HB.out hb);clear hb;obtain⟨ca00,ca01,ca02,fa00,fa01,fa02⟩:=Xa0.out.c3;have la0:=Xa0.out.lt;obtain⟨cb00,cb01,cb02,fb00,fb01,fb02⟩:=Xb0.out.c3;have lb0:=Xb0.out.lt;go_wp2;clear ca00 ca01 ca02 fa00 fa01 fa02 la0 cb00 cb01 cb02 fb00 fb01 fb02 lb0
 go_ret
 exact⟨_,rfl,rfl,HB.out⟩
theorem zsame_v {B:Bool}{b:Bool}{s t v:Value}{xs ys:List Nat}{q:Rat}{L:Nat}{w:World}(hB:vB b xs ys q=B)(h:Sl w s xs)(h':Sl w t ys)(hc:CR q L w v):
  Calls Tryz.prog 17 #[.agg #[.bool b,s,t],v] w (Ret w (Val (.bool B))):=by
 obtain⟨c,a1,n1,c1,a2,n2,c2,rfl⟩:=hc.litb;have k1:=hc.numC.1;have k2:=hc.denC.1;have k0:=hc.negC;subst hB;unfold vB;rw[←k0]
 cases e1:(b==c)
 ·exact zs_1 e1 h h' k1 k2
 ·cases e2:same xs (limbs q.num.natAbs)
  ·exact zs_2 e1 e2 h h' k1 k2
  ·exact zs_3 e1 e2 rfl h h' k1 k2
theorem zvalid_p {L:Nat}{q:Rat}{xs ys:List Nat}{ba:Bool}{sa ta:Option Addr}{na ca ma ea:Nat}{w:World}{B:Bool}(hB0:vB ba xs ys q=B)(hxa:Sl w (.slice sa na ca) xs)(hya:Sl w (.slice ta ma ea) ys)(ha:AR q L w (.agg #[.bool ba,.slice sa na ca,.slice ta ma ea]))(hL:L≤100000000):
  Calls Tryz.prog 157 #[.agg #[.bool ba,.slice sa na ca,.slice ta ma ea]] w (Ret w (Val (.bool B))):=by
 have Ha:=lH ha;have Hxa:=lH hxa;have Hya:=lH hya;have HB0:=lH hB0;clear ha hxa hya hB0
 go_enter Tryz.func157,Tryz.ntmps157
 have HB:=lH (bR_ w.heap.size w)
 go_wp2_with fail
 obtain⟨W1,hW⟩:∃W1,W1=(World.alloc w (.cells #[.bool ba,.slice sa na ca,.slice ta ma ea] 34)):=⟨_,rfl⟩;rw[←hW];obtain⟨xa0,hk,hb⟩:=boxes_1 _ _ _ hW;clear hW;have Ha:=lH (AR.keep Ha.out hk);have Hxa:=lH (Sl.keep Hxa.out hk);have Hya:=lH (Sl.keep Hya.out hk);have Ga0:=lH (show w.heap.size≤w.heap.size from tL_ HB.out.size (by omega));have Xa0:=lH xa0;have HB:=lH (bC HB.out hb);clear hk hb xa0;have Ha:=lH (AR.keep Ha.out (Keep.drew W1));have Hxa:=lH (Sl.keep Hxa.out (Keep.drew W1));have Hya:=lH (Sl.keep Hya.out (Keep.drew W1));have Xa0:=lH (Box.drew Xa0.out);have HB:=lH (Below.drew HB.out);refine wp_region_float [] [] (by kernel_rfl) (by kernel_rfl) 7 (by kernel_rfl) Flok.nil ?_;intro ok;have Hok:=lH ok;clear ok;have HG:=lH (bR_ (W1.drew).heap.size (W1.drew));refine good_pureX 0 (some 3) (Go.Op.load 34 (Go.Operand.tmp 1)) (none) (.agg #[.bool ba,.slice sa na ca,.slice ta ma ea]) (by kernel_rfl) (by kernel_rfl) (by kernel_rfl) (fun _ _ _ h=>h) (fun w' hw'=> ?_) ?_
 ·obtain⟨ca00,ca01,ca02,fa00,fa01,fa02⟩:=(Box.se hw' Xa0.out notin0).c3
  first|(go_simp;done)|(go_simp;simp_all;done)|(go_simp;rfl)
 simp only[Act.put,sI,sZ,sS];refine good_pureX 1 (some 4) (Go.Op.load 34 (Go.Operand.tmp 1)) (none) (.agg #[.bool ba,.slice sa na ca,.slice ta ma ea]) (by kernel_rfl) (by kernel_rfl) (by kernel_rfl) (fun _ _ _ h=>h) (fun w' hw'=> ?_) ?_
 ·obtain⟨ca00,ca01,ca02,fa00,fa01,fa02⟩:=(Box.se hw' Xa0.out notin0).c3
  first|(go_simp;done)|(go_simp;simp_all;done)|(go_simp;rfl)
 simp only[Act.put,sI,sZ,sS];refine good_callX 2 40 (some 5) #[Go.Operand.tmp 4] #[34] (none) #[.agg #[.bool ba,.slice sa na ca,.slice ta ma ea]] (by kernel_rfl) Hok.out (by kernel_rfl) (by kernel_rfl) (by kernel_rfl) (by kernel_rfl) rfl rfl rfl (by kernel_rfl) (fun w2 hb=> ?_);have HG:=lH (bC HG.out hb);clear hb
 (first|(have hcall:=zcanon_ar (AR.keep Ha.out (kC HG.out)) (by omega);refine cM hcall ?_;clear hcall)|refine cM (zcanon_ar (AR.keep Ha.out (kC HG.out)) (by omega)) ?_)
 rintro e w3 ⟨v3,rfl,hc,hb⟩;obtain⟨c_b,c_a,c_n,c_c,c_d,c_m,c_e,rfl⟩:=hc.litb;refine⟨_,rfl,?_,hb⟩;have HG:=lH (bC HG.out hb);have Hc:=lH hc;clear hb hc;simp only[Act.put,sI,sZ,sS];refine good_callX 3 17 (some 6) #[Go.Operand.tmp 3,Go.Operand.tmp 5] #[34,34] (none) #[.agg #[.bool ba,.slice sa na ca,.slice ta ma ea],.agg #[.bool c_b,.slice c_a c_n c_c,.slice c_d c_m c_e]] (by kernel_rfl) Hok.out (by kernel_rfl) (by kernel_rfl) (by kernel_rfl) (by kernel_rfl) rfl rfl rfl (by kernel_rfl) (fun w4 hb=> ?_);have Hc:=lH (CR.keep Hc.out (kC hb));have HG:=lH (bC HG.out hb);clear hb
 (first|(have hcall:=zsame_v HB0.out (Sl.keep Hxa.out (kC HG.out)) (Sl.keep Hya.out (kC HG.out)) Hc.out;refine cM hcall ?_;clear hcall)|refine cM (zsame_v HB0.out (Sl.keep Hxa.out (kC HG.out)) (Sl.keep Hya.out (kC HG.out)) Hc.out) ?_)
 rintro e w5 ⟨v5,rfl,⟨⟩,hb⟩;refine⟨_,rfl,?_,hb⟩;have HG:=lH (bC HG.out hb);clear hb;simp only[Act.put,sI,sZ,sS];refine good_pureX 4 (some 2) (Go.Op.assign (Go.Operand.tmp 6)) (none) (.bool B) (by kernel_rfl) (by kernel_rfl) (by kernel_rfl) (fun _ _ _ h=>h) (fun w' hw'=> ?_) ?_
 ·first|(go_simp;done)|(go_simp;simp_all;done)|(go_simp;rfl)
 simp only[Act.put,sI,sZ,sS];refine good_end0 0 (by kernel_rfl) (fun _ w6 hb=> ?_);have HG:=lH (bC HG.out hb);clear hb;have Xa0:=lH (xP HG.out Xa0.out);have HB:=lH (bC HB.out HG.out);have HS:=lH (SE.of (E:=[]) HG.out);refine wpAnyH_done (by kernel_rfl) ?_ _;clear HG HS Hok;obtain⟨ca00,ca01,ca02,fa00,fa01,fa02⟩:=Xa0.out.c3;have la0:=Xa0.out.lt;go_wp2;clear ca00 ca01 ca02 fa00 fa01 fa02 la0
 go_ret
 exact⟨_,rfl,rfl,HB.out⟩
theorem rv_a1 {xs:List Nat}{ba:Bool}{sa ta:Option Addr}{na ca ma ea:Nat}{w:World}(hv:canon xs=false)(hd0:((ma:Int)==0)=true)(hxa:Sl w (.slice sa na ca) xs):
  Calls Tryz.prog 62 #[.agg #[.bool ba,.slice sa na ca,.slice ta ma ea]] w (Ret w (Val (.bool false))):=by
 have Hxa:=lH hxa;have Hv:=lH hv;clear hxa hv
 go_enter Tryz.func62,Tryz.ntmps62
 have HB:=lH (bR_ w.heap.size w)
 go_wp2_with fail
 obtain⟨W1,hW⟩:∃W1,W1=(World.alloc w (.cells #[.bool ba,.slice sa na ca,.slice ta ma ea] 34)):=⟨_,rfl⟩;rw[←hW];obtain⟨xa0,hk,hb⟩:=boxes_1 _ _ _ hW;clear hW;have Hxa:=lH (Sl.keep Hxa.out hk);have Ga0:=lH (show w.heap.size≤w.heap.size from tL_ HB.out.size (by omega));have Xa0:=lH xa0;have HB:=lH (bC HB.out hb);clear hk hb xa0
 (first|(have hcall:=valid_sl Hv.out Hxa.out;refine cM hcall ?_;clear hcall)|refine cM (valid_sl Hv.out Hxa.out) ?_)
 rintro e w2 ⟨v2,rfl,rfl,hb⟩;have Xa0:=lH (xP hb Xa0.out);have HB:=lH (bC HB.out hb);clear hb;obtain⟨ca00,ca01,ca02,fa00,fa01,fa02⟩:=Xa0.out.c3;have la0:=Xa0.out.lt;go_wp2;clear ca00 ca01 ca02 fa00 fa01 fa02 la0
 go_ret
 exact⟨_,rfl,rfl,HB.out⟩
theorem rv_a2 {xs:List Nat}{sa ta:Option Addr}{na ca ma ea:Nat}{w:World}(hv:canon xs=true)(hd0:((ma:Int)==0)=true)(hxa:Sl w (.slice sa na ca) xs):
  Calls Tryz.prog 62 #[.agg #[.bool false,.slice sa na ca,.slice ta ma ea]] w (Ret w (Val (.bool true))):=by
 have Hxa:=lH hxa;have Hv:=lH hv;clear hxa hv
 go_enter Tryz.func62,Tryz.ntmps62
 have HB:=lH (bR_ w.heap.size w)
 go_wp2_with fail
 obtain⟨W1,hW⟩:∃W1,W1=(World.alloc w (.cells #[.bool false,.slice sa na ca,.slice ta ma ea] 34)):=⟨_,rfl⟩;rw[←hW];obtain⟨xa0,hk,hb⟩:=boxes_1 _ _ _ hW;clear hW;have Hxa:=lH (Sl.keep Hxa.out hk);have Ga0:=lH (show w.heap.size≤w.heap.size from tL_ HB.out.size (by omega));have Xa0:=lH xa0;have HB:=lH (bC HB.out hb);clear hk hb xa0
 (first|(have hcall:=valid_sl Hv.out Hxa.out;refine cM hcall ?_;clear hcall)|refine cM (valid_sl Hv.out Hxa.out) ?_)
 rintro e w2 ⟨v2,rfl,rfl,hb⟩;have Xa0:=lH (xP hb Xa0.out);have HB:=lH (bC HB.out hb);clear hb;obtain⟨ca00,ca01,ca02,fa00,fa01,fa02⟩:=Xa0.out.c3;have la0:=Xa0.out.lt;go_wp2;clear ca00 ca01 ca02 fa00 fa01 fa02 la0
 go_ret
 exact⟨_,rfl,rfl,HB.out⟩
theorem rv_a3t {xs:List Nat}{sa ta:Option Addr}{na ca ma ea:Nat}{w:World}(hv:canon xs=true)(hd2:decide (0<na)=true)(hd0:((ma:Int)==0)=true)(hxa:Sl w (.slice sa na ca) xs):
  Calls Tryz.prog 62 #[.agg #[.bool true,.slice sa na ca,.slice ta ma ea]] w (Ret w (Val (.bool true))):=by
 have Hxa:=lH hxa;have Hv:=lH hv;clear hxa hv
 go_enter Tryz.func62,Tryz.ntmps62
 have HB:=lH (bR_ w.heap.size w)
 go_wp2_with fail
 obtain⟨W1,hW⟩:∃W1,W1=(World.alloc w (.cells #[.bool true,.slice sa na ca,.slice ta ma ea] 34)):=⟨_,rfl⟩;rw[←hW];obtain⟨xa0,hk,hb⟩:=boxes_1 _ _ _ hW;clear hW;have Hxa:=lH (Sl.keep Hxa.out hk);have Ga0:=lH (show w.heap.size≤w.heap.size from tL_ HB.out.size (by omega));have Xa0:=lH xa0;have HB:=lH (bC HB.out hb);clear hk hb xa0
 (first|(have hcall:=valid_sl Hv.out Hxa.out;refine cM hcall ?_;clear hcall)|refine cM (valid_sl Hv.out Hxa.out) ?_)
 rintro e w2 ⟨v2,rfl,rfl,hb⟩;have Xa0:=lH (xP hb Xa0.out);have HB:=lH (bC HB.out hb);clear hb;obtain⟨ca00,ca01,ca02,fa00,fa01,fa02⟩:=Xa0.out.c3;have la0:=Xa0.out.lt;go_wp2;clear ca00 ca01 ca02 fa00 fa01 fa02 la0
 go_ret
 exact⟨_,rfl,rfl,HB.out⟩
theorem rv_a3f {xs:List Nat}{sa ta:Option Addr}{na ca ma ea:Nat}{w:World}(hv:canon xs=true)(hd2:decide (0<na)=false)(hd0:((ma:Int)==0)=true)(hxa:Sl w (.slice sa na ca) xs):
  Calls Tryz.prog 62 #[.agg #[.bool true,.slice sa na ca,.slice ta ma ea]] w (Ret w (Val (.bool false))):=by
 have Hxa:=lH hxa;have Hv:=lH hv;clear hxa hv
 go_enter Tryz.func62,Tryz.ntmps62
 have HB:=lH (bR_ w.heap.size w)
 go_wp2_with fail
 obtain⟨W1,hW⟩:∃W1,W1=(World.alloc w (.cells #[.bool true,.slice sa na ca,.slice ta ma ea] 34)):=⟨_,rfl⟩;rw[←hW];obtain⟨xa0,hk,hb⟩:=boxes_1 _ _ _ hW;clear hW;have Hxa:=lH (Sl.keep Hxa.out hk);have Ga0:=lH (show w.heap.size≤w.heap.size from tL_ HB.out.size (by omega));have Xa0:=lH xa0;have HB:=lH (bC HB.out hb);clear hk hb xa0
 (first|(have hcall:=valid_sl Hv.out Hxa.out;refine cM hcall ?_;clear hcall)|refine cM (valid_sl Hv.out Hxa.out) ?_)
 rintro e w2 ⟨v2,rfl,rfl,hb⟩;have Xa0:=lH (xP hb Xa0.out);have HB:=lH (bC HB.out hb);clear hb;obtain⟨ca00,ca01,ca02,fa00,fa01,fa02⟩:=Xa0.out.c3;have la0:=Xa0.out.lt;go_wp2;clear ca00 ca01 ca02 fa00 fa01 fa02 la0
 go_ret
 exact⟨_,rfl,rfl,HB.out⟩
theorem rv_b0 {L:Nat}{q:Rat}{xs ys:List Nat}{ba:Bool}{sa ta:Option Addr}{na ca ma ea:Nat}{w:World}(he1:(ba==decide (q<0))=false)(hd0:((ma:Int)==0)=false)(hxa:Sl w (.slice sa na ca) xs)(hya:Sl w (.slice ta ma ea) ys)(ha:AR q L w (.agg #[.bool ba,.slice sa na ca,.slice ta ma ea]))(hL:L≤100000000):
  Calls Tryz.prog 62 #[.agg #[.bool ba,.slice sa na ca,.slice ta ma ea]] w (Ret w (Val (.bool false))):=by
 have Ha:=lH ha;have Hxa:=lH hxa;have Hya:=lH hya;have He1:=lH he1;clear ha hxa hya he1
 go_enter Tryz.func62,Tryz.ntmps62
 have HB:=lH (bR_ w.heap.size w)
 go_wp2_with fail
 obtain⟨W1,hW⟩:∃W1,W1=(World.alloc w (.cells #[.bool ba,.slice sa na ca,.slice ta ma ea] 34)):=⟨_,rfl⟩;rw[←hW];obtain⟨xa0,hk,hb⟩:=boxes_1 _ _ _ hW;clear hW;have Ha:=lH (AR.keep Ha.out hk);have Ga0:=lH (show w.heap.size≤w.heap.size from tL_ HB.out.size (by omega));have Xa0:=lH xa0;have HB:=lH (bC HB.out hb);clear hk hb xa0
 (first|(have hcall:=canon_ar Ha.out (by omega);refine cM hcall ?_;clear hcall)|refine cM (canon_ar Ha.out (by omega)) ?_)
 rintro e w2 ⟨v2,rfl,hc,hb⟩;obtain⟨c_b,c_a,c_n,c_c,c_d,c_m,c_e,rfl⟩:=hc.litb;have Xa0:=lH (xP hb Xa0.out);have HB:=lH (bC HB.out hb);have Hc:=lH hc;clear hb hc;have d1:(ba==c_b)=false:=by rw[Hc.out.negC];exact He1.out
 obtain⟨ca00,ca01,ca02,fa00,fa01,fa02⟩:=Xa0.out.c3;have la0:=Xa0.out.lt;go_wp2;clear ca00 ca01 ca02 fa00 fa01 fa02 la0;obtain⟨W3,hW⟩:∃W3,W3=(World.alloc w2 (.cells #[.bool c_b,.slice c_a c_n c_c,.slice c_d c_m c_e] 34)):=⟨_,rfl⟩;rw[←hW];obtain⟨xb0,hk,hb⟩:=boxes_1 _ _ _ hW;clear hW;have Na0b0:=lH (show w.heap.size≠w2.heap.size from Nat.ne_of_lt (Nat.lt_of_lt_of_le Xa0.out.lt (by omega)));have Gb0:=lH (show w.heap.size≤w2.heap.size from tL_ HB.out.size (by omega));have Xa0:=lH (xP hb Xa0.out);have Xb0:=lH xb0;have HB:=lH (bC HB.out hb);clear hk hb xb0
 go_ret
 exact⟨_,rfl,rfl,HB.out⟩
theorem rv_b1 {L:Nat}{q:Rat}{xs ys:List Nat}{ba:Bool}{sa ta:Option Addr}{na ca ma ea:Nat}{w:World}(he1:(ba==decide (q<0))=true)(he2:(na==(limbs q.num.natAbs).length)=false)(hd0:((ma:Int)==0)=false)(hxa:Sl w (.slice sa na ca) xs)(hya:Sl w (.slice ta ma ea) ys)(ha:AR q L w (.agg #[.bool ba,.slice sa na ca,.slice ta ma ea]))(hL:L≤100000000):
  Calls Tryz.prog 62 #[.agg #[.bool ba,.slice sa na ca,.slice ta ma ea]] w (Ret w (Val (.bool false))):=by
 have Ha:=lH ha;have Hxa:=lH hxa;have Hya:=lH hya;have He1:=lH he1;have He2:=lH he2;clear ha hxa hya he1 he2
 go_enter Tryz.func62,Tryz.ntmps62
 have HB:=lH (bR_ w.heap.size w)
 go_wp2_with fail
 obtain⟨W1,hW⟩:∃W1,W1=(World.alloc w (.cells #[.bool ba,.slice sa na ca,.slice ta ma ea] 34)):=⟨_,rfl⟩;rw[←hW];obtain⟨xa0,hk,hb⟩:=boxes_1 _ _ _ hW;clear hW;have Ha:=lH (AR.keep Ha.out hk);have Ga0:=lH (show w.heap.size≤w.heap.size from tL_ HB.out.size (by omega));have Xa0:=lH xa0;have HB:=lH (bC HB.out hb);clear hk hb xa0
 (first|(have hcall:=canon_ar Ha.out (by omega);refine cM hcall ?_;clear hcall)|refine cM (canon_ar Ha.out (by omega)) ?_)
 rintro e w2 ⟨v2,rfl,hc,hb⟩;obtain⟨c_b,c_a,c_n,c_c,c_d,c_m,c_e,rfl⟩:=hc.litb;have Xa0:=lH (xP hb Xa0.out);have HB:=lH (bC HB.out hb);have Hc:=lH hc;clear hb hc;have d1:(ba==c_b)=true:=by rw[Hc.out.negC];exact He1.out
 have d2:((na:Int)==(c_n:Int))=false:=eqI Hc.out.numC.1.lenE He2.out;obtain⟨ca00,ca01,ca02,fa00,fa01,fa02⟩:=Xa0.out.c3;have la0:=Xa0.out.lt;go_wp2;clear ca00 ca01 ca02 fa00 fa01 fa02 la0;obtain⟨W3,hW⟩:∃W3,W3=(World.alloc w2 (.cells #[.bool c_b,.slice c_a c_n c_c,.slice c_d c_m c_e] 34)):=⟨_,rfl⟩;rw[←hW];obtain⟨xb0,hk,hb⟩:=boxes_1 _ _ _ hW;clear hW;have Na0b0:=lH (show w.heap.size≠w2.heap.size from Nat.ne_of_lt (Nat.lt_of_lt_of_le Xa0.out.lt (by omega)));have Gb0:=lH (show w.heap.size≤w2.heap.size from tL_ HB.out.size (by omega));have Xa0:=lH (xP hb Xa0.out);have Xb0:=lH xb0;have HB:=lH (bC HB.out hb);clear hk hb xb0
 go_ret
 exact⟨_,rfl,rfl,HB.out⟩
theorem rv_b2 {L:Nat}{q:Rat}{xs ys:List Nat}{ba:Bool}{sa ta:Option Addr}{na ca ma ea:Nat}{w:World}(he1:(ba==decide (q<0))=true)(he2:(na==(limbs q.num.natAbs).length)=true)(he3:(ma==(limbs (dn q)).length)=false)(hd0:((ma:Int)==0)=false)(hxa:Sl w (.slice sa na ca) xs)(hya:Sl w (.slice ta ma ea) ys)(ha:AR q L w (.agg #[.bool ba,.slice sa na ca,.slice ta ma ea]))(hL:L≤100000000):
  Calls Tryz.prog 62 #[.agg #[.bool ba,.slice sa na ca,.slice ta ma ea]] w (Ret w (Val (.bool false))):=by
 have Ha:=lH ha;have Hxa:=lH hxa;have Hya:=lH hya;have He1:=lH he1;have He2:=lH he2;have He3:=lH he3;clear ha hxa hya he1 he2 he3
 go_enter Tryz.func62,Tryz.ntmps62
 have HB:=lH (bR_ w.heap.size w)
 go_wp2_with fail
 obtain⟨W1,hW⟩:∃W1,W1=(World.alloc w (.cells #[.bool ba,.slice sa na ca,.slice ta ma ea] 34)):=⟨_,rfl⟩;rw[←hW];obtain⟨xa0,hk,hb⟩:=boxes_1 _ _ _ hW;clear hW;have Ha:=lH (AR.keep Ha.out hk);have Ga0:=lH (show w.heap.size≤w.heap.size from tL_ HB.out.size (by omega));have Xa0:=lH xa0;have HB:=lH (bC HB.out hb);clear hk hb xa0
 (first|(have hcall:=canon_ar Ha.out (by omega);refine cM hcall ?_;clear hcall)|refine cM (canon_ar Ha.out (by omega)) ?_)
 rintro e w2 ⟨v2,rfl,hc,hb⟩;obtain⟨c_b,c_a,c_n,c_c,c_d,c_m,c_e,rfl⟩:=hc.litb;have Xa0:=lH (xP hb Xa0.out);have HB:=lH (bC HB.out hb);have Hc:=lH hc;clear hb hc;have d1:(ba==c_b)=true:=by rw[Hc.out.negC];exact He1.out
 have d2:((na:Int)==(c_n:Int))=true:=eqI Hc.out.numC.1.lenE He2.out;have d3:((ma:Int)==(c_m:Int))=false:=eqI Hc.out.denC.1.lenE He3.out;obtain⟨ca00,ca01,ca02,fa00,fa01,fa02⟩:=Xa0.out.c3;have la0:=Xa0.out.lt;go_wp2;clear ca00 ca01 ca02 fa00 fa01 fa02 la0;obtain⟨W3,hW⟩:∃W3,W3=(World.alloc w2 (.cells #[.bool c_b,.slice c_a c_n c_c,.slice c_d c_m c_e] 34)):=⟨_,rfl⟩;rw[←hW];obtain⟨xb0,hk,hb⟩:=boxes_1 _ _ _ hW;clear hW;have Na0b0:=lH (show w.heap.size≠w2.heap.size from Nat.ne_of_lt (Nat.lt_of_lt_of_le Xa0.out.lt (by omega)));have Gb0:=lH (show w.heap.size≤w2.heap.size from tL_ HB.out.size (by omega));have Xa0:=lH (xP hb Xa0.out);have Xb0:=lH xb0;have HB:=lH (bC HB.out hb);clear hk hb xb0
 go_ret
 exact⟨_,rfl,rfl,HB.out⟩
theorem rv_b3 {L:Nat}{q:Rat}{xs ys:List Nat}{ba:Bool}{sa ta:Option Addr}{na ca ma ea:Nat}{w:World}(he1:(ba==decide (q<0))=true)(he2:(na==(limbs q.num.natAbs).length)=true)(he3:(ma==(limbs (dn q)).length)=true)(k:Int)(hk:cmpN (val xs) q.num.natAbs=k)(hk0:(k==0)=false)(hd0:((ma:Int)==0)=false)(hxa:Sl w (.slice sa na ca) xs)(hya:Sl w (.slice ta ma ea) ys)(ha:AR q L w (.agg #[.bool ba,.slice sa na ca,.slice ta ma ea]))(hL:L≤100000000):
  Calls Tryz.prog 62 #[.agg #[.bool ba,.slice sa na ca,.slice ta ma ea]] w (Ret w (Val (.bool false))):=by
 have Ha:=lH ha;have Hxa:=lH hxa;have Hya:=lH hya;have He1:=lH he1;have He2:=lH he2;have He3:=lH he3;have Hk:=lH hk;clear ha hxa hya he1 he2 he3 hk
 go_enter Tryz.func62,Tryz.ntmps62
 have HB:=lH (bR_ w.heap.size w)
 go_wp2_with fail
 obtain⟨W1,hW⟩:∃W1,W1=(World.alloc w (.cells #[.bool ba,.slice sa na ca,.slice ta ma ea] 34)):=⟨_,rfl⟩;rw[←hW];obtain⟨xa0,hk,hb⟩:=boxes_1 _ _ _ hW;clear hW;have Ha:=lH (AR.keep Ha.out hk);have Hxa:=lH (Sl.keep Hxa.out hk);have Ga0:=lH (show w.heap.size≤w.heap.size from tL_ HB.out.size (by omega));have Xa0:=lH xa0;have HB:=lH (bC HB.out hb);clear hk hb xa0
 (first|(have hcall:=canon_ar Ha.out (by omega);refine cM hcall ?_;clear hcall)|refine cM (canon_ar Ha.out (by omega)) ?_)
 rintro e w2 ⟨v2,rfl,hc,hb⟩;obtain⟨c_b,c_a,c_n,c_c,c_d,c_m,c_e,rfl⟩:=hc.litb;have Hxa:=lH (Sl.keep Hxa.out (kC hb));have Xa0:=lH (xP hb Xa0.out);have HB:=lH (bC HB.out hb);have Hc:=lH hc;clear hb hc;have d1:(ba==c_b)=true:=by rw[Hc.out.negC];exact He1.out
 have d2:((na:Int)==(c_n:Int))=true:=eqI Hc.out.numC.1.lenE He2.out;have d3:((ma:Int)==(c_m:Int))=true:=eqI Hc.out.denC.1.lenE He3.out;obtain⟨ca00,ca01,ca02,fa00,fa01,fa02⟩:=Xa0.out.c3;have la0:=Xa0.out.lt
 go_wp2_with fail
 clear ca00 ca01 ca02 fa00 fa01 fa02 la0;obtain⟨W3,hW⟩:∃W3,W3=(World.alloc w2 (.cells #[.bool c_b,.slice c_a c_n c_c,.slice c_d c_m c_e] 34)):=⟨_,rfl⟩;rw[←hW];obtain⟨xb0,hk,hb⟩:=boxes_1 _ _ _ hW;clear hW;have Hxa:=lH (Sl.keep Hxa.out hk);have Hc:=lH (CR.keep Hc.out hk);have Na0b0:=lH (show w.heap.size≠w2.heap.size from Nat.ne_of_lt (Nat.lt_of_lt_of_le Xa0.out.lt (by omega)));have Gb0:=lH (show w.heap.size≤w2.heap.size from tL_ HB.out.size (by omega));have Xa0:=lH (xP hb Xa0.out);have Xb0:=lH xb0;have HB:=lH (bC HB.out hb);clear hk hb xb0
 (first|(have hcall:=cmp_slc k Hk.out Hxa.out Hc.out.numC;refine cM hcall ?_;clear hcall)|refine cM (cmp_slc k Hk.out Hxa.out Hc.out.numC) ?_)
 rintro e w4 ⟨v4,rfl,⟨⟩,hb⟩;have Xa0:=lH (xP hb Xa0.out);have Xb0:=lH (xP hb Xb0.out);have HB:=lH (bC HB.out hb);clear hb;obtain⟨ca00,ca01,ca02,fa00,fa01,fa02⟩:=Xa0.out.c3;have la0:=Xa0.out.lt;obtain⟨cb00,cb01,cb02,fb00,fb01,fb02⟩:=Xb0.out.c3;have lb0:=Xb0.out.lt;go_wp2;clear ca00 ca01 ca02 fa00 fa01 fa02 la0 cb00 cb01 cb02 fb00 fb01 fb02 lb0
 go_ret
 exact⟨_,rfl,rfl,HB.out⟩
theorem rv_b4 {L:Nat}{q:Rat}{xs ys:List Nat}{ba:Bool}{sa ta:Option Addr}{na ca ma ea:Nat}{w:World}(he1:(ba==decide (q<0))=true)(he2:(na==(limbs q.num.natAbs).length)=true)(he3:(ma==(limbs (dn q)).length)=true)(hk:cmpN (val xs) q.num.natAbs=0)(m:Int)(hm:cmpN (val ys) (dn q)=m)(hm0:(m==0)=false)(hd0:((ma:Int)==0)=false)(hxa:Sl w (.slice sa na ca) xs)(hya:Sl w (.slice ta ma ea) ys)(ha:AR q L w (.agg #[.bool ba,.slice sa na ca,.slice ta ma ea]))(hL:L≤100000000):
  Calls Tryz.prog 62 #[.agg #[.bool ba,.slice sa na ca,.slice ta ma ea]] w (Ret w (Val (.bool false))):=by
 have Ha:=lH ha;have Hxa:=lH hxa;have Hya:=lH hya;have He1:=lH he1;have He2:=lH he2;have He3:=lH he3;have Hk:=lH hk;have Hm:=lH hm;clear ha hxa hya he1 he2 he3 hk hm
 go_enter Tryz.func62,Tryz.ntmps62
 have HB:=lH (bR_ w.heap.size w)
 go_wp2_with fail
 obtain⟨W1,hW⟩:∃W1,W1=(World.alloc w (.cells #[.bool ba,.slice sa na ca,.slice ta ma ea] 34)):=⟨_,rfl⟩;rw[←hW];obtain⟨xa0,hk,hb⟩:=boxes_1 _ _ _ hW;clear hW;have Ha:=lH (AR.keep Ha.out hk);have Hxa:=lH (Sl.keep Hxa.out hk);have Hya:=lH (Sl.keep Hya.out hk);have Ga0:=lH (show w.heap.size≤w.heap.size from tL_ HB.out.size (by omega));have Xa0:=lH xa0;have HB:=lH (bC HB.out hb);clear hk hb xa0
 (first|(have hcall:=canon_ar Ha.out (by omega);refine cM hcall ?_;clear hcall)|refine cM (canon_ar Ha.out (by omega)) ?_)
 rintro e w2 ⟨v2,rfl,hc,hb⟩;obtain⟨c_b,c_a,c_n,c_c,c_d,c_m,c_e,rfl⟩:=hc.litb;have Hxa:=lH (Sl.keep Hxa.out (kC hb));have Hya:=lH (Sl.keep Hya.out (kC hb));have Xa0:=lH (xP hb Xa0.out);have HB:=lH (bC HB.out hb);have Hc:=lH hc;clear hb hc;have d1:(ba==c_b)=true:=by rw[Hc.out.negC];exact He1.out
 have d2:((na:Int)==(c_n:Int))=true:=eqI Hc.out.numC.1.lenE He2.out;have d3:((ma:Int)==(c_m:Int))=true:=eqI Hc.out.denC.1.lenE He3.out;obtain⟨ca00,ca01,ca02,fa00,fa01,fa02⟩:=Xa0.out.c3;have la0:=Xa0.out.lt
 go_wp2_with fail
 clear ca00 ca01 ca02 fa00 fa01 fa02 la0;obtain⟨W3,hW⟩:∃W3,W3=(World.alloc w2 (.cells #[.bool c_b,.slice c_a c_n c_c,.slice c_d c_m c_e] 34)):=⟨_,rfl⟩;rw[←hW];obtain⟨xb0,hk,hb⟩:=boxes_1 _ _ _ hW;clear hW;have Hxa:=lH (Sl.keep Hxa.out hk);have Hya:=lH (Sl.keep Hya.out hk);have Hc:=lH (CR.keep Hc.out hk);have Na0b0:=lH (show w.heap.size≠w2.heap.size from Nat.ne_of_lt (Nat.lt_of_lt_of_le Xa0.out.lt (by omega)));have Gb0:=lH (show w.heap.size≤w2.heap.size from tL_ HB.out.size (by omega));have Xa0:=lH (xP hb Xa0.out);have Xb0:=lH xb0;have HB:=lH (bC HB.out hb);clear hk hb xb0
 (first|(have hcall:=cmp_slc 0 Hk.out Hxa.out Hc.out.numC;refine cM hcall ?_;clear hcall)|refine cM (cmp_slc 0 Hk.out Hxa.out Hc.out.numC) ?_)
 rintro e w4 ⟨v4,rfl,rfl,hb⟩;have Hya:=lH (Sl.keep Hya.out (kC hb));have Hc:=lH (CR.keep Hc.out (kC hb));have Xa0:=lH (xP hb Xa0.out);have Xb0:=lH (xP hb Xb0.out);have HB:=lH (bC HB.out hb);clear hb;obtain⟨ca00,ca01,ca02,fa00,fa01,fa02⟩:=Xa0.out.c3;have la0:=Xa0.out.lt;obtain⟨cb00,cb01,cb02,fb00,fb01,fb02⟩:=Xb0.out.c3;have lb0:=Xb0.out.lt
 go_wp2_with fail
 clear ca00 ca01 ca02 fa00 fa01 fa02 la0 cb00 cb01 cb02 fb00 fb01 fb02 lb0
 (first|(have hcall:=cmp_slc m Hm.out Hya.out Hc.out.denC;refine cM hcall ?_;clear hcall)|refine cM (cmp_slc m Hm.out Hya.out Hc.out.denC) ?_)
 rintro e w5 ⟨v5,rfl,⟨⟩,hb⟩;have Xa0:=lH (xP hb Xa0.out);have Xb0:=lH (xP hb Xb0.out);have HB:=lH (bC HB.out hb);clear hb;obtain⟨ca00,ca01,ca02,fa00,fa01,fa02⟩:=Xa0.out.c3;have la0:=Xa0.out.lt;obtain⟨cb00,cb01,cb02,fb00,fb01,fb02⟩:=Xb0.out.c3;have lb0:=Xb0.out.lt;go_wp2;clear ca00 ca01 ca02 fa00 fa01 fa02 la0 cb00 cb01 cb02 fb00 fb01 fb02 lb0
 go_ret
 exact⟨_,rfl,rfl,HB.out⟩
theorem rv_b5 {L:Nat}{q:Rat}{xs ys:List Nat}{ba:Bool}{sa ta:Option Addr}{na ca ma ea:Nat}{w:World}(he1:(ba==decide (q<0))=true)(he2:(na==(limbs q.num.natAbs).length)=true)(he3:(ma==(limbs (dn q)).length)=true)(hk:cmpN (val xs) q.num.natAbs=0)(hm:cmpN (val ys) (dn q)=0)(hd0:((ma:Int)==0)=false)(hxa:Sl w (.slice sa na ca) xs)(hya:Sl w (.slice ta ma ea) ys)(ha:AR q L w (.agg #[.bool ba,.slice sa na ca,.slice ta ma ea]))(hL:L≤100000000):
  Calls Tryz.prog 62 #[.agg #[.bool ba,.slice sa na ca,.slice ta ma ea]] w (Ret w (Val (.bool true))):=by
 have Ha:=lH ha;have Hxa:=lH hxa;have Hya:=lH hya;have He1:=lH he1;have He2:=lH he2;have He3:=lH he3;have Hk:=lH hk;have Hm:=lH hm;clear ha hxa hya he1 he2 he3 hk hm
 go_enter Tryz.func62,Tryz.ntmps62
 have HB:=lH (bR_ w.heap.size w)
 go_wp2_with fail
 obtain⟨W1,hW⟩:∃W1,W1=(World.alloc w (.cells #[.bool ba,.slice sa na ca,.slice ta ma ea] 34)):=⟨_,rfl⟩;rw[←hW];obtain⟨xa0,hk,hb⟩:=boxes_1 _ _ _ hW;clear hW;have Ha:=lH (AR.keep Ha.out hk);have Hxa:=lH (Sl.keep Hxa.out hk);have Hya:=lH (Sl.keep Hya.out hk);have Ga0:=lH (show w.heap.size≤w.heap.size from tL_ HB.out.size (by omega));have Xa0:=lH xa0;have HB:=lH (bC HB.out hb);clear hk hb xa0
 (first|(have hcall:=canon_ar Ha.out (by omega);refine cM hcall ?_;clear hcall)|refine cM (canon_ar Ha.out (by omega)) ?_)
 rintro e w2 ⟨v2,rfl,hc,hb⟩;obtain⟨c_b,c_a,c_n,c_c,c_d,c_m,c_e,rfl⟩:=hc.litb;have Hxa:=lH (Sl.keep Hxa.out (kC hb));have Hya:=lH (Sl.keep Hya.out (kC hb));have Xa0:=lH (xP hb Xa0.out);have HB:=lH (bC HB.out hb);have Hc:=lH hc;clear hb hc;have d1:(ba==c_b)=true:=by rw[Hc.out.negC];exact He1.out
 have d2:((na:Int)==(c_n:Int))=true:=eqI Hc.out.numC.1.lenE He2.out;have d3:((ma:Int)==(c_m:Int))=true:=eqI Hc.out.denC.1.lenE He3.out;obtain⟨ca00,ca01,ca02,fa00,fa01,fa02⟩:=Xa0.out.c3;have la0:=Xa0.out.lt
 go_wp2_with fail
 clear ca00 ca01 ca02 fa00 fa01 fa02 la0;obtain⟨W3,hW⟩:∃W3,W3=(World.alloc w2 (.cells #[.bool c_b,.slice c_a c_n c_c,.slice c_d c_m c_e] 34)):=⟨_,rfl⟩;rw[←hW];obtain⟨xb0,hk,hb⟩:=boxes_1 _ _ _ hW;clear hW;have Hxa:=lH (Sl.keep Hxa.out hk);have Hya:=lH (Sl.keep Hya.out hk);have Hc:=lH (CR.keep Hc.out hk);have Na0b0:=lH (show w.heap.size≠w2.heap.size from Nat.ne_of_lt (Nat.lt_of_lt_of_le Xa0.out.lt (by omega)));have Gb0:=lH (show w.heap.size≤w2.heap.size from tL_ HB.out.size (by omega));have Xa0:=lH (xP hb Xa0.out);have Xb0:=lH xb0;have HB:=lH (bC HB.out hb);clear hk hb xb0
 (first|(have hcall:=cmp_slc 0 Hk.out Hxa.out Hc.out.numC;refine cM hcall ?_;clear hcall)|refine cM (cmp_slc 0 Hk.out Hxa.out Hc.out.numC) ?_)
 rintro e w4 ⟨v4,rfl,rfl,hb⟩;have Hya:=lH (Sl.keep Hya.out (kC hb));have Hc:=lH (CR.keep Hc.out (kC hb));have Xa0:=lH (xP hb Xa0.out);have Xb0:=lH (xP hb Xb0.out);have HB:=lH (bC HB.out hb);clear hb;obtain⟨ca00,ca01,ca02,fa00,fa01,fa02⟩:=Xa0.out.c3;have la0:=Xa0.out.lt;obtain⟨cb00,cb01,cb02,fb00,fb01,fb02⟩:=Xb0.out.c3;have lb0:=Xb0.out.lt
 go_wp2_with fail
 clear ca00 ca01 ca02 fa00 fa01 fa02 la0 cb00 cb01 cb02 fb00 fb01 fb02 lb0
 (first|(have hcall:=cmp_slc 0 Hm.out Hya.out Hc.out.denC;refine cM hcall ?_;clear hcall)|refine cM (cmp_slc 0 Hm.out Hya.out Hc.out.denC) ?_)
 rintro e w5 ⟨v5,rfl,rfl,hb⟩;have Xa0:=lH (xP hb Xa0.out);have Xb0:=lH (xP hb Xb0.out);have HB:=lH (bC HB.out hb);clear hb;obtain⟨ca00,ca01,ca02,fa00,fa01,fa02⟩:=Xa0.out.c3;have la0:=Xa0.out.lt;obtain⟨cb00,cb01,cb02,fb00,fb01,fb02⟩:=Xb0.out.c3;have lb0:=Xb0.out.lt;go_wp2;clear ca00 ca01 ca02 fa00 fa01 fa02 la0 cb00 cb01 cb02 fb00 fb01 fb02 lb0
 go_ret
 exact⟨_,rfl,rfl,HB.out⟩
theorem rvalid_v {B ba:Bool}{sa ta:Option Addr}{na ca ma ea:Nat}{xs ys:List Nat}{L:Nat}{w:World}(hB:vB ba xs ys (rv ba (val xs) (val ys))=B)(h:Sl w (.slice sa na ca) xs)(h':Sl w (.slice ta ma ea) ys)(hl:xs.length≤L)(hl':ys.length≤L)(hL:L≤100000000):
  Calls Tryz.prog 62 #[.agg #[.bool ba,.slice sa na ca,.slice ta ma ea]] w (Ret w (Val (.bool B))):=by
 have n1:=h.lenE;have n2:=h'.lenE;have ha:AR (rv ba (val xs) (val ys)) L w (.agg #[.bool ba,.slice sa na ca,.slice ta ma ea]):=AR.mk ⟨xs,h,rfl,hl⟩ ⟨ys,h',rfl,hl'⟩;subst hB;rcases eP_ ma with hm|hm
 ·have hy:ys=[]:=List.length_eq_zero_iff.1 (by omega);subst hy;have hd:((ma:Int)==0)=true:=by simp[hm]
  rw[show val []=0 from rfl,vB_nil h.lims,←n1]
  cases hc:canon xs
  ·exact rv_a1 hc hd h
  ·cases ba
   ·exact rv_a2 hc hd h
   ·cases hn:decide (0<na)
    ·exact rv_a3f hc hn hd h
    ·exact rv_a3t hc hn hd h
 ·have hd:((ma:Int)==0)=false:=by rw[beq_eq_false_iff_ne];omega
  generalize rv ba (val xs) (val ys)=q at *
  unfold vB;rw[same_parts h.lims,same_parts h'.lims,←n1,←n2]
  cases e1:(ba==decide (q<0))
  ·exact rv_b0 e1 hd h h' ha hL
  cases e2:(na==(limbs q.num.natAbs).length)
  ·exact rv_b1 e1 e2 hd h h' ha hL
  cases e3:(ma==(limbs (dn q)).length)
  ·have:∀x,(true&&(true&&x)&&(false&&(cmpN (val ys) (dn q)==0)))=false:=by intro x;cases x<;>rfl
   rw[this];exact rv_b2 e1 e2 e3 hd h h' ha hL
  by_cases k:cmpN (val xs) q.num.natAbs=0
  ·by_cases m:cmpN (val ys) (dn q)=0
   ·rw[k,m];exact rv_b5 e1 e2 e3 k m hd h h' ha hL
   ·rw[k,show(cmpN (val ys) (dn q)==0)=false from beq_eq_false_iff_ne.2 m];exact rv_b4 e1 e2 e3 k _ rfl (beq_eq_false_iff_ne.2 m) hd h h' ha hL
  ·rw[show(cmpN (val xs) q.num.natAbs==0)=false from beq_eq_false_iff_ne.2 k];exact rv_b3 e1 e2 e3 _ rfl (beq_eq_false_iff_ne.2 k) hd h h' ha hL
end Go.Proofs.YtcnebhohjghngaaGreatDoor
namespace Go.Proofs.YtcnebhohjghngaaGreatDoor.Lf
open Go.RowKit Nt
abbrev rawV (b:Bool)(xs ys:List Nat):V:= .agg [.d (.lit (.bool b)),.d (.lm xs),.d (.lm ys)]
abbrev ratV (q:Rat):V:=rawV (decide (q<0)) (limbs q.num.natAbs) (limbs (dn q))
def RQ (x:V)(q:Rat):Prop:=∃b xs ys,WkV x (rawV b xs ys)∧rv b (val xs) (val ys)=q∧xs.length≤100000000∧ys.length≤100000000
def Bt (k:Nat)(q:Rat):Prop:=q.num.natAbs≤2^k∧q.den≤2^k
theorem sz_pow2 {n k:Nat}(h:n≤2^k):sz n≤k/32+1:=by
 refine sz_le (Nat.lt_of_le_of_lt h ?_);rw[show 4294967296=2^32 from rfl,←Nat.pow_mul];exact Nat.pow_lt_pow_right (by decide) (by omega)
theorem Bt.sm {k:Nat}{q:Rat}(h:Bt k q)(hk:k≤3000000000):Sm 100000000 q:=⟨tL_ (sz_pow2 h.1) (by omega),tL_ (sz_pow2 h.2) (by omega)⟩
theorem RQ.can {k:Nat}{q:Rat}(h:Bt k q)(hk:k≤3000000000):RQ (ratV q) q:=by
 refine⟨_,_,_,vR_ _,?_,(h.sm hk).1,(h.sm hk).dn⟩;rw[val_limbs,val_limbs];exact rv_self q
theorem RQ.raw {b:Bool}{xs ys:List Nat}{q:Rat}(h:rv b (val xs) (val ys)=q)(h1:xs.length≤100000000)(h2:ys.length≤100000000):RQ (rawV b xs ys) q:=⟨_,_,_,vR_ _,h,h1,h2⟩
theorem rv_zero:rv false (val []) (val [])=0:=by decide
theorem RQ.abs {k:Nat}{q:Rat}(h:Bt k q)(hk:k≤3000000000):RQ (rawV false (limbs q.num.natAbs) (limbs (dn q))) (mkRat q.num.natAbs q.den):=by
 refine .raw ?_ (h.sm hk).1 (h.sm hk).dn;rw[val_limbs,val_limbs];unfold rv;rw[un_dn];rfl
section
variable {γ:Gh} {h:Hp} {M:MS} {w:World} {x y z:V} {a b:Rat} {u v r:Value}
theorem rdV_raw {b:Bool}{xs ys:List Nat}(k:RdV γ h M w (rawV b xs ys) r):∃s t,r= .agg #[.bool b,s,t]∧Sl w s xs∧Sl w t ys:=by
 obtain⟨vs,rfl,h1⟩:=k
 match vs,h1 with
 |[p,s,t],h1=>exact⟨s,t,by rw[show p= .bool b from lit_inv h1.1],rd_sl h1.2.1,rd_sl h1.2.2.1⟩
 |[],h1=>exact h1.elim
 |[_],h1=>exact h1.2.elim
 |[_,_],h1=>exact h1.2.2.elim
 |_::_::_::_::_,h1=>exact h1.2.2.2.elim
theorem RQ.ar (hx:RQ x a)(k:RdV γ h M w x r):AR a 100000000 w r:=by
 obtain⟨b,xs,ys,h1,h2,h3,h4⟩:=hx;obtain⟨s,t,rfl,k1,k2⟩:=rdV_raw (h1 _ _ _ _ _ k);exact⟨b,s,t,_,_,rfl,⟨xs,k1,rfl,h3⟩,⟨ys,k2,rfl,h4⟩,h2⟩
theorem CR.ov {L:Nat}(k:CR a L w r):OV w (ratV a) r:=by
 obtain⟨⟨s,t,rfl,h1,h2⟩,_⟩:=k;exact⟨[_,s,t],rfl,rfl,h1,h2,trivial⟩
theorem Val.ov {u:Value}(k:Val u w r):OV w (vl u) r:=k
theorem CRE.ov {L:Nat}{e:Int}(k:CRE a L e w r):OV w (.tup [.g [.d (.lit (.bool (decide (a<0)))),.d (.lm (limbs a.num.natAbs)),.d (.lm (limbs (dn a)))],.s (.d (.lit (.int .i64 e)))]) r:=by
 obtain⟨v,rfl,k⟩:=k;exact⟨[v,_],rfl,CR.ov k,rfl,trivial⟩
theorem all2_1 {R:V→Value→Prop}{rs:List Value}(k:All2 R [x] rs):∃r,rs=[r]∧R x r:=by
 match rs,k with
 |[r],k=>exact⟨r,rfl,k.1⟩
 |[],k=>exact k.elim
 |_::_::_,k=>exact k.2.elim
theorem all2_2 {R:V→Value→Prop}{rs:List Value}(k:All2 R [x,y] rs):∃r s,rs=[r,s]∧R x r∧R y s:=by
 match rs,k with
 |[r,s],k=>exact⟨r,s,rfl,k.1,k.2.1⟩
 |[],k=>exact k.elim
 |[_],k=>exact k.2.elim
 |_::_::_::_,k=>exact k.2.2.elim
end
theorem mix:Tryz.prog.follows .mixedOrders=true:=by rfl
theorem Calls.ret {P:Program}{f:FuncId}{args:Array Value}{w:World}{R R':World→Value→Prop}(h:Calls P f args w (Ret w R))(k:∀w' v,R w' v→R' w' v):Calls P f args w (Ret w R'):=
 cM h fun e w' ⟨v,h1,h2,h3⟩=>⟨v,h1,k _ _ h2,h3⟩
section
variable {x y:V} {a b:Rat}
theorem lx_rneg (hx:RQ x a):LV Tryz.prog 54 [x] (ratV (-a)):=lv_of fun γ M w rs ha=>by
 obtain⟨r,rfl,k⟩:=all2_1 ha;exact Calls.ret (rneg_ar (hx.ar k) (lR_ _)) fun _ _=>CR.ov
theorem lx_rcanon (hx:RQ x a):LV Tryz.prog 86 [x] (ratV a):=lv_of fun γ M w rs ha=>by
 obtain⟨r,rfl,k⟩:=all2_1 ha;exact Calls.ret (canon_ar (hx.ar k) (lR_ _)) fun _ _=>CR.ov
theorem lx_rsign (hx:RQ x a):LV Tryz.prog 80 [x] (vl (.int .i64 a.num.sign)):=lv_of fun γ M w rs ha=>by
 obtain⟨r,rfl,k⟩:=all2_1 ha;exact Calls.ret (rsign_ar _ (hx.ar k) rfl (lR_ _)) fun _ _=>Val.ov
theorem lx_radd (hx:RQ x a)(hy:RQ y b):LV Tryz.prog 115 [x,y] (ratV (a+b)):=lv_of fun γ M w rs ha=>by
 obtain⟨r,s,rfl,k,k2⟩:=all2_2 ha;exact Calls.ret (radd_ar (hx.ar k) (hy.ar k2) (lR_ _) (lR_ _)) fun _ _=>CR.ov
theorem lx_rsub (hx:RQ x a)(hy:RQ y b):LV Tryz.prog 179 [x,y] (ratV (a-b)):=lv_of fun γ M w rs ha=>by
 obtain⟨r,s,rfl,k,k2⟩:=all2_2 ha;exact Calls.ret (rsub_ar (hx.ar k) (hy.ar k2) (lR_ _) (lR_ _)) fun _ _=>CR.ov
theorem lx_rmul (hx:RQ x a)(hy:RQ y b):LV Tryz.prog 116 [x,y] (ratV (a*b)):=lv_of fun γ M w rs ha=>by
 obtain⟨r,s,rfl,k,k2⟩:=all2_2 ha;exact Calls.ret (rmul_ar (hx.ar k) (hy.ar k2) (lR_ _) (lR_ _)) fun _ _=>CR.ov
theorem lx_rmax (hx:RQ x a)(hy:RQ y b):LV Tryz.prog 202 [x,y] (ratV (if b≤a then a else b)):=lv_of fun γ M w rs ha=>by
 obtain⟨r,s,rfl,k,k2⟩:=all2_2 ha;exact Calls.ret (rmax_ar (hx.ar k) (hy.ar k2) (lR_ _) (lR_ _)) fun _ _=>CR.ov
theorem lx_rcmp (hx:RQ x a)(hy:RQ y b):LV Tryz.prog 56 [x,y] (vl (.int .i64 (cmpQ a b))):=lv_of fun γ M w rs ha=>by
 obtain⟨r,s,rfl,k,k2⟩:=all2_2 ha;exact Calls.ret (rcmp_ar _ (hx.ar k) (hy.ar k2) rfl (lR_ _) (lR_ _)) fun _ _=>Val.ov
theorem lx_zneg (hx:RQ x a):LV Tryz.prog 13 [x] (ratV (-a)):=lv_of fun γ M w rs ha=>by
 obtain⟨r,rfl,k⟩:=all2_1 ha;exact Calls.ret (zneg_ar (hx.ar k) (lR_ _)) fun _ _=>CR.ov
theorem lx_zcanon (hx:RQ x a):LV Tryz.prog 40 [x] (ratV a):=lv_of fun γ M w rs ha=>by
 obtain⟨r,rfl,k⟩:=all2_1 ha;exact Calls.ret (zcanon_ar (hx.ar k) (lR_ _)) fun _ _=>CR.ov
theorem lx_zsign (hx:RQ x a):LV Tryz.prog 38 [x] (vl (.int .i64 a.num.sign)):=lv_of fun γ M w rs ha=>by
 obtain⟨r,rfl,k⟩:=all2_1 ha;exact Calls.ret (zsign_ar _ (hx.ar k) rfl) fun _ _=>Val.ov
theorem lx_zadd (hx:RQ x a)(hy:RQ y b):LV Tryz.prog 77 [x,y] (ratV (a+b)):=lv_of fun γ M w rs ha=>by
 obtain⟨r,s,rfl,k,k2⟩:=all2_2 ha;exact Calls.ret (zadd_ar (hx.ar k) (hy.ar k2) (lR_ _) (lR_ _)) fun _ _=>CR.ov
theorem lx_zmul (hx:RQ x a)(hy:RQ y b):LV Tryz.prog 35 [x,y] (ratV (a*b)):=lv_of fun γ M w rs ha=>by
 obtain⟨r,s,rfl,k,k2⟩:=all2_2 ha;exact Calls.ret (zmul_ar (hx.ar k) (hy.ar k2) (lR_ _) (lR_ _)) fun _ _=>CR.ov
theorem lx_zcmp (hx:RQ x a)(hy:RQ y b):LV Tryz.prog 12 [x,y] (vl (.int .i64 (cmpQ a b))):=lv_of fun γ M w rs ha=>by
 obtain⟨r,s,rfl,k,k2⟩:=all2_2 ha;exact Calls.ret (zcmp_ar _ (hx.ar k) (hy.ar k2) rfl (lR_ _) (lR_ _)) fun _ _=>Val.ov
theorem lx_rof {z:Int}(h1: -9223372036854775808≤z)(h2:z<9223372036854775808):LV Tryz.prog 53 [vl (.int .i64 z)] (ratV (z:Rat)):=lv_of fun γ M w rs ha=>by
 obtain⟨r,rfl,k⟩:=all2_1 ha;rw[show r= .int .i64 z from lit_inv k];exact Calls.ret (of_rat h1 h2) fun _ _=>CR.ov
theorem lx_zof {z:Int}(h1: -9223372036854775808≤z)(h2:z<9223372036854775808):LV Tryz.prog 11 [vl (.int .i64 z)] (ratV (z:Rat)):=lv_of fun γ M w rs ha=>by
 obtain⟨r,rfl,k⟩:=all2_1 ha;rw[show r= .int .i64 z from lit_inv k];exact Calls.ret (zof h1 h2) fun _ _=>CR.ov
theorem lx_zfrac {y z:Int}(h1: -9223372036854775808≤y)(h2:y<9223372036854775808)(h3: -9223372036854775808≤z)(h4:z<9223372036854775808)(hz:z≠0):
  LV Tryz.prog 106 [vl (.int .i64 y),vl (.int .i64 z)] (.tup [.g [.d (.lit (.bool (decide ((y:Rat)/z<0)))),.d (.lm (limbs ((y:Rat)/z).num.natAbs)),.d (.lm (limbs (dn ((y:Rat)/z))))],.s (.d (.lit (.int .i64 0)))]):=lv_of fun γ M w rs ha=>by
 obtain⟨r,s,rfl,k,k'⟩:=all2_2 ha;rw[show r= .int .i64 y from lit_inv k,show s= .int .i64 z from lit_inv k'];exact Calls.ret (zfrac_1 h1 h2 h3 h4 hz) fun _ _=>CRE.ov
theorem lx_rdiv (h0:b≠0)(hx:RQ x a)(hy:RQ y b):LV Tryz.prog 215 [x,y] (.tup [.g [.d (.lit (.bool (decide (a/b<0)))),.d (.lm (limbs (a/b).num.natAbs)),.d (.lm (limbs (dn (a/b))))],.s (.d (.lit (.int .i64 0)))]):=lv_of fun γ M w rs ha=>by
 obtain⟨r,s,rfl,k,k'⟩:=all2_2 ha;exact Calls.ret (rdiv_ar h0 (hx.ar k) (hy.ar k') (lR_ _) (lR_ _)) fun _ _=>CRE.ov
theorem lx_rvalid {c:Bool}{xs ys:List Nat}(h1:xs.length≤100000000)(h2:ys.length≤100000000):LV Tryz.prog 62 [rawV c xs ys] (vl (.bool (vB c xs ys (rv c (val xs) (val ys))))):=lv_of fun γ M w rs ha=>by
 obtain⟨r,rfl,k⟩:=all2_1 ha;obtain⟨s,t,rfl,k1,k2⟩:=rdV_raw k;obtain⟨s1,s2,s3,rfl⟩:=k1.lit;obtain⟨t1,t2,t3,rfl⟩:=k2.lit;exact Calls.ret (rvalid_v rfl k1 k2 h1 h2 (lR_ _)) fun _ _=>Val.ov
theorem lx_zvalid {c:Bool}{xs ys:List Nat}(h1:xs.length≤100000000)(h2:ys.length≤100000000):LV Tryz.prog 157 [rawV c xs ys] (vl (.bool (vB c xs ys (rv c (val xs) (val ys))))):=lv_of fun γ M w rs ha=>by
 obtain⟨r,rfl,k⟩:=all2_1 ha;obtain⟨s,t,rfl,k1,k2⟩:=rdV_raw k;have k3:=(RQ.raw (b:=c) rfl h1 h2).ar k;obtain⟨s1,s2,s3,rfl⟩:=k1.lit;obtain⟨t1,t2,t3,rfl⟩:=k2.lit;exact Calls.ret (zvalid_p rfl k1 k2 k3 (lR_ _)) fun _ _=>Val.ov
theorem lx_zsame {c:Bool}{xs ys:List Nat}{k:Nat}(hb:Bt k b)(hk:k≤3000000000):LV Tryz.prog 17 [rawV c xs ys,ratV b] (vl (.bool (vB c xs ys b))):=lv_of fun γ M w rs ha=>by
 obtain⟨r,s,rfl,k1,k2⟩:=all2_2 ha;obtain⟨s,t,rfl,k3,k4⟩:=rdV_raw k1;obtain⟨s',t',rfl,k5,k6⟩:=rdV_raw k2;exact Calls.ret (zsame_v (L:=100000000) rfl k3 k4 ⟨⟨_,_,rfl,k5,k6⟩,hb.sm hk⟩) fun _ _=>Val.ov
end
theorem Wk.go {m:Nat}{s s':St}(h1:subT s.T s'.H s'.T:=by(repeat' first|exact trivial|exact vR_ _|exact WkV.int (wr64 (by omega) (by omega))|exact WkV.int (by simp)|refine⟨⟨_,rfl,?_,rfl⟩,?_⟩))
  (h2:subH s.H s'.H s'.H:=by(repeat' first|exact trivial|exact wke_refl _|refine⟨⟨_,rfl,?_,rfl⟩,?_⟩)) (h3:subM m s.H s'.H=true:=by rfl):Wk m s s':=Wk.of h1 h2 h3
def okF (ks:List Nat)(n:Nat)(gs:List V)(H H1:List (Nat×Ent)):Bool:=
 decide ks.Nodup&&ks.all (fun k=>Nat.blt k n)&&(gs.flatMap keysV).all (fun k=>ks.contains k)&&H1.all (fun p=>noKeys p.2&&(Nat.blt p.1 ks.length||(look H (back ks n p.1)).isNone))
section
variable {P:Program} {F:FuncId} {vs gs:List V} {H:List (Nat×Ent)} {n:Nat} {K:V→List (Nat×Ent)→List Nat→Nat→Prop} {v:V} {R:V→Prop}
theorem Cn.c (hc:LV P F (vs.map stripV) v)(hk:fX v fun v=>K v [] [] n)(he:entT P F=true:=by rfl)(hg:((vs.map stripV).flatMap keysV).isEmpty=true:=by rfl)(hv:(keysV v).isEmpty=true:=by rfl):Cn P F vs H n K:= .val hc he hg hv hk
theorem Cn.l {Hs H1:List (Nat×Ent)}(ks:List Nat)(hc:LX P F ((vs.map stripV).map (renV fun k=>ks.idxOf k)) Hs fun v' H'=>v'=v∧H'=H1)
  (hk:fX (renV (back ks n) v) fun v=>fHs (H1.map fun p=>(back ks n p.1,p.2)) fun sets=>K v sets (ks++H1.map fun p=>back ks n p.1) (n+H1.length)) (he:entT P F=true:=by rfl)
  (hl:lendFrom (look H) 0 ks=some Hs:=by rfl) (hok:okF ks n (vs.map stripV) H H1=true:=by rfl):Cn P F vs H n K:=by
 unfold okF at hok;simp only[Bool.and_eq_true,Bool.or_eq_true,decide_eq_true_eq,List.all_eq_true,Nat.blt_eq,List.contains_eq_mem]at hok;obtain⟨⟨⟨o1,o2⟩,o3⟩,o4⟩:=hok;refine .lend ks _ Hs _ he hc (strips_ok vs) o1 o2 hl o3 fun v' H1' hR=> ?_;obtain⟨rfl,rfl⟩:=hR;exact⟨List.all_eq_true.2 fun p hp=>(o4 p hp).1,fun p hp hle=>(o4 p hp).2.elim (fun h=>absurd h (by omega)) fun h=>by simpa using h,hk⟩
theorem Rt.q {m:Nat}{R:V→List (Nat×Ent)→Prop}(hR:R v [])(hi:(keysV v).isEmpty=true:=by rfl)(hm:m=0:=by rfl):Rt m H v R:=by
 subst hm;exact⟨v,[],hR,vR_ v,by simp[inH,List.isEmpty_iff.1 hi],trivial,rfl⟩
theorem Rt.s {m:Nat}{R:V→List (Nat×Ent)→Prop}(hR:R (stripV v) [])(hi:(keysV (stripV v)).isEmpty=true:=by rfl)(hm:m=0:=by rfl):Rt m H v R:=by
 subst hm;exact⟨_,[],hR,stripV_ok v,by simp[inH,List.isEmpty_iff.1 hi],trivial,rfl⟩
end
structure Rw where
 b:Bool
 n:List Nat
 d:List Nat
def Rw.q (x:Rw):Rat:=rv x.b (val x.n) (val x.d)
abbrev Rw.D (x:Rw):List D:=[.lit (.bool x.b),.lm x.n,.lm x.d]
abbrev Rw.A (x:Rw):List A:=[.d (.lit (.bool x.b)),.d (.lm x.n),.d (.lm x.d)]
abbrev can (q:Rat):Rw:=⟨decide (q<0),limbs q.num.natAbs,limbs (dn q)⟩
abbrev Rw.sm (x:Rw):Prop:=x.n.length≤100000000∧x.d.length≤100000000
def Sz (q:Rat):Prop:=Bt 3000000000 q
theorem RQ.c {q:Rat}(h:Sz q):RQ (ratV q) q:=RQ.can h (lR_ _)
theorem Rw.sm.rq {x:Rw}(h:x.sm):RQ (.agg x.A) x.q:=RQ.raw rfl h.1 h.2
theorem can_q (q:Rat):(can q).q=q:=by unfold Rw.q;rw[val_limbs,val_limbs];exact rv_self q
theorem Sz.sm {q:Rat}(h:Sz q):(can q).sm:=⟨(Bt.sm h (lR_ _)).1,(Bt.sm h (lR_ _)).dn⟩
theorem Bt.mono {k l:Nat}{q:Rat}(h:Bt k q)(hl:k≤l):Bt l q:=⟨tL_ h.1 (Nat.pow_le_pow_right (by decide) hl),tL_ h.2 (Nat.pow_le_pow_right (by decide) hl)⟩
theorem bt0 (k:Nat):Bt k 0:=⟨zL_ _,Nat.one_le_two_pow⟩
theorem sz0:Sz 0:=bt0 _
def Rw.ok (x:Rw):Bool:=vB x.b x.n x.d x.q
theorem can_ok (q:Rat):(can q).ok=true:=by unfold Rw.ok;rw[can_q];exact vB_can q
theorem lx_ok {x:Rw}(h:x.sm):LV Tryz.prog 62 [.agg x.A] (vl (.bool x.ok)):=lx_rvalid h.1 h.2
theorem lx_zok {x:Rw}(h:x.sm):LV Tryz.prog 157 [.agg x.A] (vl (.bool x.ok)):=lx_zvalid h.1 h.2
theorem lx_okc {q:Rat}(h:Sz q):LV Tryz.prog 62 [ratV q] (vl (.bool true)):=by
 have:=lx_ok h.sm;rwa [can_ok]at this
theorem lx_zokc {q:Rat}(h:Sz q):LV Tryz.prog 157 [ratV q] (vl (.bool true)):=by
 have:=lx_zok h.sm;rwa [can_ok]at this
structure Tm where
 v:Int
 q:Rat
structure Af where
 ts:List Tm
 c:Rat
structure Gr where
 n:Nat
 us:List Af
 os:List Af
structure Rg where
 lo:List Rat
 hi:List Rat
 rs:List Af
structure Qu where
 g:Gr
 r:Rg
 goal:Af
structure Dc where
 k:Int
 i:Int
 at_:Rw
structure Lm where
 u:Int
 up:Bool
 v:Rw
 pf:List (List D)
structure Sp where
 q:Qu
 path:List Dc
 ls:List Lm
abbrev Tm.D (t:Tm):List D:= .lit (.int .i64 t.v)::(can t.q).D
abbrev Tm.A (t:Tm):List A:= .d (.lit (.int .i64 t.v))::(can t.q).A
abbrev Af.D (f:Af):List D:= .sl 4 (f.ts.map Tm.D)::(can f.c).D
abbrev Af.A (f:Af):List A:= .d (.sl 4 (f.ts.map Tm.D))::(can f.c).A
abbrev afsD (l:List Af):D:= .sl 4 (l.map Af.D)
abbrev rqsD (l:List Rat):D:= .sl 3 (l.map fun q=>(can q).D)
abbrev Gr.A (g:Gr):List A:=[.d (.lit (.int .i64 g.n)),.d (afsD g.us),.d (afsD g.os)]
abbrev Rg.A (r:Rg):List A:=[.d (rqsD r.lo),.d (rqsD r.hi),.d (afsD r.rs)]
abbrev Qu.A (q:Qu):List A:=[.d (.lit (.int .i64 q.g.n)),.d (afsD q.g.us),.d (afsD q.g.os),.d (rqsD q.r.lo),.d (rqsD q.r.hi),.d (afsD q.r.rs),.d (.sl 4 (q.goal.ts.map Tm.D)),.d (.lit (.bool (decide (q.goal.c<0)))),.d (.lm (limbs q.goal.c.num.natAbs)),.d (.lm (limbs (dn q.goal.c)))]
abbrev Dc.D (d:Dc):List D:=[.lit (.int .i64 d.k),.lit (.int .i64 d.i),.lit (.bool d.at_.b),.lm d.at_.n,.lm d.at_.d]
abbrev Dc.A (d:Dc):List A:=[.d (.lit (.int .i64 d.k)),.d (.lit (.int .i64 d.i)),.d (.lit (.bool d.at_.b)),.d (.lm d.at_.n),.d (.lm d.at_.d)]
abbrev Lm.D (m:Lm):List D:=[.lit (.int .i64 m.u),.lit (.bool m.up),.lit (.bool m.v.b),.lm m.v.n,.lm m.v.d,.sl 7 m.pf]
abbrev Lm.A (m:Lm):List A:=[.d (.lit (.int .i64 m.u)),.d (.lit (.bool m.up)),.d (.lit (.bool m.v.b)),.d (.lm m.v.n),.d (.lm m.v.d),.d (.sl 7 m.pf)]
abbrev dcsD (l:List Dc):D:= .sl 5 (l.map Dc.D)
abbrev lmsD (l:List Lm):D:= .sl 6 (l.map Lm.D)
abbrev Sp.A (s:Sp):List A:=s.q.A++[.d (dcsD s.path),.d (lmsD s.ls)]
structure AfOk (f:Af)(n:Int):Prop where
 lo:∀(i:Nat) (t:Tm),f.ts[i]? =some t→0≤t.v∧t.v<n∧t.q≠0∧Sz t.q
 up:∀(i:Nat) (t u:Tm),f.ts[i]? =some t→f.ts[i+1]? =some u→t.v<u.v
 c:Sz f.c
 len:f.ts.length≤1000000
structure GrOk (g:Gr):Prop where
 n1:1≤g.n
 n2:g.n≤256
 u1:g.us.length≤1024
 o1:1≤g.os.length
 o2:g.os.length≤256
 us:∀(j:Nat) (f:Af),g.us[j]? =some f→AfOk f (g.n+j:Nat)
 os:∀f∈g.os,AfOk f (g.n+g.us.length:Nat)
structure RgOk (r:Rg)(n:Nat):Prop where
 n1:1≤n
 n2:n≤256
 lo:r.lo.length=n
 hi:r.hi.length=n
 rl:r.rs.length≤256
 le:∀(i:Nat) (a b:Rat),r.lo[i]? =some a→r.hi[i]? =some b→a≤b
 sl:∀q∈r.lo,Sz q
 sh:∀q∈r.hi,Sz q
 rs:∀f∈r.rs,AfOk f n
structure QuOk (q:Qu):Prop where
 g:GrOk q.g
 r:RgOk q.r q.g.n
 goal:AfOk q.goal (q.g.n+q.g.us.length:Nat)
theorem at_some {α:Type}{l:List α}{i:Nat}(h:i<l.length):∃x,l[i]? =some x:=⟨_,List.getElem?_eq_getElem h⟩
theorem at_lt {α:Type}{l:List α}{i:Nat}{x:α}(h:l[i]? =some x):i<l.length:=(List.getElem?_eq_some_iff.1 h).1
theorem at_map {α β:Type}{l:List α}{f:α→β}{i:Nat}{x:α}(h:l[i]? =some x):(l.map f)[i]? =some (f x):=by rw[List.getElem?_map,h];rfl
theorem sgn_ne {q:Rat}(h:q≠0):(q.num.sign==0)=false:=by simpa [Int.sign_eq_zero_iff_zero]using h
theorem take_snoc {α:Type}{l:List α}{i:Nat}{x:α}(h:l[i]? =some x):l.take (i+1)=l.take i++[x]:=by
 obtain⟨h1,h2⟩:=List.getElem?_eq_some_iff.1 h;rw[List.take_succ_eq_append_getElem h1,h2]
theorem cmp_le {a b:Rat}(h:a≤b):decide (cmpQ a b>0)=false:=by
 have:=cmpQ_le.2 h;exact decide_eq_false (by omega)
theorem cmp_gt {a b:Rat}:decide (cmpQ a b>0)=decide (b<a):=by
 have:=cmpQ_le (a:=a) (b:=b)
 by_cases h:a≤b
 ·rw[cmp_le h];exact(decide_eq_false (Rat.not_lt.2 h)).symm
 ·rw[decide_eq_true (Int.not_le.1 fun h2=>h (this.1 h2)),decide_eq_true (Rat.not_le.1 h)]
theorem lx_lvalid {f:Af}{n:Int}(hf:AfOk f n):LV Tryz.prog 59 [.agg f.A,vl (.int .i64 n)] (vl (.bool true)):=by
 refine LX_run (m:=0) (n0:=0) mix Tryz.func59 rfl rfl rfl rfl ?_;conv=>whnf
 have hl:=hf.len;refine .mk Nat (fun i=>⟨[(10,vl (.int .i64 i)),(9,vl (.int .i64 (f.ts.map Tm.D).length)),(8,.a (.d (.sl 4 (f.ts.map Tm.D)))),(2,.a (.ptr 0 0)),(1,vl (.int .i64 n))],[(0,.box 36 f.A)],1⟩) (fun i=>i≤f.ts.length) (fun i=>f.ts.length-i) 0 Wk.go (zL_ _) fun i hi=> ?_;conv=>whnf
 refine bs (fun h1=> ?_) (fun h1=> ?_)
 ·conv=>whnf
  have h1':i<f.ts.length:=by simpa using h1
  obtain⟨t,ht⟩:=at_some h1';obtain⟨a1,a2,a3,a4⟩:=hf.lo i t ht;refine .mk (i) (t.D) (rfl) (at_map ht) ?_;conv=>whnf
  conv=>whnf
  refine bF (decide_eq_false (by omega)) ?_;conv=>whnf
  refine bF (decide_eq_false (by omega)) ?_;conv=>whnf
  refine bs (fun h2=> ?_) (fun h2=> ?_)
  ·conv=>whnf
   have h2':0<i:=by simpa using h2
   obtain⟨u,hu⟩:=at_some (l:=f.ts) (i:=i-1) (by omega);have a5:=hf.up (i-1) u t hu (by rw[show i-1+1=i by omega];exact ht);refine .mk (i-1) (u.D) (by rw[wr64 (by omega) (by omega)];omega) (at_map hu) ?_;conv=>whnf
   conv=>whnf
   refine bF (decide_eq_false (by omega)) ?_;conv=>whnf
   refine .c (lx_rsign (.c a4)) ?_;conv=>whnf
   refine bF (sgn_ne a3) ?_;conv=>whnf
   refine .c (lx_okc a4) ?_;conv=>whnf
   refine .mk (by kernel_rfl) ?_;conv=>whnf
   exact⟨i+1,Wk.go,h1',by omega⟩
  ·conv=>whnf
   refine .c (lx_rsign (.c a4)) ?_;conv=>whnf
   refine bF (sgn_ne a3) ?_;conv=>whnf
   refine .c (lx_okc a4) ?_;conv=>whnf
   refine .mk (by kernel_rfl) ?_;conv=>whnf
   exact⟨i+1,Wk.go,h1',by omega⟩
 ·conv=>whnf
  refine .c (lx_okc hf.c) ?_;conv=>whnf
  exact .q ⟨rfl,rfl⟩
theorem AfOk.w {f:Af}{n m:Int}(h:AfOk f n)(e:m=n):AfOk f m:=e▸h
theorem lx_lvalid1 {F:FuncId}{f:Af}{n:Int}(hF:F=125∨F=94)(hf:AfOk f n):
  LX Tryz.prog F [.agg f.A,.a (.ptr 0 0)] [(0,.box 3 [.d (.lit (.int .i64 n))])] fun v H=>v=vl (.bool false)∧H=[(0,.box 3 [.d (.lit (.int .i64 n))])]:=by
 rcases hF with rfl|rfl
 ·refine LX_run (m:=1) (n0:=1) mix Tryz.func125 rfl rfl rfl rfl ?_;conv=>whnf
  refine .c (lx_lvalid hf) ?_;conv=>whnf
  exact⟨_,_,⟨rfl,rfl⟩,vR_ _,rfl,⟨⟨_,rfl,wke_refl _,rfl⟩,trivial⟩,rfl⟩
 ·refine LX_run (m:=1) (n0:=1) mix Tryz.func94 rfl rfl rfl rfl ?_;conv=>whnf
  refine .c (lx_lvalid hf) ?_;conv=>whnf
  exact⟨_,_,⟨rfl,rfl⟩,vR_ _,rfl,⟨⟨_,rfl,wke_refl _,rfl⟩,trivial⟩,rfl⟩
theorem lx_cfA {F:FuncId}{fs:List Af}{n:Int}(hl:fs.length≤1000000)(he:entT Tryz.prog F=true)(hF:∀f∈fs,LX Tryz.prog F [.agg f.A,.a (.ptr 0 0)] [(0,.box 3 [.d (.lit (.int .i64 n))])] fun v H=>v=vl (.bool false)∧H=[(0,.box 3 [.d (.lit (.int .i64 n))])]):
  LX Tryz.prog 93 [.a (.d (afsD fs)),.a (.fn (.func F) [] [.ptr 0 0])] [(0,.box 3 [.d (.lit (.int .i64 n))])] fun v H=>v=vl (.bool false)∧H=[(0,.box 3 [.d (.lit (.int .i64 n))])]:=by
 have ix:LX Tryz.prog 126 [.a (.d (afsD fs)),.a (.fn (.func F) [] [.ptr 0 0])] [(0,.box 3 [.d (.lit (.int .i64 n))])] fun v H=>v=vl (.int .i64 (-1))∧H=[(0,.box 3 [.d (.lit (.int .i64 n))])]:=by
  refine LX_run (m:=1) (n0:=1) mix Tryz.func126 rfl rfl rfl rfl ?_;conv=>whnf
  refine .mk Nat (fun i=>⟨[(8,vl (.int .i64 i)),(7,vl (.int .i64 (fs.map Af.D).length)),(1,.a (.fn (.func F) [] [.ptr 0 0])),(0,.a (.d (afsD fs)))],[(0,.box 3 [.d (.lit (.int .i64 n))])],1⟩) (fun i=>i≤fs.length) (fun i=>fs.length-i) 0 Wk.go (zL_ _) fun i hi=> ?_;conv=>whnf
  refine bs (fun h1=> ?_) (fun h1=> ?_)
  ·conv=>whnf
   have h1':i<fs.length:=by simpa using h1
   obtain⟨f,hf⟩:=at_some h1';refine .mk (i) (f.D) (rfl) (at_map hf) ?_;conv=>whnf
   refine Cn.l [0] (hF f (mG_ hf)) ?_ he;conv=>whnf
   exact⟨i+1,Wk.go,h1',by omega⟩
  ·conv=>whnf
   exact⟨_,_,⟨rfl,rfl⟩,vR_ _,rfl,⟨⟨_,rfl,wke_refl _,rfl⟩,trivial⟩,rfl⟩
 refine LX_run (m:=1) (n0:=1) mix Tryz.func93 rfl rfl rfl rfl ?_;conv=>whnf
 refine .l [0] (ix) ?_;conv=>whnf
 exact⟨_,_,⟨rfl,rfl⟩,vR_ _,rfl,⟨⟨_,rfl,wke_refl _,rfl⟩,trivial⟩,rfl⟩
theorem lx_gvalid0 {fs:List Af}{n:Int}(hl:fs.length≤1000000)(hf:∀f∈fs,AfOk f n):LV Tryz.prog 92 [.a (.d (afsD fs)),vl (.int .i64 n)] (vl (.bool true)):=by
 refine LX_run (m:=0) (n0:=0) mix Tryz.func92 rfl rfl rfl rfl ?_;conv=>whnf
 refine .l [0] (lx_cfA hl rfl fun f hm=>lx_lvalid1 (.inl rfl) (hf f hm)) ?_;conv=>whnf
 exact .q ⟨rfl,rfl⟩
theorem lx_gvalid {g:Gr}(hg:GrOk g):LV Tryz.prog 57 [.agg g.A] (vl (.bool true)):=by
 obtain⟨n1,n2,u1,o1,o2,hus,hos⟩:=hg;refine LX_run (m:=0) (n0:=0) mix Tryz.func57 rfl rfl rfl rfl ?_;conv=>whnf
 refine bF (decide_eq_false (by omega)) ?_;conv=>whnf
 refine bF (decide_eq_false (by omega)) ?_;conv=>whnf
 refine bF (decide_eq_false (by simp;omega)) ?_;conv=>whnf
 refine bF (decide_eq_false (by simp;omega)) ?_;conv=>whnf
 refine bF (decide_eq_false (by simp;omega)) ?_;conv=>whnf
 refine .mk Nat (fun i=>⟨[(34,vl (.int .i64 i)),(33,vl (.int .i64 (g.us.map Af.D).length)),(32,.a (.d (afsD g.us))),(1,.a (.ptr 0 0))],[(0,.box 26 g.A)],1⟩) (fun i=>i≤g.us.length) (fun i=>g.us.length-i) 0 Wk.go (zL_ _) fun i hi=> ?_;conv=>whnf
 refine bs (fun h1=> ?_) (fun h1=> ?_)
 ·conv=>whnf
  have h1':i<g.us.length:=by simpa using h1
  obtain⟨f,hf⟩:=at_some h1';refine .mk (i) (f.D) (rfl) (at_map hf) ?_;conv=>whnf
  conv=>whnf
  refine .c (lx_lvalid ((hus i f hf).w (by rw[wr64 (by omega) (by omega)];omega))) ?_;conv=>whnf
  exact⟨i+1,Wk.go,h1',by omega⟩
 ·conv=>whnf
  refine .c (lx_gvalid0 (by omega) fun f hf=>(hos f hf).w (by rw[wr64 (by simp;omega) (by simp;omega)];simp)) ?_;conv=>whnf
  exact .q ⟨rfl,rfl⟩
theorem lx_gvars {g:Gr}(hg:GrOk g):LV Tryz.prog 200 [.agg g.A] (vl (.int .i64 (g.n+g.us.length:Nat))):=by
 refine LX_run (m:=0) (n0:=0) mix Tryz.func200 rfl rfl rfl rfl ?_;conv=>whnf
 refine .c (lx_gvalid hg) ?_;conv=>whnf
 have:=hg.n2;have:=hg.u1;exact⟨_,_,⟨rfl,rfl⟩,WkV.int (by rw[wr64 (by simp;omega) (by simp;omega)];simp),rfl,trivial,rfl⟩
theorem lx_rgvalid {r:Rg}{n:Nat}(hr:RgOk r n):LV Tryz.prog 58 [.agg r.A,vl (.int .i64 n)] (vl (.bool true)):=by
 obtain⟨n1,n2,hlo,hhi,rl,hle,sl,sh,hrs⟩:=hr;refine LX_run (m:=0) (n0:=0) mix Tryz.func58 rfl rfl rfl rfl ?_;conv=>whnf
 refine bF (decide_eq_false (by omega)) ?_;conv=>whnf
 refine bF (decide_eq_false (by omega)) ?_;conv=>whnf
 refine bF (by simp[hlo]) ?_;conv=>whnf
 refine bF (by simp[hhi]) ?_;conv=>whnf
 refine bF (decide_eq_false (by simp;omega)) ?_;conv=>whnf
 refine .mk Nat (fun i=>⟨[(36,vl (.int .i64 i)),(35,vl (.int .i64 (r.lo.map fun q=>(can q).D).length)),(34,.a (.d (rqsD r.lo))),(3,.a (.ptr 1 0)),(2,.a (.ptr 0 0))],[(0,.box 29 r.A),(1,.box 3 [.d (.lit (.int .i64 n))])],2⟩) (fun i=>i≤n) (fun i=>n-i) 0 Wk.go (zL_ _) fun i hi=> ?_;conv=>whnf
 refine bs (fun h1=> ?_) (fun h1=> ?_)
 ·conv=>whnf
  have h1':i<n:=by simpa [hlo]using h1
  obtain⟨a,ha⟩:=at_some (l:=r.lo) (i:=i) (by omega);obtain⟨b,hb⟩:=at_some (l:=r.hi) (i:=i) (by omega);have za:=sl a (mG_ ha);have zb:=sh b (mG_ hb);refine .mk (i) ((can a).D) (rfl) (at_map (f:=fun q=>(can q).D) ha) ?_;conv=>whnf
  conv=>whnf
  refine .c (lx_okc za) ?_;conv=>whnf
  refine .mk (i) ((can b).D) (rfl) (at_map (f:=fun q=>(can q).D) hb) ?_;conv=>whnf
  conv=>whnf
  refine .c (lx_okc zb) ?_;conv=>whnf
  refine .mk (i) ((can b).D) (rfl) (at_map (f:=fun q=>(can q).D) hb) ?_;conv=>whnf
  conv=>whnf
  refine .c (lx_rcmp (.c za) (.c zb)) ?_;conv=>whnf
  refine bF (cmp_le (hle i a b ha hb)) ?_;conv=>whnf
  refine .mk (by kernel_rfl) ?_;conv=>whnf
  exact⟨i+1,Wk.go,h1',by omega⟩
 ·conv=>whnf
  refine .l [1] (lx_cfA (by omega) rfl fun f hm=>lx_lvalid1 (.inr rfl) (hrs f hm)) ?_;conv=>whnf
  exact .q ⟨rfl,rfl⟩
theorem lx_quvalid {q:Qu}(hq:QuOk q):LV Tryz.prog 23 [.agg q.A] (vl (.bool true)):=by
 have h1:=hq.g.n2;have h2:=hq.g.u1;refine LX_run (m:=0) (n0:=0) mix Tryz.func23 rfl rfl rfl rfl ?_;conv=>whnf
 refine .c (lx_gvalid hq.g) ?_;conv=>whnf
 refine .c (lx_rgvalid hq.r) ?_;conv=>whnf
 refine .c (lx_lvalid (hq.goal.w (by rw[wr64 (by simp;omega) (by simp;omega)];simp))) ?_;conv=>whnf
 exact .q ⟨rfl,rfl⟩
theorem lx_zlvalid {f:Af}{n:Int}(hf:AfOk f n):LV Tryz.prog 131 [.agg f.A,vl (.int .i64 n)] (vl (.bool true)):=by
 refine LX_run (m:=0) (n0:=0) mix Tryz.func131 rfl rfl rfl rfl ?_;conv=>whnf
 have hl:=hf.len;refine .mk Nat (fun i=>⟨[(5,vl (.int .i64 i)),(2,.a (.ptr 0 0)),(1,vl (.int .i64 n))],[(0,.box 36 f.A)],1⟩) (fun i=>i≤f.ts.length) (fun i=>f.ts.length-i) 0 Wk.go (zL_ _) fun i hi=> ?_;conv=>whnf
 refine bs (fun h1=> ?_) (fun h1=> ?_)
 ·conv=>whnf
  have h1':i<f.ts.length:=by simpa using h1
  obtain⟨t,ht⟩:=at_some h1';obtain⟨a1,a2,a3,a4⟩:=hf.lo i t ht;refine .mk (i) (t.D) (rfl) (at_map ht) ?_;conv=>whnf
  conv=>whnf
  refine bF (decide_eq_false (by omega)) ?_;conv=>whnf
  refine bF (decide_eq_false (by omega)) ?_;conv=>whnf
  refine bs (fun h2=> ?_) (fun h2=> ?_)
  ·conv=>whnf
   have h2':0<i:=by simpa using h2
   obtain⟨u,hu⟩:=at_some (l:=f.ts) (i:=i-1) (by omega);have a5:=hf.up (i-1) u t hu (by rw[show i-1+1=i by omega];exact ht);refine .mk (i-1) (u.D) (by rw[wr64 (by omega) (by omega)];omega) (at_map hu) ?_;conv=>whnf
   conv=>whnf
   refine bF (decide_eq_false (by omega)) ?_;conv=>whnf
   refine .c (lx_zsign (.c a4)) ?_;conv=>whnf
   refine bF (sgn_ne a3) ?_;conv=>whnf
   refine .c (lx_zokc a4) ?_;conv=>whnf
   refine .mk (by kernel_rfl) ?_;conv=>whnf
   exact⟨i+1,Wk.go,h1',by omega⟩
  ·conv=>whnf
   refine .c (lx_zsign (.c a4)) ?_;conv=>whnf
   refine bF (sgn_ne a3) ?_;conv=>whnf
   refine .c (lx_zokc a4) ?_;conv=>whnf
   refine .mk (by kernel_rfl) ?_;conv=>whnf
   exact⟨i+1,Wk.go,h1',by omega⟩
 ·conv=>whnf
  refine .c (lx_zokc hf.c) ?_;conv=>whnf
  exact .q ⟨rfl,rfl⟩
theorem lx_zlall {fs:List Af}{n:Int}(hl:fs.length≤1000000)(hf:∀f∈fs,AfOk f n):LV Tryz.prog 132 [.a (.d (afsD fs)),vl (.int .i64 n)] (vl (.bool true)):=by
 refine LX_run (m:=0) (n0:=0) mix Tryz.func132 rfl rfl rfl rfl ?_;conv=>whnf
 refine .mk Nat (fun i=>⟨[(5,vl (.int .i64 i)),(1,vl (.int .i64 n)),(0,.a (.d (afsD fs)))],[],0⟩) (fun i=>i≤fs.length) (fun i=>fs.length-i) 0 Wk.go (zL_ _) fun i hi=> ?_;conv=>whnf
 refine bs (fun h1=> ?_) (fun h1=> ?_)
 ·conv=>whnf
  have h1':i<fs.length:=by simpa using h1
  obtain⟨f,h2⟩:=at_some h1';refine .mk (i) (f.D) (rfl) (at_map h2) ?_;conv=>whnf
  conv=>whnf
  refine .c (lx_zlvalid (hf f (mG_ h2))) ?_;conv=>whnf
  exact⟨i+1,Wk.go,h1',by omega⟩
 ·conv=>whnf
  exact .q ⟨rfl,rfl⟩
theorem lx_zgvalid {g:Gr}(hg:GrOk g):LV Tryz.prog 99 [.agg g.A] (vl (.bool true)):=by
 obtain⟨n1,n2,u1,o1,o2,hus,hos⟩:=hg;refine LX_run (m:=0) (n0:=0) mix Tryz.func99 rfl rfl rfl rfl ?_;conv=>whnf
 refine bF (decide_eq_false (by omega)) ?_;conv=>whnf
 refine bF (decide_eq_false (by omega)) ?_;conv=>whnf
 refine bF (decide_eq_false (by simp;omega)) ?_;conv=>whnf
 refine bF (decide_eq_false (by simp;omega)) ?_;conv=>whnf
 refine bF (decide_eq_false (by simp;omega)) ?_;conv=>whnf
 refine .mk Nat (fun i=>⟨[(3,vl (.int .i64 i)),(1,.a (.ptr 0 0))],[(0,.box 26 g.A)],1⟩) (fun i=>i≤g.us.length) (fun i=>g.us.length-i) 0 Wk.go (zL_ _) fun i hi=> ?_;conv=>whnf
 refine bs (fun h1=> ?_) (fun h1=> ?_)
 ·conv=>whnf
  have h1':i<g.us.length:=by simpa using h1
  obtain⟨f,hf⟩:=at_some h1';refine .mk (i) (f.D) (rfl) (at_map hf) ?_;conv=>whnf
  conv=>whnf
  refine .c (lx_zlvalid ((hus i f hf).w (by rw[wr64 (by omega) (by omega)];omega))) ?_;conv=>whnf
  refine .mk (by kernel_rfl) ?_;conv=>whnf
  exact⟨i+1,Wk.go,h1',by omega⟩
 ·conv=>whnf
  refine .c (lx_zlall (by omega) fun f hf=>(hos f hf).w (by rw[wr64 (by simp;omega) (by simp;omega)];simp)) ?_;conv=>whnf
  exact .q ⟨rfl,rfl⟩
def Rw.z0 (x:Rw):Bool:= !x.b&&((x.n.length:Int)==0)&&((x.d.length:Int)==0)
def fitB (q:Qu)(d:Dc):Bool:=
 if d.k=1∨d.k=2 then decide (d.i≥0)&&decide (d.i<(q.g.us.length:Int))&&d.at_.z0
 else if d.k=3∨d.k=4 then decide (d.i≥0)&&decide (d.i<(q.g.n:Int))&&d.at_.ok else false
theorem lx_zero {x:Rw}:LV Tryz.prog 95 [.agg x.A] (vl (.bool x.z0)):=by
 refine LX_run (m:=0) (n0:=0) mix Tryz.func95 rfl rfl rfl rfl ?_;conv=>whnf
 repeat' first|(refine bs (fun h=> ?_) (fun h=> ?_)<;>conv=>whnf)|(refine Nc.mk (by kernel_rfl) ?_;conv=>whnf)
 all_goals exact .q ⟨by simp[Rw.z0, *],rfl⟩
theorem lx_fits {q:Qu}{d:Dc}(hd:d.at_.sm):LV Tryz.prog 61 [.agg q.A,.agg d.A] (vl (.bool (fitB q d))):=by
 refine LX_run (m:=0) (n0:=0) mix Tryz.func61 rfl rfl rfl rfl ?_;conv=>whnf
 repeat' first|(refine bs (fun h=> ?_) (fun h=> ?_)<;>conv=>whnf)|(refine Nc.mk (by kernel_rfl) ?_;conv=>whnf)|(refine .c (lx_zero) ?_;conv=>whnf)|(refine .c (lx_ok hd) ?_;conv=>whnf)
 all_goals exact .q ⟨by first|(simp_all [fitB];done)|(simp_all [fitB];intros;omega)|((simp[fitB];repeat' split)<;>first|(simp_all;done)|(simp_all;intros;omega)),rfl⟩
structure SpOk (s:Sp):Prop where
 q:QuOk s.q
 pl:s.path.length≤1000000
 pn:∀d∈s.path,d.at_.sm
 ll:s.ls.length≤1000000
 ln:∀m∈s.ls,m.v.sm
 rlo:∀q∈s.q.r.lo,Bt 300000000 q
 rhi:∀q∈s.q.r.hi,Bt 300000000 q
 pb:∀d∈s.path,Bt 300000000 d.at_.q
 lb:∀m∈s.ls,Bt 300000000 m.v.q
def isD (q:Qu)(k u:Int)(d:Dc):Bool:=d.k==k&&d.i==u&&fitB q d
def decB (s:Sp)(k u:Int):Bool:=s.path.any (isD s.q k u)
theorem lx_dec1 {s:Sp}{k u:Int}{d:Dc}(hd:d.at_.sm):LX Tryz.prog 112 [.agg d.A,.a (.ptr 0 0),.a (.ptr 1 0),.a (.ptr 2 0)] [(0,.box 3 [.d (.lit (.int .i64 k))]),(1,.box 3 [.d (.lit (.int .i64 u))]),(2,.box 43 s.A)]
  fun v H=>v=vl (.bool (isD s.q k u d))∧H=[(0,.box 3 [.d (.lit (.int .i64 k))]),(1,.box 3 [.d (.lit (.int .i64 u))]),(2,.box 43 s.A)]:=by
 refine LX_run (m:=3) (n0:=3) mix Tryz.func112 rfl rfl rfl rfl ?_;conv=>whnf
 repeat' first|(refine bs (fun h=> ?_) (fun h=> ?_)<;>conv=>whnf)|(refine Nc.mk (by kernel_rfl) ?_;conv=>whnf)|(refine .c (lx_fits hd) ?_;conv=>whnf)
 all_goals exact⟨_,_,⟨by simp_all [isD],rfl⟩,vR_ _,rfl,⟨⟨_,rfl,wke_refl _,rfl⟩,⟨_,rfl,wke_refl _,rfl⟩,⟨_,rfl,wke_refl _,rfl⟩,trivial⟩,rfl⟩
theorem any_idx {α:Type}(p:α→Bool)(xs:List α):decide ((if xs.any p then(xs.findIdx p:Int)else -1)≥0)=xs.any p:=by
 cases h:xs.any p<;>simp
theorem any_true {α:Type}{p:α→Bool}{xs:List α}{i:Nat}{x:α}(hx:xs[i]? =some x)(h:p x=true):xs.any p=true:=List.any_eq_true.2 ⟨x,mG_ hx,h⟩
theorem find_at {α:Type}{p:α→Bool}{xs:List α}{i:Nat}{x:α}(hi:∀j y,j<i→xs[j]? =some y→p y=false)(hx:xs[i]? =some x)(h:p x=true):xs.findIdx p=i:=by
 obtain⟨h1,h2⟩:=List.getElem?_eq_some_iff.1 hx;refine(List.findIdx_eq h1).2 ⟨by rw[h2];exact h,fun j hj=> ?_⟩;exact hi j _ hj (List.getElem?_eq_getElem (by omega))
theorem any_none {α:Type}{p:α→Bool}{xs:List α}(h:∀(j:Nat) y,xs[j]? =some y→p y=false):xs.any p=false:=by
 rw[List.any_eq_false];intro x hx;obtain⟨j,hj⟩:=List.mem_iff_getElem?.1 hx;simp[h j x hj]
theorem lx_cfD {F:FuncId}{fs:List Dc}{p:Dc→Bool}{k u:Int}{s:Sp}(hl:fs.length≤1000000)(he:entT Tryz.prog F=true)(hF:∀f∈fs,LX Tryz.prog F (.agg f.A::[.a (.ptr 0 0),.a (.ptr 1 0),.a (.ptr 2 0)]) [(0,.box 3 [.d (.lit (.int .i64 k))]),(1,.box 3 [.d (.lit (.int .i64 u))]),(2,.box 43 s.A)] fun v H=>v=vl (.bool (p f))∧H=[(0,.box 3 [.d (.lit (.int .i64 k))]),(1,.box 3 [.d (.lit (.int .i64 u))]),(2,.box 43 s.A)]):
  LX Tryz.prog 24 [.a (.d (.sl 5 (fs.map Dc.D))),.a (.fn (.func F) [] [.ptr 0 0,.ptr 1 0,.ptr 2 0])] [(0,.box 3 [.d (.lit (.int .i64 k))]),(1,.box 3 [.d (.lit (.int .i64 u))]),(2,.box 43 s.A)] fun v H=>v=vl (.bool (fs.any p))∧H=[(0,.box 3 [.d (.lit (.int .i64 k))]),(1,.box 3 [.d (.lit (.int .i64 u))]),(2,.box 43 s.A)]:=by
 have ix:LX Tryz.prog 60 [.a (.d (.sl 5 (fs.map Dc.D))),.a (.fn (.func F) [] [.ptr 0 0,.ptr 1 0,.ptr 2 0])] [(0,.box 3 [.d (.lit (.int .i64 k))]),(1,.box 3 [.d (.lit (.int .i64 u))]),(2,.box 43 s.A)] fun v H=>v=vl (.int .i64 (if fs.any p then(fs.findIdx p:Int)else -1))∧H=[(0,.box 3 [.d (.lit (.int .i64 k))]),(1,.box 3 [.d (.lit (.int .i64 u))]),(2,.box 43 s.A)]:=by
  refine LX_run (m:=3) (n0:=3) mix Tryz.func60 rfl rfl rfl rfl ?_;conv=>whnf
  refine .mk Nat (fun i=>⟨[(8,vl (.int .i64 i)),(7,vl (.int .i64 (fs.map Dc.D).length)),(1,.a (.fn (.func F) [] [.ptr 0 0,.ptr 1 0,.ptr 2 0])),(0,.a (.d (.sl 5 (fs.map Dc.D))))],[(0,.box 3 [.d (.lit (.int .i64 k))]),(1,.box 3 [.d (.lit (.int .i64 u))]),(2,.box 43 s.A)],3⟩) (fun i=>i≤fs.length∧∀j y,j<i→fs[j]? =some y→p y=false) (fun i=>fs.length-i) 0 Wk.go ⟨zL_ _,by intro j y h;omega⟩ fun i hi=> ?_;obtain⟨hi,hall⟩:=hi;conv=>whnf
  refine bs (fun h1=> ?_) (fun h1=> ?_)
  ·conv=>whnf
   have h1':i<fs.length:=by simpa using h1
   obtain⟨f,hf⟩:=at_some h1';refine .mk (i) (f.D) (rfl) (at_map hf) ?_;conv=>whnf
   conv=>whnf
   refine Cn.l [0,1,2] (hF f (mG_ hf)) ?_ he;conv=>whnf
   refine bs (fun h2=> ?_) (fun h2=> ?_)
   ·conv=>whnf
    exact⟨_,_,⟨by rw[if_pos (any_true hf h2),find_at hall hf h2],rfl⟩,vR_ _,rfl,⟨⟨_,rfl,wke_refl _,rfl⟩,⟨_,rfl,wke_refl _,rfl⟩,⟨_,rfl,wke_refl _,rfl⟩,trivial⟩,rfl⟩
   ·conv=>whnf
    refine⟨i+1,Wk.go,⟨h1',fun j y hj hy=> ?_⟩,by omega⟩;rcases Nat.lt_succ_iff_lt_or_eq.1 hj with h3|h3
    ·exact hall j y h3 hy
    ·subst h3;rw[hf]at hy;injection hy with hy;rw[←hy];exact h2
  ·conv=>whnf
   exact⟨_,_,⟨by rw[if_neg];rw[any_none fun j y hy=>hall j y (by have:=at_lt hy;simp at h1;omega) hy];decide,rfl⟩,vR_ _,rfl,⟨⟨_,rfl,wke_refl _,rfl⟩,⟨_,rfl,wke_refl _,rfl⟩,⟨_,rfl,wke_refl _,rfl⟩,trivial⟩,rfl⟩
 refine LX_run (m:=3) (n0:=3) mix Tryz.func24 rfl rfl rfl rfl ?_;conv=>whnf
 refine .l [0,1,2] ix ?_;conv=>whnf
 refine bs (fun h=> ?_) (fun h=> ?_)
 ·conv=>whnf
  exact⟨_,_,⟨by rw[any_idx]at h;rw[h],rfl⟩,vR_ _,rfl,⟨⟨_,rfl,wke_refl _,rfl⟩,⟨_,rfl,wke_refl _,rfl⟩,⟨_,rfl,wke_refl _,rfl⟩,trivial⟩,rfl⟩
 ·conv=>whnf
  exact⟨_,_,⟨by rw[any_idx]at h;rw[h],rfl⟩,vR_ _,rfl,⟨⟨_,rfl,wke_refl _,rfl⟩,⟨_,rfl,wke_refl _,rfl⟩,⟨_,rfl,wke_refl _,rfl⟩,trivial⟩,rfl⟩
theorem lx_decided {s:Sp}{k u:Int}(hs:SpOk s):LV Tryz.prog 79 [.agg s.A,vl (.int .i64 k),vl (.int .i64 u)] (vl (.bool (decB s k u))):=by
 refine LX_run (m:=0) (n0:=0) mix Tryz.func79 rfl rfl rfl rfl ?_;conv=>whnf
 refine .l [1,2,0] (lx_cfD hs.pl rfl fun d hd=>lx_dec1 (hs.pn d hd)) ?_;conv=>whnf
 repeat' first|(refine bs (fun h=> ?_) (fun h=> ?_)<;>conv=>whnf)|(refine Nc.mk (by kernel_rfl) ?_;conv=>whnf)
 all_goals exact .q ⟨by simp_all [decB],rfl⟩
def atL (ls:List Lm)(z:Int):Lm:=(ls[(z-1).toNat]?).getD ⟨0,false,⟨false,[],[]⟩,[]⟩
abbrev vAt (ls:List Lm)(z:Int):Rat:=(atL ls z).v.q
theorem atL_some {ls:List Lm}{z:Int}(h:0<z)(h2:z≤ls.length):ls[(z-1).toNat]? =some (atL ls z):=by
 unfold atL;obtain⟨x,hx⟩:=at_some (l:=ls) (i:=(z-1).toNat) (by omega);rw[hx];rfl
theorem atL_sm {ls:List Lm}(h:∀m∈ls,m.v.sm)(z:Int):(atL ls z).v.sm:=by
 unfold atL
 cases hx:ls[(z-1).toNat]? with
 |none=>exact⟨zL_ _,zL_ _⟩
 |some x=>exact h x (mG_ hx)
def bstep (ls:List Lm)(u:Int)(i:Nat)(m:Lm)(a:Int×Int):Int×Int:=
 if m.u=u then(if m.up=true then(if a.2=0∨cmpQ m.v.q (vAt ls a.2)<0 then(a.1,(i:Int)+1)else a)
  else(if a.1=0∨cmpQ m.v.q (vAt ls a.1)>0 then((i:Int)+1,a.2)else a))else a
def bestTo (ls:List Lm)(u:Int):Nat→Int×Int
 |0=>(0,0)
 |i+1=>match ls[i]? with
  |some m=>bstep ls u i m (bestTo ls u i)
  |none=>bestTo ls u i
def bestS (s:Sp)(u:Int):Int×Int:=bestTo s.ls u s.ls.length
theorem bestTo_succ {ls:List Lm}{u:Int}{i:Nat}{m:Lm}(h:ls[i]? =some m):bestTo ls u (i+1)=bstep ls u i m (bestTo ls u i):=by
 simp only[bestTo,h]
theorem bestTo_le (ls:List Lm)(u:Int):∀i:Nat,0≤(bestTo ls u i).1∧(bestTo ls u i).1≤i∧0≤(bestTo ls u i).2∧(bestTo ls u i).2≤i
 |0=>by simp[bestTo]
 |i+1=>by
  have ih:=bestTo_le ls u i;simp only[bestTo];split
  ·unfold bstep
   repeat' split
   all_goals first|omega|(simp only;omega)
  ·omega
theorem pos_of {z:Int}(h:(z==0)=false)(h0:0≤z):0<z:=by
 have:z≠0:=by simpa using h
 omega
theorem lx_best {s:Sp}{u:Int}(hs:SpOk s):LV Tryz.prog 43 [.agg s.A,vl (.int .i64 u)] (.tup [.s (.d (.lit (.int .i64 (bestS s u).1))),.s (.d (.lit (.int .i64 (bestS s u).2)))]):=by
 have hl:=hs.ll;refine LX_run (m:=0) (n0:=0) mix Tryz.func43 rfl rfl rfl rfl ?_;conv=>whnf
 refine .mk (Nat×Int×Int) (fun(i,lo,hi)=>⟨[(13,vl (.int .i64 i)),(12,vl (.int .i64 (s.ls.map Lm.D).length)),(11,.a (.d (lmsD s.ls))),(7,vl (.int .i64 hi)),(6,vl (.int .i64 lo)),(2,.a (.ptr 0 0)),(1,vl (.int .i64 u))],[(0,.box 43 s.A)],1⟩)
  (fun b=>b.1≤s.ls.length∧bestTo s.ls u b.1=b.2) (fun b=>s.ls.length-b.1) (0,0,0) Wk.go ⟨zL_ _,rfl⟩ fun⟨i,lo,hi⟩ hb=> ?_
 obtain⟨hi1,hb⟩:=hb;have hle:=bestTo_le s.ls u i;rw[hb]at hle;obtain⟨k1,k2,k3,k4⟩:=hle;simp only at k1 k2 k3 k4 hi1;conv=>whnf
 refine bs (fun h1=> ?_) (fun h1=> ?_)
 ·conv=>whnf
  have h1':i<s.ls.length:=by simpa using h1
  obtain⟨m,hm⟩:=at_some h1';have hsm:=hs.ln m (mG_ hm);obtain⟨mu,up,mv,mp⟩:=m
  cases up
  all_goals refine .mk i (Lm.D ⟨_,_,_,_⟩) (by first|rfl|(rw[wr64 (by omega) (by omega)];omega)) (at_map hm) ?_
  all_goals conv=>whnf
  all_goals (repeat' first|(refine bs (fun h=> ?_) (fun h=> ?_)<;>conv=>whnf)|(refine Nc.mk (by kernel_rfl) ?_;conv=>whnf)|(refine .c (lx_rcmp hsm.rq (atL_sm hs.ln _).rq) ?_;conv=>whnf)|(refine .mk (hi-1).toNat (atL s.ls hi).D (by rw[wr64 (by omega) (by omega)];have:=pos_of ‹(hi==0)=false› k3;omega) (at_map (atL_some (pos_of ‹(hi==0)=false› k3) (by omega))) ?_;conv=>whnf)|(refine .mk (lo-1).toNat (atL s.ls lo).D (by rw[wr64 (by omega) (by omega)];have:=pos_of ‹(lo==0)=false› k1;omega) (at_map (atL_some (pos_of ‹(lo==0)=false› k1) (by omega))) ?_;conv=>whnf))
  all_goals refine⟨(i+1,_,_),Wk.go,⟨h1',?_⟩,by simp only;omega⟩
  all_goals (have hw:=wr64 (x:=(i:Int)+1) (by omega) (by omega);rw[bestTo_succ hm,hb];first|(simp_all [bstep,vAt];done)|(simp_all [bstep,vAt];intros;omega))
 ·conv=>whnf
  have e:i=s.ls.length:=by simp at h1;omega
  subst e;exact .q ⟨by rw[bestS,hb],rfl⟩
theorem lx_zbest {s:Sp}{u:Int}(hs:SpOk s):LV Tryz.prog 28 [.agg s.A,vl (.int .i64 u)] (.tup [.s (.d (.lit (.int .i64 (bestS s u).1))),.s (.d (.lit (.int .i64 (bestS s u).2)))]):=by
 have hl:=hs.ll;refine LX_run (m:=0) (n0:=0) mix Tryz.func28 rfl rfl rfl rfl ?_;conv=>whnf
 refine .mk (Nat×Int×Int) (fun(i,lo,hi)=>⟨[(8,vl (.int .i64 ((i:Int)+1))),(7,vl (.int .i64 hi)),(6,vl (.int .i64 lo)),(2,.a (.ptr 0 0)),(1,vl (.int .i64 u))],[(0,.box 43 s.A)],1⟩)
  (fun b=>b.1≤s.ls.length∧bestTo s.ls u b.1=b.2) (fun b=>s.ls.length-b.1) (0,0,0) Wk.go ⟨zL_ _,rfl⟩ fun⟨i,lo,hi⟩ hb=> ?_
 obtain⟨hi1,hb⟩:=hb;have hle:=bestTo_le s.ls u i;rw[hb]at hle;obtain⟨k1,k2,k3,k4⟩:=hle;simp only at k1 k2 k3 k4 hi1;conv=>whnf
 refine bs (fun h1=> ?_) (fun h1=> ?_)
 ·conv=>whnf
  have h1':i<s.ls.length:=by simp at h1;omega
  obtain⟨m,hm⟩:=at_some h1';have hsm:=hs.ln m (mG_ hm);obtain⟨mu,up,mv,mp⟩:=m
  cases up
  all_goals refine .mk i (Lm.D ⟨_,_,_,_⟩) (by first|rfl|(rw[wr64 (by omega) (by omega)];omega)) (at_map hm) ?_
  all_goals conv=>whnf
  all_goals (repeat' first|(refine bs (fun h=> ?_) (fun h=> ?_)<;>conv=>whnf)|(refine Nc.mk (by kernel_rfl) ?_;conv=>whnf)|(refine .c (lx_zcmp hsm.rq (atL_sm hs.ln _).rq) ?_;conv=>whnf)|(refine .mk (hi-1).toNat (atL s.ls hi).D (by rw[wr64 (by omega) (by omega)];have:=pos_of ‹(hi==0)=false› k3;omega) (at_map (atL_some (pos_of ‹(hi==0)=false› k3) (by omega))) ?_;conv=>whnf)|(refine .mk (lo-1).toNat (atL s.ls lo).D (by rw[wr64 (by omega) (by omega)];have:=pos_of ‹(lo==0)=false› k1;omega) (at_map (atL_some (pos_of ‹(lo==0)=false› k1) (by omega))) ?_;conv=>whnf))
  all_goals refine⟨(i+1,_,_),Wk.go,⟨h1',?_⟩,by simp only;omega⟩
  all_goals (have hw:=wr64 (x:=(i:Int)+1) (by omega) (by omega);rw[bestTo_succ hm,hb];first|(simp_all [bstep,vAt];done)|(simp_all [bstep,vAt];intros;omega))
 ·conv=>whnf
  have e:i=s.ls.length:=by simp at h1;omega
  subst e;exact .q ⟨by rw[bestS,hb],rfl⟩
def onS (s:Sp)(u lo:Int):Bool:=decB s 1 u||decide (lo>0)&&decide ((vAt s.ls lo).num.sign≥0)
def offS (s:Sp)(u hi:Int):Bool:=decB s 2 u||decide (hi>0)&&decide ((vAt s.ls hi).num.sign≤0)
def phaseS (s:Sp)(u:Int):Int:=
 if decide (u<0)||decide (u≥(s.q.g.us.length:Int))then 0 else if onS s u (bestS s u).1 then 1 else if offS s u (bestS s u).2 then 2 else 0
theorem lx_phases {s:Sp}{u lo hi:Int}(hs:SpOk s)(h1:lo≤s.ls.length)(h2:hi≤s.ls.length):
  LV Tryz.prog 44 [.agg s.A,vl (.int .i64 u),vl (.int .i64 lo),vl (.int .i64 hi)] (.tup [.s (.d (.lit (.bool (onS s u lo)))),.s (.d (.lit (.bool (offS s u hi))))]):=by
 have hl:=hs.ll;refine LX_run (m:=0) (n0:=0) mix Tryz.func44 rfl rfl rfl rfl ?_;conv=>whnf
 repeat' first|(refine bs (fun h=> ?_) (fun h=> ?_)<;>conv=>whnf)|(refine Nc.mk (by kernel_rfl) ?_;conv=>whnf)|(refine .c (lx_decided hs) ?_;conv=>whnf)|(refine .c (lx_rsign (atL_sm hs.ln _).rq) ?_;conv=>whnf)|(refine .mk (hi-1).toNat (atL s.ls hi).D (by have:=of_decide_eq_true ‹decide (hi>0)=true›;rw[wr64 (by omega) (by omega)];omega) (at_map (atL_some (of_decide_eq_true ‹decide (hi>0)=true›) (by omega))) ?_;conv=>whnf)|(refine .mk (lo-1).toNat (atL s.ls lo).D (by have:=of_decide_eq_true ‹decide (lo>0)=true›;rw[wr64 (by omega) (by omega)];omega) (at_map (atL_some (of_decide_eq_true ‹decide (lo>0)=true›) (by omega))) ?_;conv=>whnf)
 all_goals exact .q ⟨by first|(simp_all [onS,offS];done)|(simp_all [onS,offS];intros;omega)|((simp[onS,offS];repeat' split)<;>first|(simp_all;done)|(simp_all;intros;omega)),rfl⟩
theorem bestS_le (s:Sp)(u:Int):(bestS s u).1≤s.ls.length∧(bestS s u).2≤s.ls.length:=let h:=bestTo_le s.ls u s.ls.length;⟨h.2.1,h.2.2.2⟩
theorem lx_phase {s:Sp}{u:Int}(hs:SpOk s):LV Tryz.prog 18 [.agg s.A,vl (.int .i64 u)] (vl (.int .i64 (phaseS s u))):=by
 have hl:=hs.ll;refine LX_run (m:=0) (n0:=0) mix Tryz.func18 rfl rfl rfl rfl ?_;conv=>whnf
 refine .c (lx_quvalid hs.q) ?_;conv=>whnf
 repeat' first|(refine bs (fun h=> ?_) (fun h=> ?_)<;>conv=>whnf)|(refine Nc.mk (by kernel_rfl) ?_;conv=>whnf)|(refine .c (lx_best hs) ?_;conv=>whnf)|(refine .c (lx_phases hs (bestS_le s u).1 (bestS_le s u).2) ?_;conv=>whnf)
 all_goals exact .q ⟨by first|(simp_all [phaseS];done)|(simp_all [phaseS];intros;omega)|((simp[phaseS];repeat' split)<;>first|(simp_all;done)|(simp_all;intros;omega)),rfl⟩
open Go.Maps
theorem clone_nil {P:Program}{F:FuncId}{k:Nat}{e:TypeId}(h1:∀cap,LX P F [vl (.slice none 0 cap)] [] fun v H=>v=vl (.slice none 0 0)∧H=[])(h2:∀a cap,LX P F [vl (.slice (some a) 0 cap)] [] fun v H=>v= .a (.own 0 k [])∧H=[(0,.arr e k 0)]):
  LX P F [.a (.d (.sl k []))] [] fun v H=>v= .a (.own 0 k [])∧H=[(0,.arr e k 0)]:=by
 refine⟨_,_,⟨rfl,rfl⟩,fun γ M w rs hr ha=> ?_⟩;obtain⟨v,rfl,hv⟩:=all2_1 ha;have:∃ad cap,v= .slice ad 0 cap:=by
  generalize hx:(V.a (A.d (D.sl k [])))=x at hv;have hv':RdD M w (.sl k []) v:=by subst hx;exact hv
  cases hv';exact⟨_,_,rfl⟩
 obtain⟨ad,cap,rfl⟩:=this
 cases ad with
 |none=>
  obtain⟨v',H',⟨rfl,rfl⟩,hc⟩:=h1 cap;refine cM (hc γ M w _ hr ⟨.lit _,trivial⟩) ?_;rintro e1 w' ⟨r,γ',M',rfl,k1,k2,k3⟩;obtain⟨q1,q2⟩:=new_nil k1 (key:=0) rfl e k;have e2:look [(0,Ent.arr e k 0)]=over [(0,.arr e k 0)] (look []):=look_app [(0,Ent.arr e k 0)] [];have e3:=lit_inv k2;subst e3;refine⟨_,_,M',rfl,by rw[e2];exact q1,⟨nil_ok k,rfl,fun e' k' n he=> ?_⟩,by rw[e2];exact k3.trans q2 hr.dom⟩;simp only[look,if_true]at he;injection he with he;injection he with _ _ he;subst he;exact⟨lR_ _,fun _=>by rw[upd_same]⟩
 |some a=>
  obtain⟨v',H',⟨rfl,rfl⟩,hc⟩:=h2 a cap;exact hc γ M w _ hr ⟨.lit _,trivial⟩
theorem lx_cloneD {l:List Dc}(hl:l.length≤1000000):LX Tryz.prog 49 [.a (.d (.sl 5 (l.map Dc.D)))] [] fun v H=>v= .a (.own 0 5 (l.map Dc.D))∧H=[(0,.arr 77 5 (l.map Dc.D).length)]:=by
 cases l with
 |cons x xs=>
  refine LX_run (m:=0) (n0:=0) mix Tryz.func49 rfl rfl rfl rfl ?_;conv=>whnf
  refine .own ?_;conv=>whnf
  refine .mk ((x::xs).map Dc.D) rfl rfl (by simp at hl ⊢;omega) ?_;conv=>whnf
  exact⟨_,_,⟨rfl,rfl⟩,vR_ _,rfl,⟨⟨_,rfl,wke_refl _,rfl⟩,trivial⟩,rfl⟩
 |nil=>
  refine clone_nil (k:=5) (e:=77) ?_ fun a cap=> ?_
  ·intro cap;refine LX_run (m:=0) (n0:=0) mix Tryz.func49 rfl rfl rfl rfl ?_;conv=>whnf
   exact⟨_,_,⟨rfl,rfl⟩,vR_ _,rfl,trivial,rfl⟩
  ·refine LX_run (m:=0) (n0:=0) mix Tryz.func49 rfl rfl rfl rfl ?_;conv=>whnf
   refine .own ?_;conv=>whnf
   refine .mk [] rfl rfl (by decide) ?_;conv=>whnf
   exact⟨_,_,⟨rfl,rfl⟩,vR_ _,rfl,⟨⟨_,rfl,wke_refl _,rfl⟩,trivial⟩,rfl⟩
theorem lx_cloneL {l:List Lm}(hl:l.length≤1000000):LX Tryz.prog 50 [.a (.d (.sl 6 (l.map Lm.D)))] [] fun v H=>v= .a (.own 0 6 (l.map Lm.D))∧H=[(0,.arr 62 6 (l.map Lm.D).length)]:=by
 cases l with
 |cons x xs=>
  refine LX_run (m:=0) (n0:=0) mix Tryz.func50 rfl rfl rfl rfl ?_;conv=>whnf
  refine .own ?_;conv=>whnf
  refine .mk ((x::xs).map Lm.D) rfl rfl (by simp at hl ⊢;omega) ?_;conv=>whnf
  exact⟨_,_,⟨rfl,rfl⟩,vR_ _,rfl,⟨⟨_,rfl,wke_refl _,rfl⟩,trivial⟩,rfl⟩
 |nil=>
  refine clone_nil (k:=6) (e:=62) ?_ fun a cap=> ?_
  ·intro cap;refine LX_run (m:=0) (n0:=0) mix Tryz.func50 rfl rfl rfl rfl ?_;conv=>whnf
   exact⟨_,_,⟨rfl,rfl⟩,vR_ _,rfl,trivial,rfl⟩
  ·refine LX_run (m:=0) (n0:=0) mix Tryz.func50 rfl rfl rfl rfl ?_;conv=>whnf
   refine .own ?_;conv=>whnf
   refine .mk [] rfl rfl (by decide) ?_;conv=>whnf
   exact⟨_,_,⟨rfl,rfl⟩,vR_ _,rfl,⟨⟨_,rfl,wke_refl _,rfl⟩,trivial⟩,rfl⟩
def isU (d:Dc):Bool:=decide (d.k=1∨d.k=2)
def seenB (l:List Dc)(x:Int):Bool:=l.any fun d=>isU d&&d.i==x
def twTo (l:List Dc):Nat→Bool
 |0=>false
 |i+1=>twTo l i||(match l[i]? with
  |some d=>isU d&&seenB (l.take i) d.i
  |none=>false)
def twB (l:List Dc):Bool:=twTo l l.length
theorem can0:can 0=⟨false,limbs 0,limbs 0⟩:=by
 have h1:decide ((0:Rat)<0)=false:=by decide
 show Rw.mk _ _ _=_;rw[h1];rfl
structure Iv where
 lo:Rat
 hi:Rat
theorem bt_mk {k:Nat}{z:Int}{d:Nat}(hd:0<d)(h1:z.natAbs≤2^k)(h2:d≤2^k):Bt k (mkRat z d):=by
 refine⟨?_,?_⟩
 ·rw[Rat.num_mkRat];split
  ·simp
  ·refine tL_ ?_ h1;rw[Int.natAbs_ediv_of_dvd (Int.ofNat_dvd_left.2 (by first|exact Nat.gcd_dvd_left _ _|exact Nat.gcd_dvd_right _ _))];exact Nat.div_le_self _ _
 ·rw[Rat.den_mkRat];split
  ·exact Nat.one_le_two_pow
  ·exact tL_ (Nat.div_le_self _ _) h2
theorem Bt.mul {k l:Nat}{a b:Rat}(h:Bt k a)(h':Bt l b):Bt (k+l) (a*b):=by
 rw[←Rat.mkRat_self a,←Rat.mkRat_self b,Rat.mkRat_mul_mkRat];refine bt_mk (Nat.mul_pos a.den_pos b.den_pos) ?_ ?_
 ·rw[Int.natAbs_mul,Nat.pow_add];exact Nat.mul_le_mul h.1 h'.1
 ·rw[Nat.pow_add];exact Nat.mul_le_mul h.2 h'.2
theorem Bt.add {k l:Nat}{a b:Rat}(h:Bt k a)(h':Bt l b):Bt (k+l+1) (a+b):=by
 rw[←Rat.mkRat_self a,←Rat.mkRat_self b,Rat.mkRat_add_mkRat _ _ a.den_nz b.den_nz];have h1:=Nat.mul_le_mul h.1 h'.2;have h2:=Nat.mul_le_mul h'.1 h.2;have h3:=Nat.mul_le_mul h.2 h'.2;rw[←Nat.pow_add]at h1 h2 h3;rw[Nat.add_comm l k]at h2;have e:2^(k+l+1)=2^(k+l)+2^(k+l):=by rw[Nat.pow_succ];omega
 refine bt_mk (Nat.mul_pos a.den_pos b.den_pos) ?_ (by omega);refine tL_ (Int.natAbs_add_le _ _) ?_;rw[Int.natAbs_mul,Int.natAbs_mul,Int.natAbs_natCast,Int.natAbs_natCast];omega
theorem Bt.neg {k:Nat}{a:Rat}(h:Bt k a):Bt k (-a):=by
 refine⟨?_,?_⟩
 ·rw[Rat.neg_num,Int.natAbs_neg];exact h.1
 ·rw[Rat.neg_den];exact h.2
theorem Bt.sub {k l:Nat}{a b:Rat}(h:Bt k a)(h':Bt l b):Bt (k+l+1) (a-b):=by
 rw[Rat.sub_eq_add_neg];exact h.add h'.neg
theorem Bt.inv {k:Nat}{a:Rat}(h:Bt k a)(h0:a≠0):Bt k a⁻¹:=by
 have hn:a.num≠0:=by simpa using h0
 refine⟨?_,?_⟩
 ·rw[Rat.num_inv,Int.natAbs_mul,Int.natAbs_sign_of_ne_zero hn,Nat.one_mul,Int.natAbs_natCast];exact h.2
 ·rw[Rat.den_inv,if_neg (by simpa using h0)];exact h.1
theorem Bt.div {k l:Nat}{a b:Rat}(h:Bt k a)(h':Bt l b)(h0:b≠0):Bt (k+l) (a/b):=by
 rw[Rat.div_def];exact h.mul (h'.inv h0)
theorem sg_lt {q:Rat}:decide (q.num.sign<0)=decide (q<0):=by
 have:q.num.sign<0↔q<0:=by rw[Int.sign_neg_iff,←Rat.not_le,←Rat.num_nonneg];omega
 simp[this]
theorem sg_gt {q:Rat}:decide (q.num.sign>0)=decide (0<q):=by
 have:q.num.sign>0↔0<q:=by
  rw[gt_iff_lt,Int.sign_pos_iff,←Rat.not_le];have h2:=Rat.num_nonneg (q:= -q);rw[Rat.neg_num]at h2;have h3:0≤ -q↔q≤0:=by constructor<;>intro h<;>grind
  rw[←h3,←h2];omega
 simp[this]
theorem rat0V:V.agg [A.d (.lit (.bool false)),.d (.lm (limbs 0)),.d (.lm (limbs 0))]=ratV 0:=by
 have h:=can0;injection h with h1 h2 h3;show _=V.agg [_,_,_];rw[h1,h2,h3]
def unB (l u:Rat):Bool:=decide (l<0)&&decide (0<u)
def gapQ (l u:Rat):Rat:=if unB l u=true then -(l*u)/(u-l)else 0
theorem un_ne {l u:Rat}(h:unB l u=true):u-l≠0:=by
 simp[unB]at h;grind
theorem lx_unstable {x y:Rw}(hx:x.sm)(hy:y.sm):LV Tryz.prog 232 [.agg x.A,.agg y.A] (vl (.bool (unB x.q y.q))):=by
 refine LX_run (m:=0) (n0:=0) mix Tryz.func232 rfl rfl rfl rfl ?_;conv=>whnf
 repeat' first|(refine bs (fun h=> ?_) (fun h=> ?_)<;>conv=>whnf)|(refine Nc.mk (by kernel_rfl) ?_;conv=>whnf)|(refine .c (lx_rsign hx.rq) ?_;conv=>whnf)|(refine .c (lx_rsign hy.rq) ?_;conv=>whnf)
 all_goals simp only[sg_lt,sg_gt]at *
 all_goals exact .q ⟨by simp_all [unB],rfl⟩
theorem lx_quot {a b:Rat}(ha:Sz a)(hb:Sz b)(h0:b≠0):LV Tryz.prog 233 [ratV a,ratV b] (ratV (a/b)):=by
 refine LX_run (m:=0) (n0:=0) mix Tryz.func233 rfl rfl rfl rfl ?_;conv=>whnf
 refine .c (lx_rdiv h0 (.c ha) (.c hb)) ?_;conv=>whnf
 exact .q ⟨rfl,rfl⟩
theorem lx_gap {x y:Rw}(hx:x.sm)(hy:y.sm)(bx:Bt 300000000 x.q)(by_:Bt 300000000 y.q):LV Tryz.prog 234 [.agg x.A,.agg y.A] (ratV (gapQ x.q y.q)):=by
 refine LX_run (m:=0) (n0:=0) mix Tryz.func234 rfl rfl rfl rfl ?_;conv=>whnf
 refine .c (lx_unstable hx hy) ?_;conv=>whnf
 refine bs (fun h=> ?_) (fun h=> ?_)
 ·conv=>whnf
  refine .c (lx_rmul hx.rq hy.rq) ?_;conv=>whnf
  refine .c (lx_rneg (.c ((bx.mul by_).mono (by decide)))) ?_;conv=>whnf
  refine .c (lx_rsub hy.rq hx.rq) ?_;conv=>whnf
  refine .c (lx_quot ((bx.mul by_).neg.mono (by decide)) ((by_.sub bx).mono (by decide)) (un_ne h)) ?_;conv=>whnf
  refine .mk (by kernel_rfl) ?_;conv=>whnf
  exact .q ⟨by rw[gapQ,if_pos h],rfl⟩
 ·conv=>whnf
  exact .q ⟨by rw[gapQ,if_neg (by rw[h];exact Bool.false_ne_true)];exact rat0V,rfl⟩
theorem atL_b {ls:List Lm}(h:∀m∈ls,Bt 300000000 m.v.q)(z:Int):Bt 300000000 (vAt ls z):=by
 unfold vAt atL
 cases hx:ls[(z-1).toNat]? with
 |none=>show Bt _ (rv false (val []) (val []));rw[rv_zero];exact bt0 _
 |some x=>exact h x (mG_ hx)
theorem Bt.int {z:Int}{k:Nat}(h:z.natAbs≤2^k):Bt k (z:Rat):=⟨by rw[Rat.num_intCast];exact h,by rw[Rat.den_intCast];exact Nat.one_le_two_pow⟩
def isIn (d:Dc):Bool:=(d.k==3)||(d.k==4)
def cntI (l:List Dc):Nat:=(l.filter isIn).length
def cof:List Tm→Int→Rat
 |[],_=>0
 |t::ts,w=>(if t.v=w then t.q else 0)+cof ts w
theorem cof_app (a b:List Tm)(w:Int):cof (a++b) w=cof a w+cof b w:=by
 induction a with
 |nil=>simp[cof,Rat.zero_add]
 |cons t a ih=>simp only[List.cons_append,cof,ih,Rat.add_assoc]
def nz1 (t:Tm):List Tm:=if t.q=0 then []else [t]
theorem cof_nz1 (t:Tm)(w:Int):cof (nz1 t) w=if t.v=w then t.q else 0:=by
 unfold nz1;split
 ·rename_i h;simp[cof,h]
 ·simp[cof,Rat.add_zero]
def ins (v:Int)(c:Rat):List Tm→List Tm
 |[]=>nz1 ⟨v,c⟩
 |t::ts=>if t.v=v then nz1 ⟨v,t.q+c⟩++ts else if v<t.v then nz1 ⟨v,c⟩++t::ts else t::ins v c ts
theorem cof_ins (v:Int)(c:Rat)(ts:List Tm)(w:Int):cof (ins v c ts) w=cof ts w+if v=w then c else 0:=by
 induction ts with
 |nil=>simp[ins,cof_nz1,cof,Rat.zero_add]
 |cons t ts ih=>
  simp only[ins];split
  ·rename_i h;rw[cof_app,cof_nz1,cof,h];split<;>grind
  ·split
   ·rw[cof_app,cof_nz1];grind
   ·simp only[cof,ih,Rat.add_assoc]
def TsOk (n:Int):Int→List Tm→Prop
 |_,[]=>True
 |lo,t::ts=>lo≤t.v∧t.v<n∧t.q≠0∧TsOk n (t.v+1) ts
theorem TsOk.lo {n lo lo':Int}{ts:List Tm}(h:TsOk n lo ts)(hl:lo'≤lo):TsOk n lo' ts:=by
 cases ts with
 |nil=>trivial
 |cons t ts=>exact⟨by have:=h.1;omega,h.2⟩
theorem TsOk.up {n n':Int}{ts:List Tm}(hn:n≤n'):∀{lo:Int},TsOk n lo ts→TsOk n' lo ts:=by
 induction ts with
 |nil=>intros;trivial
 |cons t ts ih=>exact fun h=>⟨h.1,by have:=h.2.1;omega,h.2.2.1,ih h.2.2.2⟩
theorem TsOk.nz {n lo v:Int}{q:Rat}{ts:List Tm}(h:TsOk n (v+1) ts)(h1:lo≤v)(h2:v<n):TsOk n lo (nz1 ⟨v,q⟩++ts):=by
 unfold nz1;split
 ·exact h.lo (by omega)
 ·exact⟨h1,h2,by assumption,h⟩
theorem TsOk.ins {n v:Int}{c:Rat}(h2:v<n){ts:List Tm}:∀{lo:Int},TsOk n lo ts→lo≤v→TsOk n lo (Lf.ins v c ts):=by
 induction ts with
 |nil=>
  intro lo h h1;have:=TsOk.nz (q:=c) (lo:=lo) (show TsOk n (v+1) []from trivial) h1 h2
  rwa [List.append_nil]at this
 |cons t ts ih=>
  intro lo h h1;simp only[Lf.ins];split
  ·rename_i e;exact TsOk.nz (e▸h.2.2.2) h1 h2
  ·split
   ·exact TsOk.nz ⟨by omega,h.2⟩ h1 h2
   ·exact⟨h.1,h.2.1,h.2.2.1,ih h.2.2.2 (by omega)⟩
theorem TsOk.cof_lt {n:Int}{ts:List Tm}:∀{lo w:Int},TsOk n lo ts→w<lo→cof ts w=0:=by
 induction ts with
 |nil=>intros;rfl
 |cons t ts ih=>
  intro lo w h hw;have:=h.1;rw[cof,if_neg (by omega),ih h.2.2.2 (by omega),Rat.add_zero]
theorem TsOk.cof_mem {n:Int}{ts:List Tm}:∀{lo:Int},TsOk n lo ts→∀t∈ts,cof ts t.v=t.q∧lo≤t.v∧t.v<n∧t.q≠0:=by
 induction ts with
 |nil=>intro lo h t ht;cases ht
 |cons s ts ih=>
  intro lo h t ht;have h1:=h.1;rcases List.mem_cons.1 ht with rfl|ht
  ·exact⟨by rw[cof,if_pos rfl,h.2.2.2.cof_lt (by omega),Rat.add_zero],h.1,h.2.1,h.2.2.1⟩
  ·obtain⟨k1,k2,k3,k4⟩:=ih h.2.2.2 t ht;exact⟨by rw[cof,if_neg (by omega),k1,Rat.zero_add],by omega,k3,k4⟩
theorem TsOk.len {n:Int}{ts:List Tm}:∀{lo:Int},TsOk n lo ts→lo≤n→(ts.length:Int)≤n-lo:=by
 induction ts with
 |nil=>intro lo h hn;simp;omega
 |cons t ts ih=>
  intro lo h hn;have:=ih h.2.2.2 (by have:=h.2.1;omega);have:=h.1;have:=h.2.1;simp only[List.length_cons];omega
theorem TsOk.next {n:Int}{ts:List Tm}:∀{lo:Int},TsOk n lo ts→∀(i:Nat) (t u:Tm),ts[i]? =some t→ts[i+1]? =some u→t.v<u.v:=by
 induction ts with
 |nil=>intro lo h i t u h1;simp at h1
 |cons s ts ih=>
  intro lo h i t u h1 h2
  cases i with
  |zero=>
   simp at h1 h2;subst h1
   cases ts with
   |nil=>simp at h2
   |cons r ts=>simp at h2;subst h2;have:=h.2.2.2.1;omega
  |succ i=>exact ih h.2.2.2 i t u (by simpa using h1) (by simpa using h2)
structure FB (k:Nat)(n:Int)(f:Af):Prop where
 ts:TsOk n 0 f.ts
 co:∀w,Bt k (cof f.ts w)
 c:Bt k f.c
theorem FB.ok {k:Nat}{n:Int}{f:Af}(h:FB k n f)(hk:k≤3000000000)(h0:0≤n)(hn:n≤1000000):AfOk f n:=by
 refine⟨fun i t ht=> ?_,h.ts.next,h.c.mono hk,?_⟩
 ·obtain⟨k1,k2,k3,k4⟩:=h.ts.cof_mem t (mG_ ht);exact⟨k2,k3,k4,k1▸(h.co t.v).mono hk⟩
 ·have:=h.ts.len h0;omega
theorem FB.tm {k:Nat}{n:Int}{f:Af}(h:FB k n f):∀t∈f.ts,0≤t.v∧t.v<n∧t.q≠0∧Bt k t.q:=fun t ht=>
 let ⟨k1,k2,k3,k4⟩:=h.ts.cof_mem t ht;⟨k2,k3,k4,k1▸h.co t.v⟩
theorem FB.up {k k':Nat}{n n':Int}{f:Af}(h:FB k n f)(hk:k≤k')(hn:n≤n'):FB k' n' f:=⟨h.ts.up hn,fun w=>(h.co w).mono hk,h.c.mono hk⟩
def plusS (f:Af)(v:Int)(c:Rat):Af:=⟨ins v c f.ts,f.c⟩
def addS (f g:Af):Af:=⟨g.ts.foldl (fun a t=>ins t.v t.q a) f.ts,f.c+g.c⟩
def scaleS (f:Af)(c:Rat):Af:=⟨f.ts.flatMap fun t=>nz1 ⟨t.v,t.q*c⟩,f.c*c⟩
def subS (f g:Af):Af:=addS f (scaleS g ((-1:Int):Rat))
def varS (v:Int):Af:=⟨[⟨v,((1:Int):Rat)⟩],0⟩
def numS (c:Rat):Af:=⟨[],c⟩
theorem cof_fold (b:List Tm)(w:Int):∀a:List Tm,cof (b.foldl (fun a t=>ins t.v t.q a) a) w=cof a w+cof b w:=by
 induction b with
 |nil=>intro a;simp[cof,Rat.add_zero]
 |cons t b ih=>intro a;rw[List.foldl_cons,ih,cof_ins,cof,Rat.add_assoc]
theorem ok_fold {n:Int}{b:List Tm}(hb:∀t∈b,0≤t.v∧t.v<n):∀{a:List Tm},TsOk n 0 a→TsOk n 0 (b.foldl (fun a t=>ins t.v t.q a) a):=by
 induction b with
 |nil=>intro a h;exact h
 |cons t b ih=>intro a h;exact ih (fun t ht=>hb t (by simp[ht])) (h.ins (hb t (by simp)).2 (hb t (by simp)).1)
theorem FB.add {k l:Nat}{n:Int}{f g:Af}(h:FB k n f)(h':FB l n g):FB (k+l+1) n (addS f g):=
 ⟨ok_fold (fun t ht=>let h:=h'.tm t ht;⟨h.1,h.2.1⟩) h.ts,fun w=>by rw[addS,cof_fold];exact(h.co w).add (h'.co w),h.c.add h'.c⟩
theorem cof_scale (c:Rat)(w:Int):∀ts:List Tm,cof (ts.flatMap fun t=>nz1 ⟨t.v,t.q*c⟩) w=cof ts w*c
 |[]=>by simp[cof]
 |t::ts=>by
  rw[List.flatMap_cons,cof_app,cof_nz1,cof_scale c w ts,cof,Rat.add_mul]
  congr 1
  split<;>simp
theorem ok_scale {n:Int}(c:Rat):∀{ts:List Tm} {lo:Int},TsOk n lo ts→TsOk n lo (ts.flatMap fun t=>nz1 ⟨t.v,t.q*c⟩)
 |[],_,_=>trivial
 |t::ts,lo,h=>by
  rw[List.flatMap_cons];exact TsOk.nz (ok_scale c h.2.2.2) h.1 h.2.1
theorem FB.scale {k l:Nat}{n:Int}{f:Af}{c:Rat}(h:FB k n f)(hc:Bt l c):FB (k+l) n (scaleS f c):=
 ⟨ok_scale c h.ts,fun w=>by rw[scaleS,cof_scale];exact(h.co w).mul hc,h.c.mul hc⟩
theorem FB.num {k:Nat}{n:Int}{c:Rat}(h:Bt k c):FB k n (numS c):=⟨trivial,fun w=>bt0 _,h⟩
theorem FB.var {n v:Int}(h:0≤v)(h2:v<n):FB 0 n (varS v):=by
 have h1:Bt 0 ((1:Int):Rat):=Bt.int (by decide);refine⟨⟨h,h2,by show((1:Int):Rat)≠0;decide,trivial⟩,fun w=> ?_,bt0 _⟩;rw[varS,cof,cof,Rat.add_zero];split
 ·exact h1
 ·exact bt0 _
theorem FB.sub {k l:Nat}{n:Int}{f g:Af}(h:FB k n f)(h':FB l n g):FB (k+l+1) n (subS f g):=
 h.add (h'.scale (l:=0) (Bt.int (by decide)))
def plStep (v:Int)(c:Rat)(a:List Tm×Bool)(t:Tm):List Tm×Bool:=
 if t.v=v then(a.1++nz1 ⟨t.v,t.q+c⟩,true)
 else if a.2=false∧v<t.v then(a.1++nz1 ⟨v,c⟩++nz1 t,true)else(a.1++nz1 t,a.2)
def plTo (v:Int)(c:Rat)(ts:List Tm)(i:Nat):List Tm×Bool:=(ts.take i).foldl (plStep v c) ([],false)
def plEnd (v:Int)(c:Rat)(a:List Tm×Bool):List Tm:=if a.2=false then a.1++nz1 ⟨v,c⟩else a.1
theorem plTo_succ {v:Int}{c:Rat}{ts:List Tm}{i:Nat}{t:Tm}(h:ts[i]? =some t):plTo v c ts (i+1)=plStep v c (plTo v c ts i) t:=by
 unfold plTo;rw[take_snoc h,List.foldl_append];rfl
theorem nz1_ne {t:Tm}(h:t.q≠0):nz1 t=[t]:=if_neg h
theorem pl_done {n v:Int}{c:Rat}:∀{ts:List Tm} {lo:Int} (o:List Tm),TsOk n lo ts→v<lo→ts.foldl (plStep v c) (o,true)=(o++ts,true)
 |[],_,o,_,_=>by simp
 |t::ts,lo,o,h,hv=>by
  have h1:=h.1;rw[List.foldl_cons,plStep,if_neg (by omega),if_neg (by simp),nz1_ne h.2.2.1,pl_done _ h.2.2.2 (by omega)];simp
theorem pl_all {n v:Int}{c:Rat}:∀{ts:List Tm} {lo:Int} (o:List Tm),TsOk n lo ts→plEnd v c (ts.foldl (plStep v c) (o,false))=o++ins v c ts
 |[],_,o,_=>by simp[plEnd,ins]
 |t::ts,lo,o,h=>by
  rw[List.foldl_cons,plStep,ins];split
  ·rename_i e;rw[pl_done _ h.2.2.2 (by omega),plEnd,e];simp
  ·split
   ·rename_i e h1;rw[pl_done _ h.2.2.2 (by omega),plEnd,if_pos h1.2,nz1_ne h.2.2.1];simp
   ·rename_i e h1;rw[pl_all _ h.2.2.2,if_neg (fun h2=>h1 ⟨rfl,h2⟩),nz1_ne h.2.2.1];simp
theorem pl_eq {n v:Int}{c:Rat}{ts:List Tm}(h:TsOk n 0 ts):plEnd v c (plTo v c ts ts.length)=ins v c ts:=by
 rw[plTo,List.take_length];exact pl_all [] h
theorem Cn.o {P:Program}{F:FuncId}{vs:List V}{H:List (Nat×Ent)}{n:Nat}{K:V→List (Nat×Ent)→List Nat→Nat→Prop}{v:V}{Hs H1:List (Nat×Ent)}(ks:List Nat)(hc:LX P F (vs.map (renV fun k=>ks.idxOf k)) Hs fun v' H'=>v'=v∧H'=H1)
  (hk:fX (renV (back ks n) v) fun v=>fHs (H1.map fun p=>(back ks n p.1,p.2)) fun sets=>K v sets (ks++H1.map fun p=>back ks n p.1) (n+H1.length)) (he:entT P F=true:=by rfl)
  (hl:lendFrom (look H) 0 ks=some Hs:=by rfl) (hok:okF ks n vs H H1=true:=by rfl):Cn P F vs H n K:=by
 unfold okF at hok;simp only[Bool.and_eq_true,Bool.or_eq_true,decide_eq_true_eq,List.all_eq_true,Nat.blt_eq,List.contains_eq_mem]at hok;obtain⟨⟨⟨o1,o2⟩,o3⟩,o4⟩:=hok;refine .lend ks _ Hs _ he hc (wks_refl vs) o1 o2 hl o3 fun v' H1' hR=> ?_;obtain⟨rfl,rfl⟩:=hR;exact⟨List.all_eq_true.2 fun p hp=>(o4 p hp).1,fun p hp hle=>(o4 p hp).2.elim (fun h=>absurd h (by omega)) fun h=>by simpa using h,hk⟩
theorem All2.set {α β:Type}{R:α→β→Prop}:∀{xs:List α} {ys:List β} {j:Nat} {x y:α},All2 R xs ys→xs[j]? =some x→(∀v,R x v→R y v)→All2 R (xs.set j y) ys
 |[],[],_,_,_,_,h,_=>by simp at h
 |a::xs,b::ys,0,x,y,k,h,f=>by simp at h;subst h;exact⟨f b k.1,k.2⟩
 |a::xs,b::ys,j+1,x,y,k,h,f=>⟨k.1,All2.set k.2 (by simpa using h) f⟩
 |[],_::_,_,_,_,k,_,_=>k.elim
 |_::_,[],_,_,_,k,_,_=>k.elim
theorem relabel {γ:Gh}{h:Hp}{M:MS}{w:World}{b key j k:Nat}{t e:TypeId}{cs:List A}(r:Rel γ h M w)(hb:h b=some (.box t cs))(hj:cs[j]? =some (.d (.lit (.slice none 0 0))))(hk:h key=some (.arr e k 0))(hg:γ key= .slice none 0 0):
  Rel γ (over [(b,.box t (cs.set j (.own key k [])))] h) M w∧Stp γ h M w γ (over [(b,.box t (cs.set j (.own key k [])))] h) M w:=by
 have hne:key≠b:=by intro e1;subst e1;rw[hb]at hk;cases hk
 have ho:∀key' b' i,Owns γ (over [(b,.box t (cs.set j (.own key k [])))] h) key' b' i↔Owns γ h key' b' i:=fun key' b' i=>by
  by_cases e1:key'=b
  ·subst e1;simp only[Owns,over_same,hb]
  ·exact owns_congr rfl (over_other e1)
 have hl:∀key',live (over [(b,.box t (cs.set j (.own key k [])))] h key')=live (h key'):=fun key'=>by
  by_cases e1:key'=b
  ·subst e1;rw[over_same,hb];rfl
  ·rw[over_other e1]
 have s:Stp γ h M w γ (over [(b,.box t (cs.set j (.own key k [])))] h) M w:=by
  refine⟨rfl,rfl,rfl,lR_ _,fun _ _ _ k=>k,fun _ _ _=>rfl,fun _ _ k _=>k,fun key' b' i h1 _=>⟨key',(ho _ _ _).1 h1⟩,fun key' e' he=> ?_⟩
  by_cases e1:key'=b
  ·subst e1;rw[hb]at he;injection he with he;subst he;exact⟨_,over_same,trivial,.inl rfl⟩
  ·exact⟨e',by rw[over_other e1];exact he,Goes.refl _,.inl rfl⟩
 refine⟨⟨fun key' e' he=> ?_,fun key' b' i h1=>r.own key' b' i ((ho _ _ _).1 h1),fun k1 k2 b' l1 l2 b1 b2=>r.inj k1 k2 b' (by rw[←hl];exact l1) (by rw[←hl];exact l2) b1 b2,r.u32,r.dom,r.glb⟩,s⟩
 by_cases e1:key'=b
 ·subst e1;rw[over_same]at he;injection he with he;subst he;obtain⟨g,vs,k1,k2,k3⟩:=r.ent _ _ hb;refine⟨g,vs,k1,k2,All2.set (All2.imp (fun x v k=>RdA.stp s k) k3) hj fun v hv=> ?_⟩;rw[show v= .slice none 0 0 from lit_inv hv];refine⟨nil_ok k,by rw[over_other hne,hk];rfl,fun e' k' n he=> ?_⟩;rw[over_other hne,hk]at he;injection he with he;injection he with _ _ he;subst he;exact⟨lR_ _,fun _=>hg.symm⟩
 ·rw[over_other e1]at he;exact EntR.stp s (r.ent key' e' he) rfl fun _ _ _=>rfl
theorem Wk.ownB {m:Nat}{s:St}(b key j:Nat)(e:TypeId)(k:Nat){t:TypeId}{cs:List A}(hb:look s.H b=some (.box t cs))(hj:cs[j]? =some (.d (.lit (.slice none 0 0))))(hk:look s.H key=none):
  Wk m s ⟨s.T,(b,.box t (cs.set j (.own key k [])))::(key,.arr e k 0)::s.H,s.n⟩:=by
 intro N γ0 h0 M0 w0 a w hm hd hS;obtain⟨γ,M,k1,k2,k3,k4,k5⟩:=hS;have hne:b≠key:=by intro e1;subst e1;rw[hb]at hk;cases hk
 obtain⟨q1,q2⟩:=new_nil k1 hk e k;obtain⟨q3,q4⟩:=relabel (b:=b) (j:=j) (k:=k) (cs:=cs) q1 (by rw[over_other hne];exact hb) hj over_same upd_same;have q5:=Stp.trans q2 q4 k1.dom;have e1:look ((b,Ent.box t (cs.set j (.own key k [])))::(key,Ent.arr e k 0)::s.H)=over [(b,.box t (cs.set j (.own key k [])))] (over [(key,.arr e k 0)] (look s.H)):=by
  rw[←look_app [(key,Ent.arr e k 0)] s.H];exact look_app [(b,_)] ((key,Ent.arr e k 0)::s.H)
 refine⟨_,M,by rw[e1];exact q3,⟨k2.1,fun d' v' hv'=> ?_⟩,k3,k4,by rw[e1];exact k5.trans q5 hd⟩;obtain⟨x,y1,y2⟩:=k2.2 d' v' hv';exact⟨x,y1,by rw[e1];exact RdV.stp q5 y2⟩
abbrev tmH (l:List Tm):List (Nat×Ent):=[(0,.arr 98 4 (l.map Tm.D).length)]
theorem lx_nonzero {l:List Tm}{t:Tm}(hl:l.length≤1000000)(ht:Sz t.q):
  LX Tryz.prog 36 [.a (.own 0 4 (l.map Tm.D)),.agg t.A] (tmH l) fun v H=>v= .a (.own 0 4 ((l++nz1 t).map Tm.D))∧H=tmH (l++nz1 t):=by
 refine LX_run (m:=1) (n0:=1) mix Tryz.func36 rfl rfl rfl rfl ?_;conv=>whnf
 refine .c (lx_zsign (.c ht)) ?_;conv=>whnf
 refine bs (fun h1=> ?_) (fun h1=> ?_)
 ·conv=>whnf
  have h0:t.q=0:=by simpa [Int.sign_eq_zero_iff_zero]using h1
  have e:l++nz1 t=l:=by rw[nz1,if_pos h0,List.append_nil]
  rw[e];exact⟨_,_,⟨rfl,rfl⟩,vR_ _,rfl,⟨⟨_,rfl,wke_refl _,rfl⟩,trivial⟩,rfl⟩
 ·conv=>whnf
  have h0:¬t.q=0:=by simpa [Int.sign_eq_zero_iff_zero]using h1
  have e:l++nz1 t=l++[t]:=by rw[nz1,if_neg h0]
  rw[e];refine .mk ((l++[t]).map Tm.D) rfl (by rw[List.map_append];rfl) (by simp;omega) ?_;conv=>whnf
  exact⟨_,_,⟨rfl,rfl⟩,vR_ _,rfl,⟨⟨_,rfl,wke_refl _,rfl⟩,trivial⟩,rfl⟩
theorem lx_plus {f:Af}{n v:Int}{c:Rat}{k l:Nat}(h:FB k n f)(hc:Bt l c)(h0:0≤v)(hv:v<n)(hn:n≤100000)(hk:k+l+1≤3000000000):
  LV Tryz.prog 78 [.agg f.A,vl (.int .i64 v),.agg (can c).A] (.agg (plusS f v c).A):=by
 have hlen:=h.ts.len (by omega);have hcz:Sz c:=hc.mono (by omega)
 have hol:∀i,(plTo v c f.ts i).1.length≤2*i+1:=fun i=>by
  induction i with
  |zero=>simp[plTo]
  |succ i ih=>
   rcases Nat.lt_or_ge i f.ts.length with hi|hi
   ·obtain⟨t,ht⟩:=at_some hi;have hz:∀t:Tm,(nz1 t).length≤1:=fun t=>by unfold nz1;split<;>simp
    rw[plTo_succ ht,plStep];have z1:=hz ⟨t.v,t.q+c⟩;have z2:=hz ⟨v,c⟩;have z3:=hz t
    repeat' split
    all_goals (simp only[List.length_append];omega)
   ·have:plTo v c f.ts (i+1)=plTo v c f.ts i:=by rw[plTo,plTo,List.take_of_length_le (by omega),List.take_of_length_le (by omega)]
    rw[this];omega
 refine LX_run (m:=0) (n0:=0) mix Tryz.func78 rfl rfl rfl rfl ?_;conv=>whnf
 refine .mk Nat (fun i=>⟨[(9,vl (.int .i64 i)),(8,vl (.bool (plTo v c f.ts i).2)),(7,.a (.own 3 4 ((plTo v c f.ts i).1.map Tm.D))),(6,.a (.ptr 2 0)),(5,.a (.ptr 1 0)),(3,.a (.ptr 0 0)),(1,vl (.int .i64 v))],
  [(0,.box 36 f.A),(1,.box 34 (can c).A),(2,.box 36 [.d (.lit (.slice none 0 0)),.d (.lit (.bool false)),.d (.nat 0),.d (.nat 0)]),(3,.arr 98 4 ((plTo v c f.ts i).1.map Tm.D).length)],4⟩) (fun i=>i≤f.ts.length) (fun i=>f.ts.length-i) 0
  (Wk.trans (Wk.own 7 3 98 4 rfl rfl (zL_ _)) Wk.go) (zL_ _) fun i hi=> ?_
 have hsucc:=fun t ht=>plTo_succ (v:=v) (c:=c) (ts:=f.ts) (i:=i) (t:=t) ht;have hoi:=hol i;have hen:i=f.ts.length→plEnd v c (plTo v c f.ts i)=ins v c f.ts:=fun e=>by rw[e];exact pl_eq h.ts
 generalize plTo v c f.ts i=a at *
 obtain⟨o,done⟩:=a;simp only at hoi;have hz:∀t:Tm,(nz1 t).length≤1:=fun t=>by unfold nz1;split<;>simp
 have z2:=hz ⟨v,c⟩;have fin:i=f.ts.length→f.ts.length=i:=fun e=>e.symm
 cases done
 all_goals conv=>whnf
 ·refine bs (fun h1=> ?_) (fun h1=> ?_)
  ·conv=>whnf
   have h1':i<f.ts.length:=by simpa using h1
   obtain⟨t,ht⟩:=at_some h1';obtain⟨t1,t2,t3,t4⟩:=h.tm t (mG_ ht);have z3:=hz t;have tz:Sz t.q:=t4.mono (by omega);have tc:Sz (t.q+c):=(t4.add hc).mono (by omega)
   specialize hsucc t ht
   refine .mk (i) (t.D) (rfl) (at_map ht) ?_;conv=>whnf
   conv=>whnf
   refine bs (fun h2=> ?_) (fun h2=> ?_)
   ·conv=>whnf
    have e2:t.v=v:=by simpa using h2
    refine .c (lx_zadd (.c tz) (.c hcz)) ?_;conv=>whnf
    refine Cn.o [3] (lx_nonzero (l:=o) (t:=⟨t.v,t.q+c⟩) (by omega) tc) ?_;conv=>whnf
    exact⟨i+1,by rw[hsucc,plStep,if_pos e2];exact Wk.go,h1',by omega⟩
   ·conv=>whnf
    have e2:¬t.v=v:=by simpa using h2
    refine bs (fun h3=> ?_) (fun h3=> ?_)
    ·conv=>whnf
     have e3:v<t.v:=by simpa using h3
     refine .c (lx_zcanon (.c hcz)) ?_;conv=>whnf
     refine Cn.o [3] (lx_nonzero (l:=o) (t:=⟨v,c⟩) (by omega) hcz) ?_;conv=>whnf
     refine Cn.o [3] (lx_nonzero (l:=o++nz1 ⟨v,c⟩) (t:=t) (by simp only[List.length_append];omega) tz) ?_;conv=>whnf
     exact⟨i+1,by rw[hsucc,plStep,if_neg e2,if_pos ⟨rfl,e3⟩];exact Wk.go,h1',by omega⟩
    ·conv=>whnf
     have e3:¬v<t.v:=by simpa using h3
     refine Cn.o [3] (lx_nonzero (l:=o) (t:=t) (by omega) tz) ?_;conv=>whnf
     exact⟨i+1,by rw[hsucc,plStep,if_neg e2,if_neg (fun h=>e3 h.2)];exact Wk.go,h1',by omega⟩
  ·conv=>whnf
   have e:i=f.ts.length:=by simp at h1;omega
   have hh:=hen e;rw[plEnd,if_pos rfl]at hh;refine .c (lx_zcanon (.c hcz)) ?_;conv=>whnf
   refine Cn.o [3] (lx_nonzero (l:=o) (t:=⟨v,c⟩) (by omega) hcz) ?_;conv=>whnf
   exact .s ⟨by rw[plusS,←hh];rfl,rfl⟩
 ·refine bs (fun h1=> ?_) (fun h1=> ?_)
  ·conv=>whnf
   have h1':i<f.ts.length:=by simpa using h1
   obtain⟨t,ht⟩:=at_some h1';obtain⟨t1,t2,t3,t4⟩:=h.tm t (mG_ ht);have z3:=hz t;have tz:Sz t.q:=t4.mono (by omega);have tc:Sz (t.q+c):=(t4.add hc).mono (by omega)
   specialize hsucc t ht
   refine .mk (i) (t.D) (rfl) (at_map ht) ?_;conv=>whnf
   conv=>whnf
   refine bs (fun h2=> ?_) (fun h2=> ?_)
   ·conv=>whnf
    have e2:t.v=v:=by simpa using h2
    refine .c (lx_zadd (.c tz) (.c hcz)) ?_;conv=>whnf
    refine Cn.o [3] (lx_nonzero (l:=o) (t:=⟨t.v,t.q+c⟩) (by omega) tc) ?_;conv=>whnf
    exact⟨i+1,by rw[hsucc,plStep,if_pos e2];exact Wk.go,h1',by omega⟩
   ·conv=>whnf
    have e2:¬t.v=v:=by simpa using h2
    refine Cn.o [3] (lx_nonzero (l:=o) (t:=t) (by omega) tz) ?_;conv=>whnf
    exact⟨i+1,by rw[hsucc,plStep,if_neg e2,if_neg (fun h=>Bool.noConfusion h.1)];exact Wk.go,h1',by omega⟩
  ·conv=>whnf
   have e:i=f.ts.length:=by simp at h1;omega
   have hh:=hen e;rw[plEnd,if_neg (fun h=>Bool.noConfusion h)]at hh;exact .s ⟨by rw[plusS,←hh];rfl,rfl⟩
theorem lx_zvar {v:Int}:LV Tryz.prog 15 [vl (.int .i64 v)] (.agg (varS v).A):=by
 refine LX_run (m:=0) (n0:=0) mix Tryz.func15 rfl rfl rfl rfl ?_;conv=>whnf
 refine .c (lx_zof (z:=1) (by decide) (by decide)) ?_;conv=>whnf
 exact .s ⟨by show _=V.agg (A.d _::(can 0).A);rw[can0];rfl,rfl⟩
theorem TsOk.take {n:Int}:∀{ts:List Tm} {lo:Int} (i:Nat),TsOk n lo ts→TsOk n lo (ts.take i)
 |[],_,i,_=>by simp[TsOk]
 |t::ts,_,0,_=>trivial
 |t::ts,lo,i+1,h=>⟨h.1,h.2.1,h.2.2.1,TsOk.take i h.2.2.2⟩
theorem TsOk.cof_b {n:Int}{k:Nat}(w:Int):∀{ts:List Tm} {lo:Int},TsOk n lo ts→(∀t∈ts,Bt k t.q)→Bt k (cof ts w)
 |[],_,_,_=>bt0 k
 |t::ts,lo,h,hb=>by
  rw[cof];split
  ·rename_i e;rw[h.2.2.2.cof_lt (by omega),Rat.add_zero];exact hb t (by simp)
  ·rw[Rat.zero_add];exact TsOk.cof_b w h.2.2.2 fun t ht=>hb t (by simp[ht])
theorem FB.take {k:Nat}{n:Int}{f:Af}(h:FB k n f)(i:Nat):FB k n ⟨f.ts.take i,f.c⟩:=
 ⟨h.ts.take i,fun w=>(h.ts.take i).cof_b w fun t ht=>(h.tm t (List.mem_of_mem_take ht)).2.2.2,h.c⟩
def addTo (f g:Af)(i:Nat):List Tm:=(g.ts.take i).foldl (fun a t=>ins t.v t.q a) f.ts
theorem lx_add {f g:Af}{n:Int}{k l:Nat}(h:FB k n f)(h':FB l n g)(h0:0≤n)(hn:n≤100000)(hk:k+l+1≤1000000000):LV Tryz.prog 41 [.agg f.A,.agg g.A] (.agg (addS f g).A):=by
 have hlen:=h'.ts.len h0;refine LX_run (m:=0) (n0:=0) mix Tryz.func41 rfl rfl rfl rfl ?_;conv=>whnf
 refine .c (lx_zadd (.c (h.c.mono (by omega))) (.c (h'.c.mono (by omega)))) ?_;conv=>whnf
 refine .mk (by kernel_rfl) ?_;conv=>whnf
 refine .mk Nat (fun i=>⟨[(6,vl (.int .i64 i)),(5,.a (.ptr 3 0)),(4,.a (.ptr 2 0)),(3,.a (.ptr 1 0))],[(1,.box 36 g.A),(2,.box 36 [.d (.lit (.slice none 0 0)),.d (.lit (.bool false)),.d (.nat 0),.d (.nat 0)]),(3,.box 36 (Af.A ⟨addTo f g i,f.c+g.c⟩))],4⟩) (fun i=>i≤g.ts.length) (fun i=>g.ts.length-i) 0 Wk.go (zL_ _) fun i hi=> ?_;conv=>whnf
 conv=>whnf
 have hp:FB (k+l+1) n ⟨addTo f g i,f.c+g.c⟩:=h.add (h'.take i);have hlp:=hp.ts.len h0;refine bs (fun h1=> ?_) (fun h1=> ?_)
 ·conv=>whnf
  have h1':i<g.ts.length:=by simpa using h1
  obtain⟨t,ht⟩:=at_some h1';obtain⟨t1,t2,t3,t4⟩:=h'.tm t (mG_ ht);have e:addTo f g (i+1)=ins t.v t.q (addTo f g i):=by rw[addTo,take_snoc ht,List.foldl_append];rfl
  refine .mk (i) (t.D) (rfl) (at_map ht) ?_;conv=>whnf
  conv=>whnf
  refine .mk (i) (t.D) (rfl) (at_map ht) ?_;conv=>whnf
  conv=>whnf
  refine .c (lx_plus hp t4 t1 t2 hn (by omega)) ?_;conv=>whnf
  refine .mk (by kernel_rfl) ?_;conv=>whnf
  exact⟨i+1,by rw[e];exact Wk.go,h1',by omega⟩
 ·conv=>whnf
  have e:i=g.ts.length:=by simp at h1;omega
  have e2:addTo f g i=(addS f g).ts:=by rw[addTo,e,List.take_length];rfl
  simp only at hlp;refine .own ?_;conv=>whnf
  refine .mk ((addTo f g i).map Tm.D) rfl rfl (by simp;omega) ?_;conv=>whnf
  refine .mk (by kernel_rfl) ?_;conv=>whnf
  exact .s ⟨by rw[e2];rfl,rfl⟩
def scTo (f:Af)(c:Rat)(i:Nat):List Tm:=(f.ts.take i).flatMap fun t=>nz1 ⟨t.v,t.q*c⟩
theorem scTo_len (f:Af)(c:Rat)(i:Nat):(scTo f c i).length≤i:=by
 unfold scTo;refine tL_ ?_ (List.length_take_le i f.ts);generalize f.ts.take i=l
 induction l with
 |nil=>simp
 |cons t l ih=>
  have:(nz1 ⟨t.v,t.q*c⟩).length≤1:=by unfold nz1;split<;>simp
  simp only[List.flatMap_cons,List.length_append,List.length_cons];omega
theorem lx_scale {f:Af}{n:Int}{c:Rat}{k l:Nat}(h:FB k n f)(hc:Bt l c)(h0:0≤n)(hn:n≤100000)(hk:k+l≤3000000000):LV Tryz.prog 10 [.agg f.A,.agg (can c).A] (.agg (scaleS f c).A):=by
 have hlen:=h.ts.len h0;refine LX_run (m:=0) (n0:=0) mix Tryz.func10 rfl rfl rfl rfl ?_;conv=>whnf
 refine .c (lx_zmul (.c (h.c.mono (by omega))) (.c (hc.mono (by omega)))) ?_;conv=>whnf
 refine .mk Nat (fun i=>⟨[(6,vl (.int .i64 i)),(5,.a (.ptr 3 0)),(4,.a (.ptr 2 0)),(3,.a (.ptr 1 0)),(2,.a (.ptr 0 0))],[(0,.box 36 f.A),(1,.box 34 (can c).A),(2,.box 36 [.d (.lit (.slice none 0 0)),.d (.lit (.bool false)),.d (.nat 0),.d (.nat 0)]),
  (3,.box 36 (.own 4 4 ((scTo f c i).map Tm.D)::(can (f.c*c)).A)),(4,.arr 98 4 ((scTo f c i).map Tm.D).length)],5⟩) (fun i=>i≤f.ts.length) (fun i=>f.ts.length-i) 0
  (Wk.trans (Wk.ownB 3 4 0 98 4 rfl rfl rfl) Wk.go) (zL_ _) fun i hi=> ?_
 conv=>whnf
 have hsl:=scTo_len f c i;refine bs (fun h1=> ?_) (fun h1=> ?_)
 ·conv=>whnf
  have h1':i<f.ts.length:=by simpa using h1
  obtain⟨t,ht⟩:=at_some h1';obtain⟨t1,t2,t3,t4⟩:=h.tm t (mG_ ht);have e:scTo f c (i+1)=scTo f c i++nz1 ⟨t.v,t.q*c⟩:=by rw[scTo,take_snoc ht,List.flatMap_append];simp;rfl
  refine .mk (i) (t.D) (rfl) (at_map ht) ?_;conv=>whnf
  conv=>whnf
  refine .mk (i) (t.D) (rfl) (at_map ht) ?_;conv=>whnf
  conv=>whnf
  refine .c (lx_zmul (.c (t4.mono (by omega))) (.c (hc.mono (by omega)))) ?_;conv=>whnf
  refine Cn.o [4] (lx_nonzero (l:=scTo f c i) (t:=⟨t.v,t.q*c⟩) (by omega) ((t4.mul hc).mono (by omega))) ?_;conv=>whnf
  refine .mk (by kernel_rfl) ?_;conv=>whnf
  exact⟨i+1,by rw[e];exact Wk.go,h1',by omega⟩
 ·conv=>whnf
  have e:i=f.ts.length:=by simp at h1;omega
  have e2:scTo f c i=(scaleS f c).ts:=by rw[scTo,e,List.take_length];rfl
  exact .s ⟨by rw[e2];rfl,rfl⟩
abbrev bysD (raw:List Nat):D:= .sl 1 (raw.map fun b=>[.lit (.int .u8 (b:Nat))])
abbrev fdH (raw:List Nat)(a:Nat):List (Nat×Ent):=[(0,.box 109 [.d (bysD raw),.d (.lit (.int .i64 (a:Nat)))])]
structure RawOk (raw:List Nat):Prop where
 len:raw.length≤1000000
 by_:∀b∈raw,b<256
theorem lx_new2 {raw:List Nat}(h:RawOk raw):LX Tryz.prog 20 [.a (.d (bysD raw))] [] fun v H=>v= .a (.ptr 2 0)∧H=[(2,.box 109 [.d (bysD raw),.d (.lit (.int .i64 (0:Nat)))])]:=by
 have hl:=h.len;refine LX_run (m:=0) (n0:=0) mix Tryz.func20 rfl rfl rfl rfl ?_;conv=>whnf
 refine .own ?_;conv=>whnf
 refine .mk (raw.map fun b=>[.lit (.int .u8 (b:Nat))]) rfl rfl (by simp;omega) ?_;conv=>whnf
 exact⟨_,_,⟨rfl,rfl⟩,vR_ _,rfl,⟨⟨_,rfl,⟨_,rfl,WkA.own,aR_ _,trivial⟩,rfl⟩,trivial⟩,rfl⟩
theorem all2_dd {γ γ':Gh}{h h':Hp}{M:MS}{w:World}:∀{ds:List D} {vs:List Value},All2 (RdA γ h M w) (ds.map A.d) vs→All2 (RdA γ' h' M w) (ds.map A.d) vs
 |[],[],_=>trivial
 |d::ds,v::vs,k=>⟨k.1,all2_dd k.2⟩
 |[],_::_,k=>k.elim
 |_::_,[],k=>k.elim
theorem LC.key0 {P:Program}{F:FuncId}{args:List V}{j:Nat}{t:TypeId}{ds:List D}(hc:LC P F args [] (.a (.ptr j 0)) [(j,.box t (ds.map A.d))]):LC P F args [] (.a (.ptr 0 0)) [(0,.box t (ds.map A.d))]:=by
 intro γ M w rs hr ha;refine cM (hc γ M w rs hr ha) ?_;rintro e w' ⟨r,γ',M',h1,h2,h3,h4⟩
 have hl0:∀key e',look [(0,Ent.box t (ds.map A.d))] key=some e'→key=0∧e'= .box t (ds.map A.d):=fun key e' h=>by
  simp only[look]at h;split at h
  ·injection h with h;exact⟨by omega,h.symm⟩
  ·cases h
 have hlj:look [(j,Ent.box t (ds.map A.d))] j=some (.box t (ds.map A.d)):=by simp[look]
 have ho:∀key b i,Owns (fun _=>γ' j) (look [(0,Ent.box t (ds.map A.d))]) key b i→Owns γ' (look [(j,Ent.box t (ds.map A.d))]) j b i:=fun key b i h=>by
  unfold Owns at h
  cases h5:look [(0,Ent.box t (ds.map A.d))] key with
  |none=>rw[h5]at h;exact h.elim
  |some e'=>
   obtain⟨rfl,rfl⟩:=hl0 key e' h5;rw[h5]at h;simp only[Owns,hlj];exact h
 refine⟨r,fun _=>γ' j,M',h1,⟨fun key e' h=> ?_,fun key b i h=>h2.own j b i (ho key b i h),fun k1 k2 b l1 l2 _ _=> ?_,h2.u32,h2.dom,h2.glb⟩,?_,⟨h4.os,h4.tape,h4.output,h4.size,h4.fx,h4.other,h4.keep,fun key b i h hb=>h4.new j b i (ho key b i h) hb,fun key e h=>by simp[look]at h⟩⟩
 ·obtain⟨rfl,rfl⟩:=hl0 key e' h;obtain⟨g,vs,q1,q2,q3⟩:=h2.ent j _ hlj;exact⟨g,vs,q1,q2,all2_dd q3⟩
 ·cases h5:look [(0,Ent.box t (ds.map A.d))] k1 with
  |none=>rw[h5]at l1;cases l1
  |some e1=>
   cases h6:look [(0,Ent.box t (ds.map A.d))] k2 with
   |none=>rw[h6]at l2;cases l2
   |some e2=>rw[(hl0 _ _ h5).1,(hl0 _ _ h6).1]
 ·obtain⟨_,g,q1,q2⟩:=h3;exact⟨rfl,g,q1,q2⟩
theorem lx_new {raw:List Nat}(h:RawOk raw):LX Tryz.prog 20 [.a (.d (bysD raw))] [] fun v H=>v= .a (.ptr 0 0)∧H=fdH raw 0:=by
 obtain⟨v,H,⟨rfl,rfl⟩,hc⟩:=lx_new2 h;exact⟨_,_,⟨rfl,rfl⟩,LC.key0 (ds:=[bysD raw,.lit (.int .i64 (0:Nat))]) hc⟩
theorem lx_next {raw:List Nat}{a n:Nat}(h:RawOk raw)(ha:a≤raw.length)(hn:1≤n∧n≤9):∃a' m:Nat,a'≤raw.length∧m<n∧LX Tryz.prog 81 [.a (.ptr 0 0),vl (.int .i64 (n:Nat))] (fdH raw a) fun v H=>v=vl (.int .i64 (m:Nat))∧H=fdH raw a':=by
 have hl:=h.len;rcases Nat.lt_or_ge a raw.length with h1|h1
 ·obtain⟨b,hb⟩:=at_some h1;have hbb:=h.by_ b (mG_ hb);refine⟨a+1,b % n,h1,Nat.mod_lt _ (by omega),?_⟩;have hw:IntKind.i64.wrap ((a:Int)+1)=((a+1:Nat):Int):=by rw[wr64 (by omega) (by omega)];omega
  have hw2:IntKind.i64.wrap (((a+1:Nat):Int)-1)=(a:Int):=by rw[wr64 (by omega) (by omega)];omega
  have hw3:IntKind.i64.wrap (b:Int)=(b:Int):=wr64 (by omega) (by omega);obtain rfl|rfl|rfl|rfl|rfl|rfl|rfl|rfl|rfl:n=1∨n=2∨n=3∨n=4∨n=5∨n=6∨n=7∨n=8∨n=9:=by omega
  all_goals refine LX_run (m:=1) (n0:=1) mix Tryz.func81 rfl rfl rfl rfl ?_
            conv=>whnf
  all_goals refine bF (decide_eq_false (by simp;omega)) ?_
            conv=>whnf
  all_goals refine .mk (by kernel_rfl) ?_
            conv=>whnf
  all_goals rw[hw,hw2]
  all_goals refine .mk (a) ([.lit (.int .u8 (b:Nat))]) (rfl) (at_map hb) ?_
            conv=>whnf
  all_goals conv=>whnf
  all_goals refine .mk _ ⟨by decide,rfl⟩ rfl ?_
  all_goals conv=>whnf
  all_goals refine .mk (by kernel_rfl) ?_
            conv=>whnf
  all_goals exact⟨_,_,⟨rfl,rfl⟩,WkV.int (by rw[hw3];rfl),rfl,⟨⟨_,rfl,wke_refl _,rfl⟩,trivial⟩,rfl⟩
 ·refine⟨a,0,ha,by omega,?_⟩;refine LX_run (m:=1) (n0:=1) mix Tryz.func81 rfl rfl rfl rfl ?_;conv=>whnf
  refine bT (decide_eq_true (by simp;omega)) ?_;conv=>whnf
  refine .mk (by kernel_rfl) ?_;conv=>whnf
  exact⟨_,_,⟨rfl,rfl⟩,vR_ _,rfl,⟨⟨_,rfl,wke_refl _,rfl⟩,trivial⟩,rfl⟩
theorem frac_b {z d:Int}(hz:z.natAbs≤2^3)(hd:d=1∨d=2∨d=4):Bt 5 ((z:Rat)/(d:Rat)):=by
 have h1:Bt 3 (z:Rat):=Bt.int hz;have h2:Bt 2 (d:Rat):=Bt.int (by rcases hd with rfl|rfl|rfl<;>decide);exact h1.div h2 (by rcases hd with rfl|rfl|rfl<;>decide)
theorem lx_number {raw:List Nat}{a:Nat}(h:RawOk raw)(ha:a≤raw.length):∃(a':Nat) (q:Rat),a'≤raw.length∧Bt 5 q∧LX Tryz.prog 82 [.a (.ptr 0 0)] (fdH raw a) fun v H=>v=ratV q∧H=fdH raw a':=by
 obtain⟨a1,m1,h1,h2,c1⟩:=lx_next (n:=9) h ha (by omega);obtain⟨a2,m2,h3,h4,c2⟩:=lx_next (n:=4) h h1 (by omega);have hw:IntKind.i64.wrap ((m1:Int)-4)=(m1:Int)-4:=wr64 (by omega) (by omega);have hz:((m1:Int)-4).natAbs≤2^3:=by omega
 have go:∀d:Int,(d=1∨d=2∨d=4)→∃(a':Nat) (q:Rat),q=(((m1:Int)-4:Int):Rat)/(d:Rat)∧a'≤raw.length∧Bt 5 q∧a'=a2:=fun d hd=>⟨a2,_,rfl,h3,frac_b hz hd,rfl⟩;obtain⟨d,hd,hm⟩:∃d:Int,(d=1∨d=2∨d=4)∧((m2=0∧d=1)∨(m2=1∧d=1)∨(m2=2∧d=2)∨(m2=3∧d=4)):=by
  obtain e|e|e|e:m2=0∨m2=1∨m2=2∨m2=3:=by omega
  ·exact⟨1,by omega,by omega⟩
  ·exact⟨1,by omega,by omega⟩
  ·exact⟨2,by omega,by omega⟩
  ·exact⟨4,by omega,by omega⟩
 refine⟨a2,_,h3,frac_b hz hd,?_⟩;obtain⟨rfl,rfl⟩|⟨rfl,rfl⟩|⟨rfl,rfl⟩|⟨rfl,rfl⟩:=hm
 all_goals refine LX_run (m:=1) (n0:=1) mix Tryz.func82 rfl rfl rfl rfl ?_
           conv=>whnf
 all_goals refine .l [0] (c1) ?_
           conv=>whnf
 all_goals refine .l [0] (c2) ?_
           conv=>whnf
 all_goals rw[hw]
 ·refine .c (lx_zfrac (z:=1) (by omega) (by omega) (by omega) (by omega) (by omega)) ?_;conv=>whnf
  exact⟨_,_,⟨rfl,rfl⟩,vR_ _,rfl,⟨⟨_,rfl,wke_refl _,rfl⟩,trivial⟩,rfl⟩
 ·refine .c (lx_zfrac (z:=1) (by omega) (by omega) (by omega) (by omega) (by omega)) ?_;conv=>whnf
  exact⟨_,_,⟨rfl,rfl⟩,vR_ _,rfl,⟨⟨_,rfl,wke_refl _,rfl⟩,trivial⟩,rfl⟩
 ·refine .c (lx_zfrac (z:=2) (by omega) (by omega) (by omega) (by omega) (by omega)) ?_;conv=>whnf
  exact⟨_,_,⟨rfl,rfl⟩,vR_ _,rfl,⟨⟨_,rfl,wke_refl _,rfl⟩,trivial⟩,rfl⟩
 ·refine .c (lx_zfrac (z:=4) (by omega) (by omega) (by omega) (by omega) (by omega)) ?_;conv=>whnf
  exact⟨_,_,⟨rfl,rfl⟩,vR_ _,rfl,⟨⟨_,rfl,wke_refl _,rfl⟩,trivial⟩,rfl⟩
theorem TsOk.cof_ge {n:Int}{ts:List Tm}{lo w:Int}(h:TsOk n lo ts)(hw:n≤w):cof ts w=0:=by
 induction ts generalizing lo with
 |nil=>rfl
 |cons t ts ih=>
  have:=h.2.1;rw[cof,if_neg (by omega),ih h.2.2.2,Rat.add_zero]
theorem FB.snoc {v:Nat}{f:Af}{q:Rat}(h:FB 5 v f)(hq:Bt 5 q):FB 5 (v+1:Nat) (addS f (scaleS (varS v) q)):=by
 have h1:=(FB.var (n:=((v+1:Nat):Int)) (v:=v) (by omega) (by omega)).scale hq
 have e1:∀w:Int,cof (scaleS (varS v) q).ts w=if(v:Int)=w then q else 0:=fun w=>by
  rw[scaleS,cof_scale,varS,cof,cof,Rat.add_zero];split
  ·exact Rat.one_mul q
  ·exact Rat.zero_mul q
 refine⟨ok_fold (fun t ht=>let h:=h1.tm t ht;⟨h.1,h.2.1⟩) (h.ts.up (by omega)),fun w=> ?_,?_⟩
 ·rw[addS,cof_fold,e1];split
  ·rename_i e;rw[h.ts.cof_ge (by omega),Rat.zero_add];exact hq
  ·rw[Rat.add_zero];exact h.co w
 ·show Bt 5 (f.c+0*q);rw[Rat.zero_mul,Rat.add_zero];exact h.c
theorem lx_form {raw:List Nat}{a n:Nat}(h:RawOk raw)(ha:a≤raw.length)(hn:n≤10000):∃(a':Nat) (f:Af),a'≤raw.length∧FB 5 n f∧LX Tryz.prog 47 [.a (.ptr 0 0),vl (.int .i64 (n:Nat))] (fdH raw a) fun v H=>v= .agg f.A∧H=fdH raw a':=by
 suffices hh:LX Tryz.prog 47 [.a (.ptr 0 0),vl (.int .i64 (n:Nat))] (fdH raw a) fun v H=>∃(a':Nat) (f:Af),(a'≤raw.length∧FB 5 n f)∧v= .agg f.A∧H=fdH raw a' by
  obtain⟨v,H',⟨a',f,⟨h1,h2⟩,rfl,rfl⟩,hc⟩:=hh;exact⟨a',f,h1,h2,_,_,⟨rfl,rfl⟩,hc⟩
 obtain⟨a1,q,h1,h2,c1⟩:=lx_number h ha;refine LX_run (m:=1) (n0:=1) mix Tryz.func47 rfl rfl rfl rfl ?_;conv=>whnf
 refine .l [0] (c1) ?_;conv=>whnf
 refine .mk (Nat×Nat×Af) (fun(i,a,f)=>⟨[(6,vl (.int .i64 (i:Nat))),(5,.a (.ptr 3 0)),(4,.a (.ptr 1 0)),(1,vl (.int .i64 (n:Nat))),(0,.a (.ptr 0 0))],[(0,.box 109 [.d (bysD raw),.d (.lit (.int .i64 (a:Nat)))]),(1,.box 36 [.d (.lit (.slice none 0 0)),.d (.lit (.bool false)),.d (.nat 0),.d (.nat 0)]),(3,.box 36 f.A)],4⟩)
  (fun b=>b.1≤n∧b.2.1≤raw.length∧FB 5 b.1 b.2.2) (fun b=>n-b.1) (0,a1,numS q) ?_ ⟨zL_ _,h1,FB.num h2⟩ fun⟨i,a,f⟩ hb=> ?_
 ·exact Wk.go (h2:=⟨⟨_,rfl,wke_refl _,rfl⟩,⟨_,rfl,wke_refl _,rfl⟩,⟨_,rfl,⟨_,rfl,WkA.nil,aR_ _,aR_ _,aR_ _,trivial⟩,rfl⟩,trivial⟩)
 obtain⟨hi,ha,hf⟩:=hb;simp only at hi ha hf;conv=>whnf
 refine bs (fun h3=> ?_) (fun h3=> ?_)
 ·conv=>whnf
  have h3':i<n:=by simpa using h3
  obtain⟨a2,m,k1,k2,c2⟩:=lx_next (n:=3) h ha (by omega);refine .l [0] (c2) ?_;conv=>whnf
  refine bs (fun h4=> ?_) (fun h4=> ?_)
  ·conv=>whnf
   obtain⟨a3,q',k3,k4,c3⟩:=lx_number h k1;have hv:=FB.var (n:=((i+1:Nat):Int)) (v:=i) (by omega) (by omega);refine .c (lx_zvar) ?_;conv=>whnf
   refine .l [0] (c3) ?_;conv=>whnf
   refine .c (lx_scale hv k4 (by omega) (by omega) (by omega)) ?_;conv=>whnf
   refine .c (lx_add (hf.up (n':=((i+1:Nat):Int)) (lR_ 5) (by omega)) (hv.scale k4) (by omega) (by omega) (by omega)) ?_;conv=>whnf
   refine .mk (by kernel_rfl) ?_;conv=>whnf
   exact⟨(i+1,a3,addS f (scaleS (varS i) q')),Wk.go,⟨h3',k3,hf.snoc k4⟩,by simp only;omega⟩
  ·conv=>whnf
   exact⟨(i+1,a2,f),Wk.go,⟨h3',k1,hf.up (lR_ 5) (by simp only;omega)⟩,by simp only;omega⟩
 ·conv=>whnf
  have e:i=n:=by simp at h3;omega
  subst e;exact⟨_,_,⟨a,f,⟨ha,hf⟩,rfl,rfl⟩,vR_ _,rfl,⟨⟨_,rfl,wke_refl _,rfl⟩,trivial⟩,rfl⟩
structure FsB (n:Int)(fs:List Af):Prop where
 fb:∀f∈fs,FB 5 n f
structure GrB (g:Gr):Prop where
 n1:1≤g.n
 n2:g.n≤3
 u1:g.us.length≤4
 o1:1≤g.os.length
 o2:g.os.length≤3
 us:∀(j:Nat) (f:Af),g.us[j]? =some f→FB 5 (g.n+j:Nat) f
 os:∀f∈g.os,FB 5 (g.n+g.us.length:Nat) f
theorem GrB.ok {g:Gr}(h:GrB g):GrOk g:=by
 have:=h.n1;have:=h.n2;have:=h.u1;have:=h.o1;have:=h.o2;exact⟨by omega,by omega,by omega,by omega,by omega,fun j f hj=>(h.us j f hj).ok (by decide) (by omega) (by have:=at_lt hj;omega),fun f hf=>(h.os f hf).ok (by decide) (by omega) (by omega)⟩
theorem lx_graph {raw:List Nat}{a:Nat}(h:RawOk raw)(ha:a≤raw.length):∃(a':Nat) (g:Gr),a'≤raw.length∧GrB g∧LX Tryz.prog 45 [.a (.ptr 0 0)] (fdH raw a) fun v H=>v= .agg g.A∧H=fdH raw a':=by
 suffices hh:LX Tryz.prog 45 [.a (.ptr 0 0)] (fdH raw a) fun v H=>∃(a':Nat) (g:Gr),(a'≤raw.length∧GrB g)∧v= .agg g.A∧H=fdH raw a' by
  obtain⟨v,H',⟨a',f,⟨h1,h2⟩,rfl,rfl⟩,hc⟩:=hh;exact⟨a',f,h1,h2,_,_,⟨rfl,rfl⟩,hc⟩
 obtain⟨a1,m1,k1,k2,c1⟩:=lx_next (n:=3) h ha (by omega);obtain⟨a2,m2,k3,k4,c2⟩:=lx_next (n:=5) h k1 (by omega);obtain⟨a3,m3,k5,k6,c3⟩:=lx_next (n:=3) h k3 (by omega);have hw:IntKind.i64.wrap (1+(m1:Int))=((m1+1:Nat):Int):=by rw[wr64 (by omega) (by omega)];omega
 have hw3:IntKind.i64.wrap (1+(m3:Int))=((m3+1:Nat):Int):=by rw[wr64 (by omega) (by omega)];omega
 refine LX_run (m:=1) (n0:=1) mix Tryz.func45 rfl rfl rfl rfl ?_;conv=>whnf
 refine .l [0] (c1) ?_;conv=>whnf
 rw[hw];refine .l [0] (c2) ?_;conv=>whnf
 refine .l [0] (c3) ?_;conv=>whnf
 rw[hw3];refine .mk (Nat×Nat×List Af) (fun(i,a,us)=>⟨[(6,vl (.int .i64 (i:Nat))),(5,vl (.int .i64 ((m3+1:Nat):Int))),(4,vl (.int .i64 (m2:Nat))),(3,.a (.ptr 3 0)),(2,.a (.ptr 1 0)),(0,.a (.ptr 0 0))],[(0,.box 109 [.d (bysD raw),.d (.lit (.int .i64 (a:Nat)))]),(1,.box 26 [.d (.lit (.int .i64 0)),.d (.lit (.slice none 0 0)),.d (.lit (.slice none 0 0))]),(3,.box 26 [.d (.lit (.int .i64 ((m1+1:Nat):Int))),.own 6 4 (us.map Af.D),.d (.lit (.slice none 0 0))]),(6,.arr 36 4 (us.map Af.D).length)],7⟩)
  (fun b=>b.1≤m2∧b.2.1≤raw.length∧b.2.2.length=b.1∧∀(j:Nat) (f:Af),b.2.2[j]? =some f→FB 5 (m1+1+j:Nat) f) (fun b=>m2-b.1) (0,a3,[]) (Wk.trans (Wk.ownB 3 6 1 36 4 rfl rfl rfl) Wk.go) ⟨zL_ _,k5,rfl,fun j f hj=>by simp at hj⟩ fun⟨i,a,us⟩ hb=> ?_
 obtain⟨hi,ha,hu,hf⟩:=hb;simp only at hi ha hu hf;conv=>whnf
 refine bs (fun h3=> ?_) (fun h3=> ?_)
 ·conv=>whnf
  have h3':i<m2:=by simpa using h3
  have hwi:IntKind.i64.wrap (((m1+1:Nat):Int)+(i:Int))=((m1+1+i:Nat):Int):=by rw[wr64 (by omega) (by omega)];omega
  obtain⟨a4,f,k7,k8,c4⟩:=lx_form (n:=m1+1+i) h ha (by omega);rw[hwi];refine .l [0] (c4) ?_;conv=>whnf
  refine .mk ((us++[f]).map Af.D) rfl (by rw[List.map_append];rfl) (by simp;omega) ?_;conv=>whnf
  refine .mk (by kernel_rfl) ?_;conv=>whnf
  refine⟨(i+1,a4,us++[f]),Wk.go,⟨h3',k7,by simp[hu],fun j g hj=> ?_⟩,by simp only;omega⟩;simp only at hj;rcases Nat.lt_trichotomy j i with h5|h5|h5
  ·rw[List.getElem?_append_left (by omega)]at hj;exact hf j g hj
  ·subst h5;rw[←hu,List.getElem?_concat_length]at hj;injection hj with hj;subst hj;exact k8
  ·rw[List.getElem?_eq_none (by simp;omega)]at hj;cases hj
 ·conv=>whnf
  have e:i=m2:=by simp at h3;omega
  subst e;refine .mk (Nat×Nat×List Af) (fun(j,a,os)=>⟨[(7,vl (.int .i64 (j:Nat))),(5,vl (.int .i64 ((m3+1:Nat):Int))),(4,vl (.int .i64 (i:Nat))),(3,.a (.ptr 3 0)),(2,.a (.ptr 1 0)),(0,.a (.ptr 0 0))],[(0,.box 109 [.d (bysD raw),.d (.lit (.int .i64 (a:Nat)))]),(1,.box 26 [.d (.lit (.int .i64 0)),.d (.lit (.slice none 0 0)),.d (.lit (.slice none 0 0))]),(3,.box 26 [.d (.lit (.int .i64 ((m1+1:Nat):Int))),.d (afsD us),.own 7 4 (os.map Af.D)]),(7,.arr 36 4 (os.map Af.D).length)],8⟩)
   (fun b=>b.1≤m3+1∧b.2.1≤raw.length∧b.2.2.length=b.1∧∀f∈b.2.2,FB 5 (m1+1+i:Nat) f) (fun b=>m3+1-b.1) (0,a,[]) (Wk.trans (Wk.ownB 3 7 2 36 4 rfl rfl rfl) (Wk.go (h2:=⟨⟨_,rfl,wke_refl _,rfl⟩,⟨_,rfl,wke_refl _,rfl⟩,⟨_,rfl,⟨_,rfl,aR_ _,WkA.own,aR_ _,trivial⟩,rfl⟩,⟨_,rfl,wke_refl _,rfl⟩,trivial⟩))) ⟨zL_ _,ha,rfl,fun f hj=>by cases hj⟩ fun⟨j,a',os⟩ hb=> ?_
  obtain⟨hj,ha',ho,hg⟩:=hb;simp only at hj ha' ho hg;conv=>whnf
  refine bs (fun h4=> ?_) (fun h4=> ?_)
  ·conv=>whnf
   have h4':j<m3+1:=by simp at h4;omega
   have hwi:IntKind.i64.wrap (((m1+1:Nat):Int)+(i:Int))=((m1+1+i:Nat):Int):=by rw[wr64 (by omega) (by omega)];omega
   obtain⟨a4,f,k7,k8,c4⟩:=lx_form (n:=m1+1+i) h ha' (by omega);rw[hwi];refine .l [0] (c4) ?_;conv=>whnf
   refine .mk ((os++[f]).map Af.D) rfl (by rw[List.map_append];rfl) (by simp;omega) ?_;conv=>whnf
   refine .mk (by kernel_rfl) ?_;conv=>whnf
   refine⟨(j+1,a4,os++[f]),Wk.go,⟨h4',k7,by simp[ho],fun g hj=> ?_⟩,by simp only;omega⟩;simp only at hj;rcases List.mem_append.1 hj with h5|h5
   ·exact hg g h5
   ·rw[List.mem_singleton.1 h5];exact k8
  ·conv=>whnf
   have e:j=m3+1:=by simp at h4;omega
   exact⟨_,_,⟨a',⟨m1+1,us,os⟩,⟨ha',⟨by simp only;omega,by simp only;omega,by simp only;omega,by simp only;omega,by simp only;omega,hf,fun f hf'=>by rw[show((Gr.mk (m1+1) us os).n+(Gr.mk (m1+1) us os).us.length:Nat)=m1+1+i by simp only;omega];exact hg f hf'⟩⟩,rfl,rfl⟩,WkV.agg ⟨aR_ _,aR_ _,WkA.own,trivial⟩,rfl,⟨⟨_,rfl,wke_refl _,rfl⟩,trivial⟩,rfl⟩
structure RgB (r:Rg)(n:Nat):Prop where
 lo:r.lo.length=n
 hi:r.hi.length=n
 rl:r.rs.length≤2
 sl:∀q∈r.lo,Bt 11 q
 sh:∀q∈r.hi,Bt 11 q
 le:∀(i:Nat) (a b:Rat),r.lo[i]? =some a→r.hi[i]? =some b→a≤b
 rs:∀f∈r.rs,FB 5 n f
theorem RgB.ok {r:Rg}{n:Nat}(h:RgB r n)(h1:1≤n)(h2:n≤3):RgOk r n:=
 ⟨h1,by omega,h.lo,h.hi,by have:=h.rl;omega,h.le,fun q hq=>(h.sl q hq).mono (by decide),fun q hq=>(h.sh q hq).mono (by decide),fun f hf=>(h.rs f hf).ok (by decide) (by omega) (by omega)⟩
theorem abs_nn (q:Rat):0≤mkRat q.num.natAbs q.den:=by
 rw[←Rat.divInt_ofNat,Rat.divInt_nonneg_iff_of_pos_right (by have:=q.den_pos;omega)];omega
theorem lx_small {raw:List Nat}{a n:Nat}(h:RawOk raw)(ha:a≤raw.length)(hn:n≤1000):∃(a':Nat) (r:Rg),a'≤raw.length∧RgB r n∧LX Tryz.prog 46 [.a (.ptr 0 0),vl (.int .i64 (n:Nat))] (fdH raw a) fun v H=>v= .agg r.A∧H=fdH raw a':=by
 suffices hh:LX Tryz.prog 46 [.a (.ptr 0 0),vl (.int .i64 (n:Nat))] (fdH raw a) fun v H=>∃(a':Nat) (r:Rg),(a'≤raw.length∧RgB r n)∧v= .agg r.A∧H=fdH raw a' by
  obtain⟨v,H',⟨a',f,⟨h1,h2⟩,rfl,rfl⟩,hc⟩:=hh;exact⟨a',f,h1,h2,_,_,⟨rfl,rfl⟩,hc⟩
 refine LX_run (m:=1) (n0:=1) mix Tryz.func46 rfl rfl rfl rfl ?_;conv=>whnf
 refine .mk (Nat×Nat×List Rat×List Rat) (fun(i,a,lo,hi)=>⟨[(6,vl (.int .i64 (i:Nat))),(5,.a (.ptr 2 0)),(4,.a (.ptr 1 0)),(1,vl (.int .i64 (n:Nat))),(0,.a (.ptr 0 0))],[(0,.box 109 [.d (bysD raw),.d (.lit (.int .i64 (a:Nat)))]),(1,.box 29 [.d (.lit (.slice none 0 0)),.d (.lit (.slice none 0 0)),.d (.lit (.slice none 0 0))]),(2,.box 29 [.own 3 3 (lo.map fun q=>(can q).D),.own 4 3 (hi.map fun q=>(can q).D),.d (.lit (.slice none 0 0))]),(3,.arr 34 3 (lo.map fun q=>(can q).D).length),(4,.arr 34 3 (hi.map fun q=>(can q).D).length)],5⟩)
  (fun b=>b.1≤n∧b.2.1≤raw.length∧RgB ⟨b.2.2.1,b.2.2.2,[]⟩ b.1) (fun b=>n-b.1) (0,a,[],[]) (Wk.trans (Wk.ownB 2 3 0 34 3 rfl rfl rfl) (Wk.trans (Wk.ownB 2 4 1 34 3 rfl rfl rfl) Wk.go))
  ⟨zL_ _,ha,rfl,rfl,by simp,fun q h=>by simp at h,fun q h=>by simp at h,fun i a b h=>by simp at h,fun f h=>by simp at h⟩ fun⟨i,a,lo,hi⟩ hb=> ?_
 obtain⟨hin,ha,hr⟩:=hb;simp only at hin ha hr;conv=>whnf
 refine bs (fun h3=> ?_) (fun h3=> ?_)
 ·conv=>whnf
  have h3':i<n:=by simpa using h3
  obtain⟨a1,q,k1,k2,c1⟩:=lx_number h ha;obtain⟨a2,q',k3,k4,c2⟩:=lx_number h k1;have e1:=hr.lo;have e2:=hr.hi;simp only at e1 e2;refine .l [0] (c1) ?_;conv=>whnf
  refine .l [0] (c2) ?_;conv=>whnf
  refine .mk ((lo++[q]).map fun q=>(can q).D) rfl (by rw[List.map_append];rfl) (by simp;omega) ?_;conv=>whnf
  refine .c (lx_zadd (.c (k2.mono (by decide))) (.abs k4 (by decide))) ?_;conv=>whnf
  refine .mk ((hi++[q+mkRat q'.num.natAbs q'.den]).map fun q=>(can q).D) rfl (by rw[List.map_append];rfl) (by simp;omega) ?_;conv=>whnf
  refine .mk (by kernel_rfl) ?_;conv=>whnf
  have hsum:Bt 11 (q+mkRat q'.num.natAbs q'.den):=k2.add (bt_mk q'.den_pos (by simpa using k4.1) k4.2);have hnn:=abs_nn q';generalize mkRat q'.num.natAbs q'.den=t at *
  refine⟨(i+1,a2,lo++[q],hi++[q+t]),Wk.go,⟨h3',k3,⟨by simp[e1],by simp[e2],by simp,fun x hx=> ?_,fun x hx=> ?_,fun j x y hx hy=> ?_,fun f hf=>by simp at hf⟩⟩,by simp only;omega⟩
  ·rcases List.mem_append.1 hx with h5|h5
   ·exact hr.sl x h5
   ·rw[List.mem_singleton.1 h5];exact k2.mono (by decide)
  ·rcases List.mem_append.1 hx with h5|h5
   ·exact hr.sh x h5
   ·rw[List.mem_singleton.1 h5];exact hsum
  ·simp only at hx hy;rcases Nat.lt_trichotomy j i with h5|h5|h5
   ·rw[List.getElem?_append_left (by omega)]at hx hy;exact hr.le j x y hx hy
   ·subst h5;rw[List.getElem?_append_right (by omega),e1,Nat.sub_self]at hx;rw[List.getElem?_append_right (by omega),e2,Nat.sub_self]at hy;simp at hx hy;subst hx hy;grind
   ·rw[List.getElem?_eq_none (by simp;omega)]at hx;cases hx
 ·conv=>whnf
  have e:i=n:=by simp at h3;omega
  subst e;obtain⟨a1,m,k1,k2,c1⟩:=lx_next (n:=3) h ha (by omega);refine .l [0] (c1) ?_;conv=>whnf
  refine .mk (Nat×Nat×List Af) (fun(k,a,rs)=>⟨[(9,vl (.int .i64 (k:Nat))),(5,.a (.ptr 2 0)),(4,.a (.ptr 1 0)),(1,vl (.int .i64 (i:Nat))),(0,.a (.ptr 0 0))],[(0,.box 109 [.d (bysD raw),.d (.lit (.int .i64 (a:Nat)))]),(1,.box 29 [.d (.lit (.slice none 0 0)),.d (.lit (.slice none 0 0)),.d (.lit (.slice none 0 0))]),(2,.box 29 [.d (rqsD lo),.d (rqsD hi),.own 6 4 (rs.map Af.D)]),(6,.arr 36 4 (rs.map Af.D).length)],7⟩)
   (fun b=>b.1+b.2.2.length≤2∧b.2.1≤raw.length∧∀f∈b.2.2,FB 5 i f) (fun b=>b.1) (m,a1,[]) (Wk.trans (Wk.ownB 2 6 2 36 4 rfl rfl rfl) (Wk.go (h2:=⟨⟨_,rfl,wke_refl _,rfl⟩,⟨_,rfl,wke_refl _,rfl⟩,⟨_,rfl,⟨_,rfl,WkA.own,WkA.own,aR_ _,trivial⟩,rfl⟩,⟨_,rfl,wke_refl _,rfl⟩,trivial⟩)))
   ⟨by simp;omega,k1,fun f h=>by cases h⟩ fun⟨k,a',rs⟩ hb=> ?_
  obtain⟨hk,ha',hf⟩:=hb;simp only at hk ha' hf;conv=>whnf
  refine bs (fun h4=> ?_) (fun h4=> ?_)
  ·conv=>whnf
   have h4':0<k:=by simpa using h4
   have hwk:IntKind.i64.wrap ((k:Int)-1)=((k-1:Nat):Int):=by rw[wr64 (by omega) (by omega)];omega
   obtain⟨a2,f,k7,k8,c2⟩:=lx_form (n:=i) h ha' (by omega);refine .l [0] (c2) ?_;conv=>whnf
   refine .mk ((rs++[f]).map Af.D) rfl (by rw[List.map_append];rfl) (by simp;omega) ?_;conv=>whnf
   refine .mk (by kernel_rfl) ?_;conv=>whnf
   rw[hwk];refine⟨(k-1,a2,rs++[f]),Wk.go,⟨by simp;omega,k7,fun g hj=> ?_⟩,by simp only;omega⟩;rcases List.mem_append.1 hj with h5|h5
   ·exact hf g h5
   ·rw[List.mem_singleton.1 h5];exact k8
  ·conv=>whnf
   exact⟨_,_,⟨a',⟨lo,hi,rs⟩,⟨ha',⟨hr.lo,hr.hi,by simp only;omega,hr.sl,hr.sh,hr.le,hf⟩⟩,rfl,rfl⟩,WkV.agg ⟨aR_ _,aR_ _,WkA.own,trivial⟩,rfl,⟨⟨_,rfl,wke_refl _,rfl⟩,trivial⟩,rfl⟩
structure QuB (q:Qu):Prop where
 g:GrB q.g
 r:RgB q.r q.g.n
 goal:FB 5 (q.g.n+q.g.us.length:Nat) q.goal
theorem QuB.ok {q:Qu}(h:QuB q):QuOk q:=by
 have:=h.g.u1;have:=h.g.n2;exact⟨h.g.ok,h.r.ok h.g.n1 h.g.n2,h.goal.ok (by decide) (by omega) (by omega)⟩
theorem lx_query {raw:List Nat}{a:Nat}(h:RawOk raw)(ha:a≤raw.length):∃(a':Nat) (q:Qu),a'≤raw.length∧QuB q∧LX Tryz.prog 19 [.a (.ptr 0 0)] (fdH raw a) fun v H=>v= .agg q.A∧H=fdH raw a':=by
 obtain⟨a1,g,k1,k2,c1⟩:=lx_graph h ha;obtain⟨a2,r,k3,k4,c2⟩:=lx_small (n:=g.n) h k1 (by have:=k2.n2;omega);obtain⟨a3,f,k5,k6,c3⟩:=lx_form (n:=g.n+g.us.length) h k3 (by have:=k2.n2;have:=k2.u1;omega);have hw:IntKind.i64.wrap ((g.n:Int)+((g.us.map Af.D).length:Int))=((g.n+g.us.length:Nat):Int):=by have:=k2.n2;have:=k2.u1;rw[wr64 (by simp;omega) (by simp;omega)];simp
 refine⟨a3,⟨g,r,f⟩,k5,⟨k2,k4,k6⟩,?_⟩;refine LX_run (m:=1) (n0:=1) mix Tryz.func19 rfl rfl rfl rfl ?_;conv=>whnf
 refine .l [0] (c1) ?_;conv=>whnf
 refine .l [0] (c2) ?_;conv=>whnf
 rw[hw];refine .l [0] (c3) ?_;conv=>whnf
 refine .mk (by kernel_rfl) ?_;conv=>whnf
 exact⟨_,_,⟨rfl,rfl⟩,vR_ _,rfl,⟨⟨_,rfl,wke_refl _,rfl⟩,trivial⟩,rfl⟩
theorem lx_instance {raw:List Nat}(h:RawOk raw):∃q:Qu,QuB q∧LV Tryz.prog 5 [.a (.d (bysD raw))] (.agg q.A):=by
 obtain⟨a,q,_,k2,c1⟩:=lx_query h (zL_ _);refine⟨q,k2,?_⟩;refine LX_run (m:=0) (n0:=0) mix Tryz.func5 rfl rfl rfl rfl ?_;conv=>whnf
 refine .l [] (lx_new h) ?_;conv=>whnf
 refine .l [1] (c1) ?_;conv=>whnf
 exact .q ⟨rfl,rfl⟩
def cU (n:Nat)(P:List Dc):Nat:=((List.range n).filter fun u:Nat=>seenB P (u:Int)).length
structure PathI (q:Qu)(P:List Dc):Prop where
 fit:∀d∈P,fitB q d=true
 tw:twB P=false
 c4:cntI P≤4
 len:P.length=cU q.g.us.length P+cntI P
 bt:∀d∈P,Bt (16^(cntI P+1)) d.at_.q
 sm:∀d∈P,d.at_.sm
structure Ro where
 k:Int
 i:Int
 l:Int
 h:Int
deriving DecidableEq
structure Mu where
 r:Ro
 c:Rat
abbrev Ro.A (r:Ro):List A:=[.d (.lit (.int .i64 r.k)),.d (.lit (.int .i64 r.i)),.d (.lit (.int .i64 r.l)),.d (.lit (.int .i64 r.h))]
abbrev Mu.D (m:Mu):List D:=[.lit (.int .i64 m.r.k),.lit (.int .i64 m.r.i),.lit (.int .i64 m.r.l),.lit (.int .i64 m.r.h),.lit (.bool (decide (m.c<0))),.lm (limbs m.c.num.natAbs),.lm (limbs (dn m.c))]
abbrev musD (l:List Mu):D:= .sl 7 (l.map Mu.D)
def MuB (K:Nat)(l:List Mu):Prop:=∀m∈l,Bt K m.c
def wsum (φ:Ro→Rat):List Mu→Rat
 |[]=>0
 |m::l=>m.c*φ m.r+wsum φ l
theorem MuB.up {K K':Nat}{l:List Mu}(h:MuB K l)(hk:K≤K'):MuB K' l:=fun m hm=>(h m hm).mono hk
theorem numS0_A:(numS 0).A=[.d (.sl 4 []),.d (.lit (.bool false)),.d (.nat 0),.d (.nat 0)]:=by
 show A.d _::(can 0).A=_;rw[can0];rfl
theorem wsum_app (φ:Ro→Rat)(m:Mu):∀l:List Mu,wsum φ (l++[m])=wsum φ l+m.c*φ m.r
 |[]=>by simp[wsum,Rat.add_zero,Rat.zero_add]
 |x::l=>by simp only[List.cons_append,wsum,wsum_app φ m l,Rat.add_assoc]
theorem FB.z (k:Nat)(n:Int):FB k n (numS 0):=FB.num (bt0 k)
theorem lx_num {q:Rat}(h:Sz q):LV Tryz.prog 16 [.agg (can q).A] (.agg (numS q).A):=by
 refine LX_run (m:=0) (n0:=0) mix Tryz.func16 rfl rfl rfl rfl ?_;conv=>whnf
 exact .mk _ [] ⟨rfl,rfl⟩ (WkV.agg ⟨WkA.nil,aR_ _,aR_ _,aR_ _,trivial⟩) rfl trivial rfl
def m1:Rat:=((-1:Int):Rat)
theorem m1_b:Bt 0 m1:=Bt.int (by decide)
theorem lx_zofm:LV Tryz.prog 11 [vl (.int .i64 (-1))] (ratV m1):=lx_zof (z:= -1) (by decide) (by decide)
theorem lx_sub {f g:Af}{n:Int}{k l:Nat}(h:FB k n f)(h':FB l n g)(h0:0≤n)(hn:n≤100000)(hk:k+l+1≤1000000000):LV Tryz.prog 14 [.agg f.A,.agg g.A] (.agg (subS f g).A):=by
 refine LX_run (m:=0) (n0:=0) mix Tryz.func14 rfl rfl rfl rfl ?_;conv=>whnf
 refine .c (lx_zofm) ?_;conv=>whnf
 refine .c (lx_scale h' m1_b h0 hn (by omega)) ?_;conv=>whnf
 refine .c (lx_add h (h'.scale m1_b) h0 hn (by omega)) ?_;conv=>whnf
 refine .mk (by kernel_rfl) ?_;conv=>whnf
 exact .q ⟨rfl,rfl⟩
def lmOk (s:Sp)(n u:Int)(up:Bool):Bool:=decide (1≤n)&&decide (n≤(s.ls.length:Int))&&decide ((atL s.ls n).u=u)&&((atL s.ls n).up==up)
def lmV (s:Sp)(n u:Int)(up:Bool):Rat:=bif lmOk s n u up then vAt s.ls n else 0
def RoU (r:Ro):Prop:=(r.k=5∧r.l=0∧r.h=0)∨(r.k=8∧1≤r.l∧r.h=0)∨(r.k=10∧r.l=0∧1≤r.h)∨(r.k=12∧r.l=0∧1≤r.h)∨(r.k=13∧1≤r.l∧1≤r.h)
theorem lmOk0 (s:Sp)(u:Int)(up:Bool):lmOk s 0 u up=false:=by simp[lmOk]
def atQ (l:List Rat)(i:Int):Rat:=(l[i.toNat]?).getD 0
def atF (l:List Af)(i:Int):Af:=(l[i.toNat]?).getD (numS 0)
def RoI (s:Sp)(r:Ro):Prop:=(r.k=1∨r.k=2)∧0≤r.i∧r.i<s.q.g.n∧r.l=0∧r.h=0
structure RoV (s:Sp)(B:Nat)(r:Ro):Prop where
 u:RoU r
 i0:0≤r.i
 i1:r.i<s.q.g.us.length
 l:r.l≤1000000
 h:r.h≤1000000
 bl:Bt B (lmV s r.l r.i false)
 bu:Bt B (lmV s r.h r.i true)
def q1:Rat:=((1:Int):Rat)
theorem q1_b:Bt 0 q1:=Bt.int (by decide)
theorem q1_z:Sz q1:=q1_b.mono (by decide)
theorem lx_zofp:LV Tryz.prog 11 [vl (.int .i64 1)] (ratV q1):=lx_zof (z:=1) (by decide) (by decide)
def rabs (q:Rat):Rat:=if q<0 then -q else q
theorem Bt.rabs {k:Nat}{q:Rat}(h:Bt k q):Bt k (rabs q):=by
 unfold Lf.rabs;split
 ·exact h.neg
 ·exact h
theorem TsOk.ext {n n':Int}:∀{a b:List Tm} {lo lo':Int},TsOk n lo a→TsOk n' lo' b→(∀w,cof a w=cof b w)→a=b
 |[],[],_,_,_,_,_=>rfl
 |[],t::b,_,_,_,hb,h=>by
  have:=h t.v;rw[(hb.cof_mem t (by simp)).1]at this;exact absurd this.symm hb.2.2.1
 |t::a,[],_,_,ha,_,h=>by
  have:=h t.v;rw[(ha.cof_mem t (by simp)).1]at this;exact absurd this ha.2.2.1
 |t::a,u::b,lo,lo',ha,hb,h=>by
  have e1:t.v=u.v:=by
   rcases Int.lt_trichotomy t.v u.v with h1|h1|h1
   ·have:=h t.v;rw[(ha.cof_mem t (by simp)).1,cof,if_neg (by omega),hb.2.2.2.cof_lt (by omega),Rat.zero_add]at this;exact absurd this ha.2.2.1
   ·exact h1
   ·have:=h u.v;rw[(hb.cof_mem u (by simp)).1,cof,if_neg (by omega),ha.2.2.2.cof_lt (by omega),Rat.zero_add]at this;exact absurd this.symm hb.2.2.1
  have e2:t.q=u.q:=by
   have:=h t.v;rw[(ha.cof_mem t (by simp)).1,e1,(hb.cof_mem u (by simp)).1]at this;exact this
  have e3:t=u:=by obtain⟨a,b⟩:=t;obtain⟨c,d⟩:=u;simp only at e1 e2;rw[e1,e2]
  subst e3
  rw[TsOk.ext ha.2.2.2 hb.2.2.2 fun w=>by
   have:=h w;rw[cof,cof]at this
   by_cases hw:t.v=w
   ·rw[ha.2.2.2.cof_lt (by omega),hb.2.2.2.cof_lt (by omega)]
   ·rw[if_neg hw]at this;simpa [Rat.zero_add]using this]
theorem Af.ext' {n n':Int}{f g:Af}(hf:TsOk n 0 f.ts)(hg:TsOk n' 0 g.ts)(h:∀w,cof f.ts w=cof g.ts w)(hc:f.c=g.c):f=g:=by
 obtain⟨a,b⟩:=f;obtain⟨c,d⟩:=g;simp only at hc hf hg h;subst hc;rw[TsOk.ext hf hg h]
def mrgT (c:Rat):List Tm→List Tm→List Tm
 |[],[]=>[]
 |[],b::ys=>nz1 ⟨b.v,b.q*c⟩++mrgT c [] ys
 |a::xs,[]=>nz1 a++mrgT c xs []
 |a::xs,b::ys=>if a.v<b.v then nz1 a++mrgT c xs (b::ys)else if b.v<a.v then nz1 ⟨b.v,b.q*c⟩++mrgT c (a::xs) ys else nz1 ⟨a.v,a.q+b.q*c⟩++mrgT c xs ys
 termination_by xs ys=>xs.length+ys.length
theorem cof_mrg (c:Rat)(w:Int):∀xs ys:List Tm,cof (mrgT c xs ys) w=cof xs w+cof ys w*c
 |[],[]=>by rw[mrgT];simp[cof,Rat.add_zero]
 |[],b::ys=>by
  rw[mrgT,cof_app,cof_nz1,cof_mrg c w [] ys,cof,cof];split<;>grind
 |a::xs,[]=>by
  rw[mrgT,cof_app,cof_nz1,cof_mrg c w xs [],cof,cof];split<;>grind
 |a::xs,b::ys=>by
  rw[mrgT];split
  ·rw[cof_app,cof_nz1,cof_mrg c w xs (b::ys)];simp only[cof];split<;>grind
  ·split
   ·rw[cof_app,cof_nz1,cof_mrg c w (a::xs) ys];simp only[cof];split<;>grind
   ·rw[cof_app,cof_nz1,cof_mrg c w xs ys];have e:b.v=a.v:=by omega
    simp only[cof,e];split<;>grind
 termination_by xs ys=>xs.length+ys.length
theorem TsOk.mrg {n:Int}(c:Rat):∀{xs ys:List Tm} {lo:Int},TsOk n lo xs→TsOk n lo ys→TsOk n lo (mrgT c xs ys)
 |[],[],lo,_,_=>by rw[mrgT];trivial
 |[],b::ys,lo,ha,hb=>by
  rw[mrgT];exact TsOk.nz (TsOk.mrg c (xs:=[]) trivial hb.2.2.2) hb.1 hb.2.1
 |a::xs,[],lo,ha,hb=>by
  rw[mrgT];obtain⟨av,aq⟩:=a;exact TsOk.nz (TsOk.mrg c (ys:=[]) ha.2.2.2 trivial) ha.1 ha.2.1
 |a::xs,b::ys,lo,ha,hb=>by
  rw[mrgT];obtain⟨av,aq⟩:=a;split
  ·rename_i h;exact TsOk.nz (TsOk.mrg c ha.2.2.2 ⟨by simp only at h ⊢;omega,hb.2⟩) ha.1 ha.2.1
  ·split
   ·rename_i h;exact TsOk.nz (TsOk.mrg c (xs:=⟨av,aq⟩::xs) ⟨by simp only at h ⊢;omega,ha.2⟩ hb.2.2.2) hb.1 hb.2.1
   ·rename_i h h';simp only at h h';have e:av=b.v:=by omega
    exact TsOk.nz (TsOk.mrg c ha.2.2.2 (by simp only;rw[e];exact hb.2.2.2)) ha.1 ha.2.1
 termination_by xs ys=>xs.length+ys.length
theorem mrg_eq {n:Int}{f g:Af}{c:Rat}{k l:Nat}(hf:FB k n f)(hg:FB l n g):(⟨mrgT c f.ts g.ts,f.c+g.c*c⟩:Af)=addS f (scaleS g c):=
 Af.ext' (n:=n) (n':=n) (TsOk.mrg c hf.ts hg.ts) (ok_fold (fun t ht=>let h:=(ok_scale c hg.ts).cof_mem t ht;⟨h.2.1,h.2.2.1⟩) hf.ts)
  (fun w=>by rw[cof_mrg,addS,cof_fold,scaleS,cof_scale]) rfl
abbrev ptH (l:List Tm):List (Nat×Ent):=[(0,.arr 98 4 (l.map Tm.D).length)]
theorem lx_put {l:List Tm}{c q:Rat}{v:Int}(hl:l.length≤1000000)(hq:Sz q):
  LX Tryz.prog 117 [.agg (.own 0 4 (l.map Tm.D)::(can c).A),vl (.int .i64 v),.agg (can q).A] (ptH l) fun r H=>r= .agg (.own 0 4 ((l++nz1 ⟨v,q⟩).map Tm.D)::(can c).A)∧H=ptH (l++nz1 ⟨v,q⟩):=by
 refine LX_run (m:=1) (n0:=1) mix Tryz.func117 rfl rfl rfl rfl ?_;conv=>whnf
 refine .c (lx_rsign (.c hq)) ?_;conv=>whnf
 refine bs (fun h1=> ?_) (fun h1=> ?_)
 ·conv=>whnf
  have h0:¬q=0:=by simpa [Int.sign_eq_zero_iff_zero]using h1
  have e:l++nz1 ⟨v,q⟩=l++[⟨v,q⟩]:=by rw[nz1,if_neg h0]
  rw[e];refine .c (lx_rcanon (.c hq)) ?_;conv=>whnf
  refine .mk ((l++[(⟨v,q⟩:Tm)]).map Tm.D) rfl (by rw[List.map_append];rfl) (by simp;omega) ?_;conv=>whnf
  refine .mk (by kernel_rfl) ?_;conv=>whnf
  exact⟨_,_,⟨rfl,rfl⟩,vR_ _,rfl,⟨⟨_,rfl,wke_refl _,rfl⟩,trivial⟩,rfl⟩
 ·conv=>whnf
  have h0:q=0:=by simpa [Int.sign_eq_zero_iff_zero]using h1
  have e:l++nz1 ⟨v,q⟩=l:=by rw[nz1,if_pos h0,List.append_nil]
  rw[e];exact⟨_,_,⟨rfl,rfl⟩,vR_ _,rfl,⟨⟨_,rfl,wke_refl _,rfl⟩,trivial⟩,rfl⟩
structure MgI (R:List Tm)(c:Rat)(k l:Nat)(o xs ys:List Tm):Prop where
 eq:o++mrgT c xs ys=R
 x:∀t∈xs,Bt k t.q
 y:∀t∈ys,Bt l t.q
 n:o.length+xs.length+ys.length≤900000
theorem pl_merge {f g:Af}{n:Int}{c:Rat}{k l m:Nat}(h:FB k n f)(h':FB l n g)(hc:Bt m c)(h0:0≤n)(hn:n≤100000)(hk:k+l+m+1≤1000000000):
  LV Tryz.prog 83 [.agg f.A,.agg g.A,.agg (can c).A] (.agg (addS f (scaleS g c)).A):=by
 have hlf:=h.ts.len h0;have hlg:=h'.ts.len h0;have hcz:Sz c:=hc.mono (by omega);rw[←mrg_eq h h'];refine LX_run (m:=0) (n0:=0) mix Tryz.func83 rfl rfl rfl rfl ?_;conv=>whnf
 refine .c (lx_rmul (.c (h'.c.mono (by omega))) (.c hcz)) ?_;conv=>whnf
 refine .c (lx_radd (.c (h.c.mono (by omega))) (.c ((h'.c.mul hc).mono (by omega)))) ?_;conv=>whnf
 refine .mk (by kernel_rfl) ?_;conv=>whnf
 refine .mk (by kernel_rfl) ?_;conv=>whnf
 refine .mk (List Tm×List Tm×List Tm) (fun(o,xs,ys)=>⟨[(9,.a (.d (.sl 4 (ys.map Tm.D)))),(8,.a (.d (.sl 4 (xs.map Tm.D)))),(7,.a (.ptr 4 0)),(6,.a (.ptr 3 0)),(5,.a (.ptr 2 0))],
  [(2,.box 34 (can c).A),(3,.box 36 [.d (.lit (.slice none 0 0)),.d (.lit (.bool false)),.d (.nat 0),.d (.nat 0)]),(4,.box 36 (.own 5 4 (o.map Tm.D)::(can (f.c+g.c*c)).A)),(5,.arr 98 4 (o.map Tm.D).length)],6⟩)
  (fun b=>MgI (mrgT c f.ts g.ts) c k l b.1 b.2.1 b.2.2) (fun b=>b.2.1.length+b.2.2.length) ([],f.ts,g.ts)
  (Wk.trans (Wk.ownB 4 5 0 98 4 rfl rfl rfl) Wk.go) ⟨rfl,fun t ht=>(h.tm t ht).2.2.2,fun t ht=>(h'.tm t ht).2.2.2,by simp only[List.length_nil];omega⟩ fun⟨o,xs,ys⟩ hb=> ?_
 obtain⟨he,hx,hy,hl⟩:=hb;simp only at he hx hy hl;have hz:∀t:Tm,(nz1 t).length≤1:=fun t=>by unfold nz1;split<;>simp
 have lp:∀(t:Tm) (ts:List Tm),decide (((List.map Tm.D (t::ts)).length:Int)>0)=true:=fun t ts=>decide_eq_true (by rw[List.length_map,List.length_cons];omega);have lt:∀(t:Tm) (ts:List Tm),((t::ts).map Tm.D).length=ts.length+1:=fun t ts=>by rw[List.length_map,List.length_cons]
 cases xs with
 |nil=>cases ys with
  |nil=>
   conv=>whnf
   rw[mrgT,List.append_nil]at he;exact .s ⟨by rw[←he];rfl,rfl⟩
  |cons b ys=>
   have bb:=hy b (by simp);have bz:=(bb.mul hc);conv=>whnf
   refine bT (lp b ys) ?_;conv=>whnf
   refine .mk (by kernel_rfl) ?_;conv=>whnf
   refine .mk (by kernel_rfl) ?_;conv=>whnf
   refine .mk (0) (b.D) (rfl) (rfl) ?_;conv=>whnf
   conv=>whnf
   refine .mk (0) (b.D) (rfl) (rfl) ?_;conv=>whnf
   conv=>whnf
   refine .c (lx_rmul (.c (bb.mono (by omega))) (.c hcz)) ?_;conv=>whnf
   refine Cn.o [5] (lx_put (l:=o) (v:=b.v) (by omega) (bz.mono (by omega))) ?_;conv=>whnf
   refine .mk (by kernel_rfl) ?_;conv=>whnf
   refine .mk 1 (ys.length+1) (ys.map Tm.D) rfl (by rw[lt];rfl) (by omega) (by rw[lt];omega) (by rw[List.take_of_length_le (by rw[lt];omega)];rfl) ?_;conv=>whnf
   have z1:=hz ⟨b.v,b.q*c⟩;exact⟨(o++nz1 ⟨b.v,b.q*c⟩,[],ys),Wk.go,⟨by rw[List.append_assoc,←he,mrgT],hx,fun t ht=>hy t (by simp[ht]),by simp only[List.length_append,List.length_cons]at *;omega⟩,by simp only[List.length_cons];omega⟩
 |cons a xs=>cases ys with
  |nil=>
   have ab:=hx a (by simp);conv=>whnf
   refine bT (lp a xs) ?_;conv=>whnf
   refine .mk (by kernel_rfl) ?_;conv=>whnf
   refine .mk (0) (a.D) (rfl) (rfl) ?_;conv=>whnf
   conv=>whnf
   refine .mk (0) (a.D) (rfl) (rfl) ?_;conv=>whnf
   conv=>whnf
   refine Cn.o [5] (lx_put (l:=o) (v:=a.v) (by omega) (ab.mono (by omega))) ?_;conv=>whnf
   refine .mk (by kernel_rfl) ?_;conv=>whnf
   refine .mk 1 (xs.length+1) (xs.map Tm.D) rfl (by rw[lt];rfl) (by omega) (by rw[lt];omega) (by rw[List.take_of_length_le (by rw[lt];omega)];rfl) ?_;conv=>whnf
   have z1:=hz a;exact⟨(o++nz1 a,xs,[]),Wk.go,⟨by rw[List.append_assoc,←he,mrgT],fun t ht=>hx t (by simp[ht]),hy,by simp only[List.length_append,List.length_cons]at *;omega⟩,by simp only[List.length_cons];omega⟩
  |cons b ys=>
   have ab:=hx a (by simp);have bb:=hy b (by simp);have bz:=(bb.mul hc);have az:=(ab.add bz);conv=>whnf
   refine bT (lp a xs) ?_;conv=>whnf
   refine bT (lp a xs) ?_;conv=>whnf
   refine .mk (0) (a.D) (rfl) (rfl) ?_;conv=>whnf
   conv=>whnf
   refine .mk (0) (b.D) (rfl) (rfl) ?_;conv=>whnf
   conv=>whnf
   refine bs (fun h1=> ?_) (fun h1=> ?_)
   ·conv=>whnf
    refine .mk (by kernel_rfl) ?_;conv=>whnf
    have h1':a.v<b.v:=by simpa using h1
    refine .mk (0) (a.D) (rfl) (rfl) ?_;conv=>whnf
    conv=>whnf
    refine .mk (0) (a.D) (rfl) (rfl) ?_;conv=>whnf
    conv=>whnf
    refine Cn.o [5] (lx_put (l:=o) (v:=a.v) (by omega) (ab.mono (by omega))) ?_;conv=>whnf
    refine .mk (by kernel_rfl) ?_;conv=>whnf
    refine .mk 1 (xs.length+1) (xs.map Tm.D) rfl (by rw[lt];rfl) (by omega) (by rw[lt];omega) (by rw[List.take_of_length_le (by rw[lt];omega)];rfl) ?_;conv=>whnf
    have z1:=hz a;exact⟨(o++nz1 a,xs,b::ys),Wk.go,⟨by rw[List.append_assoc,←he,mrgT.eq_4,if_pos h1'],fun t ht=>hx t (by simp[ht]),hy,by simp only[List.length_append,List.length_cons]at *;omega⟩,by simp only[List.length_cons];omega⟩
   ·conv=>whnf
    refine .mk (by kernel_rfl) ?_;conv=>whnf
    have h1':¬a.v<b.v:=by simpa using h1
    refine .mk (0) (b.D) (rfl) (rfl) ?_;conv=>whnf
    conv=>whnf
    refine .mk (0) (a.D) (rfl) (rfl) ?_;conv=>whnf
    conv=>whnf
    refine bs (fun h2=> ?_) (fun h2=> ?_)
    ·conv=>whnf
     refine .mk (by kernel_rfl) ?_;conv=>whnf
     have h2':b.v<a.v:=by simpa using h2
     refine .mk (0) (b.D) (rfl) (rfl) ?_;conv=>whnf
     conv=>whnf
     refine .mk (0) (b.D) (rfl) (rfl) ?_;conv=>whnf
     conv=>whnf
     refine .c (lx_rmul (.c (bb.mono (by omega))) (.c hcz)) ?_;conv=>whnf
     refine Cn.o [5] (lx_put (l:=o) (v:=b.v) (by omega) (bz.mono (by omega))) ?_;conv=>whnf
     refine .mk (by kernel_rfl) ?_;conv=>whnf
     refine .mk 1 (ys.length+1) (ys.map Tm.D) rfl (by rw[lt];rfl) (by omega) (by rw[lt];omega) (by rw[List.take_of_length_le (by rw[lt];omega)];rfl) ?_;conv=>whnf
     have z1:=hz ⟨b.v,b.q*c⟩;exact⟨(o++nz1 ⟨b.v,b.q*c⟩,a::xs,ys),Wk.go,⟨by rw[List.append_assoc,←he,mrgT.eq_4,if_neg h1',if_pos h2'],hx,fun t ht=>hy t (by simp[ht]),by simp only[List.length_append,List.length_cons]at *;omega⟩,by simp only[List.length_cons];omega⟩
    ·conv=>whnf
     refine .mk (by kernel_rfl) ?_;conv=>whnf
     have h2':¬b.v<a.v:=by simpa using h2
     refine .mk (0) (a.D) (rfl) (rfl) ?_;conv=>whnf
     conv=>whnf
     refine .mk (0) (a.D) (rfl) (rfl) ?_;conv=>whnf
     conv=>whnf
     refine .mk (0) (b.D) (rfl) (rfl) ?_;conv=>whnf
     conv=>whnf
     refine .c (lx_rmul (.c (bb.mono (by omega))) (.c hcz)) ?_;conv=>whnf
     refine .c (lx_radd (.c (ab.mono (by omega))) (.c (bz.mono (by omega)))) ?_;conv=>whnf
     refine Cn.o [5] (lx_put (l:=o) (v:=a.v) (by omega) (az.mono (by omega))) ?_;conv=>whnf
     refine .mk (by kernel_rfl) ?_;conv=>whnf
     refine .mk 1 (xs.length+1) (xs.map Tm.D) rfl (by rw[lt];rfl) (by omega) (by rw[lt];omega) (by rw[List.take_of_length_le (by rw[lt];omega)];rfl) ?_;conv=>whnf
     refine .mk 1 (ys.length+1) (ys.map Tm.D) rfl (by rw[lt];rfl) (by omega) (by rw[lt];omega) (by rw[List.take_of_length_le (by rw[lt];omega)];rfl) ?_;conv=>whnf
     refine .mk (by kernel_rfl) ?_;conv=>whnf
     have z1:=hz ⟨a.v,a.q+b.q*c⟩;exact⟨(o++nz1 ⟨a.v,a.q+b.q*c⟩,xs,ys),Wk.go,⟨by rw[List.append_assoc,←he,mrgT.eq_4,if_neg h1',if_neg h2'],fun t ht=>hx t (by simp[ht]),fun t ht=>hy t (by simp[ht]),by simp only[List.length_append,List.length_cons]at *;omega⟩,by simp only[List.length_cons];omega⟩
theorem lx_nmake {xs:List Nat}:LV Tryz.prog 144 [.a (.d (.lm xs))] (.a (.d (.nat (val xs)))):=lv_of fun γ M w rs ha=>by
 obtain⟨r,rfl,k⟩:=all2_1 ha;exact Calls.ret (make_any _ _ _ (rd_sl k)) fun _ _ h=>h
theorem lx_copied {q:Rat}:LV Tryz.prog 228 [ratV q] (ratV q):=by
 refine LX_run (m:=0) (n0:=0) mix Tryz.func228 rfl rfl rfl rfl ?_;conv=>whnf
 repeat' first|(refine bs (fun h=> ?_) (fun h=> ?_)<;>conv=>whnf)|(refine Nc.mk (by kernel_rfl) ?_;conv=>whnf)|(refine .c (lx_nmake) ?_;conv=>whnf)
 all_goals exact .q ⟨by rw[val_limbs,val_limbs];simp only[ratV,h],rfl⟩
theorem cof_none {v:Int}:∀{ts:List Tm},(∀t∈ts,t.v≠v)→cof ts v=0
 |[],_=>rfl
 |t::ts,h=>by rw[cof,if_neg (h t (by simp)),cof_none fun u hu=>h u (by simp[hu]),Rat.zero_add]
theorem ratV0:V.agg [A.d (.lit (.bool false)),.d (.lm (limbs 0)),.d (.lm (limbs 0))]=ratV 0:=rat0V
theorem pl_coef {f:Af}{n v:Int}{k:Nat}(h:FB k n f)(h0:0≤n)(hn:n≤100000):LV Tryz.prog 225 [.agg f.A,vl (.int .i64 v)] (ratV (cof f.ts v)):=by
 have hlf:=h.ts.len h0;refine LX_run (m:=0) (n0:=0) mix Tryz.func225 rfl rfl rfl rfl ?_;conv=>whnf
 refine .mk Nat (fun i=>⟨[(10,vl (.int .i64 i)),(9,vl (.int .i64 (f.ts.map Tm.D).length)),(8,.a (.d (.sl 4 (f.ts.map Tm.D)))),(4,.a (.ptr 1 0)),(1,vl (.int .i64 v))],[(1,.box 34 [.d (.lit (.bool false)),.d (.nat 0),.d (.nat 0)])],2⟩)
  (fun i=>i≤f.ts.length∧∀j t,j<i→f.ts[j]? =some t→t.v≠v) (fun i=>f.ts.length-i) 0 Wk.go ⟨zL_ _,by intro j t h;omega⟩ fun i hi=> ?_
 obtain⟨hi,hall⟩:=hi;conv=>whnf
 refine bs (fun h1=> ?_) (fun h1=> ?_)
 ·conv=>whnf
  have h1':i<f.ts.length:=by simpa using h1
  obtain⟨t,ht⟩:=at_some h1';refine .mk (i) (t.D) (rfl) (at_map ht) ?_;conv=>whnf
  conv=>whnf
  refine bs (fun h2=> ?_) (fun h2=> ?_)
  ·conv=>whnf
   have h2':t.v=v:=by simpa using h2
   refine .c (lx_copied) ?_;conv=>whnf
   exact .q ⟨by rw[←h2',(h.ts.cof_mem t (mG_ ht)).1],rfl⟩
  ·conv=>whnf
   have h2':¬t.v=v:=by simpa using h2
   refine⟨i+1,Wk.go,⟨h1',fun j u hj hu=> ?_⟩,by omega⟩;rcases Nat.lt_succ_iff_lt_or_eq.1 hj with h3|h3
   ·exact hall j u h3 hu
   ·subst h3;rw[ht]at hu;injection hu with hu;rw[←hu];exact h2'
 ·conv=>whnf
  have e:cof f.ts v=0:=cof_none fun t ht=>by
   obtain⟨j,hj⟩:=List.mem_iff_getElem?.1 ht;have:=at_lt hj;exact hall j t (by simp at h1;omega) hj
  exact .q ⟨by rw[e];exact ratV0,rfl⟩
theorem lx_rofm:LV Tryz.prog 53 [vl (.int .i64 (-1))] (ratV m1):=lx_rof (z:= -1) (by decide) (by decide)
theorem lx_rofp:LV Tryz.prog 53 [vl (.int .i64 1)] (ratV q1):=lx_rof (z:=1) (by decide) (by decide)
theorem scale_one {n:Int}{k:Nat}{f:Af}(h:FB k n f):scaleS f q1=f:=
 Af.ext' (n:=n) (n':=n) (ok_scale _ h.ts) h.ts (fun w=>by rw[scaleS,cof_scale];exact Rat.mul_one _) (Rat.mul_one _)
theorem add_zeroL {n:Int}{k:Nat}{f:Af}(h:FB k n f):addS (numS 0) f=f:=
 Af.ext' (n:=n) (n':=n) (ok_fold (fun t ht=>let q:=h.tm t ht;⟨q.1,q.2.1⟩) trivial) h.ts (fun w=>by rw[addS,cof_fold];exact Rat.zero_add _) (Rat.zero_add _)
theorem pl_add {f g:Af}{n:Int}{k l:Nat}(h:FB k n f)(h':FB l n g)(h0:0≤n)(hn:n≤100000)(hk:k+l+1≤1000000000):LV Tryz.prog 130 [.agg f.A,.agg g.A] (.agg (addS f g).A):=by
 refine LX_run (m:=0) (n0:=0) mix Tryz.func130 rfl rfl rfl rfl ?_;conv=>whnf
 refine .c (lx_rofp) ?_;conv=>whnf
 refine .c (pl_merge (c:=q1) h h' q1_b h0 hn (by omega)) ?_;conv=>whnf
 refine .mk (by kernel_rfl) ?_;conv=>whnf
 exact .q ⟨by rw[scale_one h'],rfl⟩
theorem pl_sub {f g:Af}{n:Int}{k l:Nat}(h:FB k n f)(h':FB l n g)(h0:0≤n)(hn:n≤100000)(hk:k+l+1≤1000000000):LV Tryz.prog 63 [.agg f.A,.agg g.A] (.agg (subS f g).A):=by
 refine LX_run (m:=0) (n0:=0) mix Tryz.func63 rfl rfl rfl rfl ?_;conv=>whnf
 refine .c (lx_rofm) ?_;conv=>whnf
 refine .c (pl_merge (c:=m1) h h' m1_b h0 hn (by omega)) ?_;conv=>whnf
 refine .mk (by kernel_rfl) ?_;conv=>whnf
 exact .q ⟨rfl,rfl⟩
theorem nil_A:All2 WkV [V.agg [A.d (.lit (.slice none 0 0)),.d (.lit (.bool false)),.d (.nat 0),.d (.nat 0)]] [V.agg (numS 0).A]:=⟨WkV.agg (by rw[numS0_A];exact⟨WkA.nil,aR_ _,aR_ _,aR_ _,trivial⟩),trivial⟩
theorem pl_scale {f:Af}{n:Int}{c:Rat}{k m:Nat}(h:FB k n f)(hc:Bt m c)(h0:0≤n)(hn:n≤100000)(hk:k+m+1≤1000000000):LV Tryz.prog 52 [.agg f.A,.agg (can c).A] (.agg (scaleS f c).A):=by
 refine LX_run (m:=0) (n0:=0) mix Tryz.func52 rfl rfl rfl rfl ?_;conv=>whnf
 refine Cn.as (pl_merge (FB.num (n:=n) (bt0 0)) h hc h0 hn (by omega)) rfl ⟨nil_A.1,vR_ _,vR_ _,trivial⟩ rfl rfl ?_;conv=>whnf
 exact .q ⟨by rw[add_zeroL (h.scale hc)],rfl⟩
def without (ts:List Tm)(v:Int):List Tm:=ts.filter fun t=> !(t.v==v)
theorem cof_without (v w:Int):∀ts:List Tm,cof (without ts v) w=if w=v then 0 else cof ts w
 |[]=>by simp[without,cof]
 |t::ts=>by
  have ih:=cof_without v w ts;unfold without at ih ⊢;rw[List.filter_cons]
  by_cases h:t.v=v
  ·rw[if_neg (by simp[h]),ih];split
   ·rfl
   ·rename_i hw;rw[cof,if_neg (by rw[h];exact fun e=>hw e.symm),Rat.zero_add]
  ·rw[if_pos (by simp[h]),cof,ih,cof]
   by_cases hw:w=v
   ·rw[if_pos hw,if_pos hw,if_neg (fun e=>h (e.trans hw)),Rat.zero_add]
   ·rw[if_neg hw,if_neg hw]
theorem TsOk.without {n v:Int}:∀{ts:List Tm} {lo:Int},TsOk n lo ts→TsOk n lo (Lf.without ts v)
 |[],_,_=>trivial
 |t::ts,lo,h=>by
  unfold Lf.without;rw[List.filter_cons];have ih:=TsOk.without (v:=v) h.2.2.2;split
  ·exact⟨h.1,h.2.1,h.2.2.1,ih⟩
  ·exact ih.lo (by have:=h.1;omega)
def restS (f:Af)(v:Int):Af:=⟨without f.ts v,f.c⟩
theorem FB.rest {k:Nat}{n:Int}{f:Af}(h:FB k n f)(v:Int):FB k n (restS f v):=⟨h.ts.without,fun w=>by
 rw[restS,cof_without];split
 ·exact bt0 k
 ·exact h.co w,h.c⟩
def substS (f:Af)(v:Int)(g:Af):Af:=addS (restS f v) (scaleS g (cof f.ts v))
theorem take_filter {ts:List Tm}{i:Nat}{t:Tm}(h:ts[i]? =some t)(v:Int):without (ts.take (i+1)) v=without (ts.take i) v++if t.v=v then []else [t]:=by
 rw[take_snoc h];unfold without;rw[List.filter_append,List.filter_cons]
 by_cases e:t.v=v<;>simp[e]
theorem cof_take {n lo:Int}{ts:List Tm}(h:TsOk n lo ts){i:Nat}{t:Tm}(ht:ts[i]? =some t)(v:Int):cof (ts.take (i+1)) v=if t.v=v then t.q else cof (ts.take i) v:=by
 have h2:=h.take (i+1);split
 ·rename_i e;have hm:t∈ts.take (i+1):=by rw[take_snoc ht];simp
  rw[←e,(h2.cof_mem t hm).1]
 ·rename_i e;rw[take_snoc ht,cof_app,cof,cof,if_neg e,Rat.add_zero,Rat.add_zero]
theorem pl_subst {f g:Af}{n v:Int}{k l:Nat}(h:FB k n f)(h':FB l n g)(h0:0≤n)(hn:n≤100000)(hk:k+l+k+1≤1000000000):LV Tryz.prog 227 [.agg f.A,vl (.int .i64 v),.agg g.A] (.agg (substS f v g).A):=by
 have hlf:=h.ts.len h0;have hwl:∀i,(without (f.ts.take i) v).length≤i:=fun i=>tL_ (List.length_filter_le _ _) (List.length_take_le _ _);have hlast:addS (restS f v) (scaleS g (cof f.ts v))=substS f v g:=rfl;refine LX_run (m:=0) (n0:=0) mix Tryz.func227 rfl rfl rfl rfl ?_;conv=>whnf
 refine .mk Nat (fun i=>⟨[(18,vl (.int .i64 i)),(17,vl (.int .i64 (f.ts.map Tm.D).length)),(16,.a (.d (.sl 4 (f.ts.map Tm.D)))),(8,.a (.ptr 4 0)),(7,.a (.ptr 3 0)),(6,.a (.ptr 2 0)),(5,.a (.ptr 1 0)),(1,vl (.int .i64 v))],
  [(1,.box 36 g.A),(2,.box 36 [.d (.lit (.slice none 0 0)),.d (.lit (.bool false)),.d (.nat 0),.d (.nat 0)]),(3,.box 36 (.own 5 4 ((without (f.ts.take i) v).map Tm.D)::(can f.c).A)),(4,.box 34 (can (cof (f.ts.take i) v)).A),(5,.arr 98 4 ((without (f.ts.take i) v).map Tm.D).length)],6⟩)
  (fun i=>i≤f.ts.length) (fun i=>f.ts.length-i) 0
  (Wk.trans (Wk.ownB 3 5 0 98 4 rfl rfl rfl) (by rw[show cof (f.ts.take 0) v=0 from rfl,can0];exact Wk.go)) (zL_ _) fun i hi=> ?_
 have hw:=hwl i;conv=>whnf
 refine bs (fun h1=> ?_) (fun h1=> ?_)
 ·conv=>whnf
  have h1':i<f.ts.length:=by simpa using h1
  obtain⟨t,ht⟩:=at_some h1';have tf:=take_filter ht v;have tc:=cof_take h.ts ht v;refine .mk (i) (t.D) (rfl) (at_map ht) ?_;conv=>whnf
  conv=>whnf
  refine bs (fun h2=> ?_) (fun h2=> ?_)
  ·conv=>whnf
   have h2':t.v=v:=by simpa using h2
   rw[if_pos h2',List.append_nil]at tf;rw[if_pos h2']at tc;exact⟨i+1,by rw[tf,tc];exact Wk.go,h1',by omega⟩
  ·conv=>whnf
   have h2':¬t.v=v:=by simpa using h2
   rw[if_neg h2']at tf tc;refine .mk ((without (f.ts.take i) v++[t]).map Tm.D) rfl (by rw[List.map_append];rfl) (by simp;omega) ?_;conv=>whnf
   exact⟨i+1,by rw[tf,tc];exact Wk.go,h1',by omega⟩
 ·conv=>whnf
  have e:i=f.ts.length:=by simp at h1;omega
  subst e;rw[List.take_length];refine .c (pl_merge (f:=restS f v) (h.rest v) h' (h.co v) h0 hn (by omega)) ?_;conv=>whnf
  exact .q ⟨rfl,rfl⟩
theorem nat_sz {n k:Nat}(h:n≤2^k)(hk:k≤3000000000):(limbs n).length≤100000000:=by
 have:=sz_pow2 h;unfold sz at this;omega
theorem pl_nbits {n:Nat}(h:(limbs n).length≤200000000):LV Tryz.prog 140 [.a (.d (.nat n))] (vl (.int .i64 (blen n:Nat))):=lv_of fun γ M w rs ha=>by
 obtain⟨r,rfl,k⟩:=all2_1 ha;have:=bits_any _ _ w (rd_sl k) (by omega);rw[val_limbs]at this;exact Calls.ret this fun _ _=>Val.ov
theorem pl_nshl {n m:Nat}(h:(limbs n).length≤200000000)(hm:m≤1048576):LV Tryz.prog 153 [.a (.d (.nat n)),vl (.int .i64 (m:Nat))] (.tup [.s (.d (.nat (n*2^m))),.s (.d (.lit (.int .i64 0)))]):=lv_of fun γ M w rs ha=>by
 obtain⟨r,s,rfl,k,k2⟩:=all2_2 ha;rw[show s= .int .i64 (m:Nat)from lit_inv k2];have:=shl_any _ _ (m:Int) w (rd_sl k) (by omega);rw[val_limbs,shiftErr_yes hm,shlN_yes hm]at this;refine Calls.ret this fun w' v hv=> ?_;obtain⟨a,rfl,q⟩:=hv;exact⟨[a,_],rfl,q,rfl,trivial⟩
theorem pl_nshr {n m:Nat}(h:(limbs n).length≤200000000)(hm:m≤1048576):LV Tryz.prog 167 [.a (.d (.nat n)),vl (.int .i64 (m:Nat))] (.tup [.s (.d (.nat (n/2^m))),.s (.d (.lit (.int .i64 0)))]):=lv_of fun γ M w rs ha=>by
 obtain⟨r,s,rfl,k,k2⟩:=all2_2 ha;rw[show s= .int .i64 (m:Nat)from lit_inv k2];have:=shr_any _ _ (m:Int) w (rd_sl k) (by omega);rw[val_limbs,shiftErr_yes hm,shrN_yes hm]at this;refine Calls.ret this fun w' v hv=> ?_;obtain⟨a,rfl,q⟩:=hv;exact⟨[a,_],rfl,q,rfl,trivial⟩
theorem pl_ndiv {a b:Nat}(h:(limbs a).length≤200000000)(hb:0<b):LV Tryz.prog 147 [.a (.d (.nat a)),.a (.d (.nat b))] (.tup [.s (.d (.nat (a/b))),.s (.d (.nat (a % b))),.s (.d (.lit (.int .i64 0)))]):=lv_of fun γ M w rs ha=>by
 obtain⟨r,s,rfl,k,k2⟩:=all2_2 ha;have:=divmod_any _ _ _ _ w (rd_sl k) (rd_sl k2) (by omega);rw[val_limbs,val_limbs,dmR_pos hb,dmE_pos hb]at this;refine Calls.ret this fun w' v hv=> ?_;obtain⟨x,y,rfl,q1,q2⟩:=hv;exact⟨[x,y,_],rfl,q1,q2,rfl,trivial⟩
theorem pl_ncmp {a b:Nat}:∃c:Int,LV Tryz.prog 97 [.a (.d (.nat a)),.a (.d (.nat b))] (vl (.int .i64 c)):=⟨_,lv_of fun γ M w rs ha=>by
 obtain⟨r,s,rfl,k,k2⟩:=all2_2 ha;exact Calls.ret (cmp_any _ _ _ _ w (rd_sl k) (rd_sl k2)) fun _ _=>Val.ov⟩
theorem pl_nof {x:Nat}(h:x<18446744073709551616):LV Tryz.prog 120 [vl (.int .u64 (x:Nat))] (.a (.d (.nat x))):=lv_of fun γ M w rs ha=>by
 obtain⟨r,rfl,k⟩:=all2_1 ha;rw[show r= .int .u64 (x:Nat)from lit_inv k];exact Calls.ret (of_any x w h) fun _ _ h=>h
theorem pl_nadd {a b:Nat}(ha:(limbs a).length≤200000000)(hb:(limbs b).length≤200000000):LV Tryz.prog 151 [.a (.d (.nat a)),.a (.d (.nat b))] (.a (.d (.nat (a+b)))):=lv_of fun γ M w rs h=>by
 obtain⟨r,s,rfl,k,k2⟩:=all2_2 h;have:=add_any _ _ _ _ w (rd_sl k) (rd_sl k2) (by omega) (by omega);rw[val_limbs,val_limbs]at this;exact Calls.ret this fun _ _ h=>h
theorem pl_rnum {x:V}{a:Rat}(hx:RQ x a):LV Tryz.prog 148 [x] (.agg [.d (.lit (.bool (decide (a<0)))),.d (.nat a.num.natAbs)]):=lv_of fun γ M w rs ha=>by
 obtain⟨r,rfl,k⟩:=all2_1 ha;refine Calls.ret (rnum_ar (hx.ar k) (lR_ _)) fun w' v hv=> ?_;obtain⟨⟨s,rfl,q⟩,_⟩:=hv;have e:decide (a.num<0)=decide (a<0):=decide_eq_decide.2 (by rw[←Rat.not_le,←Rat.num_nonneg];omega);rw[e];exact⟨[_,s],rfl,rfl,q,trivial⟩
theorem pl_rden {x:V}{a:Rat}(hx:RQ x a):LV Tryz.prog 149 [x] (.a (.d (.nat a.den))):=lv_of fun γ M w rs ha=>by
 obtain⟨r,rfl,k⟩:=all2_1 ha;refine Calls.ret (rden_ar (hx.ar k) (lR_ _)) fun w' v hv=>hv.1
theorem pl_isign {b:Bool}{n:Nat}(h:(limbs n).length≤200000000)(h0:0<n):∃z:Int,z≠0∧LV Tryz.prog 113 [.agg [.d (.lit (.bool b)),.d (.nat n)]] (vl (.int .i64 z)):=by
 have hb:blen n≠0:=by unfold blen;rw[if_neg (by omega)];omega
 cases b
 ·refine⟨1,by decide,?_⟩;refine LX_run (m:=0) (n0:=0) mix Tryz.func113 rfl rfl rfl rfl ?_;conv=>whnf
  refine .c (pl_nbits h) ?_;conv=>whnf
  refine bF (by simpa using hb) ?_;conv=>whnf
  exact .q ⟨rfl,rfl⟩
 ·refine⟨-1,by decide,?_⟩;refine LX_run (m:=0) (n0:=0) mix Tryz.func113 rfl rfl rfl rfl ?_;conv=>whnf
  refine .c (pl_nbits h) ?_;conv=>whnf
  refine bF (by simpa using hb) ?_;conv=>whnf
  exact .q ⟨rfl,rfl⟩
theorem pl_shl {n m:Nat}(h:(limbs n).length≤200000000)(hm:m≤1048576):LV Tryz.prog 123 [.a (.d (.nat n)),vl (.int .i64 (m:Nat))] (.a (.d (.nat (n*2^m)))):=by
 rcases eP_ m with h0|h0
 ·subst h0;rw[show n*2^0=n by simp];refine LX_run (m:=0) (n0:=0) mix Tryz.func123 rfl rfl rfl rfl ?_;conv=>whnf
  refine .mk Unit (fun _=>⟨[(0,.a (.d (.nat n))),(1,vl (.int .i64 0))],[],0⟩) (fun _=>True) (fun _=>0) () Wk.go trivial fun _ _=> ?_;conv=>whnf
  exact .q ⟨rfl,rfl⟩
 ·refine LX_run (m:=0) (n0:=0) mix Tryz.func123 rfl rfl rfl rfl ?_;conv=>whnf
  refine .mk Bool (fun b=>⟨[(0,.a (.d (.nat (cond b (n*2^m) n)))),(1,vl (.int .i64 (cond b 0 (m:Int))))],[],0⟩) (fun _=>True) (fun b=>cond b 0 1) false Wk.go trivial fun b _=> ?_
  cases b
  ·conv=>whnf
   refine bT (decide_eq_true (by simp only[cond];omega)) ?_;conv=>whnf
   refine .mk (m:Int) (by simp only[cond];rw[if_neg (by omega)]) ?_;conv=>whnf
   refine .c (pl_nshl (m:=m) h hm) ?_;conv=>whnf
   exact⟨true,Wk.go (h1:=⟨⟨_,rfl,vR_ _,rfl⟩,⟨_,rfl,WkV.int (by simp only[cond,Int.sub_self];decide),rfl⟩,trivial⟩),trivial,by decide⟩
  ·conv=>whnf
   exact .q ⟨rfl,rfl⟩
theorem pl_shr {n m:Nat}(h:(limbs n).length≤200000000)(hm:m≤1048576):LV Tryz.prog 169 [.a (.d (.nat n)),vl (.int .i64 (m:Nat))] (.a (.d (.nat (n/2^m)))):=by
 rcases eP_ m with h0|h0
 ·subst h0;rw[show n/2^0=n by simp];refine LX_run (m:=0) (n0:=0) mix Tryz.func169 rfl rfl rfl rfl ?_;conv=>whnf
  refine .mk Unit (fun _=>⟨[(0,.a (.d (.nat n))),(1,vl (.int .i64 0))],[],0⟩) (fun _=>True) (fun _=>0) () Wk.go trivial fun _ _=> ?_;conv=>whnf
  exact .q ⟨rfl,rfl⟩
 ·refine LX_run (m:=0) (n0:=0) mix Tryz.func169 rfl rfl rfl rfl ?_;conv=>whnf
  refine .mk Bool (fun b=>⟨[(0,.a (.d (.nat (cond b (n/2^m) n)))),(1,vl (.int .i64 (cond b 0 (m:Int))))],[],0⟩) (fun _=>True) (fun b=>cond b 0 1) false Wk.go trivial fun b _=> ?_
  cases b
  ·conv=>whnf
   refine bT (decide_eq_true (by simp only[cond];omega)) ?_;conv=>whnf
   refine .mk (m:Int) (by simp only[cond];rw[if_neg (by omega)]) ?_;conv=>whnf
   refine .c (pl_nshr (m:=m) h hm) ?_;conv=>whnf
   exact⟨true,Wk.go (h1:=⟨⟨_,rfl,vR_ _,rfl⟩,⟨_,rfl,WkV.int (by simp only[cond,Int.sub_self];decide),rfl⟩,trivial⟩),trivial,by decide⟩
  ·conv=>whnf
   exact .q ⟨rfl,rfl⟩
theorem wk_lm {xs:List Nat}:WkA (.d (.lm xs)) (.d (.sl 1 (xs.map fun x=>[.lit (.int .u32 (x:Nat))]))):=by
 intro γ h M w r k
 cases k with
 |lm xs v hs hm=>
  obtain⟨ad,n,cap,rfl,h1,h2,h3,h4,h5⟩:=hs;subst h1;have:=RdD.sl (M:=M) (w:=w) 1 (xs.map fun x=>[.lit (.int .u32 (x:Nat))]) ad cap (fun i _=> .int .u32 ((xs.getD i 0:Nat):Int)) (by simpa using h2) (by simpa using h3) (fun h0=> ?_) (fun i row hi=> ?_) (fun _ _=>rfl) (fun i row j d hi hj=> ?_)
  ·rwa [List.length_map]at this
  ·obtain⟨b,off,rfl,_,hc⟩:=h5 (by simpa using h0);refine⟨b,off,rfl,fun i row j d hi hj=> ?_⟩;rw[List.getElem?_map]at hi;obtain⟨x,hx,rfl⟩:=Option.map_eq_some_iff.1 hi;have hlt:=(List.getElem?_eq_some_iff.1 hx).1
   cases j with
   |zero=>exact⟨by simpa using hm b off _ _ rfl i hlt,by simpa using hc i hlt⟩
   |succ j=>simp at hj
  ·rw[List.getElem?_map]at hi;obtain⟨x,hx,rfl⟩:=Option.map_eq_some_iff.1 hi;rfl
  ·rw[List.getElem?_map]at hi;obtain⟨x,hx,rfl⟩:=Option.map_eq_some_iff.1 hi
   cases j with
   |zero=>
    simp at hj;subst hj;have:xs.getD i 0=x:=by rw[List.getD_eq_getElem?_getD,hx];rfl
    rw[this];exact .lit _
   |succ j=>simp at hj
theorem pl_tz1:LV Tryz.prog 180 [vl (.int .u32 1)] (vl (.int .i64 0)):=by
 refine LX_run (m:=0) (n0:=0) mix Tryz.func180 rfl rfl rfl rfl ?_;conv=>whnf
 exact .q ⟨rfl,rfl⟩
theorem pl_zr1:LV Tryz.prog 168 [.a (.d (.nat 1))] (vl (.int .i64 0)):=by
 rw[show D.nat 1= .lm [1] by rw[D.nat,limbs_pos (by decide)];simp[limbs_zero]];refine LV.wk (gs:=[.a (.d (.sl 1 [[.lit (.int .u32 1)]]))]) ?_ ⟨wk_lm,trivial⟩;refine LX_run (m:=0) (n0:=0) mix Tryz.func168 rfl rfl rfl rfl ?_;conv=>whnf
 refine .mk Unit (fun _=>⟨[(0,.a (.d (.sl 1 [[.lit (.int .u32 1)]]))),(3,vl (.int .i64 0))],[],0⟩) (fun _=>True) (fun _=>0) () Wk.go trivial fun _ _=> ?_;conv=>whnf
 refine .mk (0) ([.lit (.int .u32 1)]) (rfl) (rfl) ?_;conv=>whnf
 conv=>whnf
 refine .mk (0) ([.lit (.int .u32 1)]) (rfl) (rfl) ?_;conv=>whnf
 conv=>whnf
 refine .c (pl_tz1) ?_;conv=>whnf
 exact .q ⟨rfl,rfl⟩
theorem pl_tz2:LV Tryz.prog 180 [vl (.int .u32 2)] (vl (.int .i64 1)):=by
 refine LX_run (m:=0) (n0:=0) mix Tryz.func180 rfl rfl rfl rfl ?_;conv=>whnf
 exact .q ⟨rfl,rfl⟩
theorem pl_zr2:LV Tryz.prog 168 [.a (.d (.nat 2))] (vl (.int .i64 1)):=by
 rw[show D.nat 2= .lm [2] by rw[D.nat,limbs_pos (by decide)];simp[limbs_zero]];refine LV.wk (gs:=[.a (.d (.sl 1 [[.lit (.int .u32 2)]]))]) ?_ ⟨wk_lm,trivial⟩;refine LX_run (m:=0) (n0:=0) mix Tryz.func168 rfl rfl rfl rfl ?_;conv=>whnf
 refine .mk Unit (fun _=>⟨[(0,.a (.d (.sl 1 [[.lit (.int .u32 2)]]))),(3,vl (.int .i64 0))],[],0⟩) (fun _=>True) (fun _=>0) () Wk.go trivial fun _ _=> ?_;conv=>whnf
 refine .mk (0) ([.lit (.int .u32 2)]) (rfl) (rfl) ?_;conv=>whnf
 conv=>whnf
 refine .mk (0) ([.lit (.int .u32 2)]) (rfl) (rfl) ?_;conv=>whnf
 conv=>whnf
 refine .c (pl_tz2) ?_;conv=>whnf
 exact .q ⟨rfl,rfl⟩
theorem pl_tz3:LV Tryz.prog 180 [vl (.int .u32 3)] (vl (.int .i64 0)):=by
 refine LX_run (m:=0) (n0:=0) mix Tryz.func180 rfl rfl rfl rfl ?_;conv=>whnf
 exact .q ⟨rfl,rfl⟩
theorem pl_zr3:LV Tryz.prog 168 [.a (.d (.nat 3))] (vl (.int .i64 0)):=by
 rw[show D.nat 3= .lm [3] by rw[D.nat,limbs_pos (by decide)];simp[limbs_zero]];refine LV.wk (gs:=[.a (.d (.sl 1 [[.lit (.int .u32 3)]]))]) ?_ ⟨wk_lm,trivial⟩;refine LX_run (m:=0) (n0:=0) mix Tryz.func168 rfl rfl rfl rfl ?_;conv=>whnf
 refine .mk Unit (fun _=>⟨[(0,.a (.d (.sl 1 [[.lit (.int .u32 3)]]))),(3,vl (.int .i64 0))],[],0⟩) (fun _=>True) (fun _=>0) () Wk.go trivial fun _ _=> ?_;conv=>whnf
 refine .mk (0) ([.lit (.int .u32 3)]) (rfl) (rfl) ?_;conv=>whnf
 conv=>whnf
 refine .mk (0) ([.lit (.int .u32 3)]) (rfl) (rfl) ?_;conv=>whnf
 conv=>whnf
 refine .c (pl_tz3) ?_;conv=>whnf
 exact .q ⟨rfl,rfl⟩
theorem pl_tz4:LV Tryz.prog 180 [vl (.int .u32 4)] (vl (.int .i64 2)):=by
 refine LX_run (m:=0) (n0:=0) mix Tryz.func180 rfl rfl rfl rfl ?_;conv=>whnf
 exact .q ⟨rfl,rfl⟩
theorem pl_zr4:LV Tryz.prog 168 [.a (.d (.nat 4))] (vl (.int .i64 2)):=by
 rw[show D.nat 4= .lm [4] by rw[D.nat,limbs_pos (by decide)];simp[limbs_zero]];refine LV.wk (gs:=[.a (.d (.sl 1 [[.lit (.int .u32 4)]]))]) ?_ ⟨wk_lm,trivial⟩;refine LX_run (m:=0) (n0:=0) mix Tryz.func168 rfl rfl rfl rfl ?_;conv=>whnf
 refine .mk Unit (fun _=>⟨[(0,.a (.d (.sl 1 [[.lit (.int .u32 4)]]))),(3,vl (.int .i64 0))],[],0⟩) (fun _=>True) (fun _=>0) () Wk.go trivial fun _ _=> ?_;conv=>whnf
 refine .mk (0) ([.lit (.int .u32 4)]) (rfl) (rfl) ?_;conv=>whnf
 conv=>whnf
 refine .mk (0) ([.lit (.int .u32 4)]) (rfl) (rfl) ?_;conv=>whnf
 conv=>whnf
 refine .c (pl_tz4) ?_;conv=>whnf
 exact .q ⟨rfl,rfl⟩
theorem pl_tz5:LV Tryz.prog 180 [vl (.int .u32 5)] (vl (.int .i64 0)):=by
 refine LX_run (m:=0) (n0:=0) mix Tryz.func180 rfl rfl rfl rfl ?_;conv=>whnf
 exact .q ⟨rfl,rfl⟩
theorem pl_zr5:LV Tryz.prog 168 [.a (.d (.nat 5))] (vl (.int .i64 0)):=by
 rw[show D.nat 5= .lm [5] by rw[D.nat,limbs_pos (by decide)];simp[limbs_zero]];refine LV.wk (gs:=[.a (.d (.sl 1 [[.lit (.int .u32 5)]]))]) ?_ ⟨wk_lm,trivial⟩;refine LX_run (m:=0) (n0:=0) mix Tryz.func168 rfl rfl rfl rfl ?_;conv=>whnf
 refine .mk Unit (fun _=>⟨[(0,.a (.d (.sl 1 [[.lit (.int .u32 5)]]))),(3,vl (.int .i64 0))],[],0⟩) (fun _=>True) (fun _=>0) () Wk.go trivial fun _ _=> ?_;conv=>whnf
 refine .mk (0) ([.lit (.int .u32 5)]) (rfl) (rfl) ?_;conv=>whnf
 conv=>whnf
 refine .mk (0) ([.lit (.int .u32 5)]) (rfl) (rfl) ?_;conv=>whnf
 conv=>whnf
 refine .c (pl_tz5) ?_;conv=>whnf
 exact .q ⟨rfl,rfl⟩
theorem pl_tz6:LV Tryz.prog 180 [vl (.int .u32 6)] (vl (.int .i64 1)):=by
 refine LX_run (m:=0) (n0:=0) mix Tryz.func180 rfl rfl rfl rfl ?_;conv=>whnf
 exact .q ⟨rfl,rfl⟩
theorem pl_zr6:LV Tryz.prog 168 [.a (.d (.nat 6))] (vl (.int .i64 1)):=by
 rw[show D.nat 6= .lm [6] by rw[D.nat,limbs_pos (by decide)];simp[limbs_zero]];refine LV.wk (gs:=[.a (.d (.sl 1 [[.lit (.int .u32 6)]]))]) ?_ ⟨wk_lm,trivial⟩;refine LX_run (m:=0) (n0:=0) mix Tryz.func168 rfl rfl rfl rfl ?_;conv=>whnf
 refine .mk Unit (fun _=>⟨[(0,.a (.d (.sl 1 [[.lit (.int .u32 6)]]))),(3,vl (.int .i64 0))],[],0⟩) (fun _=>True) (fun _=>0) () Wk.go trivial fun _ _=> ?_;conv=>whnf
 refine .mk (0) ([.lit (.int .u32 6)]) (rfl) (rfl) ?_;conv=>whnf
 conv=>whnf
 refine .mk (0) ([.lit (.int .u32 6)]) (rfl) (rfl) ?_;conv=>whnf
 conv=>whnf
 refine .c (pl_tz6) ?_;conv=>whnf
 exact .q ⟨rfl,rfl⟩
theorem pl_tz7:LV Tryz.prog 180 [vl (.int .u32 7)] (vl (.int .i64 0)):=by
 refine LX_run (m:=0) (n0:=0) mix Tryz.func180 rfl rfl rfl rfl ?_;conv=>whnf
 exact .q ⟨rfl,rfl⟩
theorem pl_zr7:LV Tryz.prog 168 [.a (.d (.nat 7))] (vl (.int .i64 0)):=by
 rw[show D.nat 7= .lm [7] by rw[D.nat,limbs_pos (by decide)];simp[limbs_zero]];refine LV.wk (gs:=[.a (.d (.sl 1 [[.lit (.int .u32 7)]]))]) ?_ ⟨wk_lm,trivial⟩;refine LX_run (m:=0) (n0:=0) mix Tryz.func168 rfl rfl rfl rfl ?_;conv=>whnf
 refine .mk Unit (fun _=>⟨[(0,.a (.d (.sl 1 [[.lit (.int .u32 7)]]))),(3,vl (.int .i64 0))],[],0⟩) (fun _=>True) (fun _=>0) () Wk.go trivial fun _ _=> ?_;conv=>whnf
 refine .mk (0) ([.lit (.int .u32 7)]) (rfl) (rfl) ?_;conv=>whnf
 conv=>whnf
 refine .mk (0) ([.lit (.int .u32 7)]) (rfl) (rfl) ?_;conv=>whnf
 conv=>whnf
 refine .c (pl_tz7) ?_;conv=>whnf
 exact .q ⟨rfl,rfl⟩
theorem pl_tz8:LV Tryz.prog 180 [vl (.int .u32 8)] (vl (.int .i64 3)):=by
 refine LX_run (m:=0) (n0:=0) mix Tryz.func180 rfl rfl rfl rfl ?_;conv=>whnf
 exact .q ⟨rfl,rfl⟩
theorem pl_zr8:LV Tryz.prog 168 [.a (.d (.nat 8))] (vl (.int .i64 3)):=by
 rw[show D.nat 8= .lm [8] by rw[D.nat,limbs_pos (by decide)];simp[limbs_zero]];refine LV.wk (gs:=[.a (.d (.sl 1 [[.lit (.int .u32 8)]]))]) ?_ ⟨wk_lm,trivial⟩;refine LX_run (m:=0) (n0:=0) mix Tryz.func168 rfl rfl rfl rfl ?_;conv=>whnf
 refine .mk Unit (fun _=>⟨[(0,.a (.d (.sl 1 [[.lit (.int .u32 8)]]))),(3,vl (.int .i64 0))],[],0⟩) (fun _=>True) (fun _=>0) () Wk.go trivial fun _ _=> ?_;conv=>whnf
 refine .mk (0) ([.lit (.int .u32 8)]) (rfl) (rfl) ?_;conv=>whnf
 conv=>whnf
 refine .mk (0) ([.lit (.int .u32 8)]) (rfl) (rfl) ?_;conv=>whnf
 conv=>whnf
 refine .c (pl_tz8) ?_;conv=>whnf
 exact .q ⟨rfl,rfl⟩
theorem pl_tz9:LV Tryz.prog 180 [vl (.int .u32 9)] (vl (.int .i64 0)):=by
 refine LX_run (m:=0) (n0:=0) mix Tryz.func180 rfl rfl rfl rfl ?_;conv=>whnf
 exact .q ⟨rfl,rfl⟩
theorem pl_zr9:LV Tryz.prog 168 [.a (.d (.nat 9))] (vl (.int .i64 0)):=by
 rw[show D.nat 9= .lm [9] by rw[D.nat,limbs_pos (by decide)];simp[limbs_zero]];refine LV.wk (gs:=[.a (.d (.sl 1 [[.lit (.int .u32 9)]]))]) ?_ ⟨wk_lm,trivial⟩;refine LX_run (m:=0) (n0:=0) mix Tryz.func168 rfl rfl rfl rfl ?_;conv=>whnf
 refine .mk Unit (fun _=>⟨[(0,.a (.d (.sl 1 [[.lit (.int .u32 9)]]))),(3,vl (.int .i64 0))],[],0⟩) (fun _=>True) (fun _=>0) () Wk.go trivial fun _ _=> ?_;conv=>whnf
 refine .mk (0) ([.lit (.int .u32 9)]) (rfl) (rfl) ?_;conv=>whnf
 conv=>whnf
 refine .mk (0) ([.lit (.int .u32 9)]) (rfl) (rfl) ?_;conv=>whnf
 conv=>whnf
 refine .c (pl_tz9) ?_;conv=>whnf
 exact .q ⟨rfl,rfl⟩
theorem pl_tz10:LV Tryz.prog 180 [vl (.int .u32 10)] (vl (.int .i64 1)):=by
 refine LX_run (m:=0) (n0:=0) mix Tryz.func180 rfl rfl rfl rfl ?_;conv=>whnf
 exact .q ⟨rfl,rfl⟩
theorem pl_zr10:LV Tryz.prog 168 [.a (.d (.nat 10))] (vl (.int .i64 1)):=by
 rw[show D.nat 10= .lm [10] by rw[D.nat,limbs_pos (by decide)];simp[limbs_zero]];refine LV.wk (gs:=[.a (.d (.sl 1 [[.lit (.int .u32 10)]]))]) ?_ ⟨wk_lm,trivial⟩;refine LX_run (m:=0) (n0:=0) mix Tryz.func168 rfl rfl rfl rfl ?_;conv=>whnf
 refine .mk Unit (fun _=>⟨[(0,.a (.d (.sl 1 [[.lit (.int .u32 10)]]))),(3,vl (.int .i64 0))],[],0⟩) (fun _=>True) (fun _=>0) () Wk.go trivial fun _ _=> ?_;conv=>whnf
 refine .mk (0) ([.lit (.int .u32 10)]) (rfl) (rfl) ?_;conv=>whnf
 conv=>whnf
 refine .mk (0) ([.lit (.int .u32 10)]) (rfl) (rfl) ?_;conv=>whnf
 conv=>whnf
 refine .c (pl_tz10) ?_;conv=>whnf
 exact .q ⟨rfl,rfl⟩
theorem pl_tz11:LV Tryz.prog 180 [vl (.int .u32 11)] (vl (.int .i64 0)):=by
 refine LX_run (m:=0) (n0:=0) mix Tryz.func180 rfl rfl rfl rfl ?_;conv=>whnf
 exact .q ⟨rfl,rfl⟩
theorem pl_zr11:LV Tryz.prog 168 [.a (.d (.nat 11))] (vl (.int .i64 0)):=by
 rw[show D.nat 11= .lm [11] by rw[D.nat,limbs_pos (by decide)];simp[limbs_zero]];refine LV.wk (gs:=[.a (.d (.sl 1 [[.lit (.int .u32 11)]]))]) ?_ ⟨wk_lm,trivial⟩;refine LX_run (m:=0) (n0:=0) mix Tryz.func168 rfl rfl rfl rfl ?_;conv=>whnf
 refine .mk Unit (fun _=>⟨[(0,.a (.d (.sl 1 [[.lit (.int .u32 11)]]))),(3,vl (.int .i64 0))],[],0⟩) (fun _=>True) (fun _=>0) () Wk.go trivial fun _ _=> ?_;conv=>whnf
 refine .mk (0) ([.lit (.int .u32 11)]) (rfl) (rfl) ?_;conv=>whnf
 conv=>whnf
 refine .mk (0) ([.lit (.int .u32 11)]) (rfl) (rfl) ?_;conv=>whnf
 conv=>whnf
 refine .c (pl_tz11) ?_;conv=>whnf
 exact .q ⟨rfl,rfl⟩
theorem pl_tz12:LV Tryz.prog 180 [vl (.int .u32 12)] (vl (.int .i64 2)):=by
 refine LX_run (m:=0) (n0:=0) mix Tryz.func180 rfl rfl rfl rfl ?_;conv=>whnf
 exact .q ⟨rfl,rfl⟩
theorem pl_zr12:LV Tryz.prog 168 [.a (.d (.nat 12))] (vl (.int .i64 2)):=by
 rw[show D.nat 12= .lm [12] by rw[D.nat,limbs_pos (by decide)];simp[limbs_zero]];refine LV.wk (gs:=[.a (.d (.sl 1 [[.lit (.int .u32 12)]]))]) ?_ ⟨wk_lm,trivial⟩;refine LX_run (m:=0) (n0:=0) mix Tryz.func168 rfl rfl rfl rfl ?_;conv=>whnf
 refine .mk Unit (fun _=>⟨[(0,.a (.d (.sl 1 [[.lit (.int .u32 12)]]))),(3,vl (.int .i64 0))],[],0⟩) (fun _=>True) (fun _=>0) () Wk.go trivial fun _ _=> ?_;conv=>whnf
 refine .mk (0) ([.lit (.int .u32 12)]) (rfl) (rfl) ?_;conv=>whnf
 conv=>whnf
 refine .mk (0) ([.lit (.int .u32 12)]) (rfl) (rfl) ?_;conv=>whnf
 conv=>whnf
 refine .c (pl_tz12) ?_;conv=>whnf
 exact .q ⟨rfl,rfl⟩
theorem pl_tz13:LV Tryz.prog 180 [vl (.int .u32 13)] (vl (.int .i64 0)):=by
 refine LX_run (m:=0) (n0:=0) mix Tryz.func180 rfl rfl rfl rfl ?_;conv=>whnf
 exact .q ⟨rfl,rfl⟩
theorem pl_zr13:LV Tryz.prog 168 [.a (.d (.nat 13))] (vl (.int .i64 0)):=by
 rw[show D.nat 13= .lm [13] by rw[D.nat,limbs_pos (by decide)];simp[limbs_zero]];refine LV.wk (gs:=[.a (.d (.sl 1 [[.lit (.int .u32 13)]]))]) ?_ ⟨wk_lm,trivial⟩;refine LX_run (m:=0) (n0:=0) mix Tryz.func168 rfl rfl rfl rfl ?_;conv=>whnf
 refine .mk Unit (fun _=>⟨[(0,.a (.d (.sl 1 [[.lit (.int .u32 13)]]))),(3,vl (.int .i64 0))],[],0⟩) (fun _=>True) (fun _=>0) () Wk.go trivial fun _ _=> ?_;conv=>whnf
 refine .mk (0) ([.lit (.int .u32 13)]) (rfl) (rfl) ?_;conv=>whnf
 conv=>whnf
 refine .mk (0) ([.lit (.int .u32 13)]) (rfl) (rfl) ?_;conv=>whnf
 conv=>whnf
 refine .c (pl_tz13) ?_;conv=>whnf
 exact .q ⟨rfl,rfl⟩
theorem pl_tz14:LV Tryz.prog 180 [vl (.int .u32 14)] (vl (.int .i64 1)):=by
 refine LX_run (m:=0) (n0:=0) mix Tryz.func180 rfl rfl rfl rfl ?_;conv=>whnf
 exact .q ⟨rfl,rfl⟩
theorem pl_zr14:LV Tryz.prog 168 [.a (.d (.nat 14))] (vl (.int .i64 1)):=by
 rw[show D.nat 14= .lm [14] by rw[D.nat,limbs_pos (by decide)];simp[limbs_zero]];refine LV.wk (gs:=[.a (.d (.sl 1 [[.lit (.int .u32 14)]]))]) ?_ ⟨wk_lm,trivial⟩;refine LX_run (m:=0) (n0:=0) mix Tryz.func168 rfl rfl rfl rfl ?_;conv=>whnf
 refine .mk Unit (fun _=>⟨[(0,.a (.d (.sl 1 [[.lit (.int .u32 14)]]))),(3,vl (.int .i64 0))],[],0⟩) (fun _=>True) (fun _=>0) () Wk.go trivial fun _ _=> ?_;conv=>whnf
 refine .mk (0) ([.lit (.int .u32 14)]) (rfl) (rfl) ?_;conv=>whnf
 conv=>whnf
 refine .mk (0) ([.lit (.int .u32 14)]) (rfl) (rfl) ?_;conv=>whnf
 conv=>whnf
 refine .c (pl_tz14) ?_;conv=>whnf
 exact .q ⟨rfl,rfl⟩
theorem pl_tz15:LV Tryz.prog 180 [vl (.int .u32 15)] (vl (.int .i64 0)):=by
 refine LX_run (m:=0) (n0:=0) mix Tryz.func180 rfl rfl rfl rfl ?_;conv=>whnf
 exact .q ⟨rfl,rfl⟩
theorem pl_zr15:LV Tryz.prog 168 [.a (.d (.nat 15))] (vl (.int .i64 0)):=by
 rw[show D.nat 15= .lm [15] by rw[D.nat,limbs_pos (by decide)];simp[limbs_zero]];refine LV.wk (gs:=[.a (.d (.sl 1 [[.lit (.int .u32 15)]]))]) ?_ ⟨wk_lm,trivial⟩;refine LX_run (m:=0) (n0:=0) mix Tryz.func168 rfl rfl rfl rfl ?_;conv=>whnf
 refine .mk Unit (fun _=>⟨[(0,.a (.d (.sl 1 [[.lit (.int .u32 15)]]))),(3,vl (.int .i64 0))],[],0⟩) (fun _=>True) (fun _=>0) () Wk.go trivial fun _ _=> ?_;conv=>whnf
 refine .mk (0) ([.lit (.int .u32 15)]) (rfl) (rfl) ?_;conv=>whnf
 conv=>whnf
 refine .mk (0) ([.lit (.int .u32 15)]) (rfl) (rfl) ?_;conv=>whnf
 conv=>whnf
 refine .c (pl_tz15) ?_;conv=>whnf
 exact .q ⟨rfl,rfl⟩
theorem pl_tz16:LV Tryz.prog 180 [vl (.int .u32 16)] (vl (.int .i64 4)):=by
 refine LX_run (m:=0) (n0:=0) mix Tryz.func180 rfl rfl rfl rfl ?_;conv=>whnf
 exact .q ⟨rfl,rfl⟩
theorem pl_zr16:LV Tryz.prog 168 [.a (.d (.nat 16))] (vl (.int .i64 4)):=by
 rw[show D.nat 16= .lm [16] by rw[D.nat,limbs_pos (by decide)];simp[limbs_zero]];refine LV.wk (gs:=[.a (.d (.sl 1 [[.lit (.int .u32 16)]]))]) ?_ ⟨wk_lm,trivial⟩;refine LX_run (m:=0) (n0:=0) mix Tryz.func168 rfl rfl rfl rfl ?_;conv=>whnf
 refine .mk Unit (fun _=>⟨[(0,.a (.d (.sl 1 [[.lit (.int .u32 16)]]))),(3,vl (.int .i64 0))],[],0⟩) (fun _=>True) (fun _=>0) () Wk.go trivial fun _ _=> ?_;conv=>whnf
 refine .mk (0) ([.lit (.int .u32 16)]) (rfl) (rfl) ?_;conv=>whnf
 conv=>whnf
 refine .mk (0) ([.lit (.int .u32 16)]) (rfl) (rfl) ?_;conv=>whnf
 conv=>whnf
 refine .c (pl_tz16) ?_;conv=>whnf
 exact .q ⟨rfl,rfl⟩
theorem pl_zeros {q:Nat}(h1:1≤q)(h2:q≤16):∃z:Nat,2^z∣q∧z≤4∧LV Tryz.prog 168 [.a (.d (.nat q))] (vl (.int .i64 (z:Nat))):=by
 obtain rfl|rfl|rfl|rfl|rfl|rfl|rfl|rfl|rfl|rfl|rfl|rfl|rfl|rfl|rfl|rfl:q=1∨q=2∨q=3∨q=4∨q=5∨q=6∨q=7∨q=8∨q=9∨q=10∨q=11∨q=12∨q=13∨q=14∨q=15∨q=16:=by omega
 ·exact⟨0,by decide,by decide,pl_zr1⟩
 ·exact⟨1,by decide,by decide,pl_zr2⟩
 ·exact⟨0,by decide,by decide,pl_zr3⟩
 ·exact⟨2,by decide,by decide,pl_zr4⟩
 ·exact⟨0,by decide,by decide,pl_zr5⟩
 ·exact⟨1,by decide,by decide,pl_zr6⟩
 ·exact⟨0,by decide,by decide,pl_zr7⟩
 ·exact⟨3,by decide,by decide,pl_zr8⟩
 ·exact⟨0,by decide,by decide,pl_zr9⟩
 ·exact⟨1,by decide,by decide,pl_zr10⟩
 ·exact⟨0,by decide,by decide,pl_zr11⟩
 ·exact⟨2,by decide,by decide,pl_zr12⟩
 ·exact⟨0,by decide,by decide,pl_zr13⟩
 ·exact⟨1,by decide,by decide,pl_zr14⟩
 ·exact⟨0,by decide,by decide,pl_zr15⟩
 ·exact⟨4,by decide,by decide,pl_zr16⟩
theorem pl_var {v:Int}:LV Tryz.prog 173 [vl (.int .i64 v)] (.agg (varS v).A):=by
 refine LX_run (m:=0) (n0:=0) mix Tryz.func173 rfl rfl rfl rfl ?_;conv=>whnf
 refine .c (lx_rofp) ?_;conv=>whnf
 exact .s ⟨by show _=V.agg (A.d _::(can 0).A);rw[can0];rfl,rfl⟩
theorem pl_num {q:Rat}(h:Sz q):LV Tryz.prog 174 [.agg (can q).A] (.agg (numS q).A):=by
 refine LX_run (m:=0) (n0:=0) mix Tryz.func174 rfl rfl rfl rfl ?_;conv=>whnf
 refine .c (lx_rcanon (.c h)) ?_;conv=>whnf
 exact .mk _ [] ⟨rfl,rfl⟩ (WkV.agg ⟨WkA.nil,aR_ _,aR_ _,aR_ _,trivial⟩) rfl trivial rfl
theorem pl_minus {f:Af}{n:Int}{k:Nat}(h:FB k n f)(h0:0≤n)(hn:n≤100000)(hk:k+1≤1000000000):LV Tryz.prog 175 [.agg f.A] (.agg (scaleS f m1).A):=by
 refine LX_run (m:=0) (n0:=0) mix Tryz.func175 rfl rfl rfl rfl ?_;conv=>whnf
 refine .c (lx_rofm) ?_;conv=>whnf
 refine .c (pl_scale h m1_b h0 hn (by omega)) ?_;conv=>whnf
 refine .mk (by kernel_rfl) ?_;conv=>whnf
 exact .q ⟨rfl,rfl⟩
theorem pl_plain {k i:Int}:LV Tryz.prog 172 [.agg (Ro.A ⟨k,i,0,0⟩)] (vl (.bool true)):=by
 refine LX_run (m:=0) (n0:=0) mix Tryz.func172 rfl rfl rfl rfl ?_;conv=>whnf
 exact .q ⟨rfl,rfl⟩
theorem pl_lemma {s:Sp}{n u:Int}{up:Bool}(hs:SpOk s)(hn: -1000000≤n∧n≤2000000):
  LV Tryz.prog 176 [.agg s.A,vl (.int .i64 n),vl (.int .i64 u),vl (.bool up)] (.tup [.g (can (lmV s n u up)).A,.s (.d (.lit (.bool (lmOk s n u up))))]):=by
 have hl:=hs.ll
 by_cases h1:1≤n∧n≤s.ls.length
 ·have ha:=atL_some (z:=n) (ls:=s.ls) (by omega) h1.2;have hsm:=atL_sm hs.ln n;have hz:IntKind.i64.wrap (n-1)=((n-1).toNat:Int):=by rw[wr64 (by omega) (by omega)];omega
  have hV:lmV s n u up=bif lmOk s n u up then(atL s.ls n).v.q else 0:=rfl
  have hO:lmOk s n u up=(decide ((atL s.ls n).u=u)&&((atL s.ls n).up==up)):=by simp[lmOk,h1.1,h1.2]
  generalize atL s.ls n=m at *
  obtain⟨mu,mup,mv,mp⟩:=m;simp only at hO hV hsm
  have hF:lmOk s n u up=false→V.tup [.g [.d (.lit (.bool false)),.d (.lm (limbs 0)),.d (.lm (limbs 0))],.s (.d (.lit (.bool false)))]=V.tup [.g (can (lmV s n u up)).A,.s (.d (.lit (.bool (lmOk s n u up))))]:=fun e=>by
   rw[hV,e];show _=V.tup [.g (can 0).A,_];rw[can0]
  have hT:lmOk s n u up=true→V.tup [.g (can mv.q).A,.s (.d (.lit (.bool true)))]=V.tup [.g (can (lmV s n u up)).A,.s (.d (.lit (.bool (lmOk s n u up))))]:=fun e=>by
   rw[hV,e];rfl
  cases up<;>cases mup
  all_goals refine LX_run (m:=0) (n0:=0) mix Tryz.func176 rfl rfl rfl rfl ?_
            conv=>whnf
  all_goals refine bF (decide_eq_false (by omega)) ?_
            conv=>whnf
  all_goals refine bF (decide_eq_false (by simp;omega)) ?_
            conv=>whnf
  all_goals (repeat' first|(refine bs (fun h=> ?_) (fun h=> ?_)<;>conv=>whnf)|(refine Nc.mk (by kernel_rfl) ?_;conv=>whnf)|(refine .c (lx_rcanon hsm.rq) ?_;conv=>whnf)|(refine .mk (n-1).toNat (Lm.D ⟨mu,_,mv,mp⟩) hz (at_map ha) ?_;conv=>whnf))
  all_goals first
   |exact .q ⟨hT (by rw[hO];simp_all),rfl⟩
   |exact .q ⟨hF (by rw[hO];simp_all),rfl⟩
 ·have hO:lmOk s n u up=false:=by
   unfold lmOk
   by_cases h:n<1
   ·simp;omega
   ·simp;omega
  have hF:V.tup [.g [.d (.lit (.bool false)),.d (.lm (limbs 0)),.d (.lm (limbs 0))],.s (.d (.lit (.bool false)))]=V.tup [.g (can (lmV s n u up)).A,.s (.d (.lit (.bool (lmOk s n u up))))]:=by
   rw[lmV,hO];show _=V.tup [.g (can 0).A,_];rw[can0]
  refine LX_run (m:=0) (n0:=0) mix Tryz.func176 rfl rfl rfl rfl ?_;conv=>whnf
  refine bs (fun h2=> ?_) (fun h2=> ?_)
  ·conv=>whnf
   exact .q ⟨hF,rfl⟩
  ·conv=>whnf
   refine bT (decide_eq_true (by simp at h2 ⊢;omega)) ?_;conv=>whnf
   exact .q ⟨hF,rfl⟩
abbrev useA (s:Sp)(r:Ro)(v p:Af)(l u:Rat)(low top:Bool):List A:=s.A++r.A++v.A++p.A++(can l).A++(can u).A++[.d (.lit (.bool low)),.d (.lit (.bool top))]
theorem pl_on {s:Sp}{k i n:Int}{v p:Af}{l u:Rat}{top:Bool}(hn:1≤n)(hl:Sz l)(h0:0≤l):LV Tryz.prog 177 [.agg (useA s ⟨k,i,n,0⟩ v p l u true top)] (vl (.bool true)):=by
 refine LX_run (m:=0) (n0:=0) mix Tryz.func177 rfl rfl rfl rfl ?_;conv=>whnf
 refine bF (by simp;omega) ?_;conv=>whnf
 refine .c (lx_rsign (.c hl)) ?_;conv=>whnf
 refine bT (by have:= @sg_lt l;rw[decide_eq_false (Rat.not_lt.2 h0)]at this;simpa using this) ?_;conv=>whnf
 exact .q ⟨rfl,rfl⟩
theorem pl_off {s:Sp}{k i n:Int}{v p:Af}{l u:Rat}{low:Bool}(hn:1≤n)(hu:Sz u)(h0:u≤0):LV Tryz.prog 178 [.agg (useA s ⟨k,i,0,n⟩ v p l u low true)] (vl (.bool true)):=by
 refine LX_run (m:=0) (n0:=0) mix Tryz.func178 rfl rfl rfl rfl ?_;conv=>whnf
 refine bF (by simp;omega) ?_;conv=>whnf
 refine .c (lx_rsign (.c hu)) ?_;conv=>whnf
 refine bT (by have:= @sg_gt u;rw[decide_eq_false (Rat.not_lt.2 h0)]at this;simpa using this) ?_;conv=>whnf
 exact .q ⟨rfl,rfl⟩
def frmW (v:Int)(p:Af)(l u:Rat)(k:Int):Af:=
 if k=5 then varS v else if k=6 then subS (varS v) p else if k=8 then subS p (varS v)else if k=10 then scaleS (varS v) m1 else if k=11 then subS p (numS l)else if k=12 then subS (numS u) p
 else subS (scaleS (subS p (numS l)) u) (scaleS (varS v) (u-l))
structure RoW (s:Sp)(r:Ro):Prop where
 i0:0≤r.i
 i1:r.i<s.q.g.us.length
 l:0≤r.l∧r.l≤1000000
 h:0≤r.h∧r.h≤1000000
 k:(r.k=5∧r.l=0∧r.h=0)∨(r.k=6∧r.l=0∧r.h=0)∨(r.k=8∧1≤r.l∧lmOk s r.l r.i false=true∧0≤lmV s r.l r.i false∧r.h=0)∨(r.k=10∧r.l=0∧1≤r.h∧lmOk s r.h r.i true=true∧lmV s r.h r.i true≤0)
  ∨(r.k=11∧lmOk s r.l r.i false=true∧r.h=0)∨(r.k=12∧r.l=0∧lmOk s r.h r.i true=true)∨(r.k=13∧lmOk s r.l r.i false=true∧lmOk s r.h r.i true=true∧lmV s r.l r.i false<0∧0<lmV s r.h r.i true)
theorem frmW_b {v:Int}{p:Af}{l u:Rat}{n:Int}{B c:Nat}(k:Int)(h0:0≤v)(hv:v<n)(hp:FB c n p)(hl:Bt B l)(hu:Bt B u):FB (4*B+c+3) n (frmW v p l u k):=by
 unfold frmW
 repeat' split
 ·exact(FB.var h0 hv).up (by omega) (Int.le_refl _)
 ·exact((FB.var h0 hv).sub hp).up (by omega) (Int.le_refl _)
 ·exact(hp.sub (FB.var h0 hv)).up (by omega) (Int.le_refl _)
 ·exact((FB.var h0 hv).scale m1_b).up (by omega) (Int.le_refl _)
 ·exact(hp.sub (FB.num hl)).up (by omega) (Int.le_refl _)
 ·exact((FB.num hu).sub hp).up (by omega) (Int.le_refl _)
 ·exact(((hp.sub (FB.num hl)).scale hu).sub ((FB.var h0 hv).scale (hu.sub hl))).up (by omega) (Int.le_refl _)
theorem pl_unit {s:Sp}{r:Ro}{j:Nat}{p:Af}{B:Nat}(hs:SpOk s)(hr:RoW s r)(hj:r.i=j)(hp:s.q.g.us[j]? =some p)(hpf:FB 5 (s.q.g.n+s.q.g.us.length:Nat) p)
  (hl:Bt B (lmV s r.l r.i false)) (hu:Bt B (lmV s r.h r.i true)) (hB:4*B+8≤1000000000):
  LV Tryz.prog 156 [.agg s.A,.agg r.A] (.tup [.g (frmW (s.q.g.n+j:Nat) p (lmV s r.l r.i false) (lmV s r.h r.i true) r.k).A,.s (.d (.lit (.bool true)))]):=by
 obtain⟨rk,ri,rl,rh⟩:=r;obtain⟨i0,i1,hl1,hh1,hr⟩:=hr;simp only at hj hl hu hr i0 i1 hl1 hh1 ⊢;subst hj;have hjl:=at_lt hp;have hn2:=hs.q.g.n2;have hu1:=hs.q.g.u1;have hw:IntKind.i64.wrap ((s.q.g.n:Int)+(j:Int))=((s.q.g.n+j:Nat):Int):=by rw[wr64 (by omega) (by omega)];omega
 have fV:=FB.var (n:=((s.q.g.n+s.q.g.us.length:Nat):Int)) (v:=((s.q.g.n+j:Nat):Int)) (by omega) (by omega);have c1:=pl_lemma (n:=rl) (u:=(j:Int)) (up:=false) hs (by omega);have c2:=pl_lemma (n:=rh) (u:=(j:Int)) (up:=true) hs (by omega);show LV Tryz.prog _ [.agg s.A,.agg [.d (.lit (.int .i64 rk)),.d (.lit (.int .i64 j)),.d (.lit (.int .i64 rl)),.d (.lit (.int .i64 rh))]] _;have z1:rl=0→lmOk s rl j false=false:=fun h=>by rw[h];exact lmOk0 _ _ _
 have z2:rh=0→lmOk s rh j true=false:=fun h=>by rw[h];exact lmOk0 _ _ _
 generalize hlv:lmV s rl j false=l at *
 generalize huv:lmV s rh j true=u at *
 generalize lmOk s rl j false=ol at *
 generalize lmOk s rh j true=oh at *
 have lz:Sz l:=hl.mono (by omega);have uz:Sz u:=hu.mono (by omega);have start:LV Tryz.prog 156 [.agg s.A,.agg [.d (.lit (.int .i64 rk)),.d (.lit (.int .i64 j)),.d (.lit (.int .i64 rl)),.d (.lit (.int .i64 rh))]] (.tup [.g (frmW (s.q.g.n+j:Nat) p l u rk).A,.s (.d (.lit (.bool true)))]):=by
  rcases hr with⟨rfl,rfl,rfl⟩|⟨rfl,rfl,rfl⟩|⟨rfl,h1,rfl,h2,rfl⟩|⟨rfl,rfl,h1,rfl,h2⟩|⟨rfl,rfl,rfl⟩|⟨rfl,rfl,rfl⟩|⟨rfl,rfl,rfl,h1,h2⟩
  all_goals try obtain rfl:=z1 rfl
  all_goals try obtain rfl:=z2 rfl
  all_goals refine LX_run (m:=0) (n0:=0) mix Tryz.func156 rfl rfl rfl rfl ?_
            conv=>whnf
  all_goals refine bF (decide_eq_false (show ¬(j:Int)≥((s.q.g.us.map Af.D).length:Int) by rw[List.length_map];omega)) ?_
            conv=>whnf
  all_goals rw[hw]
  all_goals refine .c (pl_var) ?_
            conv=>whnf
  all_goals refine .mk j p.D (by rfl) (at_map hp) ?_
  all_goals conv=>whnf
  all_goals refine .mk (by kernel_rfl) ?_
            conv=>whnf
  all_goals repeat' first|(refine bs (fun h=> ?_) (fun h=> ?_)<;>conv=>whnf)|(refine Nc.mk (by kernel_rfl) ?_;conv=>whnf)|(refine .c (c1) ?_;conv=>whnf)|(refine .c (c2) ?_;conv=>whnf)
  ·refine .c (pl_plain) ?_;conv=>whnf
   exact .q ⟨rfl,rfl⟩
  ·refine .c (pl_plain) ?_;conv=>whnf
   refine .c (pl_sub fV hpf (by omega) (by omega) (by omega)) ?_;conv=>whnf
   exact .q ⟨rfl,rfl⟩
  ·refine .c (pl_on h1 lz h2) ?_;conv=>whnf
   refine .c (pl_sub hpf fV (by omega) (by omega) (by omega)) ?_;conv=>whnf
   exact .q ⟨rfl,rfl⟩
  ·refine .c (pl_off h1 uz h2) ?_;conv=>whnf
   refine .c (pl_minus fV (by omega) (by omega) (by omega)) ?_;conv=>whnf
   exact .q ⟨rfl,rfl⟩
  ·refine .c (pl_num lz) ?_;conv=>whnf
   refine .c (pl_sub hpf (FB.num hl) (by omega) (by omega) (by omega)) ?_;conv=>whnf
   refine .mk (by kernel_rfl) ?_;conv=>whnf
   exact .q ⟨rfl,rfl⟩
  ·refine .c (pl_num uz) ?_;conv=>whnf
   refine .c (pl_sub (FB.num hu) hpf (by omega) (by omega) (by omega)) ?_;conv=>whnf
   refine .mk (by kernel_rfl) ?_;conv=>whnf
   exact .q ⟨rfl,rfl⟩
  ·refine .c (lx_rsign (.c lz)) ?_;conv=>whnf
   refine bT (by rw[sg_lt];exact decide_eq_true h1) ?_;conv=>whnf
   refine .c (lx_rsign (.c uz)) ?_;conv=>whnf
   refine bT (by rw[sg_gt];exact decide_eq_true h2) ?_;conv=>whnf
   refine .c (pl_num lz) ?_;conv=>whnf
   refine .c (pl_sub hpf (FB.num hl) (by omega) (by omega) (by omega)) ?_;conv=>whnf
   refine .c (pl_scale (hpf.sub (FB.num hl)) hu (by omega) (by omega) (by omega)) ?_;conv=>whnf
   refine .mk (by kernel_rfl) ?_;conv=>whnf
   refine .c (lx_rsub (.c uz) (.c lz)) ?_;conv=>whnf
   refine .c (pl_scale fV (hu.sub hl) (by omega) (by omega) (by omega)) ?_;conv=>whnf
   refine .c (pl_sub ((hpf.sub (FB.num hl)).scale hu) (fV.scale (hu.sub hl)) (by omega) (by omega) (by omega)) ?_;conv=>whnf
   refine .mk (by kernel_rfl) ?_;conv=>whnf
   exact .q ⟨rfl,rfl⟩
 exact start
def frmI (s:Sp)(r:Ro):Af:=if r.k=1 then subS (varS r.i) (numS (atQ s.q.r.lo r.i))else subS (numS (atQ s.q.r.hi r.i)) (varS r.i)
def frm (s:Sp)(r:Ro):Af:=if r.k=1∨r.k=2 then frmI s r else frmW (s.q.g.n+r.i.toNat:Nat) (atF s.q.g.us r.i) (lmV s r.l r.i false) (lmV s r.h r.i true) r.k
def RoA (s:Sp)(r:Ro):Prop:=RoI s r∨RoW s r
theorem RoW.nk {s:Sp}{r:Ro}(h:RoW s r):5≤r.k∧r.k≤13:=by have:=h.k;omega
theorem atF_some {l:List Af}{i:Int}(h0:0≤i)(h1:i<l.length):l[i.toNat]? =some (atF l i):=by
 obtain⟨p,hp⟩:=at_some (l:=l) (i:=i.toNat) (by omega);rw[atF,hp];rfl
theorem atQ_some {l:List Rat}{i:Int}(h0:0≤i)(h1:i<l.length):l[i.toNat]? =some (atQ l i):=by
 obtain⟨p,hp⟩:=at_some (l:=l) (i:=i.toNat) (by omega);rw[atQ,hp];rfl
theorem pl_input {s:Sp}{r:Ro}(hs:SpOk s)(hq:QuB s.q)(hr:RoI s r):LV Tryz.prog 155 [.agg s.A,.agg r.A] (.tup [.g (frmI s r).A,.s (.d (.lit (.bool true)))]):=by
 obtain⟨rk,ri,rl,rh⟩:=r;obtain⟨h1,h2,h3,h4,h5⟩:=hr;simp only at h1 h2 h3 h4 h5;subst h4 h5;have hn2:=hs.q.g.n2;have hu1:=hs.q.g.u1;have hv:=FB.var (n:=((s.q.g.n+s.q.g.us.length:Nat):Int)) (v:=ri) h2 (by omega);have hlo:=hq.r.lo;have hhi:=hq.r.hi;have hx:=atQ_some (l:=s.q.r.lo) h2 (by omega);have hy:=atQ_some (l:=s.q.r.hi) h2 (by omega);have fx:=hq.r.sl _ (mG_ hx);have fy:=hq.r.sh _ (mG_ hy);show LV Tryz.prog _ [.agg s.A,.agg [.d (.lit (.int .i64 rk)),.d (.lit (.int .i64 ri)),.d (.lit (.int .i64 0)),.d (.lit (.int .i64 0))]] _;unfold frmI;simp only;generalize atQ s.q.r.lo ri=x at *
 generalize atQ s.q.r.hi ri=y at *
 rcases h1 with rfl|rfl
 all_goals refine LX_run (m:=0) (n0:=0) mix Tryz.func155 rfl rfl rfl rfl ?_
           conv=>whnf
 all_goals refine .mk (by kernel_rfl) ?_
           conv=>whnf
 all_goals refine .c (pl_plain) ?_
           conv=>whnf
 all_goals refine bF (decide_eq_false (by omega)) ?_
           conv=>whnf
 ·refine bT (decide_eq_true (by rw[List.length_map];omega)) ?_;conv=>whnf
  refine .c (pl_var) ?_;conv=>whnf
  refine .mk (ri.toNat) ((can x).D) (by omega) (at_map (f:=fun q=>(can q).D) hx) ?_;conv=>whnf
  conv=>whnf
  refine .c (pl_num (fx.mono (by decide))) ?_;conv=>whnf
  refine .c (pl_sub hv (FB.num fx) (by omega) (by omega) (by omega)) ?_;conv=>whnf
  refine .mk (by kernel_rfl) ?_;conv=>whnf
  exact .q ⟨rfl,rfl⟩
 ·refine bT (decide_eq_true (by rw[List.length_map];omega)) ?_;conv=>whnf
  refine .mk (ri.toNat) ((can y).D) (by omega) (at_map (f:=fun q=>(can q).D) hy) ?_;conv=>whnf
  conv=>whnf
  refine .c (pl_num (fy.mono (by decide))) ?_;conv=>whnf
  refine .c (pl_var) ?_;conv=>whnf
  refine .c (pl_sub (FB.num fy) hv (by omega) (by omega) (by omega)) ?_;conv=>whnf
  exact .q ⟨rfl,rfl⟩
theorem pl_form {s:Sp}{r:Ro}{B:Nat}(hs:SpOk s)(hq:QuB s.q)(hr:RoA s r)(hl:Bt B (lmV s r.l r.i false))(hu:Bt B (lmV s r.h r.i true))(hB:4*B+8≤1000000000):
  LV Tryz.prog 129 [.agg s.A,.agg r.A] (.tup [.g (frm s r).A,.s (.d (.lit (.bool true)))]):=by
 rcases hr with h|h
 ·have c:=pl_input hs hq h;have e:frm s r=frmI s r:=by rw[frm,if_pos h.1]
  rw[e];obtain⟨rk,ri,rl,rh⟩:=r;have h1:=h.1;simp only at h1;show LV Tryz.prog _ [.agg s.A,.agg [.d (.lit (.int .i64 rk)),.d (.lit (.int .i64 ri)),.d (.lit (.int .i64 rl)),.d (.lit (.int .i64 rh))]] _;rcases h1 with rfl|rfl
  all_goals refine LX_run (m:=0) (n0:=0) mix Tryz.func129 rfl rfl rfl rfl ?_
            conv=>whnf
  all_goals refine .c (lx_quvalid hs.q) ?_
            conv=>whnf
  all_goals refine .c (c) ?_
            conv=>whnf
  all_goals refine .mk (by kernel_rfl) ?_
            conv=>whnf
  all_goals exact .q ⟨rfl,rfl⟩
 ·have i0:=h.i0;have i1:=h.i1;have hp:=atF_some (l:=s.q.g.us) i0 i1;have c:=pl_unit hs h (j:=r.i.toNat) (by omega) hp ((hq.g.us _ _ hp).up (lR_ _) (by omega)) hl hu hB;have hk:=h.nk;have e:frm s r=frmW (s.q.g.n+r.i.toNat:Nat) (atF s.q.g.us r.i) (lmV s r.l r.i false) (lmV s r.h r.i true) r.k:=by rw[frm,if_neg (by omega)]
  rw[←e]at c;have hk':r.k=5∨r.k=6∨r.k=7∨r.k=8∨r.k=9∨r.k=10∨r.k=11∨r.k=12∨r.k=13:=by omega
  obtain⟨rk,ri,rl,rh⟩:=r;simp only at hk';show LV Tryz.prog _ [.agg s.A,.agg [.d (.lit (.int .i64 rk)),.d (.lit (.int .i64 ri)),.d (.lit (.int .i64 rl)),.d (.lit (.int .i64 rh))]] _;rcases hk' with rfl|rfl|rfl|rfl|rfl|rfl|rfl|rfl|rfl
  all_goals refine LX_run (m:=0) (n0:=0) mix Tryz.func129 rfl rfl rfl rfl ?_
            conv=>whnf
  all_goals refine .c (lx_quvalid hs.q) ?_
            conv=>whnf
  all_goals refine .c (c) ?_
            conv=>whnf
  all_goals refine .mk (by kernel_rfl) ?_
            conv=>whnf
  all_goals exact .q ⟨rfl,rfl⟩
end Go.Proofs.YtcnebhohjghngaaGreatDoor.Lf
