/- Texts Cb Cc Cd Ce Ea LfR LgD LgA LgB LgC LgE LgF LgG LgH LgK LgL LgM LgN of this proof, in this order. -/
import Derived.Test.YtbegidaaiajffaaGreatDoorU04
import Derived.ProofKit
import Derived.OpenShut
import Derived.ShutString
import Derived.ChangeOld
import Derived.Lib.SmallJoins
import Derived.Test.YtbegidaaiajffaaGreatDoorU02
import Derived.KernelRfl
import Derived.Maps.Views
set_option linter.unusedVariables false
set_option linter.unusedSimpArgs false
set_option maxRecDepth 100000
set_option maxHeartbeats 4000000
namespace Go.Proofs.YtbegidaaiajffaaGreatDoor
open Go.RowKit Nt
theorem CL.mag {z:Int}{L:Nat}{n:Bool}{s:Value}{w:World}(h:CL z L w (.agg #[.bool n,s])):Can z.natAbs L w s:=by
 obtain⟨⟨s',he,h2⟩,h3⟩:=h;injection he with he;injection he with he;injection he with e1 he;injection he with e2 _;subst e2;exact⟨h2,h3⟩
def cmpQ (a b:Rat):Int:=(a-b).num.sign
theorem sign_mkRat {z:Int}{d:Nat}(hd:0<d):(mkRat z d).num.sign=z.sign:=by
 have h:=mkRat_lt (z:=z) hd;have h2:=Rat.mkRat_eq_zero (n:=z) (Nat.ne_of_gt hd);rcases Int.lt_trichotomy z 0 with h3|h3|h3
 ·rw[Int.sign_eq_neg_one_of_neg h3,Int.sign_eq_neg_one_of_neg];have:=h.2 h3;rw[←Rat.not_le,←Rat.num_nonneg]at this;omega
 ·rw[h3];simp
 ·rw[Int.sign_eq_one_of_pos h3,Int.sign_eq_one_of_pos];have h4:¬mkRat z d<0:=by rw[h];omega
  have h5:¬mkRat z d=0:=by rw[h2];omega
  rw[←Rat.num_eq_zero]at h5;rw[Rat.not_lt,←Rat.num_nonneg]at h4;omega
theorem cmpQ_rv (ba bb:Bool)(na da nb db:Nat):cmpQ (rv ba na da) (rv bb nb db)=(iv ba na*(un db:Nat)-iv bb nb*(un da:Nat)).sign:=by
 unfold cmpQ rv;rw[Rat.sub_eq_add_neg,Rat.neg_mkRat,Rat.mkRat_add_mkRat _ _ (un_ne _) (un_ne _),sign_mkRat (Nat.mul_pos (un_pos _) (un_pos _)),Int.neg_mul,←Int.sub_eq_add_neg]
theorem sgn_mul_un (z:Int)(d:Nat):(z*(un d:Nat)).sign=z.sign:=by
 have:=un_pos d;rw[Int.sign_mul,Int.sign_eq_one_of_pos (a:=((un d:Nat):Int)) (by omega),Int.mul_one]
theorem cross_lt {x y:Int}{c d:Nat}(h:x.sign<y.sign):(x*(un c:Nat)-y*(un d:Nat)).sign= -1:=sub_sign_lt (by rw[sgn_mul_un,sgn_mul_un];exact h)
theorem cross_gt {x y:Int}{c d:Nat}(h:y.sign<x.sign):(x*(un c:Nat)-y*(un d:Nat)).sign=1:=sub_sign_gt (by rw[sgn_mul_un,sgn_mul_un];exact h)
theorem CL.iv {z:Int}{L:Nat}{w:World}{b:Bool}{s:Value}(h:CL z L w (.agg #[.bool b,s])):Go.Proofs.YtbegidaaiajffaaGreatDoor.iv b z.natAbs=z:=by
 obtain⟨⟨s',he,h2⟩,h3⟩:=h;injection he with he;injection he with he;injection he with e1 he;injection e1 with e1;subst e1;unfold Go.Proofs.YtbegidaaiajffaaGreatDoor.iv
 by_cases hz:z<0<;>simp[hz]<;>omega
theorem add_parts {ba bb bs:Bool}{na da nb db:Nat}(h:iv bs (iv ba na*(un db:Nat)+iv bb nb*(un da:Nat)).natAbs=iv ba na*(un db:Nat)+iv bb nb*(un da:Nat)):
  mkRat (iv bs (iv ba na*(un db:Nat)+iv bb nb*(un da:Nat)).natAbs) (un da*un db)=rv ba na da+rv bb nb db:=by
 rw[h];unfold rv;rw[Rat.mkRat_add_mkRat _ _ (un_ne _) (un_ne _)]
theorem mul_parts (ba bb:Bool)(na da nb db:Nat):mkRat (iv (!ba==bb) (na*nb)) (un da*un db)=rv ba na da*rv bb nb db:=by
 rw[iv_mul];unfold rv;rw[Rat.mkRat_mul_mkRat]
theorem div_parts (ba bb:Bool)(na da nb db:Nat)(h:0<nb):mkRat (iv (!ba==bb) (na*un db)) (un da*nb)=rv ba na da/rv bb nb db:=by
 have e:rv bb nb db*mkRat (iv (!ba==bb) (na*un db)) (un da*nb)=rv ba na da:=by
  unfold rv;rw[Rat.mkRat_mul_mkRat];have e1:iv bb nb*iv (!ba==bb) (na*un db)=iv ba na*((un db*nb:Nat):Int):=by
   cases ba<;>cases bb<;>simp[iv,Int.natCast_mul,Int.neg_mul,Int.mul_neg]<;>ac_rfl
  rw[e1,show un db*(un da*nb)=un da*(un db*nb) by ac_rfl];exact Rat.mkRat_mul_right (Nat.ne_of_gt (Nat.mul_pos (un_pos _) h))
 have h0:rv bb nb db≠0:=by
  unfold rv;rw[Ne,Rat.mkRat_eq_zero (un_ne _)]
  cases bb<;>simp[iv]<;>omega
 rw[←e,Rat.mul_comm,Rat.mul_div_cancel h0]
theorem cmpQ_ge {a b:Rat}:0≤cmpQ a b↔b≤a:=by
 unfold cmpQ;rw[Rat.le_iff_sub_nonneg,←Rat.num_nonneg];rcases Int.lt_trichotomy (a-b).num 0 with h|h|h
 ·rw[Int.sign_eq_neg_one_of_neg h];omega
 ·rw[h];simp
 ·rw[Int.sign_eq_one_of_pos h];omega
theorem cross_p {L M:Nat}{ba:Bool}{na da:Nat}{sa ta:Value}{bb:Bool}{nb db:Nat}{sb tb:Value}{w:World}(hna:Is na L w sa)(hda:Is da L w ta)(hnb:Is nb M w sb)(hdb:Is db M w tb)(hL:L≤100000000)(hM:M≤100000000):
  Calls Tryz.prog 130 #[.agg #[.bool ba,sa,ta],.agg #[.bool bb,sb,tb]] w (Ret w (CL2 (iv ba na*(un db:Nat)) (iv bb nb*(un da:Nat)) (L+max M 1) (M+max L 1))):=by
 have Hna:=lH hna;have Hda:=lH hda;have Hnb:=lH hnb;have Hdb:=lH hdb;clear hna hda hnb hdb
 go_enter Tryz.func130,Tryz.ntmps130
 have HB:=lH (bR_ w.heap.size w)
 go_wp2_with fail
 obtain⟨W1,hW⟩:∃W1,W1=(World.alloc (World.alloc (World.alloc (World.alloc w (.cells #[.bool ba,sa,ta] 56)) (.cells #[.bool bb,sb,tb] 56)) (.cells #[.bool false,.slice none 0 0] 96)) (.cells #[.bool false,.slice none 0 0] 96)):=⟨_,rfl⟩;rw[←hW];obtain⟨xa0,xb0,xc0,xd0,hk,hb⟩:=boxes_4 _ _ _ _ _ _ _ _ _ hW;clear hW;have Hna:=lH (iK Hna.out hk);have Hda:=lH (iK Hda.out hk);have Hnb:=lH (iK Hnb.out hk);have Hdb:=lH (iK Hdb.out hk);have Ga0:=lH (show w.heap.size≤w.heap.size from tL_ HB.out.size (by omega));have Gb0:=lH (show w.heap.size≤w.heap.size+1 from tL_ HB.out.size (by omega));have Gc0:=lH (show w.heap.size≤w.heap.size+1+1 from tL_ HB.out.size (by omega));have Gd0:=lH (show w.heap.size≤w.heap.size+1+1+1 from tL_ HB.out.size (by omega));have Xa0:=lH xa0;have Xb0:=lH xb0;have Xc0:=lH xc0;have Xd0:=lH xd0;have HB:=lH (bC HB.out hb);clear hk hb xa0 xb0 xc0 xd0;have Hna:=lH (iK Hna.out (Keep.drew W1));have Hda:=lH (iK Hda.out (Keep.drew W1));have Hnb:=lH (iK Hnb.out (Keep.drew W1));have Hdb:=lH (iK Hdb.out (Keep.drew W1));have Xa0:=lH (Box.drew Xa0.out);have Xb0:=lH (Box.drew Xb0.out);have Xc0:=lH (Box.drew Xc0.out);have Xd0:=lH (Box.drew Xd0.out);have HB:=lH (Below.drew HB.out);refine wp_region_float [] [] (by kernel_rfl) (by kernel_rfl) 22 (by kernel_rfl) Flok.nil ?_;intro ok;have Hok:=lH ok;clear ok;have HG:=lH (bR_ (W1.drew).heap.size (W1.drew));refine good_pureX 0 (some 8) (Go.Op.load 56 (Go.Operand.tmp 2)) (none) (.agg #[.bool ba,sa,ta]) (by kernel_rfl) (by kernel_rfl) (by kernel_rfl) (fun _ _ _ h=>h) (fun w' hw'=> ?_) ?_
 ·obtain⟨ca00,ca01,ca02,fa00,fa01,fa02⟩:=(Box.se hw' Xa0.out notin0).c3
  first|(go_simp;done)|(go_simp;simp_all;done)|(go_simp;rfl)
 simp only[Act.put,sI,sZ,sS];refine good_pureX 2 (some 10) (Go.Op.load 56 (Go.Operand.tmp 3)) (none) (.agg #[.bool bb,sb,tb]) (by kernel_rfl) (by kernel_rfl) (by kernel_rfl) (fun _ _ _ h=>h) (fun w' hw'=> ?_) ?_
 ·obtain⟨cb00,cb01,cb02,fb00,fb01,fb02⟩:=(Box.se hw' Xb0.out notin0).c3
  first|(go_simp;done)|(go_simp;simp_all;done)|(go_simp;rfl)
 simp only[Act.put,sI,sZ,sS];refine good_callX 1 129 (some 9) #[Go.Operand.tmp 8] #[56] (none) #[.agg #[.bool ba,sa,ta]] (by kernel_rfl) Hok.out (by kernel_rfl) (by kernel_rfl) (by kernel_rfl) (by kernel_rfl) rfl rfl rfl (by kernel_rfl) (fun w2 hb=> ?_);have HG:=lH (bC HG.out hb);clear hb
 (first|(have hcall:=under_is (b:=ba) (iK Hda.out (kC HG.out)) (by omega);refine cM hcall ?_;clear hcall)|refine cM (under_is (b:=ba) (iK Hda.out (kC HG.out)) (by omega)) ?_)
 rintro e w3 ⟨v3,rfl,hp,hb⟩;obtain⟨p_a,p_n,p_c,rfl⟩:=hp.lit;refine⟨_,rfl,?_,hb⟩;have HG:=lH (bC HG.out hb);have Hp:=lH hp;clear hb hp;simp only[Act.put,sI,sZ,sS];refine good_callX 3 129 (some 11) #[Go.Operand.tmp 10] #[56] (none) #[.agg #[.bool bb,sb,tb]] (by kernel_rfl) Hok.out (by kernel_rfl) (by kernel_rfl) (by kernel_rfl) (by kernel_rfl) rfl rfl rfl (by kernel_rfl) (fun w4 hb=> ?_);have Hp:=lH (iK Hp.out (kC hb));have HG:=lH (bC HG.out hb);clear hb
 (first|(have hcall:=under_is (b:=bb) (iK Hdb.out (kC HG.out)) (by omega);refine cM hcall ?_;clear hcall)|refine cM (under_is (b:=bb) (iK Hdb.out (kC HG.out)) (by omega)) ?_)
 rintro e w5 ⟨v5,rfl,hq,hb⟩;obtain⟨q_a,q_n,q_c,rfl⟩:=hq.lit;refine⟨_,rfl,?_,hb⟩;have Hp:=lH (iK Hp.out (kC hb));have HG:=lH (bC HG.out hb);have Hq:=lH hq;clear hb hq;simp only[Act.put,sI,sZ,sS];refine good_pureX 4 (some 6) (Go.Op.assign (Go.Operand.tmp 9)) (none) (.slice p_a p_n p_c) (by kernel_rfl) (by kernel_rfl) (by kernel_rfl) (fun _ _ _ h=>h) (fun w' hw'=> ?_) ?_
 ·first|(go_simp;done)|(go_simp;simp_all;done)|(go_simp;rfl)
 simp only[Act.put,sI,sZ,sS];refine good_pureX 5 (some 7) (Go.Op.assign (Go.Operand.tmp 11)) (none) (.slice q_a q_n q_c) (by kernel_rfl) (by kernel_rfl) (by kernel_rfl) (fun _ _ _ h=>h) (fun w' hw'=> ?_) ?_
 ·first|(go_simp;done)|(go_simp;simp_all;done)|(go_simp;rfl)
 simp only[Act.put,sI,sZ,sS];refine good_end0 0 (by kernel_rfl) (fun _ w6 hb=> ?_);have Hp:=lH (iK Hp.out (kC hb));have Hq:=lH (iK Hq.out (kC hb));have HG:=lH (bC HG.out hb);clear hb;have Hna:=lH (iK Hna.out (kC HG.out));have Hnb:=lH (iK Hnb.out (kC HG.out));have Xa0:=lH (xP HG.out Xa0.out);have Xb0:=lH (xP HG.out Xb0.out);have Xc0:=lH (xP HG.out Xc0.out);have Xd0:=lH (xP HG.out Xd0.out);have HB:=lH (bC HB.out HG.out);have HS:=lH (SE.of (E:=[]) HG.out);refine wpAnyH_done (by kernel_rfl) ?_ _;clear HG HS Hok;obtain⟨ca00,ca01,ca02,fa00,fa01,fa02⟩:=Xa0.out.c3;have la0:=Xa0.out.lt;obtain⟨cb00,cb01,cb02,fb00,fb01,fb02⟩:=Xb0.out.c3;have lb0:=Xb0.out.lt;obtain⟨cc00,cc01,fc00,fc01⟩:=Xc0.out.c2;have lc0:=Xc0.out.lt;obtain⟨cd00,cd01,fd00,fd01⟩:=Xd0.out.c2;have ld0:=Xd0.out.lt
 go_wp2_with fail
 clear ca00 ca01 ca02 fa00 fa01 fa02 la0 cb00 cb01 cb02 fb00 fb01 fb02 lb0 cc00 cc01 fc00 fc01 lc0 cd00 cd01 fd00 fd01 ld0;have Hna:=lH (iK Hna.out (Keep.drew w6));have Hnb:=lH (iK Hnb.out (Keep.drew w6));have Hp:=lH (iK Hp.out (Keep.drew w6));have Hq:=lH (iK Hq.out (Keep.drew w6));have Xa0:=lH (Box.drew Xa0.out);have Xb0:=lH (Box.drew Xb0.out);have Xc0:=lH (Box.drew Xc0.out);have Xd0:=lH (Box.drew Xd0.out);have HB:=lH (Below.drew HB.out);refine wp_region_float [w.heap.size+1+1,w.heap.size+1+1+1] [] (by kernel_rfl) (by kernel_rfl) 22 (by kernel_rfl) Flok.nil ?_;intro ok;have Hok:=lH ok;clear ok;have HG:=lH (bR_ (w6.drew).heap.size (w6.drew));refine good_pureX 0 (some 12) (Go.Op.load 56 (Go.Operand.tmp 2)) (none) (.agg #[.bool ba,sa,ta]) (by kernel_rfl) (by kernel_rfl) (by kernel_rfl) (fun _ _ _ h=>h) (fun w' hw'=> ?_) ?_
 ·obtain⟨ca00,ca01,ca02,fa00,fa01,fa02⟩:=(Box.se hw' Xa0.out (notin2 (by omega) (by omega))).c3
  first|(go_simp;done)|(go_simp;simp_all;done)|(go_simp;rfl)
 simp only[Act.put,sI,sZ,sS];refine good_pureX 2 (some 14) (Go.Op.move (Go.Operand.tmp 7)) (none) (.slice q_a q_n q_c) (by kernel_rfl) (by kernel_rfl) (by kernel_rfl) (fun _ _ _ h=>h) (fun w' hw'=> ?_) ?_
 ·first|(go_simp;done)|(go_simp;simp_all;done)|(go_simp;rfl)
 simp only[Act.put,sI,sZ,sS];refine good_pureX 3 (some 15) (Go.Op.build 96 #[(1,Go.Operand.tmp 14)]) (none) (.agg #[.bool false,.slice q_a q_n q_c]) (by kernel_rfl) (by kernel_rfl) (by kernel_rfl) (fun _ _ _ h=>h) (fun w' hw'=> ?_) ?_
 ·first|(go_simp;done)|(go_simp;simp_all;done)|(go_simp;rfl)
 simp only[Act.put,sI,sZ,sS];refine good_pureX 5 (some 17) (Go.Op.load 56 (Go.Operand.tmp 3)) (none) (.agg #[.bool bb,sb,tb]) (by kernel_rfl) (by kernel_rfl) (by kernel_rfl) (fun _ _ _ h=>h) (fun w' hw'=> ?_) ?_
 ·obtain⟨cb00,cb01,cb02,fb00,fb01,fb02⟩:=(Box.se hw' Xb0.out (notin2 (by omega) (by omega))).c3
  first|(go_simp;done)|(go_simp;simp_all;done)|(go_simp;rfl)
 simp only[Act.put,sI,sZ,sS];refine good_pureX 7 (some 19) (Go.Op.move (Go.Operand.tmp 6)) (none) (.slice p_a p_n p_c) (by kernel_rfl) (by kernel_rfl) (by kernel_rfl) (fun _ _ _ h=>h) (fun w' hw'=> ?_) ?_
 ·first|(go_simp;done)|(go_simp;simp_all;done)|(go_simp;rfl)
 simp only[Act.put,sI,sZ,sS];refine good_pureX 8 (some 20) (Go.Op.build 96 #[(1,Go.Operand.tmp 19)]) (none) (.agg #[.bool false,.slice p_a p_n p_c]) (by kernel_rfl) (by kernel_rfl) (by kernel_rfl) (fun _ _ _ h=>h) (fun w' hw'=> ?_) ?_
 ·first|(go_simp;done)|(go_simp;simp_all;done)|(go_simp;rfl)
 simp only[Act.put,sI,sZ,sS];refine good_callX 1 80 (some 13) #[Go.Operand.tmp 12] #[56] (none) #[.agg #[.bool ba,sa,ta]] (by kernel_rfl) Hok.out (by kernel_rfl) (by kernel_rfl) (by kernel_rfl) (by kernel_rfl) rfl rfl rfl (by kernel_rfl) (fun w7 hb=> ?_);have HG:=lH (bC HG.out hb);clear hb
 (first|(have hcall:=signed_is (neg:=ba) (iK Hna.out (kC HG.out));refine cM hcall ?_;clear hcall)|refine cM (signed_is (neg:=ba) (iK Hna.out (kC HG.out))) ?_)
 rintro e w8 ⟨v8,rfl,hx,hb⟩;obtain⟨x_b,x_a,x_n,x_c,rfl⟩:=hx.litb;refine⟨_,rfl,?_,hb⟩;have HG:=lH (bC HG.out hb);have Hx:=lH hx;clear hb hx;simp only[Act.put,sI,sZ,sS];refine good_callX 4 183 (some 16) #[Go.Operand.tmp 13,Go.Operand.tmp 15] #[96,96] (none) #[.agg #[.bool x_b,.slice x_a x_n x_c],.agg #[.bool false,.slice q_a q_n q_c]] (by kernel_rfl) Hok.out (by kernel_rfl) (by kernel_rfl) (by kernel_rfl) (by kernel_rfl) rfl rfl rfl (by kernel_rfl) (fun w9 hb=> ?_);have Hx:=lH (CL.keep Hx.out (kC hb));have HG:=lH (bC HG.out hb);clear hb
 (first|(have hcall:=imul_ai Hx.out.ai (AI.mk (n:=false) (iK Hq.out (kC HG.out))) (by omega) (by omega);refine cM hcall ?_;clear hcall)|refine cM (imul_ai Hx.out.ai (AI.mk (n:=false) (iK Hq.out (kC HG.out))) (by omega) (by omega)) ?_)
 rintro e w10 ⟨v10,rfl,hm,hb⟩;obtain⟨m_b,m_a,m_n,m_c,rfl⟩:=hm.litb;refine⟨_,rfl,?_,hb⟩;have HG:=lH (bC HG.out hb);have Hm:=lH hm;clear hb hm;simp only[Act.put,sI,sZ,sS];refine good_callX 6 80 (some 18) #[Go.Operand.tmp 17] #[56] (none) #[.agg #[.bool bb,sb,tb]] (by kernel_rfl) Hok.out (by kernel_rfl) (by kernel_rfl) (by kernel_rfl) (by kernel_rfl) rfl rfl rfl (by kernel_rfl) (fun w11 hb=> ?_);have Hm:=lH (CL.keep Hm.out (kC hb));have HG:=lH (bC HG.out hb);clear hb
 (first|(have hcall:=signed_is (neg:=bb) (iK Hnb.out (kC HG.out));refine cM hcall ?_;clear hcall)|refine cM (signed_is (neg:=bb) (iK Hnb.out (kC HG.out))) ?_)
 rintro e w12 ⟨v12,rfl,hv,hb⟩;obtain⟨v_b,v_a,v_n,v_c,rfl⟩:=hv.litb;refine⟨_,rfl,?_,hb⟩;have Hm:=lH (CL.keep Hm.out (kC hb));have HG:=lH (bC HG.out hb);have Hv:=lH hv;clear hb hv;simp only[Act.put,sI,sZ,sS];refine good_callX 9 183 (some 21) #[Go.Operand.tmp 18,Go.Operand.tmp 20] #[96,96] (none) #[.agg #[.bool v_b,.slice v_a v_n v_c],.agg #[.bool false,.slice p_a p_n p_c]] (by kernel_rfl) Hok.out (by kernel_rfl) (by kernel_rfl) (by kernel_rfl) (by kernel_rfl) rfl rfl rfl (by kernel_rfl) (fun w13 hb=> ?_);have Hm:=lH (CL.keep Hm.out (kC hb));have Hv:=lH (CL.keep Hv.out (kC hb));have HG:=lH (bC HG.out hb);clear hb
 (first|(have hcall:=imul_ai Hv.out.ai (AI.mk (n:=false) (iK Hp.out (kC HG.out))) (by omega) (by omega);refine cM hcall ?_;clear hcall)|refine cM (imul_ai Hv.out.ai (AI.mk (n:=false) (iK Hp.out (kC HG.out))) (by omega) (by omega)) ?_)
 rintro e w14 ⟨v14,rfl,hn,hb⟩;obtain⟨n_b,n_a,n_n,n_c,rfl⟩:=hn.litb;refine⟨_,rfl,?_,hb⟩;have Hm:=lH (CL.keep Hm.out (kC hb));have HG:=lH (bC HG.out hb);have Hn:=lH hn;clear hb hn;simp only[Act.put,sI,sZ,sS];refine good_end0 2 (by kernel_rfl) (fun _ w15 hb=> ?_);have Hm:=lH (CL.keep Hm.out (kC hb));have Hn:=lH (CL.keep Hn.out (kC hb));have HG:=lH (bC HG.out hb);clear hb;have Xa0:=lH (xP HG.out Xa0.out);have Xb0:=lH (xP HG.out Xb0.out);have Xc0:=lH (xP HG.out Xc0.out);have Xd0:=lH (xP HG.out Xd0.out);have HB:=lH (bC HB.out HG.out);have HS:=lH (SE.of (E:=[w.heap.size+1+1,w.heap.size+1+1+1]) HG.out);refine held_oneX 10 (Go.Op.store 96 (Go.Operand.tmp 4) (Go.Operand.tmp 16)) (none) (World.setCell (World.setCell w15 ⟨w.heap.size+1+1,0,none⟩ (.bool m_b)) ⟨w.heap.size+1+1,1,none⟩ (.slice m_a m_n m_c)) (by kernel_rfl) (by kernel_rfl) (by kernel_rfl) (by kernel_rfl) ?_ (HS.out.store2 in21) ?_
 ·obtain⟨cc00,cc01,fc00,fc01⟩:=Xc0.out.c2
  first|(go_simp;done)|(go_simp;simp_all;done)|(go_simp;rfl)
 obtain⟨W16,hW⟩:∃W16,W16=(World.setCell (World.setCell w15 ⟨w.heap.size+1+1,0,none⟩ (.bool m_b)) ⟨w.heap.size+1+1,1,none⟩ (.slice m_a m_n m_c)):=⟨_,rfl⟩;rw[←hW];obtain⟨xc0,hk,hf,hbb,hz⟩:=stored2s hW Xc0.out (by first|exact nB_ _|exact nS_ _ _ _) (by first|exact nB_ _|exact nS_ _ _ _);have Hm:=lH (CL.keep Hm.out hk);have Hn:=lH (CL.keep Hn.out hk);have Xa0:=lH (hf _ _ _ Xa0.out (by omega));have Xb0:=lH (hf _ _ _ Xb0.out (by omega));have Xc0:=lH xc0;have Xd0:=lH (hf _ _ _ Xd0.out (by omega));have HB:=lH (hbb _ HB.out Gc0.out);have HS:=lH (show SE (w6.drew) [w.heap.size+1+1,w.heap.size+1+1+1] W16 from by rw[hW];exact HS.out.store2 in21);clear hW hk hf hbb xc0;clear hz;refine held_oneX 11 (Go.Op.store 96 (Go.Operand.tmp 5) (Go.Operand.tmp 21)) (none) (World.setCell (World.setCell W16 ⟨w.heap.size+1+1+1,0,none⟩ (.bool n_b)) ⟨w.heap.size+1+1+1,1,none⟩ (.slice n_a n_n n_c)) (by kernel_rfl) (by kernel_rfl) (by kernel_rfl) (by kernel_rfl) ?_ (HS.out.store2 in22) ?_
 ·obtain⟨cd00,cd01,fd00,fd01⟩:=Xd0.out.c2
  first|(go_simp;done)|(go_simp;simp_all;done)|(go_simp;rfl)
 obtain⟨W17,hW⟩:∃W17,W17=(World.setCell (World.setCell W16 ⟨w.heap.size+1+1+1,0,none⟩ (.bool n_b)) ⟨w.heap.size+1+1+1,1,none⟩ (.slice n_a n_n n_c)):=⟨_,rfl⟩;rw[←hW];obtain⟨xd0,hk,hf,hbb,hz⟩:=stored2s hW Xd0.out (by first|exact nB_ _|exact nS_ _ _ _) (by first|exact nB_ _|exact nS_ _ _ _);have Hm:=lH (CL.keep Hm.out hk);have Hn:=lH (CL.keep Hn.out hk);have Xa0:=lH (hf _ _ _ Xa0.out (by omega));have Xb0:=lH (hf _ _ _ Xb0.out (by omega));have Xc0:=lH (hf _ _ _ Xc0.out (by omega));have Xd0:=lH xd0;have HB:=lH (hbb _ HB.out Gd0.out);have HS:=lH (show SE (w6.drew) [w.heap.size+1+1,w.heap.size+1+1+1] W17 from by rw[hW];exact HS.out.store2 in22);clear hW hk hf hbb xd0;clear hz;refine wpAnyH_done (by kernel_rfl) ?_ _;clear HG HS Hok;obtain⟨ca00,ca01,ca02,fa00,fa01,fa02⟩:=Xa0.out.c3;have la0:=Xa0.out.lt;obtain⟨cb00,cb01,cb02,fb00,fb01,fb02⟩:=Xb0.out.c3;have lb0:=Xb0.out.lt;obtain⟨cc00,cc01,fc00,fc01⟩:=Xc0.out.c2;have lc0:=Xc0.out.lt;obtain⟨cd00,cd01,fd00,fd01⟩:=Xd0.out.c2;have ld0:=Xd0.out.lt;go_wp2;clear ca00 ca01 ca02 fa00 fa01 fa02 la0 cb00 cb01 cb02 fb00 fb01 fb02 lb0 cc00 cc01 fc00 fc01 lc0 cd00 cd01 fd00 fd01 ld0;exact ret_ii rfl rfl rfl rfl Xc0.out Xd0.out ⟨_,_,rfl,Hm.out,Hn.out⟩ HB.out
theorem rcmp_lt {L M:Nat}{ba:Bool}{na da:Nat}{sa ta:Value}{bb:Bool}{nb db:Nat}{sb tb:Value}{w:World}(s t:Int)(hs:(iv ba na).sign=s)(ht:(iv bb nb).sign=t)(d1:(s !=t)=true)(d2:decide (s<t)=true)(hna:Is na L w sa)(hda:Is da L w ta)(hnb:Is nb M w sb)(hdb:Is db M w tb)(hL:L≤100000000)(hM:M≤100000000):
  Calls Tryz.prog 119 #[.agg #[.bool ba,sa,ta],.agg #[.bool bb,sb,tb]] w (Ret w (Val (.int .i64 (-1)))):=by
 have Hna:=lH hna;have Hda:=lH hda;have Hnb:=lH hnb;have Hdb:=lH hdb;have Hs:=lH hs;have Ht:=lH ht;clear hna hda hnb hdb hs ht
 go_enter Tryz.func119,Tryz.ntmps119
 have HB:=lH (bR_ w.heap.size w)
 go_wp2_with fail
 obtain⟨W1,hW⟩:∃W1,W1=(World.alloc (World.alloc w (.cells #[.bool ba,sa,ta] 56)) (.cells #[.bool bb,sb,tb] 56)):=⟨_,rfl⟩;rw[←hW];obtain⟨xa0,xb0,hk,hb⟩:=boxes_2 _ _ _ _ _ hW;clear hW;have Hna:=lH (iK Hna.out hk);have Hda:=lH (iK Hda.out hk);have Hnb:=lH (iK Hnb.out hk);have Hdb:=lH (iK Hdb.out hk);have Ga0:=lH (show w.heap.size≤w.heap.size from tL_ HB.out.size (by omega));have Gb0:=lH (show w.heap.size≤w.heap.size+1 from tL_ HB.out.size (by omega));have Xa0:=lH xa0;have Xb0:=lH xb0;have HB:=lH (bC HB.out hb);clear hk hb xa0 xb0;have Hna:=lH (iK Hna.out (Keep.drew W1));have Hda:=lH (iK Hda.out (Keep.drew W1));have Hnb:=lH (iK Hnb.out (Keep.drew W1));have Hdb:=lH (iK Hdb.out (Keep.drew W1));have Xa0:=lH (Box.drew Xa0.out);have Xb0:=lH (Box.drew Xb0.out);have HB:=lH (Below.drew HB.out);refine wp_region_float [] [] (by kernel_rfl) (by kernel_rfl) 28 (by kernel_rfl) Flok.nil ?_;intro ok;have Hok:=lH ok;clear ok;have HG:=lH (bR_ (W1.drew).heap.size (W1.drew));refine good_pureX 0 (some 9) (Go.Op.load 56 (Go.Operand.tmp 2)) (none) (.agg #[.bool ba,sa,ta]) (by kernel_rfl) (by kernel_rfl) (by kernel_rfl) (fun _ _ _ h=>h) (fun w' hw'=> ?_) ?_
 ·obtain⟨ca00,ca01,ca02,fa00,fa01,fa02⟩:=(Box.se hw' Xa0.out notin0).c3
  first|(go_simp;done)|(go_simp;simp_all;done)|(go_simp;rfl)
 simp only[Act.put,sI,sZ,sS];refine good_pureX 2 (some 11) (Go.Op.load 56 (Go.Operand.tmp 3)) (none) (.agg #[.bool bb,sb,tb]) (by kernel_rfl) (by kernel_rfl) (by kernel_rfl) (fun _ _ _ h=>h) (fun w' hw'=> ?_) ?_
 ·obtain⟨cb00,cb01,cb02,fb00,fb01,fb02⟩:=(Box.se hw' Xb0.out notin0).c3
  first|(go_simp;done)|(go_simp;simp_all;done)|(go_simp;rfl)
 simp only[Act.put,sI,sZ,sS];refine good_callX 1 42 (some 10) #[Go.Operand.tmp 9] #[56] (none) #[.agg #[.bool ba,sa,ta]] (by kernel_rfl) Hok.out (by kernel_rfl) (by kernel_rfl) (by kernel_rfl) (by kernel_rfl) rfl rfl rfl (by kernel_rfl) (fun w2 hb=> ?_);have HG:=lH (bC HG.out hb);clear hb
 (first|(have hcall:=rsign_p (ba:=ba) s Hs.out (iK Hna.out (kC HG.out)) (iK Hda.out (kC HG.out)) (by omega);refine cM hcall ?_;clear hcall)|refine cM (rsign_p (ba:=ba) s Hs.out (iK Hna.out (kC HG.out)) (iK Hda.out (kC HG.out)) (by omega)) ?_)
 rintro e w3 ⟨v3,rfl,rfl,hb⟩;refine⟨_,rfl,?_,hb⟩;have HG:=lH (bC HG.out hb);clear hb;simp only[Act.put,sI,sZ,sS];refine good_callX 3 42 (some 12) #[Go.Operand.tmp 11] #[56] (none) #[.agg #[.bool bb,sb,tb]] (by kernel_rfl) Hok.out (by kernel_rfl) (by kernel_rfl) (by kernel_rfl) (by kernel_rfl) rfl rfl rfl (by kernel_rfl) (fun w4 hb=> ?_);have HG:=lH (bC HG.out hb);clear hb
 (first|(have hcall:=rsign_p (ba:=bb) t Ht.out (iK Hnb.out (kC HG.out)) (iK Hdb.out (kC HG.out)) (by omega);refine cM hcall ?_;clear hcall)|refine cM (rsign_p (ba:=bb) t Ht.out (iK Hnb.out (kC HG.out)) (iK Hdb.out (kC HG.out)) (by omega)) ?_)
 rintro e w5 ⟨v5,rfl,rfl,hb⟩;refine⟨_,rfl,?_,hb⟩;have HG:=lH (bC HG.out hb);clear hb;simp only[Act.put,sI,sZ,sS];refine good_pureX 4 (some 5) (Go.Op.assign (Go.Operand.tmp 10)) (none) (.int .i64 s) (by kernel_rfl) (by kernel_rfl) (by kernel_rfl) (fun _ _ _ h=>h) (fun w' hw'=> ?_) ?_
 ·first|(go_simp;done)|(go_simp;simp_all;done)|(go_simp;rfl)
 simp only[Act.put,sI,sZ,sS];refine good_pureX 5 (some 6) (Go.Op.assign (Go.Operand.tmp 12)) (none) (.int .i64 t) (by kernel_rfl) (by kernel_rfl) (by kernel_rfl) (fun _ _ _ h=>h) (fun w' hw'=> ?_) ?_
 ·first|(go_simp;done)|(go_simp;simp_all;done)|(go_simp;rfl)
 simp only[Act.put,sI,sZ,sS];refine good_end0 0 (by kernel_rfl) (fun _ w6 hb=> ?_);have HG:=lH (bC HG.out hb);clear hb;have Xa0:=lH (xP HG.out Xa0.out);have Xb0:=lH (xP HG.out Xb0.out);have HB:=lH (bC HB.out HG.out);have HS:=lH (SE.of (E:=[]) HG.out);refine wpAnyH_done (by kernel_rfl) ?_ _;clear HG HS Hok;obtain⟨ca00,ca01,ca02,fa00,fa01,fa02⟩:=Xa0.out.c3;have la0:=Xa0.out.lt;obtain⟨cb00,cb01,cb02,fb00,fb01,fb02⟩:=Xb0.out.c3;have lb0:=Xb0.out.lt;go_wp2;clear ca00 ca01 ca02 fa00 fa01 fa02 la0 cb00 cb01 cb02 fb00 fb01 fb02 lb0
 go_ret
 exact⟨_,rfl,rfl,HB.out⟩
theorem rcmp_gt {L M:Nat}{ba:Bool}{na da:Nat}{sa ta:Value}{bb:Bool}{nb db:Nat}{sb tb:Value}{w:World}(s t:Int)(hs:(iv ba na).sign=s)(ht:(iv bb nb).sign=t)(d1:(s !=t)=true)(d2:decide (s<t)=false)(hna:Is na L w sa)(hda:Is da L w ta)(hnb:Is nb M w sb)(hdb:Is db M w tb)(hL:L≤100000000)(hM:M≤100000000):
  Calls Tryz.prog 119 #[.agg #[.bool ba,sa,ta],.agg #[.bool bb,sb,tb]] w (Ret w (Val (.int .i64 1))):=by
 have Hna:=lH hna;have Hda:=lH hda;have Hnb:=lH hnb;have Hdb:=lH hdb;have Hs:=lH hs;have Ht:=lH ht;clear hna hda hnb hdb hs ht
 go_enter Tryz.func119,Tryz.ntmps119
 have HB:=lH (bR_ w.heap.size w)
 go_wp2_with fail
 obtain⟨W1,hW⟩:∃W1,W1=(World.alloc (World.alloc w (.cells #[.bool ba,sa,ta] 56)) (.cells #[.bool bb,sb,tb] 56)):=⟨_,rfl⟩;rw[←hW];obtain⟨xa0,xb0,hk,hb⟩:=boxes_2 _ _ _ _ _ hW;clear hW;have Hna:=lH (iK Hna.out hk);have Hda:=lH (iK Hda.out hk);have Hnb:=lH (iK Hnb.out hk);have Hdb:=lH (iK Hdb.out hk);have Ga0:=lH (show w.heap.size≤w.heap.size from tL_ HB.out.size (by omega));have Gb0:=lH (show w.heap.size≤w.heap.size+1 from tL_ HB.out.size (by omega));have Xa0:=lH xa0;have Xb0:=lH xb0;have HB:=lH (bC HB.out hb);clear hk hb xa0 xb0;have Hna:=lH (iK Hna.out (Keep.drew W1));have Hda:=lH (iK Hda.out (Keep.drew W1));have Hnb:=lH (iK Hnb.out (Keep.drew W1));have Hdb:=lH (iK Hdb.out (Keep.drew W1));have Xa0:=lH (Box.drew Xa0.out);have Xb0:=lH (Box.drew Xb0.out);have HB:=lH (Below.drew HB.out);refine wp_region_float [] [] (by kernel_rfl) (by kernel_rfl) 28 (by kernel_rfl) Flok.nil ?_;intro ok;have Hok:=lH ok;clear ok;have HG:=lH (bR_ (W1.drew).heap.size (W1.drew));refine good_pureX 0 (some 9) (Go.Op.load 56 (Go.Operand.tmp 2)) (none) (.agg #[.bool ba,sa,ta]) (by kernel_rfl) (by kernel_rfl) (by kernel_rfl) (fun _ _ _ h=>h) (fun w' hw'=> ?_) ?_
 ·obtain⟨ca00,ca01,ca02,fa00,fa01,fa02⟩:=(Box.se hw' Xa0.out notin0).c3
  first|(go_simp;done)|(go_simp;simp_all;done)|(go_simp;rfl)
 simp only[Act.put,sI,sZ,sS];refine good_pureX 2 (some 11) (Go.Op.load 56 (Go.Operand.tmp 3)) (none) (.agg #[.bool bb,sb,tb]) (by kernel_rfl) (by kernel_rfl) (by kernel_rfl) (fun _ _ _ h=>h) (fun w' hw'=> ?_) ?_
 ·obtain⟨cb00,cb01,cb02,fb00,fb01,fb02⟩:=(Box.se hw' Xb0.out notin0).c3
  first|(go_simp;done)|(go_simp;simp_all;done)|(go_simp;rfl)
 simp only[Act.put,sI,sZ,sS];refine good_callX 1 42 (some 10) #[Go.Operand.tmp 9] #[56] (none) #[.agg #[.bool ba,sa,ta]] (by kernel_rfl) Hok.out (by kernel_rfl) (by kernel_rfl) (by kernel_rfl) (by kernel_rfl) rfl rfl rfl (by kernel_rfl) (fun w2 hb=> ?_);have HG:=lH (bC HG.out hb);clear hb
 (first|(have hcall:=rsign_p (ba:=ba) s Hs.out (iK Hna.out (kC HG.out)) (iK Hda.out (kC HG.out)) (by omega);refine cM hcall ?_;clear hcall)|refine cM (rsign_p (ba:=ba) s Hs.out (iK Hna.out (kC HG.out)) (iK Hda.out (kC HG.out)) (by omega)) ?_)
 rintro e w3 ⟨v3,rfl,rfl,hb⟩;refine⟨_,rfl,?_,hb⟩;have HG:=lH (bC HG.out hb);clear hb;simp only[Act.put,sI,sZ,sS];refine good_callX 3 42 (some 12) #[Go.Operand.tmp 11] #[56] (none) #[.agg #[.bool bb,sb,tb]] (by kernel_rfl) Hok.out (by kernel_rfl) (by kernel_rfl) (by kernel_rfl) (by kernel_rfl) rfl rfl rfl (by kernel_rfl) (fun w4 hb=> ?_);have HG:=lH (bC HG.out hb);clear hb
 (first|(have hcall:=rsign_p (ba:=bb) t Ht.out (iK Hnb.out (kC HG.out)) (iK Hdb.out (kC HG.out)) (by omega);refine cM hcall ?_;clear hcall)|refine cM (rsign_p (ba:=bb) t Ht.out (iK Hnb.out (kC HG.out)) (iK Hdb.out (kC HG.out)) (by omega)) ?_)
 rintro e w5 ⟨v5,rfl,rfl,hb⟩;refine⟨_,rfl,?_,hb⟩;have HG:=lH (bC HG.out hb);clear hb;simp only[Act.put,sI,sZ,sS];refine good_pureX 4 (some 5) (Go.Op.assign (Go.Operand.tmp 10)) (none) (.int .i64 s) (by kernel_rfl) (by kernel_rfl) (by kernel_rfl) (fun _ _ _ h=>h) (fun w' hw'=> ?_) ?_
 ·first|(go_simp;done)|(go_simp;simp_all;done)|(go_simp;rfl)
 simp only[Act.put,sI,sZ,sS];refine good_pureX 5 (some 6) (Go.Op.assign (Go.Operand.tmp 12)) (none) (.int .i64 t) (by kernel_rfl) (by kernel_rfl) (by kernel_rfl) (fun _ _ _ h=>h) (fun w' hw'=> ?_) ?_
 ·first|(go_simp;done)|(go_simp;simp_all;done)|(go_simp;rfl)
 simp only[Act.put,sI,sZ,sS];refine good_end0 0 (by kernel_rfl) (fun _ w6 hb=> ?_);have HG:=lH (bC HG.out hb);clear hb;have Xa0:=lH (xP HG.out Xa0.out);have Xb0:=lH (xP HG.out Xb0.out);have HB:=lH (bC HB.out HG.out);have HS:=lH (SE.of (E:=[]) HG.out);refine wpAnyH_done (by kernel_rfl) ?_ _;clear HG HS Hok;obtain⟨ca00,ca01,ca02,fa00,fa01,fa02⟩:=Xa0.out.c3;have la0:=Xa0.out.lt;obtain⟨cb00,cb01,cb02,fb00,fb01,fb02⟩:=Xb0.out.c3;have lb0:=Xb0.out.lt;go_wp2;clear ca00 ca01 ca02 fa00 fa01 fa02 la0 cb00 cb01 cb02 fb00 fb01 fb02 lb0
 go_ret
 exact⟨_,rfl,rfl,HB.out⟩
theorem rcmp_eq {L M:Nat}{ba:Bool}{na da:Nat}{sa ta:Value}{bb:Bool}{nb db:Nat}{sb tb:Value}{w:World}(s k:Int)(hs:(iv ba na).sign=s)(ht:(iv bb nb).sign=s)(hk:(iv ba na*(un db:Nat)-iv bb nb*(un da:Nat)).sign=k)(hna:Is na L w sa)(hda:Is da L w ta)(hnb:Is nb M w sb)(hdb:Is db M w tb)(hL:L≤100000000)(hM:M≤100000000):
  Calls Tryz.prog 119 #[.agg #[.bool ba,sa,ta],.agg #[.bool bb,sb,tb]] w (Ret w (Val (.int .i64 k))):=by
 have Hna:=lH hna;have Hda:=lH hda;have Hnb:=lH hnb;have Hdb:=lH hdb;have Hs:=lH hs;have Ht:=lH ht;have Hk:=lH hk;clear hna hda hnb hdb hs ht hk
 go_enter Tryz.func119,Tryz.ntmps119
 have HB:=lH (bR_ w.heap.size w)
 go_wp2_with fail
 obtain⟨W1,hW⟩:∃W1,W1=(World.alloc (World.alloc w (.cells #[.bool ba,sa,ta] 56)) (.cells #[.bool bb,sb,tb] 56)):=⟨_,rfl⟩;rw[←hW];obtain⟨xa0,xb0,hk,hb⟩:=boxes_2 _ _ _ _ _ hW;clear hW;have Hna:=lH (iK Hna.out hk);have Hda:=lH (iK Hda.out hk);have Hnb:=lH (iK Hnb.out hk);have Hdb:=lH (iK Hdb.out hk);have Ga0:=lH (show w.heap.size≤w.heap.size from tL_ HB.out.size (by omega));have Gb0:=lH (show w.heap.size≤w.heap.size+1 from tL_ HB.out.size (by omega));have Xa0:=lH xa0;have Xb0:=lH xb0;have HB:=lH (bC HB.out hb);clear hk hb xa0 xb0;have Hna:=lH (iK Hna.out (Keep.drew W1));have Hda:=lH (iK Hda.out (Keep.drew W1));have Hnb:=lH (iK Hnb.out (Keep.drew W1));have Hdb:=lH (iK Hdb.out (Keep.drew W1));have Xa0:=lH (Box.drew Xa0.out);have Xb0:=lH (Box.drew Xb0.out);have HB:=lH (Below.drew HB.out);refine wp_region_float [] [] (by kernel_rfl) (by kernel_rfl) 28 (by kernel_rfl) Flok.nil ?_;intro ok;have Hok:=lH ok;clear ok;have HG:=lH (bR_ (W1.drew).heap.size (W1.drew));refine good_pureX 0 (some 9) (Go.Op.load 56 (Go.Operand.tmp 2)) (none) (.agg #[.bool ba,sa,ta]) (by kernel_rfl) (by kernel_rfl) (by kernel_rfl) (fun _ _ _ h=>h) (fun w' hw'=> ?_) ?_
 ·obtain⟨ca00,ca01,ca02,fa00,fa01,fa02⟩:=(Box.se hw' Xa0.out notin0).c3
  first|(go_simp;done)|(go_simp;simp_all;done)|(go_simp;rfl)
 simp only[Act.put,sI,sZ,sS];refine good_pureX 2 (some 11) (Go.Op.load 56 (Go.Operand.tmp 3)) (none) (.agg #[.bool bb,sb,tb]) (by kernel_rfl) (by kernel_rfl) (by kernel_rfl) (fun _ _ _ h=>h) (fun w' hw'=> ?_) ?_
 ·obtain⟨cb00,cb01,cb02,fb00,fb01,fb02⟩:=(Box.se hw' Xb0.out notin0).c3
  first|(go_simp;done)|(go_simp;simp_all;done)|(go_simp;rfl)
 simp only[Act.put,sI,sZ,sS];refine good_callX 1 42 (some 10) #[Go.Operand.tmp 9] #[56] (none) #[.agg #[.bool ba,sa,ta]] (by kernel_rfl) Hok.out (by kernel_rfl) (by kernel_rfl) (by kernel_rfl) (by kernel_rfl) rfl rfl rfl (by kernel_rfl) (fun w2 hb=> ?_);have HG:=lH (bC HG.out hb);clear hb
 (first|(have hcall:=rsign_p (ba:=ba) s Hs.out (iK Hna.out (kC HG.out)) (iK Hda.out (kC HG.out)) (by omega);refine cM hcall ?_;clear hcall)|refine cM (rsign_p (ba:=ba) s Hs.out (iK Hna.out (kC HG.out)) (iK Hda.out (kC HG.out)) (by omega)) ?_)
 rintro e w3 ⟨v3,rfl,rfl,hb⟩;refine⟨_,rfl,?_,hb⟩;have HG:=lH (bC HG.out hb);clear hb;simp only[Act.put,sI,sZ,sS];refine good_callX 3 42 (some 12) #[Go.Operand.tmp 11] #[56] (none) #[.agg #[.bool bb,sb,tb]] (by kernel_rfl) Hok.out (by kernel_rfl) (by kernel_rfl) (by kernel_rfl) (by kernel_rfl) rfl rfl rfl (by kernel_rfl) (fun w4 hb=> ?_);have HG:=lH (bC HG.out hb);clear hb
 (first|(have hcall:=rsign_p (ba:=bb) s Ht.out (iK Hnb.out (kC HG.out)) (iK Hdb.out (kC HG.out)) (by omega);refine cM hcall ?_;clear hcall)|refine cM (rsign_p (ba:=bb) s Ht.out (iK Hnb.out (kC HG.out)) (iK Hdb.out (kC HG.out)) (by omega)) ?_)
 rintro e w5 ⟨v5,rfl,rfl,hb⟩;refine⟨_,rfl,?_,hb⟩;have HG:=lH (bC HG.out hb);clear hb;simp only[Act.put,sI,sZ,sS];refine good_pureX 4 (some 5) (Go.Op.assign (Go.Operand.tmp 10)) (none) (.int .i64 s) (by kernel_rfl) (by kernel_rfl) (by kernel_rfl) (fun _ _ _ h=>h) (fun w' hw'=> ?_) ?_
 ·first|(go_simp;done)|(go_simp;simp_all;done)|(go_simp;rfl)
 simp only[Act.put,sI,sZ,sS];refine good_pureX 5 (some 6) (Go.Op.assign (Go.Operand.tmp 12)) (none) (.int .i64 s) (by kernel_rfl) (by kernel_rfl) (by kernel_rfl) (fun _ _ _ h=>h) (fun w' hw'=> ?_) ?_
 ·first|(go_simp;done)|(go_simp;simp_all;done)|(go_simp;rfl)
 simp only[Act.put,sI,sZ,sS];refine good_end0 0 (by kernel_rfl) (fun _ w6 hb=> ?_);have HG:=lH (bC HG.out hb);clear hb;have Hna:=lH (iK Hna.out (kC HG.out));have Hda:=lH (iK Hda.out (kC HG.out));have Hnb:=lH (iK Hnb.out (kC HG.out));have Hdb:=lH (iK Hdb.out (kC HG.out));have Xa0:=lH (xP HG.out Xa0.out);have Xb0:=lH (xP HG.out Xb0.out);have HB:=lH (bC HB.out HG.out);have HS:=lH (SE.of (E:=[]) HG.out);refine wpAnyH_done (by kernel_rfl) ?_ _;clear HG HS Hok;obtain⟨ca00,ca01,ca02,fa00,fa01,fa02⟩:=Xa0.out.c3;have la0:=Xa0.out.lt;obtain⟨cb00,cb01,cb02,fb00,fb01,fb02⟩:=Xb0.out.c3;have lb0:=Xb0.out.lt
 go_wp2_with fail
 clear ca00 ca01 ca02 fa00 fa01 fa02 la0 cb00 cb01 cb02 fb00 fb01 fb02 lb0
 (first|(have hcall:=cross_p (ba:=ba) (bb:=bb) Hna.out Hda.out Hnb.out Hdb.out (by omega) (by omega);refine cM hcall ?_;clear hcall)|refine cM (cross_p (ba:=ba) (bb:=bb) Hna.out Hda.out Hnb.out Hdb.out (by omega) (by omega)) ?_)
 rintro e w7 ⟨t7,rfl,⟨v7,u7,rfl,hx,hv⟩,hb⟩;obtain⟨x_b,x_a,x_n,x_c,rfl⟩:=hx.litb;obtain⟨v_b,v_a,v_n,v_c,rfl⟩:=hv.litb;have Xa0:=lH (xP hb Xa0.out);have Xb0:=lH (xP hb Xb0.out);have HB:=lH (bC HB.out hb);have Hx:=lH hx;have Hv:=lH hv;clear hb hx hv;obtain⟨ca00,ca01,ca02,fa00,fa01,fa02⟩:=Xa0.out.c3;have la0:=Xa0.out.lt;obtain⟨cb00,cb01,cb02,fb00,fb01,fb02⟩:=Xb0.out.c3;have lb0:=Xb0.out.lt
 go_wp2_with fail
 clear ca00 ca01 ca02 fa00 fa01 fa02 la0 cb00 cb01 cb02 fb00 fb01 fb02 lb0;obtain⟨W8,hW⟩:∃W8,W8=(World.alloc (World.alloc w7 (.cells #[.bool x_b,.slice x_a x_n x_c] 96)) (.cells #[.bool v_b,.slice v_a v_n v_c] 96)):=⟨_,rfl⟩;rw[←hW];obtain⟨xc0,xd0,hk,hb⟩:=boxes_2 _ _ _ _ _ hW;clear hW;have Hx:=lH (CL.keep Hx.out hk);have Hv:=lH (CL.keep Hv.out hk);have Na0c0:=lH (show w.heap.size≠w7.heap.size from Nat.ne_of_lt (Nat.lt_of_lt_of_le Xa0.out.lt (by omega)));have Nb0c0:=lH (show w.heap.size+1≠w7.heap.size from Nat.ne_of_lt (Nat.lt_of_lt_of_le Xb0.out.lt (by omega)));have Gc0:=lH (show w.heap.size≤w7.heap.size from tL_ HB.out.size (by omega));have Na0d0:=lH (show w.heap.size≠w7.heap.size+1 from Nat.ne_of_lt (Nat.lt_of_lt_of_le Xa0.out.lt (by omega)));have Nb0d0:=lH (show w.heap.size+1≠w7.heap.size+1 from Nat.ne_of_lt (Nat.lt_of_lt_of_le Xb0.out.lt (by omega)));have Gd0:=lH (show w.heap.size≤w7.heap.size+1 from tL_ HB.out.size (by omega));have Xa0:=lH (xP hb Xa0.out);have Xb0:=lH (xP hb Xb0.out);have Xc0:=lH xc0;have Xd0:=lH xd0;have HB:=lH (bC HB.out hb);clear hk hb xc0 xd0
 (first|(have hcall:=icmp_ai k Hx.out.ai Hv.out.ai Hk.out (by omega) (by omega);refine cM hcall ?_;clear hcall)|refine cM (icmp_ai k Hx.out.ai Hv.out.ai Hk.out (by omega) (by omega)) ?_)
 rintro e w9 ⟨v9,rfl,rfl,hb⟩;have Xa0:=lH (xP hb Xa0.out);have Xb0:=lH (xP hb Xb0.out);have Xc0:=lH (xP hb Xc0.out);have Xd0:=lH (xP hb Xd0.out);have HB:=lH (bC HB.out hb);clear hb;obtain⟨ca00,ca01,ca02,fa00,fa01,fa02⟩:=Xa0.out.c3;have la0:=Xa0.out.lt;obtain⟨cb00,cb01,cb02,fb00,fb01,fb02⟩:=Xb0.out.c3;have lb0:=Xb0.out.lt;obtain⟨cc00,cc01,fc00,fc01⟩:=Xc0.out.c2;have lc0:=Xc0.out.lt;obtain⟨cd00,cd01,fd00,fd01⟩:=Xd0.out.c2;have ld0:=Xd0.out.lt;go_wp2;clear ca00 ca01 ca02 fa00 fa01 fa02 la0 cb00 cb01 cb02 fb00 fb01 fb02 lb0 cc00 cc01 fc00 fc01 lc0 cd00 cd01 fd00 fd01 ld0
 go_ret
 exact⟨_,rfl,rfl,HB.out⟩
theorem rcmp_ar {a b:Rat}{L M:Nat}{u v:Value}{w:World}(k:Int)(h:AR a L w u)(h':AR b M w v)(hk:cmpQ a b=k)(hL:L≤100000000)(hM:M≤100000000):
  Calls Tryz.prog 119 #[u,v] w (Ret w (Val (.int .i64 k))):=by
 obtain⟨ba,sa,ta,na,da,rfl,h1,h2,rfl⟩:=h;obtain⟨bb,sb,tb,nb,db,rfl,h3,h4,rfl⟩:=h';rw[cmpQ_rv]at hk;rcases Int.lt_trichotomy (iv ba na).sign (iv bb nb).sign with hs|hs|hs
 ·rw[cross_lt hs]at hk;subst hk;exact rcmp_lt _ _ rfl rfl (by simp;omega) (by simpa using hs) h1 h2 h3 h4 hL hM
 ·exact rcmp_eq _ _ rfl hs.symm hk h1 h2 h3 h4 hL hM
 ·rw[cross_gt hs]at hk;subst hk;exact rcmp_gt _ _ rfl rfl (by simp;omega) (by simp;omega) h1 h2 h3 h4 hL hM
theorem radd_p {L M:Nat}{ba:Bool}{na da:Nat}{sa ta:Value}{bb:Bool}{nb db:Nat}{sb tb:Value}{w:World}(hna:Is na L w sa)(hda:Is da L w ta)(hnb:Is nb M w sb)(hdb:Is db M w tb)(hL:L≤100000000)(hM:M≤100000000):
  Calls Tryz.prog 74 #[.agg #[.bool ba,sa,ta],.agg #[.bool bb,sb,tb]] w (Ret w (CR (rv ba na da+rv bb nb db) (L+M+3))):=by
 have Hna:=lH hna;have Hda:=lH hda;have Hnb:=lH hnb;have Hdb:=lH hdb;clear hna hda hnb hdb
 go_enter Tryz.func74,Tryz.ntmps74
 have HB:=lH (bR_ w.heap.size w)
 go_wp2_with fail
 obtain⟨W1,hW⟩:∃W1,W1=(World.alloc (World.alloc (World.alloc w (.cells #[.bool ba,sa,ta] 56)) (.cells #[.bool bb,sb,tb] 56)) (.cells #[.bool false,.slice none 0 0,.slice none 0 0] 56)):=⟨_,rfl⟩;rw[←hW];obtain⟨xa0,xb0,xc0,hk,hb⟩:=boxes_3 _ _ _ _ _ _ _ hW;clear hW;have Hna:=lH (iK Hna.out hk);have Hda:=lH (iK Hda.out hk);have Hnb:=lH (iK Hnb.out hk);have Hdb:=lH (iK Hdb.out hk);have Ga0:=lH (show w.heap.size≤w.heap.size from tL_ HB.out.size (by omega));have Gb0:=lH (show w.heap.size≤w.heap.size+1 from tL_ HB.out.size (by omega));have Gc0:=lH (show w.heap.size≤w.heap.size+1+1 from tL_ HB.out.size (by omega));have Xa0:=lH xa0;have Xb0:=lH xb0;have Xc0:=lH xc0;have HB:=lH (bC HB.out hb);clear hk hb xa0 xb0 xc0
 (first|(have hcall:=cross_p (ba:=ba) (bb:=bb) Hna.out Hda.out Hnb.out Hdb.out (by omega) (by omega);refine cM hcall ?_;clear hcall)|refine cM (cross_p (ba:=ba) (bb:=bb) Hna.out Hda.out Hnb.out Hdb.out (by omega) (by omega)) ?_)
 rintro e w2 ⟨t2,rfl,⟨v2,u2,rfl,hx,hv⟩,hb⟩;obtain⟨x_b,x_a,x_n,x_c,rfl⟩:=hx.litb;obtain⟨v_b,v_a,v_n,v_c,rfl⟩:=hv.litb;have Hda:=lH (iK Hda.out (kC hb));have Hdb:=lH (iK Hdb.out (kC hb));have Xa0:=lH (xP hb Xa0.out);have Xb0:=lH (xP hb Xb0.out);have Xc0:=lH (xP hb Xc0.out);have HB:=lH (bC HB.out hb);have Hx:=lH hx;have Hv:=lH hv;clear hb hx hv;obtain⟨ca00,ca01,ca02,fa00,fa01,fa02⟩:=Xa0.out.c3;have la0:=Xa0.out.lt;obtain⟨cb00,cb01,cb02,fb00,fb01,fb02⟩:=Xb0.out.c3;have lb0:=Xb0.out.lt;obtain⟨cc00,cc01,cc02,fc00,fc01,fc02⟩:=Xc0.out.c3;have lc0:=Xc0.out.lt
 go_wp2_with fail
 clear ca00 ca01 ca02 fa00 fa01 fa02 la0 cb00 cb01 cb02 fb00 fb01 fb02 lb0 cc00 cc01 cc02 fc00 fc01 fc02 lc0;obtain⟨W3,hW⟩:∃W3,W3=(World.alloc (World.alloc w2 (.cells #[.bool x_b,.slice x_a x_n x_c] 96)) (.cells #[.bool v_b,.slice v_a v_n v_c] 96)):=⟨_,rfl⟩;rw[←hW];obtain⟨xd0,xe0,hk,hb⟩:=boxes_2 _ _ _ _ _ hW;clear hW;have Hda:=lH (iK Hda.out hk);have Hdb:=lH (iK Hdb.out hk);have Hx:=lH (CL.keep Hx.out hk);have Hv:=lH (CL.keep Hv.out hk);have Na0d0:=lH (show w.heap.size≠w2.heap.size from Nat.ne_of_lt (Nat.lt_of_lt_of_le Xa0.out.lt (by omega)));have Nb0d0:=lH (show w.heap.size+1≠w2.heap.size from Nat.ne_of_lt (Nat.lt_of_lt_of_le Xb0.out.lt (by omega)));have Nc0d0:=lH (show w.heap.size+1+1≠w2.heap.size from Nat.ne_of_lt (Nat.lt_of_lt_of_le Xc0.out.lt (by omega)));have Gd0:=lH (show w.heap.size≤w2.heap.size from tL_ HB.out.size (by omega));have Na0e0:=lH (show w.heap.size≠w2.heap.size+1 from Nat.ne_of_lt (Nat.lt_of_lt_of_le Xa0.out.lt (by omega)));have Nb0e0:=lH (show w.heap.size+1≠w2.heap.size+1 from Nat.ne_of_lt (Nat.lt_of_lt_of_le Xb0.out.lt (by omega)));have Nc0e0:=lH (show w.heap.size+1+1≠w2.heap.size+1 from Nat.ne_of_lt (Nat.lt_of_lt_of_le Xc0.out.lt (by omega)));have Ge0:=lH (show w.heap.size≤w2.heap.size+1 from tL_ HB.out.size (by omega));have Xa0:=lH (xP hb Xa0.out);have Xb0:=lH (xP hb Xb0.out);have Xc0:=lH (xP hb Xc0.out);have Xd0:=lH xd0;have Xe0:=lH xe0;have HB:=lH (bC HB.out hb);clear hk hb xd0 xe0
 (first|(have hcall:=iadd_ai Hx.out.ai Hv.out.ai (by omega) (by omega);refine cM hcall ?_;clear hcall)|refine cM (iadd_ai Hx.out.ai Hv.out.ai (by omega) (by omega)) ?_)
 rintro e w4 ⟨v4,rfl,hs,hb⟩;obtain⟨s_b,s_a,s_n,s_c,rfl⟩:=hs.litb;have Hda:=lH (iK Hda.out (kC hb));have Hdb:=lH (iK Hdb.out (kC hb));have Xa0:=lH (xP hb Xa0.out);have Xb0:=lH (xP hb Xb0.out);have Xc0:=lH (xP hb Xc0.out);have Xd0:=lH (xP hb Xd0.out);have Xe0:=lH (xP hb Xe0.out);have HB:=lH (bC HB.out hb);have Hs:=lH hs;clear hb hs;obtain⟨ca00,ca01,ca02,fa00,fa01,fa02⟩:=Xa0.out.c3;have la0:=Xa0.out.lt;obtain⟨cb00,cb01,cb02,fb00,fb01,fb02⟩:=Xb0.out.c3;have lb0:=Xb0.out.lt;obtain⟨cc00,cc01,cc02,fc00,fc01,fc02⟩:=Xc0.out.c3;have lc0:=Xc0.out.lt;obtain⟨cd00,cd01,fd00,fd01⟩:=Xd0.out.c2;have ld0:=Xd0.out.lt;obtain⟨ce00,ce01,fe00,fe01⟩:=Xe0.out.c2;have le0:=Xe0.out.lt
 go_wp2_with fail
 clear ca00 ca01 ca02 fa00 fa01 fa02 la0 cb00 cb01 cb02 fb00 fb01 fb02 lb0 cc00 cc01 cc02 fc00 fc01 fc02 lc0 cd00 cd01 fd00 fd01 ld0 ce00 ce01 fe00 fe01 le0;obtain⟨W5,hW⟩:∃W5,W5=(World.alloc w4 (.cells #[.bool s_b,.slice s_a s_n s_c] 96)):=⟨_,rfl⟩;rw[←hW];obtain⟨xf0,hk,hb⟩:=boxes_1 _ _ _ hW;clear hW;have Hda:=lH (iK Hda.out hk);have Hdb:=lH (iK Hdb.out hk);have Hs:=lH (CL.keep Hs.out hk);have Na0f0:=lH (show w.heap.size≠w4.heap.size from Nat.ne_of_lt (Nat.lt_of_lt_of_le Xa0.out.lt (by omega)));have Nb0f0:=lH (show w.heap.size+1≠w4.heap.size from Nat.ne_of_lt (Nat.lt_of_lt_of_le Xb0.out.lt (by omega)));have Nc0f0:=lH (show w.heap.size+1+1≠w4.heap.size from Nat.ne_of_lt (Nat.lt_of_lt_of_le Xc0.out.lt (by omega)));have Nd0f0:=lH (show w2.heap.size≠w4.heap.size from Nat.ne_of_lt (Nat.lt_of_lt_of_le Xd0.out.lt (by omega)));have Ne0f0:=lH (show w2.heap.size+1≠w4.heap.size from Nat.ne_of_lt (Nat.lt_of_lt_of_le Xe0.out.lt (by omega)));have Gf0:=lH (show w.heap.size≤w4.heap.size from tL_ HB.out.size (by omega));have Xa0:=lH (xP hb Xa0.out);have Xb0:=lH (xP hb Xb0.out);have Xc0:=lH (xP hb Xc0.out);have Xd0:=lH (xP hb Xd0.out);have Xe0:=lH (xP hb Xe0.out);have Xf0:=lH xf0;have HB:=lH (bC HB.out hb);clear hk hb xf0;have Hda:=lH (iK Hda.out (Keep.drew W5));have Hdb:=lH (iK Hdb.out (Keep.drew W5));have Hs:=lH (CL.keep Hs.out (Keep.drew W5));have Xa0:=lH (Box.drew Xa0.out);have Xb0:=lH (Box.drew Xb0.out);have Xc0:=lH (Box.drew Xc0.out);have Xd0:=lH (Box.drew Xd0.out);have Xe0:=lH (Box.drew Xe0.out);have Xf0:=lH (Box.drew Xf0.out);have HB:=lH (Below.drew HB.out);refine wp_region_float [w.heap.size+1+1] [] (by kernel_rfl) (by kernel_rfl) 27 (by kernel_rfl) Flok.nil ?_;intro ok;have Hok:=lH ok;clear ok;have HG:=lH (bR_ (W5.drew).heap.size (W5.drew));refine good_pureX 0 (some 17) (Go.Op.fieldAddr 96 (Go.Operand.tmp 7) 0) (none) (.pointer (some ⟨w4.heap.size,0,none⟩)) (by kernel_rfl) (by kernel_rfl) (by kernel_rfl) (fun _ _ _ h=>h) (fun w' hw'=> ?_) ?_
 ·first|(go_simp;done)|(go_simp;simp_all;done)|(go_simp;rfl)
 simp only[Act.put,sI,sZ,sS];refine good_pureX 1 (some 18) (Go.Op.load 4 (Go.Operand.tmp 17)) (none) (.bool s_b) (by kernel_rfl) (by kernel_rfl) (by kernel_rfl) (fun _ _ _ h=>h) (fun w' hw'=> ?_) ?_
 ·obtain⟨cf00,cf01,ff00,ff01⟩:=(Box.se hw' Xf0.out (notin1 Nc0f0.out.symm)).c2
  first|(go_simp;done)|(go_simp;simp_all;done)|(go_simp;rfl)
 simp only[Act.put,sI,sZ,sS];refine good_pureX 2 (some 19) (Go.Op.fieldAddr 96 (Go.Operand.tmp 7) 1) (none) (.pointer (some ⟨w4.heap.size,1,none⟩)) (by kernel_rfl) (by kernel_rfl) (by kernel_rfl) (fun _ _ _ h=>h) (fun w' hw'=> ?_) ?_
 ·first|(go_simp;done)|(go_simp;simp_all;done)|(go_simp;rfl)
 simp only[Act.put,sI,sZ,sS];refine good_pureX 3 (some 20) (Go.Op.load 54 (Go.Operand.tmp 19)) (none) (.slice s_a s_n s_c) (by kernel_rfl) (by kernel_rfl) (by kernel_rfl) (fun _ _ _ h=>h) (fun w' hw'=> ?_) ?_
 ·obtain⟨cf00,cf01,ff00,ff01⟩:=(Box.se hw' Xf0.out (notin1 Nc0f0.out.symm)).c2
  first|(go_simp;done)|(go_simp;simp_all;done)|(go_simp;rfl)
 simp only[Act.put,sI,sZ,sS];refine good_pureX 4 (some 21) (Go.Op.load 56 (Go.Operand.tmp 2)) (none) (.agg #[.bool ba,sa,ta]) (by kernel_rfl) (by kernel_rfl) (by kernel_rfl) (fun _ _ _ h=>h) (fun w' hw'=> ?_) ?_
 ·obtain⟨ca00,ca01,ca02,fa00,fa01,fa02⟩:=(Box.se hw' Xa0.out (notin1 (by omega))).c3
  first|(go_simp;done)|(go_simp;simp_all;done)|(go_simp;rfl)
 simp only[Act.put,sI,sZ,sS];refine good_pureX 6 (some 23) (Go.Op.load 56 (Go.Operand.tmp 3)) (none) (.agg #[.bool bb,sb,tb]) (by kernel_rfl) (by kernel_rfl) (by kernel_rfl) (fun _ _ _ h=>h) (fun w' hw'=> ?_) ?_
 ·obtain⟨cb00,cb01,cb02,fb00,fb01,fb02⟩:=(Box.se hw' Xb0.out (notin1 (by omega))).c3
  first|(go_simp;done)|(go_simp;simp_all;done)|(go_simp;rfl)
 simp only[Act.put,sI,sZ,sS];refine good_callX 5 129 (some 22) #[Go.Operand.tmp 21] #[56] (none) #[.agg #[.bool ba,sa,ta]] (by kernel_rfl) Hok.out (by kernel_rfl) (by kernel_rfl) (by kernel_rfl) (by kernel_rfl) rfl rfl rfl (by kernel_rfl) (fun w6 hb=> ?_);have HG:=lH (bC HG.out hb);clear hb
 (first|(have hcall:=under_is (b:=ba) (iK Hda.out (kC HG.out)) (by omega);refine cM hcall ?_;clear hcall)|refine cM (under_is (b:=ba) (iK Hda.out (kC HG.out)) (by omega)) ?_)
 rintro e w7 ⟨v7,rfl,hp,hb⟩;obtain⟨p_a,p_n,p_c,rfl⟩:=hp.lit;refine⟨_,rfl,?_,hb⟩;have HG:=lH (bC HG.out hb);have Hp:=lH hp;clear hb hp;simp only[Act.put,sI,sZ,sS];refine good_callX 7 129 (some 24) #[Go.Operand.tmp 23] #[56] (none) #[.agg #[.bool bb,sb,tb]] (by kernel_rfl) Hok.out (by kernel_rfl) (by kernel_rfl) (by kernel_rfl) (by kernel_rfl) rfl rfl rfl (by kernel_rfl) (fun w8 hb=> ?_);have Hp:=lH (iK Hp.out (kC hb));have HG:=lH (bC HG.out hb);clear hb
 (first|(have hcall:=under_is (b:=bb) (iK Hdb.out (kC HG.out)) (by omega);refine cM hcall ?_;clear hcall)|refine cM (under_is (b:=bb) (iK Hdb.out (kC HG.out)) (by omega)) ?_)
 rintro e w9 ⟨v9,rfl,hq,hb⟩;obtain⟨q_a,q_n,q_c,rfl⟩:=hq.lit;refine⟨_,rfl,?_,hb⟩;have Hp:=lH (iK Hp.out (kC hb));have HG:=lH (bC HG.out hb);have Hq:=lH hq;clear hb hq;simp only[Act.put,sI,sZ,sS];refine good_callX 8 132 (some 25) #[Go.Operand.tmp 22,Go.Operand.tmp 24] #[54,54] (none) #[.slice p_a p_n p_c,.slice q_a q_n q_c] (by kernel_rfl) Hok.out (by kernel_rfl) (by kernel_rfl) (by kernel_rfl) (by kernel_rfl) rfl rfl rfl (by kernel_rfl) (fun w10 hb=> ?_);have Hp:=lH (iK Hp.out (kC hb));have Hq:=lH (iK Hq.out (kC hb));have HG:=lH (bC HG.out hb);clear hb
 (first|(have hcall:=mul_is Hp.out Hq.out (by omega) (by omega);refine cM hcall ?_;clear hcall)|refine cM (mul_is Hp.out Hq.out (by omega) (by omega)) ?_)
 rintro e w11 ⟨v11,rfl,hm,hb⟩;obtain⟨m_a,m_n,m_c,rfl⟩:=hm.is.lit;refine⟨_,rfl,?_,hb⟩;have HG:=lH (bC HG.out hb);have Hm:=lH hm;clear hb hm;simp only[Act.put,sI,sZ,sS];refine good_callX 9 128 (some 26) #[Go.Operand.tmp 18,Go.Operand.tmp 20,Go.Operand.tmp 25] #[4,54,54] (none) #[.bool s_b,.slice s_a s_n s_c,.slice m_a m_n m_c] (by kernel_rfl) Hok.out (by kernel_rfl) (by kernel_rfl) (by kernel_rfl) (by kernel_rfl) rfl rfl rfl (by kernel_rfl) (fun w12 hb=> ?_);have Hm:=lH (Can.keep Hm.out (kC hb));have HG:=lH (bC HG.out hb);clear hb;refine cM (quot_is (neg:=s_b) (Nat.mul_pos (un_pos _) (un_pos _)) (CL.keep Hs.out (kC HG.out)).mag.is Hm.out.is (by omega) (by omega)) ?_;rintro e w13 ⟨v13,rfl,hz,hb⟩;obtain⟨z_b,z_a,z_n,z_c,z_d,z_m,z_e,rfl⟩:=hz.litb;refine⟨_,rfl,?_,hb⟩;have HG:=lH (bC HG.out hb);have Hz:=lH hz;clear hb hz;simp only[Act.put,sI,sZ,sS];refine good_end0 1 (by kernel_rfl) (fun _ w14 hb=> ?_);have Hz:=lH (CR.keep Hz.out (kC hb));have HG:=lH (bC HG.out hb);clear hb;have Hs:=lH (CL.keep Hs.out (kC HG.out));have Xa0:=lH (xP HG.out Xa0.out);have Xb0:=lH (xP HG.out Xb0.out);have Xc0:=lH (xP HG.out Xc0.out);have Xd0:=lH (xP HG.out Xd0.out);have Xe0:=lH (xP HG.out Xe0.out);have Xf0:=lH (xP HG.out Xf0.out);have HB:=lH (bC HB.out HG.out);have HS:=lH (SE.of (E:=[w.heap.size+1+1]) HG.out);refine held_oneX 10 (Go.Op.store 56 (Go.Operand.tmp 4) (Go.Operand.tmp 26)) (none) (World.setCell (World.setCell (World.setCell w14 ⟨w.heap.size+1+1,0,none⟩ (.bool z_b)) ⟨w.heap.size+1+1,1,none⟩ (.slice z_a z_n z_c)) ⟨w.heap.size+1+1,2,none⟩ (.slice z_d z_m z_e)) (by kernel_rfl) (by kernel_rfl) (by kernel_rfl) (by kernel_rfl) ?_ (HS.out.store3 in1) ?_
 ·obtain⟨cc00,cc01,cc02,fc00,fc01,fc02⟩:=Xc0.out.c3
  first|(go_simp;done)|(go_simp;simp_all;done)|(go_simp;rfl)
 obtain⟨W15,hW⟩:∃W15,W15=(World.setCell (World.setCell (World.setCell w14 ⟨w.heap.size+1+1,0,none⟩ (.bool z_b)) ⟨w.heap.size+1+1,1,none⟩ (.slice z_a z_n z_c)) ⟨w.heap.size+1+1,2,none⟩ (.slice z_d z_m z_e)):=⟨_,rfl⟩;rw[←hW];obtain⟨xc0,hk,hf,hbb,hz⟩:=stored3s hW Xc0.out (by first|exact nB_ _|exact nS_ _ _ _) (by first|exact nB_ _|exact nS_ _ _ _) (by first|exact nB_ _|exact nS_ _ _ _);have Hs:=lH (CL.keep Hs.out hk);have Hz:=lH (CR.keep Hz.out hk);have Xa0:=lH (hf _ _ _ Xa0.out (by omega));have Xb0:=lH (hf _ _ _ Xb0.out (by omega));have Xc0:=lH xc0;have Xd0:=lH (hf _ _ _ Xd0.out Nc0d0.out.symm);have Xe0:=lH (hf _ _ _ Xe0.out Nc0e0.out.symm);have Xf0:=lH (hf _ _ _ Xf0.out Nc0f0.out.symm);have HB:=lH (hbb _ HB.out Gc0.out);have HS:=lH (show SE (W5.drew) [w.heap.size+1+1] W15 from by rw[hW];exact HS.out.store3 in1);clear hW hk hf hbb xc0;clear hz;refine wpAnyH_done (by kernel_rfl) ?_ _;clear HG HS Hok;obtain⟨ca00,ca01,ca02,fa00,fa01,fa02⟩:=Xa0.out.c3;have la0:=Xa0.out.lt;obtain⟨cb00,cb01,cb02,fb00,fb01,fb02⟩:=Xb0.out.c3;have lb0:=Xb0.out.lt;obtain⟨cc00,cc01,cc02,fc00,fc01,fc02⟩:=Xc0.out.c3;have lc0:=Xc0.out.lt;obtain⟨cd00,cd01,fd00,fd01⟩:=Xd0.out.c2;have ld0:=Xd0.out.lt;obtain⟨ce00,ce01,fe00,fe01⟩:=Xe0.out.c2;have le0:=Xe0.out.lt;obtain⟨cf00,cf01,ff00,ff01⟩:=Xf0.out.c2;have lf0:=Xf0.out.lt;go_wp2;clear ca00 ca01 ca02 fa00 fa01 fa02 la0 cb00 cb01 cb02 fb00 fb01 fb02 lb0 cc00 cc01 cc02 fc00 fc01 fc02 lc0 cd00 cd01 fd00 fd01 ld0 ce00 ce01 fe00 fe01 le0 cf00 cf01 ff00 ff01 lf0;exact ret_rat1 rfl rfl rfl Xc0.out (CR.mono (CR.cast (add_parts (CL.iv Hs.out)) Hz.out) (by omega)) HB.out
theorem radd_ar {a b:Rat}{L M:Nat}{u v:Value}{w:World}(h:AR a L w u)(h':AR b M w v)(hL:L≤100000000)(hM:M≤100000000):
  Calls Tryz.prog 74 #[u,v] w (Ret w (CR (a+b) (L+M+3))):=by
 obtain⟨ba,sa,ta,na,da,rfl,h1,h2,rfl⟩:=h;obtain⟨bb,sb,tb,nb,db,rfl,h3,h4,rfl⟩:=h';exact radd_p h1 h2 h3 h4 hL hM
theorem rmul_p {L M:Nat}{ba:Bool}{na da:Nat}{sa ta:Value}{bb:Bool}{nb db:Nat}{sb tb:Value}{w:World}(hna:Is na L w sa)(hda:Is da L w ta)(hnb:Is nb M w sb)(hdb:Is db M w tb)(hL:L≤100000000)(hM:M≤100000000):
  Calls Tryz.prog 75 #[.agg #[.bool ba,sa,ta],.agg #[.bool bb,sb,tb]] w (Ret w (CR (rv ba na da*rv bb nb db) (L+M+2))):=by
 have Hna:=lH hna;have Hda:=lH hda;have Hnb:=lH hnb;have Hdb:=lH hdb;clear hna hda hnb hdb
 go_enter Tryz.func75,Tryz.ntmps75
 have HB:=lH (bR_ w.heap.size w)
 go_wp2_with fail
 obtain⟨W1,hW⟩:∃W1,W1=(World.alloc (World.alloc (World.alloc w (.cells #[.bool ba,sa,ta] 56)) (.cells #[.bool bb,sb,tb] 56)) (.cells #[.bool false,.slice none 0 0,.slice none 0 0] 56)):=⟨_,rfl⟩;rw[←hW];obtain⟨xa0,xb0,xc0,hk,hb⟩:=boxes_3 _ _ _ _ _ _ _ hW;clear hW;have Hna:=lH (iK Hna.out hk);have Hda:=lH (iK Hda.out hk);have Hnb:=lH (iK Hnb.out hk);have Hdb:=lH (iK Hdb.out hk);have Ga0:=lH (show w.heap.size≤w.heap.size from tL_ HB.out.size (by omega));have Gb0:=lH (show w.heap.size≤w.heap.size+1 from tL_ HB.out.size (by omega));have Gc0:=lH (show w.heap.size≤w.heap.size+1+1 from tL_ HB.out.size (by omega));have Xa0:=lH xa0;have Xb0:=lH xb0;have Xc0:=lH xc0;have HB:=lH (bC HB.out hb);clear hk hb xa0 xb0 xc0;have Hna:=lH (iK Hna.out (Keep.drew W1));have Hda:=lH (iK Hda.out (Keep.drew W1));have Hnb:=lH (iK Hnb.out (Keep.drew W1));have Hdb:=lH (iK Hdb.out (Keep.drew W1));have Xa0:=lH (Box.drew Xa0.out);have Xb0:=lH (Box.drew Xb0.out);have Xc0:=lH (Box.drew Xc0.out);have HB:=lH (Below.drew HB.out);refine wp_region_float [w.heap.size+1+1] [] (by kernel_rfl) (by kernel_rfl) 21 (by kernel_rfl) Flok.nil ?_;intro ok;have Hok:=lH ok;clear ok;have HG:=lH (bR_ (W1.drew).heap.size (W1.drew));refine good_pureX 0 (some 5) (Go.Op.fieldAddr 56 (Go.Operand.tmp 2) 0) (none) (.pointer (some ⟨w.heap.size,0,none⟩)) (by kernel_rfl) (by kernel_rfl) (by kernel_rfl) (fun _ _ _ h=>h) (fun w' hw'=> ?_) ?_
 ·first|(go_simp;done)|(go_simp;simp_all;done)|(go_simp;rfl)
 simp only[Act.put,sI,sZ,sS];refine good_pureX 1 (some 6) (Go.Op.load 4 (Go.Operand.tmp 5)) (none) (.bool ba) (by kernel_rfl) (by kernel_rfl) (by kernel_rfl) (fun _ _ _ h=>h) (fun w' hw'=> ?_) ?_
 ·obtain⟨ca00,ca01,ca02,fa00,fa01,fa02⟩:=(Box.se hw' Xa0.out (notin1 (by omega))).c3
  first|(go_simp;done)|(go_simp;simp_all;done)|(go_simp;rfl)
 simp only[Act.put,sI,sZ,sS];refine good_pureX 2 (some 7) (Go.Op.fieldAddr 56 (Go.Operand.tmp 3) 0) (none) (.pointer (some ⟨w.heap.size+1,0,none⟩)) (by kernel_rfl) (by kernel_rfl) (by kernel_rfl) (fun _ _ _ h=>h) (fun w' hw'=> ?_) ?_
 ·first|(go_simp;done)|(go_simp;simp_all;done)|(go_simp;rfl)
 simp only[Act.put,sI,sZ,sS];refine good_pureX 3 (some 8) (Go.Op.load 4 (Go.Operand.tmp 7)) (none) (.bool bb) (by kernel_rfl) (by kernel_rfl) (by kernel_rfl) (fun _ _ _ h=>h) (fun w' hw'=> ?_) ?_
 ·obtain⟨cb00,cb01,cb02,fb00,fb01,fb02⟩:=(Box.se hw' Xb0.out (notin1 (by omega))).c3
  first|(go_simp;done)|(go_simp;simp_all;done)|(go_simp;rfl)
 simp only[Act.put,sI,sZ,sS];refine good_pureX 4 (some 9) (Go.Op.binOp Go.BinOp.neq 4 (Go.Operand.tmp 6) (Go.Operand.tmp 8) 4) (none) (.bool (!ba==bb)) (by kernel_rfl) (by kernel_rfl) (by kernel_rfl) (fun _ _ _ h=>h) (fun w' hw'=> ?_) ?_
 ·first|(go_simp;done)|(go_simp;simp_all;done)|(go_simp;rfl)
 simp only[Act.put,sI,sZ,sS];refine good_pureX 5 (some 10) (Go.Op.fieldAddr 56 (Go.Operand.tmp 2) 1) (none) (.pointer (some ⟨w.heap.size,1,none⟩)) (by kernel_rfl) (by kernel_rfl) (by kernel_rfl) (fun _ _ _ h=>h) (fun w' hw'=> ?_) ?_
 ·first|(go_simp;done)|(go_simp;simp_all;done)|(go_simp;rfl)
 simp only[Act.put,sI,sZ,sS];refine good_pureX 6 (some 11) (Go.Op.load 54 (Go.Operand.tmp 10)) (none) (sa) (by kernel_rfl) (by kernel_rfl) (by kernel_rfl) (fun _ _ _ h=>h) (fun w' hw'=> ?_) ?_
 ·obtain⟨ca00,ca01,ca02,fa00,fa01,fa02⟩:=(Box.se hw' Xa0.out (notin1 (by omega))).c3
  first|(go_simp;done)|(go_simp;simp_all;done)|(go_simp;rfl)
 simp only[Act.put,sI,sZ,sS];refine good_pureX 7 (some 12) (Go.Op.fieldAddr 56 (Go.Operand.tmp 3) 1) (none) (.pointer (some ⟨w.heap.size+1,1,none⟩)) (by kernel_rfl) (by kernel_rfl) (by kernel_rfl) (fun _ _ _ h=>h) (fun w' hw'=> ?_) ?_
 ·first|(go_simp;done)|(go_simp;simp_all;done)|(go_simp;rfl)
 simp only[Act.put,sI,sZ,sS];refine good_pureX 8 (some 13) (Go.Op.load 54 (Go.Operand.tmp 12)) (none) (sb) (by kernel_rfl) (by kernel_rfl) (by kernel_rfl) (fun _ _ _ h=>h) (fun w' hw'=> ?_) ?_
 ·obtain⟨cb00,cb01,cb02,fb00,fb01,fb02⟩:=(Box.se hw' Xb0.out (notin1 (by omega))).c3
  first|(go_simp;done)|(go_simp;simp_all;done)|(go_simp;rfl)
 simp only[Act.put,sI,sZ,sS];refine good_pureX 10 (some 15) (Go.Op.load 56 (Go.Operand.tmp 2)) (none) (.agg #[.bool ba,sa,ta]) (by kernel_rfl) (by kernel_rfl) (by kernel_rfl) (fun _ _ _ h=>h) (fun w' hw'=> ?_) ?_
 ·obtain⟨ca00,ca01,ca02,fa00,fa01,fa02⟩:=(Box.se hw' Xa0.out (notin1 (by omega))).c3
  first|(go_simp;done)|(go_simp;simp_all;done)|(go_simp;rfl)
 simp only[Act.put,sI,sZ,sS];refine good_pureX 12 (some 17) (Go.Op.load 56 (Go.Operand.tmp 3)) (none) (.agg #[.bool bb,sb,tb]) (by kernel_rfl) (by kernel_rfl) (by kernel_rfl) (fun _ _ _ h=>h) (fun w' hw'=> ?_) ?_
 ·obtain⟨cb00,cb01,cb02,fb00,fb01,fb02⟩:=(Box.se hw' Xb0.out (notin1 (by omega))).c3
  first|(go_simp;done)|(go_simp;simp_all;done)|(go_simp;rfl)
 simp only[Act.put,sI,sZ,sS];refine good_callX 9 132 (some 14) #[Go.Operand.tmp 11,Go.Operand.tmp 13] #[54,54] (none) #[sa,sb] (by kernel_rfl) Hok.out (by kernel_rfl) (by kernel_rfl) (by kernel_rfl) (by kernel_rfl) rfl rfl rfl (by kernel_rfl) (fun w2 hb=> ?_);have HG:=lH (bC HG.out hb);clear hb
 (first|(have hcall:=mul_is (iK Hna.out (kC HG.out)) (iK Hnb.out (kC HG.out)) (by omega) (by omega);refine cM hcall ?_;clear hcall)|refine cM (mul_is (iK Hna.out (kC HG.out)) (iK Hnb.out (kC HG.out)) (by omega) (by omega)) ?_)
 rintro e w3 ⟨v3,rfl,hx,hb⟩;obtain⟨x_a,x_n,x_c,rfl⟩:=hx.is.lit;refine⟨_,rfl,?_,hb⟩;have HG:=lH (bC HG.out hb);have Hx:=lH hx;clear hb hx;simp only[Act.put,sI,sZ,sS];refine good_callX 11 129 (some 16) #[Go.Operand.tmp 15] #[56] (none) #[.agg #[.bool ba,sa,ta]] (by kernel_rfl) Hok.out (by kernel_rfl) (by kernel_rfl) (by kernel_rfl) (by kernel_rfl) rfl rfl rfl (by kernel_rfl) (fun w4 hb=> ?_);have Hx:=lH (Can.keep Hx.out (kC hb));have HG:=lH (bC HG.out hb);clear hb
 (first|(have hcall:=under_is (b:=ba) (iK Hda.out (kC HG.out)) (by omega);refine cM hcall ?_;clear hcall)|refine cM (under_is (b:=ba) (iK Hda.out (kC HG.out)) (by omega)) ?_)
 rintro e w5 ⟨v5,rfl,hp,hb⟩;obtain⟨p_a,p_n,p_c,rfl⟩:=hp.lit;refine⟨_,rfl,?_,hb⟩;have Hx:=lH (Can.keep Hx.out (kC hb));have HG:=lH (bC HG.out hb);have Hp:=lH hp;clear hb hp;simp only[Act.put,sI,sZ,sS];refine good_callX 13 129 (some 18) #[Go.Operand.tmp 17] #[56] (none) #[.agg #[.bool bb,sb,tb]] (by kernel_rfl) Hok.out (by kernel_rfl) (by kernel_rfl) (by kernel_rfl) (by kernel_rfl) rfl rfl rfl (by kernel_rfl) (fun w6 hb=> ?_);have Hx:=lH (Can.keep Hx.out (kC hb));have Hp:=lH (iK Hp.out (kC hb));have HG:=lH (bC HG.out hb);clear hb
 (first|(have hcall:=under_is (b:=bb) (iK Hdb.out (kC HG.out)) (by omega);refine cM hcall ?_;clear hcall)|refine cM (under_is (b:=bb) (iK Hdb.out (kC HG.out)) (by omega)) ?_)
 rintro e w7 ⟨v7,rfl,hq,hb⟩;obtain⟨q_a,q_n,q_c,rfl⟩:=hq.lit;refine⟨_,rfl,?_,hb⟩;have Hx:=lH (Can.keep Hx.out (kC hb));have Hp:=lH (iK Hp.out (kC hb));have HG:=lH (bC HG.out hb);have Hq:=lH hq;clear hb hq;simp only[Act.put,sI,sZ,sS];refine good_callX 14 132 (some 19) #[Go.Operand.tmp 16,Go.Operand.tmp 18] #[54,54] (none) #[.slice p_a p_n p_c,.slice q_a q_n q_c] (by kernel_rfl) Hok.out (by kernel_rfl) (by kernel_rfl) (by kernel_rfl) (by kernel_rfl) rfl rfl rfl (by kernel_rfl) (fun w8 hb=> ?_);have Hx:=lH (Can.keep Hx.out (kC hb));have Hp:=lH (iK Hp.out (kC hb));have Hq:=lH (iK Hq.out (kC hb));have HG:=lH (bC HG.out hb);clear hb
 (first|(have hcall:=mul_is Hp.out Hq.out (by omega) (by omega);refine cM hcall ?_;clear hcall)|refine cM (mul_is Hp.out Hq.out (by omega) (by omega)) ?_)
 rintro e w9 ⟨v9,rfl,hy,hb⟩;obtain⟨y_a,y_n,y_c,rfl⟩:=hy.is.lit;refine⟨_,rfl,?_,hb⟩;have Hx:=lH (Can.keep Hx.out (kC hb));have HG:=lH (bC HG.out hb);have Hy:=lH hy;clear hb hy;simp only[Act.put,sI,sZ,sS];refine good_callX 15 128 (some 20) #[Go.Operand.tmp 9,Go.Operand.tmp 14,Go.Operand.tmp 19] #[4,54,54] (none) #[.bool (!ba==bb),.slice x_a x_n x_c,.slice y_a y_n y_c] (by kernel_rfl) Hok.out (by kernel_rfl) (by kernel_rfl) (by kernel_rfl) (by kernel_rfl) rfl rfl rfl (by kernel_rfl) (fun w10 hb=> ?_);have Hx:=lH (Can.keep Hx.out (kC hb));have Hy:=lH (Can.keep Hy.out (kC hb));have HG:=lH (bC HG.out hb);clear hb;refine cM (quot_is (neg:=(!ba==bb)) (Nat.mul_pos (un_pos _) (un_pos _)) Hx.out.is Hy.out.is (by omega) (by omega)) ?_;rintro e w11 ⟨v11,rfl,hz,hb⟩;obtain⟨z_b,z_a,z_n,z_c,z_d,z_m,z_e,rfl⟩:=hz.litb;refine⟨_,rfl,?_,hb⟩;have HG:=lH (bC HG.out hb);have Hz:=lH hz;clear hb hz;simp only[Act.put,sI,sZ,sS];refine good_end0 1 (by kernel_rfl) (fun _ w12 hb=> ?_);have Hz:=lH (CR.keep Hz.out (kC hb));have HG:=lH (bC HG.out hb);clear hb;have Xa0:=lH (xP HG.out Xa0.out);have Xb0:=lH (xP HG.out Xb0.out);have Xc0:=lH (xP HG.out Xc0.out);have HB:=lH (bC HB.out HG.out);have HS:=lH (SE.of (E:=[w.heap.size+1+1]) HG.out);refine held_oneX 16 (Go.Op.store 56 (Go.Operand.tmp 4) (Go.Operand.tmp 20)) (none) (World.setCell (World.setCell (World.setCell w12 ⟨w.heap.size+1+1,0,none⟩ (.bool z_b)) ⟨w.heap.size+1+1,1,none⟩ (.slice z_a z_n z_c)) ⟨w.heap.size+1+1,2,none⟩ (.slice z_d z_m z_e)) (by kernel_rfl) (by kernel_rfl) (by kernel_rfl) (by kernel_rfl) ?_ (HS.out.store3 in1) ?_
 ·obtain⟨cc00,cc01,cc02,fc00,fc01,fc02⟩:=Xc0.out.c3
  first|(go_simp;done)|(go_simp;simp_all;done)|(go_simp;rfl)
 obtain⟨W13,hW⟩:∃W13,W13=(World.setCell (World.setCell (World.setCell w12 ⟨w.heap.size+1+1,0,none⟩ (.bool z_b)) ⟨w.heap.size+1+1,1,none⟩ (.slice z_a z_n z_c)) ⟨w.heap.size+1+1,2,none⟩ (.slice z_d z_m z_e)):=⟨_,rfl⟩;rw[←hW];obtain⟨xc0,hk,hf,hbb,hz⟩:=stored3s hW Xc0.out (by first|exact nB_ _|exact nS_ _ _ _) (by first|exact nB_ _|exact nS_ _ _ _) (by first|exact nB_ _|exact nS_ _ _ _);have Hz:=lH (CR.keep Hz.out hk);have Xa0:=lH (hf _ _ _ Xa0.out (by omega));have Xb0:=lH (hf _ _ _ Xb0.out (by omega));have Xc0:=lH xc0;have HB:=lH (hbb _ HB.out Gc0.out);have HS:=lH (show SE (W1.drew) [w.heap.size+1+1] W13 from by rw[hW];exact HS.out.store3 in1);clear hW hk hf hbb xc0;clear hz;refine wpAnyH_done (by kernel_rfl) ?_ _;clear HG HS Hok;obtain⟨ca00,ca01,ca02,fa00,fa01,fa02⟩:=Xa0.out.c3;have la0:=Xa0.out.lt;obtain⟨cb00,cb01,cb02,fb00,fb01,fb02⟩:=Xb0.out.c3;have lb0:=Xb0.out.lt;obtain⟨cc00,cc01,cc02,fc00,fc01,fc02⟩:=Xc0.out.c3;have lc0:=Xc0.out.lt;go_wp2;clear ca00 ca01 ca02 fa00 fa01 fa02 la0 cb00 cb01 cb02 fb00 fb01 fb02 lb0 cc00 cc01 cc02 fc00 fc01 fc02 lc0;exact ret_rat1 rfl rfl rfl Xc0.out (CR.mono (CR.cast (mul_parts _ _ _ _ _ _) Hz.out) (by omega)) HB.out
theorem rmul_ar {a b:Rat}{L M:Nat}{u v:Value}{w:World}(h:AR a L w u)(h':AR b M w v)(hL:L≤100000000)(hM:M≤100000000):
  Calls Tryz.prog 75 #[u,v] w (Ret w (CR (a*b) (L+M+2))):=by
 obtain⟨ba,sa,ta,na,da,rfl,h1,h2,rfl⟩:=h;obtain⟨bb,sb,tb,nb,db,rfl,h3,h4,rfl⟩:=h';exact rmul_p h1 h2 h3 h4 hL hM
theorem rdiv_1 {L M:Nat}{ba:Bool}{na da:Nat}{sa ta:Value}{bb:Bool}{nb db:Nat}{sb tb:Value}{w:World}(s:Int)(hs:(iv bb nb).sign=s)(hs0:(s==0)=false)(hp0:0<nb)(hna:Is na L w sa)(hda:Is da L w ta)(hnb:Is nb M w sb)(hdb:Is db M w tb)(hL:L≤100000000)(hM:M≤100000000):
  Calls Tryz.prog 153 #[.agg #[.bool ba,sa,ta],.agg #[.bool bb,sb,tb]] w (Ret w (CRE (rv ba na da/rv bb nb db) (L+M+2) 0)):=by
 have Hna:=lH hna;have Hda:=lH hda;have Hnb:=lH hnb;have Hdb:=lH hdb;have Hs:=lH hs;have Hs0:=lH hs0;have Hp0:=lH hp0;clear hna hda hnb hdb hs hs0 hp0
 go_enter Tryz.func153,Tryz.ntmps153
 have HB:=lH (bR_ w.heap.size w)
 go_wp2_with fail
 obtain⟨W1,hW⟩:∃W1,W1=(World.alloc (World.alloc (World.alloc w (.cells #[.bool ba,sa,ta] 56)) (.cells #[.bool bb,sb,tb] 56)) (.cells #[.bool false,.slice none 0 0,.slice none 0 0] 56)):=⟨_,rfl⟩;rw[←hW];obtain⟨xa0,xb0,xc0,hk,hb⟩:=boxes_3 _ _ _ _ _ _ _ hW;clear hW;have Hna:=lH (iK Hna.out hk);have Hda:=lH (iK Hda.out hk);have Hnb:=lH (iK Hnb.out hk);have Hdb:=lH (iK Hdb.out hk);have Ga0:=lH (show w.heap.size≤w.heap.size from tL_ HB.out.size (by omega));have Gb0:=lH (show w.heap.size≤w.heap.size+1 from tL_ HB.out.size (by omega));have Gc0:=lH (show w.heap.size≤w.heap.size+1+1 from tL_ HB.out.size (by omega));have Xa0:=lH xa0;have Xb0:=lH xb0;have Xc0:=lH xc0;have HB:=lH (bC HB.out hb);clear hk hb xa0 xb0 xc0
 (first|(have hcall:=rsign_p (ba:=bb) s Hs.out Hnb.out Hdb.out (by omega);refine cM hcall ?_;clear hcall)|refine cM (rsign_p (ba:=bb) s Hs.out Hnb.out Hdb.out (by omega)) ?_)
 rintro e w2 ⟨v2,rfl,rfl,hb⟩;have Hna:=lH (iK Hna.out (kC hb));have Hda:=lH (iK Hda.out (kC hb));have Hnb:=lH (iK Hnb.out (kC hb));have Hdb:=lH (iK Hdb.out (kC hb));have Xa0:=lH (xP hb Xa0.out);have Xb0:=lH (xP hb Xb0.out);have Xc0:=lH (xP hb Xc0.out);have HB:=lH (bC HB.out hb);clear hb;have hs0:(s==0)=false:=Hs0.out;obtain⟨ca00,ca01,ca02,fa00,fa01,fa02⟩:=Xa0.out.c3;have la0:=Xa0.out.lt;obtain⟨cb00,cb01,cb02,fb00,fb01,fb02⟩:=Xb0.out.c3;have lb0:=Xb0.out.lt;obtain⟨cc00,cc01,cc02,fc00,fc01,fc02⟩:=Xc0.out.c3;have lc0:=Xc0.out.lt
 go_wp2_with fail
 clear ca00 ca01 ca02 fa00 fa01 fa02 la0 cb00 cb01 cb02 fb00 fb01 fb02 lb0 cc00 cc01 cc02 fc00 fc01 fc02 lc0;have Hna:=lH (iK Hna.out (Keep.drew w2));have Hda:=lH (iK Hda.out (Keep.drew w2));have Hnb:=lH (iK Hnb.out (Keep.drew w2));have Hdb:=lH (iK Hdb.out (Keep.drew w2));have Xa0:=lH (Box.drew Xa0.out);have Xb0:=lH (Box.drew Xb0.out);have Xc0:=lH (Box.drew Xc0.out);have HB:=lH (Below.drew HB.out);refine wp_region_float [w.heap.size+1+1] [] (by kernel_rfl) (by kernel_rfl) 26 (by kernel_rfl) Flok.nil ?_;intro ok;have Hok:=lH ok;clear ok;have HG:=lH (bR_ (w2.drew).heap.size (w2.drew));refine good_pureX 0 (some 10) (Go.Op.fieldAddr 56 (Go.Operand.tmp 2) 0) (none) (.pointer (some ⟨w.heap.size,0,none⟩)) (by kernel_rfl) (by kernel_rfl) (by kernel_rfl) (fun _ _ _ h=>h) (fun w' hw'=> ?_) ?_
 ·first|(go_simp;done)|(go_simp;simp_all;done)|(go_simp;rfl)
 simp only[Act.put,sI,sZ,sS];refine good_pureX 1 (some 11) (Go.Op.load 4 (Go.Operand.tmp 10)) (none) (.bool ba) (by kernel_rfl) (by kernel_rfl) (by kernel_rfl) (fun _ _ _ h=>h) (fun w' hw'=> ?_) ?_
 ·obtain⟨ca00,ca01,ca02,fa00,fa01,fa02⟩:=(Box.se hw' Xa0.out (notin1 (by omega))).c3
  first|(go_simp;done)|(go_simp;simp_all;done)|(go_simp;rfl)
 simp only[Act.put,sI,sZ,sS];refine good_pureX 2 (some 12) (Go.Op.fieldAddr 56 (Go.Operand.tmp 3) 0) (none) (.pointer (some ⟨w.heap.size+1,0,none⟩)) (by kernel_rfl) (by kernel_rfl) (by kernel_rfl) (fun _ _ _ h=>h) (fun w' hw'=> ?_) ?_
 ·first|(go_simp;done)|(go_simp;simp_all;done)|(go_simp;rfl)
 simp only[Act.put,sI,sZ,sS];refine good_pureX 3 (some 13) (Go.Op.load 4 (Go.Operand.tmp 12)) (none) (.bool bb) (by kernel_rfl) (by kernel_rfl) (by kernel_rfl) (fun _ _ _ h=>h) (fun w' hw'=> ?_) ?_
 ·obtain⟨cb00,cb01,cb02,fb00,fb01,fb02⟩:=(Box.se hw' Xb0.out (notin1 (by omega))).c3
  first|(go_simp;done)|(go_simp;simp_all;done)|(go_simp;rfl)
 simp only[Act.put,sI,sZ,sS];refine good_pureX 4 (some 14) (Go.Op.binOp Go.BinOp.neq 4 (Go.Operand.tmp 11) (Go.Operand.tmp 13) 4) (none) (.bool (!ba==bb)) (by kernel_rfl) (by kernel_rfl) (by kernel_rfl) (fun _ _ _ h=>h) (fun w' hw'=> ?_) ?_
 ·first|(go_simp;done)|(go_simp;simp_all;done)|(go_simp;rfl)
 simp only[Act.put,sI,sZ,sS];refine good_pureX 5 (some 15) (Go.Op.fieldAddr 56 (Go.Operand.tmp 2) 1) (none) (.pointer (some ⟨w.heap.size,1,none⟩)) (by kernel_rfl) (by kernel_rfl) (by kernel_rfl) (fun _ _ _ h=>h) (fun w' hw'=> ?_) ?_
 ·first|(go_simp;done)|(go_simp;simp_all;done)|(go_simp;rfl)
 simp only[Act.put,sI,sZ,sS];refine good_pureX 6 (some 16) (Go.Op.load 54 (Go.Operand.tmp 15)) (none) (sa) (by kernel_rfl) (by kernel_rfl) (by kernel_rfl) (fun _ _ _ h=>h) (fun w' hw'=> ?_) ?_
 ·obtain⟨ca00,ca01,ca02,fa00,fa01,fa02⟩:=(Box.se hw' Xa0.out (notin1 (by omega))).c3
  first|(go_simp;done)|(go_simp;simp_all;done)|(go_simp;rfl)
 simp only[Act.put,sI,sZ,sS];refine good_pureX 7 (some 17) (Go.Op.load 56 (Go.Operand.tmp 3)) (none) (.agg #[.bool bb,sb,tb]) (by kernel_rfl) (by kernel_rfl) (by kernel_rfl) (fun _ _ _ h=>h) (fun w' hw'=> ?_) ?_
 ·obtain⟨cb00,cb01,cb02,fb00,fb01,fb02⟩:=(Box.se hw' Xb0.out (notin1 (by omega))).c3
  first|(go_simp;done)|(go_simp;simp_all;done)|(go_simp;rfl)
 simp only[Act.put,sI,sZ,sS];refine good_pureX 10 (some 20) (Go.Op.load 56 (Go.Operand.tmp 2)) (none) (.agg #[.bool ba,sa,ta]) (by kernel_rfl) (by kernel_rfl) (by kernel_rfl) (fun _ _ _ h=>h) (fun w' hw'=> ?_) ?_
 ·obtain⟨ca00,ca01,ca02,fa00,fa01,fa02⟩:=(Box.se hw' Xa0.out (notin1 (by omega))).c3
  first|(go_simp;done)|(go_simp;simp_all;done)|(go_simp;rfl)
 simp only[Act.put,sI,sZ,sS];refine good_pureX 12 (some 22) (Go.Op.fieldAddr 56 (Go.Operand.tmp 3) 1) (none) (.pointer (some ⟨w.heap.size+1,1,none⟩)) (by kernel_rfl) (by kernel_rfl) (by kernel_rfl) (fun _ _ _ h=>h) (fun w' hw'=> ?_) ?_
 ·first|(go_simp;done)|(go_simp;simp_all;done)|(go_simp;rfl)
 simp only[Act.put,sI,sZ,sS];refine good_pureX 13 (some 23) (Go.Op.load 54 (Go.Operand.tmp 22)) (none) (sb) (by kernel_rfl) (by kernel_rfl) (by kernel_rfl) (fun _ _ _ h=>h) (fun w' hw'=> ?_) ?_
 ·obtain⟨cb00,cb01,cb02,fb00,fb01,fb02⟩:=(Box.se hw' Xb0.out (notin1 (by omega))).c3
  first|(go_simp;done)|(go_simp;simp_all;done)|(go_simp;rfl)
 simp only[Act.put,sI,sZ,sS];refine good_callX 8 129 (some 18) #[Go.Operand.tmp 17] #[56] (none) #[.agg #[.bool bb,sb,tb]] (by kernel_rfl) Hok.out (by kernel_rfl) (by kernel_rfl) (by kernel_rfl) (by kernel_rfl) rfl rfl rfl (by kernel_rfl) (fun w3 hb=> ?_);have HG:=lH (bC HG.out hb);clear hb
 (first|(have hcall:=under_is (b:=bb) (iK Hdb.out (kC HG.out)) (by omega);refine cM hcall ?_;clear hcall)|refine cM (under_is (b:=bb) (iK Hdb.out (kC HG.out)) (by omega)) ?_)
 rintro e w4 ⟨v4,rfl,hq,hb⟩;obtain⟨q_a,q_n,q_c,rfl⟩:=hq.lit;refine⟨_,rfl,?_,hb⟩;have HG:=lH (bC HG.out hb);have Hq:=lH hq;clear hb hq;simp only[Act.put,sI,sZ,sS];refine good_callX 9 132 (some 19) #[Go.Operand.tmp 16,Go.Operand.tmp 18] #[54,54] (none) #[sa,.slice q_a q_n q_c] (by kernel_rfl) Hok.out (by kernel_rfl) (by kernel_rfl) (by kernel_rfl) (by kernel_rfl) rfl rfl rfl (by kernel_rfl) (fun w5 hb=> ?_);have Hq:=lH (iK Hq.out (kC hb));have HG:=lH (bC HG.out hb);clear hb
 (first|(have hcall:=mul_is (iK Hna.out (kC HG.out)) Hq.out (by omega) (by omega);refine cM hcall ?_;clear hcall)|refine cM (mul_is (iK Hna.out (kC HG.out)) Hq.out (by omega) (by omega)) ?_)
 rintro e w6 ⟨v6,rfl,hx,hb⟩;obtain⟨x_a,x_n,x_c,rfl⟩:=hx.is.lit;refine⟨_,rfl,?_,hb⟩;have HG:=lH (bC HG.out hb);have Hx:=lH hx;clear hb hx;simp only[Act.put,sI,sZ,sS];refine good_callX 11 129 (some 21) #[Go.Operand.tmp 20] #[56] (none) #[.agg #[.bool ba,sa,ta]] (by kernel_rfl) Hok.out (by kernel_rfl) (by kernel_rfl) (by kernel_rfl) (by kernel_rfl) rfl rfl rfl (by kernel_rfl) (fun w7 hb=> ?_);have Hx:=lH (Can.keep Hx.out (kC hb));have HG:=lH (bC HG.out hb);clear hb
 (first|(have hcall:=under_is (b:=ba) (iK Hda.out (kC HG.out)) (by omega);refine cM hcall ?_;clear hcall)|refine cM (under_is (b:=ba) (iK Hda.out (kC HG.out)) (by omega)) ?_)
 rintro e w8 ⟨v8,rfl,hp,hb⟩;obtain⟨p_a,p_n,p_c,rfl⟩:=hp.lit;refine⟨_,rfl,?_,hb⟩;have Hx:=lH (Can.keep Hx.out (kC hb));have HG:=lH (bC HG.out hb);have Hp:=lH hp;clear hb hp;simp only[Act.put,sI,sZ,sS];refine good_callX 14 132 (some 24) #[Go.Operand.tmp 21,Go.Operand.tmp 23] #[54,54] (none) #[.slice p_a p_n p_c,sb] (by kernel_rfl) Hok.out (by kernel_rfl) (by kernel_rfl) (by kernel_rfl) (by kernel_rfl) rfl rfl rfl (by kernel_rfl) (fun w9 hb=> ?_);have Hx:=lH (Can.keep Hx.out (kC hb));have Hp:=lH (iK Hp.out (kC hb));have HG:=lH (bC HG.out hb);clear hb
 (first|(have hcall:=mul_is Hp.out (iK Hnb.out (kC HG.out)) (by omega) (by omega);refine cM hcall ?_;clear hcall)|refine cM (mul_is Hp.out (iK Hnb.out (kC HG.out)) (by omega) (by omega)) ?_)
 rintro e w10 ⟨v10,rfl,hy,hb⟩;obtain⟨y_a,y_n,y_c,rfl⟩:=hy.is.lit;refine⟨_,rfl,?_,hb⟩;have Hx:=lH (Can.keep Hx.out (kC hb));have HG:=lH (bC HG.out hb);have Hy:=lH hy;clear hb hy;simp only[Act.put,sI,sZ,sS];refine good_callX 15 128 (some 25) #[Go.Operand.tmp 14,Go.Operand.tmp 19,Go.Operand.tmp 24] #[4,54,54] (none) #[.bool (!ba==bb),.slice x_a x_n x_c,.slice y_a y_n y_c] (by kernel_rfl) Hok.out (by kernel_rfl) (by kernel_rfl) (by kernel_rfl) (by kernel_rfl) rfl rfl rfl (by kernel_rfl) (fun w11 hb=> ?_);have Hx:=lH (Can.keep Hx.out (kC hb));have Hy:=lH (Can.keep Hy.out (kC hb));have HG:=lH (bC HG.out hb);clear hb;refine cM (quot_is (neg:=(!ba==bb)) (Nat.mul_pos (un_pos _) Hp0.out) Hx.out.is Hy.out.is (by omega) (by omega)) ?_;rintro e w12 ⟨v12,rfl,hz,hb⟩;obtain⟨z_b,z_a,z_n,z_c,z_d,z_m,z_e,rfl⟩:=hz.litb;refine⟨_,rfl,?_,hb⟩;have HG:=lH (bC HG.out hb);have Hz:=lH hz;clear hb hz;simp only[Act.put,sI,sZ,sS];refine good_end0 2 (by kernel_rfl) (fun _ w13 hb=> ?_);have Hz:=lH (CR.keep Hz.out (kC hb));have HG:=lH (bC HG.out hb);clear hb;have Xa0:=lH (xP HG.out Xa0.out);have Xb0:=lH (xP HG.out Xb0.out);have Xc0:=lH (xP HG.out Xc0.out);have HB:=lH (bC HB.out HG.out);have HS:=lH (SE.of (E:=[w.heap.size+1+1]) HG.out);refine held_oneX 16 (Go.Op.store 56 (Go.Operand.tmp 4) (Go.Operand.tmp 25)) (none) (World.setCell (World.setCell (World.setCell w13 ⟨w.heap.size+1+1,0,none⟩ (.bool z_b)) ⟨w.heap.size+1+1,1,none⟩ (.slice z_a z_n z_c)) ⟨w.heap.size+1+1,2,none⟩ (.slice z_d z_m z_e)) (by kernel_rfl) (by kernel_rfl) (by kernel_rfl) (by kernel_rfl) ?_ (HS.out.store3 in1) ?_
 ·obtain⟨cc00,cc01,cc02,fc00,fc01,fc02⟩:=Xc0.out.c3
  first|(go_simp;done)|(go_simp;simp_all;done)|(go_simp;rfl)
 obtain⟨W14,hW⟩:∃W14,W14=(World.setCell (World.setCell (World.setCell w13 ⟨w.heap.size+1+1,0,none⟩ (.bool z_b)) ⟨w.heap.size+1+1,1,none⟩ (.slice z_a z_n z_c)) ⟨w.heap.size+1+1,2,none⟩ (.slice z_d z_m z_e)):=⟨_,rfl⟩;rw[←hW];obtain⟨xc0,hk,hf,hbb,hz⟩:=stored3s hW Xc0.out (by first|exact nB_ _|exact nS_ _ _ _) (by first|exact nB_ _|exact nS_ _ _ _) (by first|exact nB_ _|exact nS_ _ _ _);have Hz:=lH (CR.keep Hz.out hk);have Xa0:=lH (hf _ _ _ Xa0.out (by omega));have Xb0:=lH (hf _ _ _ Xb0.out (by omega));have Xc0:=lH xc0;have HB:=lH (hbb _ HB.out Gc0.out);have HS:=lH (show SE (w2.drew) [w.heap.size+1+1] W14 from by rw[hW];exact HS.out.store3 in1);clear hW hk hf hbb xc0;clear hz;refine held_pureX 17 (some 5) (Go.Op.assign (Go.Operand.const (Go.Value.int Go.IntKind.i64 0))) (none) (.int .i64 0) (by kernel_rfl) (by kernel_rfl) (by kernel_rfl) (fun _ _ _ h=>h) (fun w'=>by first|(go_simp;done)|(go_simp;simp_all;done)|(go_simp;rfl)) HS.out ?_;simp only[Act.put,sI,sZ,sS];refine wpAnyH_done (by kernel_rfl) ?_ _;clear HG HS Hok;obtain⟨ca00,ca01,ca02,fa00,fa01,fa02⟩:=Xa0.out.c3;have la0:=Xa0.out.lt;obtain⟨cb00,cb01,cb02,fb00,fb01,fb02⟩:=Xb0.out.c3;have lb0:=Xb0.out.lt;obtain⟨cc00,cc01,cc02,fc00,fc01,fc02⟩:=Xc0.out.c3;have lc0:=Xc0.out.lt;go_wp2;clear ca00 ca01 ca02 fa00 fa01 fa02 la0 cb00 cb01 cb02 fb00 fb01 fb02 lb0 cc00 cc01 cc02 fc00 fc01 fc02 lc0;exact ret_re rfl rfl rfl rfl Xc0.out ⟨_,rfl,CR.mono (CR.cast (div_parts _ _ _ _ _ _ Hp0.out) Hz.out) (by omega)⟩ HB.out
theorem rdiv_ar {a b:Rat}{L M:Nat}{u v:Value}{w:World}(h0:b≠0)(h:AR a L w u)(h':AR b M w v)(hL:L≤100000000)(hM:M≤100000000):
  Calls Tryz.prog 153 #[u,v] w (Ret w (CRE (a/b) (L+M+2) 0)):=by
 obtain⟨ba,sa,ta,na,da,rfl,h1,h2,rfl⟩:=h;obtain⟨bb,sb,tb,nb,db,rfl,h3,h4,rfl⟩:=h';have hp:0<nb:=by
  rcases eP_ nb with rfl|h0'
  ·exact absurd (by unfold rv;rw[show iv bb 0=0 by cases bb<;>rfl];exact Rat.zero_mkRat _) h0
  ·exact h0'
 exact rdiv_1 _ rfl (by cases bb<;>simp[iv,Int.sign_eq_zero_iff_zero]<;>omega) hp h1 h2 h3 h4 hL hM
theorem rmax_t {L M:Nat}{qa:Rat}{ba:Bool}{sa ta:Value}{qb:Rat}{bb:Bool}{sb tb:Value}{w:World}(k:Int)(hk:cmpQ qa qb=k)(hk0:decide (0≤k)=true)(ha:AR qa L w (.agg #[.bool ba,sa,ta]))(hb:AR qb M w (.agg #[.bool bb,sb,tb]))(hL:L≤100000000)(hM:M≤100000000):
  Calls Tryz.prog 68 #[.agg #[.bool ba,sa,ta],.agg #[.bool bb,sb,tb]] w (Ret w (CR qa (max L 1))):=by
 have Ha:=lH ha;have Hb:=lH hb;have Hk:=lH hk;have Hk0:=lH hk0;clear ha hb hk hk0
 go_enter Tryz.func68,Tryz.ntmps68
 have HB:=lH (bR_ w.heap.size w)
 go_wp2_with fail
 obtain⟨W1,hW⟩:∃W1,W1=(World.alloc (World.alloc (World.alloc w (.cells #[.bool ba,sa,ta] 56)) (.cells #[.bool bb,sb,tb] 56)) (.cells #[.bool false,.slice none 0 0,.slice none 0 0] 56)):=⟨_,rfl⟩;rw[←hW];obtain⟨xa0,xb0,xc0,hk,hb⟩:=boxes_3 _ _ _ _ _ _ _ hW;clear hW;have Ha:=lH (AR.keep Ha.out hk);have Hb:=lH (AR.keep Hb.out hk);have Ga0:=lH (show w.heap.size≤w.heap.size from tL_ HB.out.size (by omega));have Gb0:=lH (show w.heap.size≤w.heap.size+1 from tL_ HB.out.size (by omega));have Gc0:=lH (show w.heap.size≤w.heap.size+1+1 from tL_ HB.out.size (by omega));have Xa0:=lH xa0;have Xb0:=lH xb0;have Xc0:=lH xc0;have HB:=lH (bC HB.out hb);clear hk hb xa0 xb0 xc0
 (first|(have hcall:=rcmp_ar k Ha.out Hb.out Hk.out (by omega) (by omega);refine cM hcall ?_;clear hcall)|refine cM (rcmp_ar k Ha.out Hb.out Hk.out (by omega) (by omega)) ?_)
 rintro e w2 ⟨v2,rfl,rfl,hb⟩;have Ha:=lH (AR.keep Ha.out (kC hb));have Xa0:=lH (xP hb Xa0.out);have Xb0:=lH (xP hb Xb0.out);have Xc0:=lH (xP hb Xc0.out);have HB:=lH (bC HB.out hb);clear hb;have hk0:decide (0≤k)=true:=Hk0.out;obtain⟨ca00,ca01,ca02,fa00,fa01,fa02⟩:=Xa0.out.c3;have la0:=Xa0.out.lt;obtain⟨cb00,cb01,cb02,fb00,fb01,fb02⟩:=Xb0.out.c3;have lb0:=Xb0.out.lt;obtain⟨cc00,cc01,cc02,fc00,fc01,fc02⟩:=Xc0.out.c3;have lc0:=Xc0.out.lt
 go_wp2_with fail
 clear ca00 ca01 ca02 fa00 fa01 fa02 la0 cb00 cb01 cb02 fb00 fb01 fb02 lb0 cc00 cc01 cc02 fc00 fc01 fc02 lc0
 (first|(have hcall:=canon_ar Ha.out (by omega);refine cM hcall ?_;clear hcall)|refine cM (canon_ar Ha.out (by omega)) ?_)
 rintro e w3 ⟨v3,rfl,hz,hb⟩;obtain⟨z_b,z_a,z_n,z_c,z_d,z_m,z_e,rfl⟩:=hz.litb;have Xa0:=lH (xP hb Xa0.out);have Xb0:=lH (xP hb Xb0.out);have Xc0:=lH (xP hb Xc0.out);have HB:=lH (bC HB.out hb);have Hz:=lH hz;clear hb hz;obtain⟨ca00,ca01,ca02,fa00,fa01,fa02⟩:=Xa0.out.c3;have la0:=Xa0.out.lt;obtain⟨cb00,cb01,cb02,fb00,fb01,fb02⟩:=Xb0.out.c3;have lb0:=Xb0.out.lt;obtain⟨cc00,cc01,cc02,fc00,fc01,fc02⟩:=Xc0.out.c3;have lc0:=Xc0.out.lt;go_wp2;clear ca00 ca01 ca02 fa00 fa01 fa02 la0 cb00 cb01 cb02 fb00 fb01 fb02 lb0 cc00 cc01 cc02 fc00 fc01 fc02 lc0;obtain⟨W4,hW⟩:∃W4,W4=(World.setCell (World.setCell (World.setCell w3 ⟨w.heap.size+1+1,0,none⟩ (.bool z_b)) ⟨w.heap.size+1+1,1,none⟩ (.slice z_a z_n z_c)) ⟨w.heap.size+1+1,2,none⟩ (.slice z_d z_m z_e)):=⟨_,rfl⟩;rw[←hW];obtain⟨xc0,hk,hf,hbb,hz⟩:=stored3s hW Xc0.out (by first|exact nB_ _|exact nS_ _ _ _) (by first|exact nB_ _|exact nS_ _ _ _) (by first|exact nB_ _|exact nS_ _ _ _);have Hz:=lH (CR.keep Hz.out hk);have Xa0:=lH (hf _ _ _ Xa0.out (by omega));have Xb0:=lH (hf _ _ _ Xb0.out (by omega));have Xc0:=lH xc0;have HB:=lH (hbb _ HB.out Gc0.out);clear hW hk hf hbb xc0;clear hz;exact ret_rat1 rfl rfl rfl Xc0.out Hz.out HB.out
theorem rmax_f {L M:Nat}{qa:Rat}{ba:Bool}{sa ta:Value}{qb:Rat}{bb:Bool}{sb tb:Value}{w:World}(k:Int)(hk:cmpQ qa qb=k)(hk0:decide (0≤k)=false)(ha:AR qa L w (.agg #[.bool ba,sa,ta]))(hb:AR qb M w (.agg #[.bool bb,sb,tb]))(hL:L≤100000000)(hM:M≤100000000):
  Calls Tryz.prog 68 #[.agg #[.bool ba,sa,ta],.agg #[.bool bb,sb,tb]] w (Ret w (CR qb (max M 1))):=by
 have Ha:=lH ha;have Hb:=lH hb;have Hk:=lH hk;have Hk0:=lH hk0;clear ha hb hk hk0
 go_enter Tryz.func68,Tryz.ntmps68
 have HB:=lH (bR_ w.heap.size w)
 go_wp2_with fail
 obtain⟨W1,hW⟩:∃W1,W1=(World.alloc (World.alloc (World.alloc w (.cells #[.bool ba,sa,ta] 56)) (.cells #[.bool bb,sb,tb] 56)) (.cells #[.bool false,.slice none 0 0,.slice none 0 0] 56)):=⟨_,rfl⟩;rw[←hW];obtain⟨xa0,xb0,xc0,hk,hb⟩:=boxes_3 _ _ _ _ _ _ _ hW;clear hW;have Ha:=lH (AR.keep Ha.out hk);have Hb:=lH (AR.keep Hb.out hk);have Ga0:=lH (show w.heap.size≤w.heap.size from tL_ HB.out.size (by omega));have Gb0:=lH (show w.heap.size≤w.heap.size+1 from tL_ HB.out.size (by omega));have Gc0:=lH (show w.heap.size≤w.heap.size+1+1 from tL_ HB.out.size (by omega));have Xa0:=lH xa0;have Xb0:=lH xb0;have Xc0:=lH xc0;have HB:=lH (bC HB.out hb);clear hk hb xa0 xb0 xc0
 (first|(have hcall:=rcmp_ar k Ha.out Hb.out Hk.out (by omega) (by omega);refine cM hcall ?_;clear hcall)|refine cM (rcmp_ar k Ha.out Hb.out Hk.out (by omega) (by omega)) ?_)
 rintro e w2 ⟨v2,rfl,rfl,hb⟩;have Hb:=lH (AR.keep Hb.out (kC hb));have Xa0:=lH (xP hb Xa0.out);have Xb0:=lH (xP hb Xb0.out);have Xc0:=lH (xP hb Xc0.out);have HB:=lH (bC HB.out hb);clear hb;have hk0:decide (0≤k)=false:=Hk0.out;obtain⟨ca00,ca01,ca02,fa00,fa01,fa02⟩:=Xa0.out.c3;have la0:=Xa0.out.lt;obtain⟨cb00,cb01,cb02,fb00,fb01,fb02⟩:=Xb0.out.c3;have lb0:=Xb0.out.lt;obtain⟨cc00,cc01,cc02,fc00,fc01,fc02⟩:=Xc0.out.c3;have lc0:=Xc0.out.lt
 go_wp2_with fail
 clear ca00 ca01 ca02 fa00 fa01 fa02 la0 cb00 cb01 cb02 fb00 fb01 fb02 lb0 cc00 cc01 cc02 fc00 fc01 fc02 lc0
 (first|(have hcall:=canon_ar Hb.out (by omega);refine cM hcall ?_;clear hcall)|refine cM (canon_ar Hb.out (by omega)) ?_)
 rintro e w3 ⟨v3,rfl,hz,hb⟩;obtain⟨z_b,z_a,z_n,z_c,z_d,z_m,z_e,rfl⟩:=hz.litb;have Xa0:=lH (xP hb Xa0.out);have Xb0:=lH (xP hb Xb0.out);have Xc0:=lH (xP hb Xc0.out);have HB:=lH (bC HB.out hb);have Hz:=lH hz;clear hb hz;obtain⟨ca00,ca01,ca02,fa00,fa01,fa02⟩:=Xa0.out.c3;have la0:=Xa0.out.lt;obtain⟨cb00,cb01,cb02,fb00,fb01,fb02⟩:=Xb0.out.c3;have lb0:=Xb0.out.lt;obtain⟨cc00,cc01,cc02,fc00,fc01,fc02⟩:=Xc0.out.c3;have lc0:=Xc0.out.lt;go_wp2;clear ca00 ca01 ca02 fa00 fa01 fa02 la0 cb00 cb01 cb02 fb00 fb01 fb02 lb0 cc00 cc01 cc02 fc00 fc01 fc02 lc0;obtain⟨W4,hW⟩:∃W4,W4=(World.setCell (World.setCell (World.setCell w3 ⟨w.heap.size+1+1,0,none⟩ (.bool z_b)) ⟨w.heap.size+1+1,1,none⟩ (.slice z_a z_n z_c)) ⟨w.heap.size+1+1,2,none⟩ (.slice z_d z_m z_e)):=⟨_,rfl⟩;rw[←hW];obtain⟨xc0,hk,hf,hbb,hz⟩:=stored3s hW Xc0.out (by first|exact nB_ _|exact nS_ _ _ _) (by first|exact nB_ _|exact nS_ _ _ _) (by first|exact nB_ _|exact nS_ _ _ _);have Hz:=lH (CR.keep Hz.out hk);have Xa0:=lH (hf _ _ _ Xa0.out (by omega));have Xb0:=lH (hf _ _ _ Xb0.out (by omega));have Xc0:=lH xc0;have HB:=lH (hbb _ HB.out Gc0.out);clear hW hk hf hbb xc0;clear hz;exact ret_rat1 rfl rfl rfl Xc0.out Hz.out HB.out
theorem rmax_ar {a b:Rat}{L M:Nat}{u v:Value}{w:World}(h:AR a L w u)(h':AR b M w v)(hL:L≤100000000)(hM:M≤100000000):Calls Tryz.prog 68 #[u,v] w (Ret w (CR (if b≤a then a else b) (max (max L M) 1))):=by
 obtain⟨ba,sa,ta,rfl⟩:=h.agg;obtain⟨bb,sb,tb,rfl⟩:=h'.agg
 by_cases hc:b≤a
 ·rw[if_pos hc];exact(rmax_t _ rfl (by simpa using cmpQ_ge.2 hc) h h' hL hM).mono fun e w' k=>k.imp fun _ _ x=>x.mono (by omega)
 ·rw[if_neg hc];exact(rmax_f _ rfl (by simpa using mt cmpQ_ge.1 hc) h h' hL hM).mono fun e w' k=>k.imp fun _ _ x=>x.mono (by omega)
theorem r3one_is {d L:Nat}{t:Value}{w:World}(h:Is d L w t):Calls Tryz.prog 141 #[t] w (Ret w (Is (un d) (max L 1))):=by
 rcases eP_ d with h0|h0
 ·go_enter Tryz.func141,Tryz.ntmps141
  go_wp2_with fail
  refine cM (rmake_is h) ?_;rintro e w1 ⟨v1,rfl,hn,hb⟩;obtain⟨a,n,c,rfl⟩:=hn.is.lit;have dx:((n:Int)==0)=true:=hn.len0 true (by rw[h0];rfl);have HB:=lH hb;have H0:=lH h0;clear hb hn h0;go_wp2
  go_ret
  exact⟨_,rfl,Is.cast (un_zero H0.out) (Is.mono (Is.one _ _) (Nat.le_max_right _ _)),HB.out.alloc HB.out.size _⟩
 ·go_enter Tryz.func141,Tryz.ntmps141
  go_wp2_with fail
  refine cM (rmake_is h) ?_;rintro e w1 ⟨v1,rfl,hn,hb⟩;obtain⟨a,n,c,rfl⟩:=hn.is.lit;have dx:((n:Int)==0)=false:=hn.len0 false (beq_eq_false_iff_ne.2 (Nat.ne_of_gt h0));have HB:=lH hb;have Hn:=lH hn;clear hb hn;go_wp2
  go_ret
  exact⟨_,rfl,Is.cast (un_of h0) (Is.mono Hn.out.is (Nat.le_max_left _ _)),HB.out⟩
theorem rdivmod_pos {a b L M:Nat}{u v:Value}{w:World}(hb:0<b)(h:Is a L w u)(h':Is b M w v)(hL:L≤2147483648)(hM:M≤2147483648):
  Calls Tryz.prog 193 #[u,v] w (Ret w (Can2E (a/b) (a % b) L L 0)):=by
 have hs:=h.sz_le;obtain⟨xs,h,rfl,hl⟩:=h;obtain⟨ys,h',rfl,hl'⟩:=h';have:=rdivmod_any _ _ _ _ _ h h' (by omega) (by omega);rw[dmR_pos hb,dmE_pos hb]at this;refine this.mono ?_;rintro e w' ⟨v,rfl,⟨q,r,rfl,h1,h2⟩,hB⟩;exact⟨_,rfl,⟨_,_,rfl,⟨h1,tL_ (sz_div _ _) hs⟩,⟨h2,tL_ (sz_mono (Nat.mod_le _ _)) hs⟩⟩,hB⟩
def PU1 (q L:Nat)(w:World)(v:Value):Prop:=∃b o c r,v= .tuple #[.slice (some ⟨b,o,none⟩) 1 c,r,.int .i64 0]∧Can q L w (.slice (some ⟨b,o,none⟩) 1 c)∧w.cell? ⟨b,o,none⟩=some (.int .u32 1)
def PUN (q L:Nat)(w:World)(v:Value):Prop:=∃a n c r,v= .tuple #[.slice a n c,r,.int .i64 0]∧Can q L w (.slice a n c)∧((n:Int)==1)=false
def PUK (q L:Nat)(w:World)(v:Value):Prop:=∃b o c r,∃k:Int,v= .tuple #[.slice (some ⟨b,o,none⟩) 1 c,r,.int .i64 0]∧Can q L w (.slice (some ⟨b,o,none⟩) 1 c)∧w.cell? ⟨b,o,none⟩=some (.int .u32 k)∧(k==1)=false
theorem one_limb {q L:Nat}{w:World}{v:Value}(hl:((sz q:Nat):Int)=1)(h:Can q L w v):∃b o c,v= .slice (some ⟨b,o,none⟩) 1 c∧w.cell? ⟨b,o,none⟩=some (.int .u32 (q:Int)):=by
 obtain⟨⟨ad,n,cap,rfl,hn,hnc,hm,hx,hs⟩,-⟩:=h;have hz:sz q=1:=by omega
 obtain rfl:n=1:=by unfold sz at hz;omega
 obtain⟨b,off,rfl,hb,hc⟩:=hs (by decide);have h0:0<q:=by
  rcases eP_ q with rfl|h0
  ·rw[sz_zero]at hz;omega
  ·exact h0
 have h1:q<4294967296:=by
  have:=val_lt (xs:=limbs q) hx;rw[val_limbs,hn]at this;simpa using this
 have:=hc 0 (by decide);rw[limbs_single h0 h1]at this;exact⟨b,off,cap,rfl,this⟩
theorem rdivmod_u1 {a b L M:Nat}{u v:Value}{w:World}(hb:0<b)(he:(a/b==1)=true)(h:Is a L w u)(h':Is b M w v)(hL:L≤2147483648)(hM:M≤2147483648):
  Calls Tryz.prog 193 #[u,v] w (Ret w (PU1 (a/b) L)):=by
 have e1:a/b=1:=by simpa using he
 refine(rdivmod_pos hb h h' hL hM).mono fun _ _ k=>k.imp fun w' x hx=> ?_;obtain⟨q,r,rfl,h1,h2⟩:=hx;rw[e1]at h1 ⊢;obtain⟨bb,o,c,rfl,hc⟩:=one_limb (by rw[show sz 1=1 by unfold sz;rw[limbs_single (by decide) (by decide)];rfl];rfl) h1;exact⟨_,_,_,_,rfl,h1,hc⟩
theorem rdivmod_un {a b L M:Nat}{u v:Value}{w:World}(hb:0<b)(he:((sz (a/b):Nat):Int)≠1)(h:Is a L w u)(h':Is b M w v)(hL:L≤2147483648)(hM:M≤2147483648):
  Calls Tryz.prog 193 #[u,v] w (Ret w (PUN (a/b) L)):=by
 refine(rdivmod_pos hb h h' hL hM).mono fun _ _ k=>k.imp fun w' x hx=> ?_;obtain⟨q,r,rfl,h1,h2⟩:=hx;obtain⟨bb,n,c,rfl⟩:=h1.is.lit;exact⟨_,_,_,_,rfl,h1,by rw[h1.len];simpa using he⟩
theorem rdivmod_uk {a b L M:Nat}{u v:Value}{w:World}(hb:0<b)(he:(a/b==1)=false)(hl:((sz (a/b):Nat):Int)=1)(h:Is a L w u)(h':Is b M w v)(hL:L≤2147483648)(hM:M≤2147483648):
  Calls Tryz.prog 193 #[u,v] w (Ret w (PUK (a/b) L)):=by
 refine(rdivmod_pos hb h h' hL hM).mono fun _ _ k=>k.imp fun w' x hx=> ?_;obtain⟨q,r,rfl,h1,h2⟩:=hx;obtain⟨bb,o,c,rfl,hc⟩:=one_limb hl h1;refine⟨_,_,_,_,_,rfl,h1,hc,?_⟩;rw[beq_eq_false_iff_ne];have:a/b≠1:=by simpa using he
 omega
theorem Can.pos {m L:Nat}{w:World}{a:Option Addr}{n c:Nat}(h:Can m L w (.slice a n c))(hm:0<m):decide (0<n)=true:=by
 rw[h.len];simpa using sz_pos hm
theorem Can.posF {m L:Nat}{w:World}{a:Option Addr}{n c:Nat}(h:Can m L w (.slice a n c))(hm:m=0):decide (0<n)=false:=by
 rw[h.len,hm,sz_zero];rfl
theorem num_pos {n d:Nat}(h:0<n):0<n/Nat.gcd n d:=Nat.div_pos (Nat.le_of_dvd h (Nat.gcd_dvd_left n d)) (Nat.gcd_pos_of_pos_left d h)
theorem den_zero {n d:Nat}(hz:n=0)(hd:0<d):(d/Nat.gcd n d==1)=true:=by
 rw[hz,Nat.gcd_zero_left,Nat.div_self hd];rfl
theorem rquot_zero {neg:Bool}{n d L M:Nat}{w W:World}{s t:Value}(hz:n=0)(hd:0<d)(hs:Can (n/Nat.gcd n d) L W s)(h:Is d M w t):CR (mkRat (iv neg n) d) (max L M) W (.agg #[.bool false,s,.slice none 0 0]):=by
 have h1:=one_le_of_is hd h;rw[hz,Nat.zero_div]at hs;rw[hz,show iv neg 0=0 by cases neg<;>rfl,Rat.zero_mkRat];refine⟨⟨s,_,rfl,hs.1,?_⟩,?_,?_⟩
 ·show Sl W _ (limbs 0);rw[limbs_zero];exact Sl.nil W
 ·exact sz_zero_le _
 ·exact tL_ (sz_le (by decide):sz 1≤1) (by omega)
theorem r3quot_0t {n d L M:Nat}{s t:Value}{w:World}(hz:n=0)(hn:Is n L w s)(hm:Is d M w t)(hd:0<d)(hL:L≤1000000000)(hM:M≤1000000000):
  Calls Tryz.prog 143 #[.bool true,s,t] w (Ret w (CR (mkRat (iv true n) d) (max L M))):=by
 have Hn:=lH hn;have Hm:=lH hm;have Hd:=lH hd;have Hz:=lH hz;clear hn hm hd hz
 go_enter Tryz.func143,Tryz.ntmps143
 have HB:=lH (bR_ w.heap.size w)
 go_wp2_with fail
 obtain⟨W1,hW⟩:∃W1,W1=(World.alloc w (.cells #[.bool false,.slice none 0 0,.slice none 0 0] 56)):=⟨_,rfl⟩;rw[←hW];obtain⟨xa0,hk,hb⟩:=boxes_1 _ _ _ hW;clear hW;have Hn:=lH (iK Hn.out hk);have Hm:=lH (iK Hm.out hk);have Ga0:=lH (show w.heap.size≤w.heap.size from tL_ HB.out.size (by omega));have Xa0:=lH xa0;have HB:=lH (bC HB.out hb);clear hk hb xa0
 (first|(have hcall:=rgcd_can Hn.out Hm.out (by omega) (by omega);refine cM hcall ?_;clear hcall)|refine cM (rgcd_can Hn.out Hm.out (by omega) (by omega)) ?_)
 rintro e w2 ⟨v2,rfl,hg,hb⟩;obtain⟨g_a,g_n,g_c,rfl⟩:=hg.is.lit;have Hn:=lH (iK Hn.out (kC hb));have Hm:=lH (iK Hm.out (kC hb));have Xa0:=lH (xP hb Xa0.out);have HB:=lH (bC HB.out hb);have Hg:=lH hg;clear hb hg;obtain⟨ca00,ca01,ca02,fa00,fa01,fa02⟩:=Xa0.out.c3;have la0:=Xa0.out.lt
 go_wp2_with fail
 clear ca00 ca01 ca02 fa00 fa01 fa02 la0
 (first|(have hcall:=rdivmod_pos (gcd_pos Hd.out) Hn.out Hg.out.is (by omega) (by omega);refine cM hcall ?_;clear hcall)|refine cM (rdivmod_pos (gcd_pos Hd.out) Hn.out Hg.out.is (by omega) (by omega)) ?_)
 rintro e w3 ⟨t3,rfl,⟨v3,u3,rfl,hqa,hra⟩,hb⟩;obtain⟨qa_a,qa_n,qa_c,rfl⟩:=hqa.is.lit;obtain⟨ra_a,ra_n,ra_c,rfl⟩:=hra.is.lit;have Hm:=lH (iK Hm.out (kC hb));have Hg:=lH (Can.keep Hg.out (kC hb));have Xa0:=lH (xP hb Xa0.out);have HB:=lH (bC HB.out hb);have Hqa:=lH hqa;have Hra:=lH hra;clear hb hqa hra;have hp0:decide (0<qa_n)=false:=Hqa.out.posF (by rw[Hz.out,Nat.zero_div]);obtain⟨ca00,ca01,ca02,fa00,fa01,fa02⟩:=Xa0.out.c3;have la0:=Xa0.out.lt
 go_wp2_with fail
 clear ca00 ca01 ca02 fa00 fa01 fa02 la0
 (first|(have hcall:=rdivmod_u1 (gcd_pos Hd.out) (den_zero Hz.out Hd.out) Hm.out Hg.out.is (by omega) (by omega);refine cM hcall ?_;clear hcall)|refine cM (rdivmod_u1 (gcd_pos Hd.out) (den_zero Hz.out Hd.out) Hm.out Hg.out.is (by omega) (by omega)) ?_)
 rintro e w4 ⟨t4,rfl,⟨qb_b,qb_o,qb_c,u4,rfl,hqb,hcell⟩,hb⟩;have Hm:=lH (iK Hm.out (kC hb));have Hqa:=lH (Can.keep Hqa.out (kC hb));have Xa0:=lH (xP hb Xa0.out);have HB:=lH (bC HB.out hb);have Hqb:=lH hqb;clear hb hqb;obtain⟨ca00,ca01,ca02,fa00,fa01,fa02⟩:=Xa0.out.c3;have la0:=Xa0.out.lt;go_wp2;clear ca00 ca01 ca02 fa00 fa01 fa02 la0;obtain⟨W5,hW⟩:∃W5,W5=(World.setCell (World.setCell (World.setCell w4 ⟨w.heap.size,0,none⟩ (.bool false)) ⟨w.heap.size,1,none⟩ (.slice qa_a qa_n qa_c)) ⟨w.heap.size,2,none⟩ (.slice none 0 0)):=⟨_,rfl⟩;rw[←hW];obtain⟨xa0,hk,hf,hbb,hz⟩:=stored3s hW Xa0.out (by first|exact nB_ _|exact nS_ _ _ _) (by first|exact nB_ _|exact nS_ _ _ _) (by first|exact nB_ _|exact nS_ _ _ _);have Hm:=lH (iK Hm.out hk);have Hqa:=lH (Can.keep Hqa.out hk);have Xa0:=lH xa0;have HB:=lH (hbb _ HB.out Ga0.out);clear hW hk hf hbb xa0;clear hz;exact ret_rat1 rfl rfl rfl Xa0.out (rquot_zero (neg:=true) Hz.out Hd.out Hqa.out Hm.out) HB.out
theorem r3quot_1t {n d L M:Nat}{s t:Value}{w:World}(hz:0<n)(he:(d/Nat.gcd n d==1)=true)(hn:Is n L w s)(hm:Is d M w t)(hd:0<d)(hL:L≤1000000000)(hM:M≤1000000000):
  Calls Tryz.prog 143 #[.bool true,s,t] w (Ret w (CR (mkRat (iv true n) d) (max L M))):=by
 have Hn:=lH hn;have Hm:=lH hm;have Hd:=lH hd;have Hz:=lH hz;have He:=lH he;clear hn hm hd hz he
 go_enter Tryz.func143,Tryz.ntmps143
 have HB:=lH (bR_ w.heap.size w)
 go_wp2_with fail
 obtain⟨W1,hW⟩:∃W1,W1=(World.alloc w (.cells #[.bool false,.slice none 0 0,.slice none 0 0] 56)):=⟨_,rfl⟩;rw[←hW];obtain⟨xa0,hk,hb⟩:=boxes_1 _ _ _ hW;clear hW;have Hn:=lH (iK Hn.out hk);have Hm:=lH (iK Hm.out hk);have Ga0:=lH (show w.heap.size≤w.heap.size from tL_ HB.out.size (by omega));have Xa0:=lH xa0;have HB:=lH (bC HB.out hb);clear hk hb xa0
 (first|(have hcall:=rgcd_can Hn.out Hm.out (by omega) (by omega);refine cM hcall ?_;clear hcall)|refine cM (rgcd_can Hn.out Hm.out (by omega) (by omega)) ?_)
 rintro e w2 ⟨v2,rfl,hg,hb⟩;obtain⟨g_a,g_n,g_c,rfl⟩:=hg.is.lit;have Hn:=lH (iK Hn.out (kC hb));have Hm:=lH (iK Hm.out (kC hb));have Xa0:=lH (xP hb Xa0.out);have HB:=lH (bC HB.out hb);have Hg:=lH hg;clear hb hg;obtain⟨ca00,ca01,ca02,fa00,fa01,fa02⟩:=Xa0.out.c3;have la0:=Xa0.out.lt
 go_wp2_with fail
 clear ca00 ca01 ca02 fa00 fa01 fa02 la0
 (first|(have hcall:=rdivmod_pos (gcd_pos Hd.out) Hn.out Hg.out.is (by omega) (by omega);refine cM hcall ?_;clear hcall)|refine cM (rdivmod_pos (gcd_pos Hd.out) Hn.out Hg.out.is (by omega) (by omega)) ?_)
 rintro e w3 ⟨t3,rfl,⟨v3,u3,rfl,hqa,hra⟩,hb⟩;obtain⟨qa_a,qa_n,qa_c,rfl⟩:=hqa.is.lit;obtain⟨ra_a,ra_n,ra_c,rfl⟩:=hra.is.lit;have Hm:=lH (iK Hm.out (kC hb));have Hg:=lH (Can.keep Hg.out (kC hb));have Xa0:=lH (xP hb Xa0.out);have HB:=lH (bC HB.out hb);have Hqa:=lH hqa;have Hra:=lH hra;clear hb hqa hra;have hp0:decide (0<qa_n)=true:=Hqa.out.pos (num_pos Hz.out);obtain⟨ca00,ca01,ca02,fa00,fa01,fa02⟩:=Xa0.out.c3;have la0:=Xa0.out.lt
 go_wp2_with fail
 clear ca00 ca01 ca02 fa00 fa01 fa02 la0
 (first|(have hcall:=rdivmod_u1 (gcd_pos Hd.out) He.out Hm.out Hg.out.is (by omega) (by omega);refine cM hcall ?_;clear hcall)|refine cM (rdivmod_u1 (gcd_pos Hd.out) He.out Hm.out Hg.out.is (by omega) (by omega)) ?_)
 rintro e w4 ⟨t4,rfl,⟨qb_b,qb_o,qb_c,u4,rfl,hqb,hcell⟩,hb⟩;have Hm:=lH (iK Hm.out (kC hb));have Hqa:=lH (Can.keep Hqa.out (kC hb));have Xa0:=lH (xP hb Xa0.out);have HB:=lH (bC HB.out hb);have Hqb:=lH hqb;clear hb hqb;obtain⟨ca00,ca01,ca02,fa00,fa01,fa02⟩:=Xa0.out.c3;have la0:=Xa0.out.lt;go_wp2;clear ca00 ca01 ca02 fa00 fa01 fa02 la0;obtain⟨W5,hW⟩:∃W5,W5=(World.setCell (World.setCell (World.setCell w4 ⟨w.heap.size,0,none⟩ (.bool true)) ⟨w.heap.size,1,none⟩ (.slice qa_a qa_n qa_c)) ⟨w.heap.size,2,none⟩ (.slice none 0 0)):=⟨_,rfl⟩;rw[←hW];obtain⟨xa0,hk,hf,hbb,hz⟩:=stored3s hW Xa0.out (by first|exact nB_ _|exact nS_ _ _ _) (by first|exact nB_ _|exact nS_ _ _ _) (by first|exact nB_ _|exact nS_ _ _ _);have Hm:=lH (iK Hm.out hk);have Hqa:=lH (Can.keep Hqa.out hk);have Xa0:=lH xa0;have HB:=lH (hbb _ HB.out Ga0.out);clear hW hk hf hbb xa0;clear hz;exact ret_rat1 rfl rfl rfl Xa0.out (quot_three Hz.out Hd.out He.out Hqa.out Hm.out) HB.out
theorem r3quot_2t {n d L M:Nat}{s t:Value}{w:World}(hz:0<n)(he:(d/Nat.gcd n d==1)=false)(hl:((sz (d/Nat.gcd n d):Nat):Int)≠1)(hn:Is n L w s)(hm:Is d M w t)(hd:0<d)(hL:L≤1000000000)(hM:M≤1000000000):
  Calls Tryz.prog 143 #[.bool true,s,t] w (Ret w (CR (mkRat (iv true n) d) (max L M))):=by
 have Hn:=lH hn;have Hm:=lH hm;have Hd:=lH hd;have Hz:=lH hz;have He:=lH he;have Hl:=lH hl;clear hn hm hd hz he hl
 go_enter Tryz.func143,Tryz.ntmps143
 have HB:=lH (bR_ w.heap.size w)
 go_wp2_with fail
 obtain⟨W1,hW⟩:∃W1,W1=(World.alloc w (.cells #[.bool false,.slice none 0 0,.slice none 0 0] 56)):=⟨_,rfl⟩;rw[←hW];obtain⟨xa0,hk,hb⟩:=boxes_1 _ _ _ hW;clear hW;have Hn:=lH (iK Hn.out hk);have Hm:=lH (iK Hm.out hk);have Ga0:=lH (show w.heap.size≤w.heap.size from tL_ HB.out.size (by omega));have Xa0:=lH xa0;have HB:=lH (bC HB.out hb);clear hk hb xa0
 (first|(have hcall:=rgcd_can Hn.out Hm.out (by omega) (by omega);refine cM hcall ?_;clear hcall)|refine cM (rgcd_can Hn.out Hm.out (by omega) (by omega)) ?_)
 rintro e w2 ⟨v2,rfl,hg,hb⟩;obtain⟨g_a,g_n,g_c,rfl⟩:=hg.is.lit;have Hn:=lH (iK Hn.out (kC hb));have Hm:=lH (iK Hm.out (kC hb));have Xa0:=lH (xP hb Xa0.out);have HB:=lH (bC HB.out hb);have Hg:=lH hg;clear hb hg;obtain⟨ca00,ca01,ca02,fa00,fa01,fa02⟩:=Xa0.out.c3;have la0:=Xa0.out.lt
 go_wp2_with fail
 clear ca00 ca01 ca02 fa00 fa01 fa02 la0
 (first|(have hcall:=rdivmod_pos (gcd_pos Hd.out) Hn.out Hg.out.is (by omega) (by omega);refine cM hcall ?_;clear hcall)|refine cM (rdivmod_pos (gcd_pos Hd.out) Hn.out Hg.out.is (by omega) (by omega)) ?_)
 rintro e w3 ⟨t3,rfl,⟨v3,u3,rfl,hqa,hra⟩,hb⟩;obtain⟨qa_a,qa_n,qa_c,rfl⟩:=hqa.is.lit;obtain⟨ra_a,ra_n,ra_c,rfl⟩:=hra.is.lit;have Hm:=lH (iK Hm.out (kC hb));have Hg:=lH (Can.keep Hg.out (kC hb));have Xa0:=lH (xP hb Xa0.out);have HB:=lH (bC HB.out hb);have Hqa:=lH hqa;have Hra:=lH hra;clear hb hqa hra;have hp0:decide (0<qa_n)=true:=Hqa.out.pos (num_pos Hz.out);obtain⟨ca00,ca01,ca02,fa00,fa01,fa02⟩:=Xa0.out.c3;have la0:=Xa0.out.lt
 go_wp2_with fail
 clear ca00 ca01 ca02 fa00 fa01 fa02 la0
 (first|(have hcall:=rdivmod_un (gcd_pos Hd.out) Hl.out Hm.out Hg.out.is (by omega) (by omega);refine cM hcall ?_;clear hcall)|refine cM (rdivmod_un (gcd_pos Hd.out) Hl.out Hm.out Hg.out.is (by omega) (by omega)) ?_)
 rintro e w4 ⟨t4,rfl,⟨qb_a,qb_n,qb_c,u4,rfl,hqb,hlen⟩,hb⟩;have Hqa:=lH (Can.keep Hqa.out (kC hb));have Xa0:=lH (xP hb Xa0.out);have HB:=lH (bC HB.out hb);have Hqb:=lH hqb;clear hb hqb;obtain⟨ca00,ca01,ca02,fa00,fa01,fa02⟩:=Xa0.out.c3;have la0:=Xa0.out.lt;go_wp2;clear ca00 ca01 ca02 fa00 fa01 fa02 la0;obtain⟨W5,hW⟩:∃W5,W5=(World.setCell (World.setCell (World.setCell w4 ⟨w.heap.size,0,none⟩ (.bool true)) ⟨w.heap.size,1,none⟩ (.slice qa_a qa_n qa_c)) ⟨w.heap.size,2,none⟩ (.slice qb_a qb_n qb_c)):=⟨_,rfl⟩;rw[←hW];obtain⟨xa0,hk,hf,hbb,hz⟩:=stored3s hW Xa0.out (by first|exact nB_ _|exact nS_ _ _ _) (by first|exact nB_ _|exact nS_ _ _ _) (by first|exact nB_ _|exact nS_ _ _ _);have Hqa:=lH (Can.keep Hqa.out hk);have Hqb:=lH (Can.keep Hqb.out hk);have Xa0:=lH xa0;have HB:=lH (hbb _ HB.out Ga0.out);clear hW hk hf hbb xa0;clear hz;exact ret_rat1 rfl rfl rfl Xa0.out (quot_four Hz.out Hd.out He.out Hqa.out Hqb.out) HB.out
theorem r3quot_3t {n d L M:Nat}{s t:Value}{w:World}(hz:0<n)(he:(d/Nat.gcd n d==1)=false)(hl:((sz (d/Nat.gcd n d):Nat):Int)=1)(hn:Is n L w s)(hm:Is d M w t)(hd:0<d)(hL:L≤1000000000)(hM:M≤1000000000):
  Calls Tryz.prog 143 #[.bool true,s,t] w (Ret w (CR (mkRat (iv true n) d) (max L M))):=by
 have Hn:=lH hn;have Hm:=lH hm;have Hd:=lH hd;have Hz:=lH hz;have He:=lH he;have Hl:=lH hl;clear hn hm hd hz he hl
 go_enter Tryz.func143,Tryz.ntmps143
 have HB:=lH (bR_ w.heap.size w)
 go_wp2_with fail
 obtain⟨W1,hW⟩:∃W1,W1=(World.alloc w (.cells #[.bool false,.slice none 0 0,.slice none 0 0] 56)):=⟨_,rfl⟩;rw[←hW];obtain⟨xa0,hk,hb⟩:=boxes_1 _ _ _ hW;clear hW;have Hn:=lH (iK Hn.out hk);have Hm:=lH (iK Hm.out hk);have Ga0:=lH (show w.heap.size≤w.heap.size from tL_ HB.out.size (by omega));have Xa0:=lH xa0;have HB:=lH (bC HB.out hb);clear hk hb xa0
 (first|(have hcall:=rgcd_can Hn.out Hm.out (by omega) (by omega);refine cM hcall ?_;clear hcall)|refine cM (rgcd_can Hn.out Hm.out (by omega) (by omega)) ?_)
 rintro e w2 ⟨v2,rfl,hg,hb⟩;obtain⟨g_a,g_n,g_c,rfl⟩:=hg.is.lit;have Hn:=lH (iK Hn.out (kC hb));have Hm:=lH (iK Hm.out (kC hb));have Xa0:=lH (xP hb Xa0.out);have HB:=lH (bC HB.out hb);have Hg:=lH hg;clear hb hg;obtain⟨ca00,ca01,ca02,fa00,fa01,fa02⟩:=Xa0.out.c3;have la0:=Xa0.out.lt
 go_wp2_with fail
 clear ca00 ca01 ca02 fa00 fa01 fa02 la0
 (first|(have hcall:=rdivmod_pos (gcd_pos Hd.out) Hn.out Hg.out.is (by omega) (by omega);refine cM hcall ?_;clear hcall)|refine cM (rdivmod_pos (gcd_pos Hd.out) Hn.out Hg.out.is (by omega) (by omega)) ?_)
 rintro e w3 ⟨t3,rfl,⟨v3,u3,rfl,hqa,hra⟩,hb⟩;obtain⟨qa_a,qa_n,qa_c,rfl⟩:=hqa.is.lit;obtain⟨ra_a,ra_n,ra_c,rfl⟩:=hra.is.lit;have Hm:=lH (iK Hm.out (kC hb));have Hg:=lH (Can.keep Hg.out (kC hb));have Xa0:=lH (xP hb Xa0.out);have HB:=lH (bC HB.out hb);have Hqa:=lH hqa;have Hra:=lH hra;clear hb hqa hra;have hp0:decide (0<qa_n)=true:=Hqa.out.pos (num_pos Hz.out);obtain⟨ca00,ca01,ca02,fa00,fa01,fa02⟩:=Xa0.out.c3;have la0:=Xa0.out.lt
 go_wp2_with fail
 clear ca00 ca01 ca02 fa00 fa01 fa02 la0
 (first|(have hcall:=rdivmod_uk (gcd_pos Hd.out) He.out Hl.out Hm.out Hg.out.is (by omega) (by omega);refine cM hcall ?_;clear hcall)|refine cM (rdivmod_uk (gcd_pos Hd.out) He.out Hl.out Hm.out Hg.out.is (by omega) (by omega)) ?_)
 rintro e w4 ⟨t4,rfl,⟨qb_b,qb_o,qb_c,u4,qb_k,rfl,hqb,hcell,hk1⟩,hb⟩;have Hqa:=lH (Can.keep Hqa.out (kC hb));have Xa0:=lH (xP hb Xa0.out);have HB:=lH (bC HB.out hb);have Hqb:=lH hqb;clear hb hqb;obtain⟨ca00,ca01,ca02,fa00,fa01,fa02⟩:=Xa0.out.c3;have la0:=Xa0.out.lt;go_wp2;clear ca00 ca01 ca02 fa00 fa01 fa02 la0;obtain⟨W5,hW⟩:∃W5,W5=(World.setCell (World.setCell (World.setCell w4 ⟨w.heap.size,0,none⟩ (.bool true)) ⟨w.heap.size,1,none⟩ (.slice qa_a qa_n qa_c)) ⟨w.heap.size,2,none⟩ (.slice (some ⟨qb_b,qb_o,none⟩) 1 qb_c)):=⟨_,rfl⟩;rw[←hW];obtain⟨xa0,hk,hf,hbb,hz⟩:=stored3s hW Xa0.out (by first|exact nB_ _|exact nS_ _ _ _) (by first|exact nB_ _|exact nS_ _ _ _) (by first|exact nB_ _|exact nS_ _ _ _);have Hqa:=lH (Can.keep Hqa.out hk);have Hqb:=lH (Can.keep Hqb.out hk);have Xa0:=lH xa0;have HB:=lH (hbb _ HB.out Ga0.out);clear hW hk hf hbb xa0;clear hz;exact ret_rat1 rfl rfl rfl Xa0.out (quot_four Hz.out Hd.out He.out Hqa.out Hqb.out) HB.out
theorem r3quot_0f {n d L M:Nat}{s t:Value}{w:World}(hz:n=0)(hn:Is n L w s)(hm:Is d M w t)(hd:0<d)(hL:L≤1000000000)(hM:M≤1000000000):
  Calls Tryz.prog 143 #[.bool false,s,t] w (Ret w (CR (mkRat (iv false n) d) (max L M))):=by
 have Hn:=lH hn;have Hm:=lH hm;have Hd:=lH hd;have Hz:=lH hz;clear hn hm hd hz
 go_enter Tryz.func143,Tryz.ntmps143
 have HB:=lH (bR_ w.heap.size w)
 go_wp2_with fail
 obtain⟨W1,hW⟩:∃W1,W1=(World.alloc w (.cells #[.bool false,.slice none 0 0,.slice none 0 0] 56)):=⟨_,rfl⟩;rw[←hW];obtain⟨xa0,hk,hb⟩:=boxes_1 _ _ _ hW;clear hW;have Hn:=lH (iK Hn.out hk);have Hm:=lH (iK Hm.out hk);have Ga0:=lH (show w.heap.size≤w.heap.size from tL_ HB.out.size (by omega));have Xa0:=lH xa0;have HB:=lH (bC HB.out hb);clear hk hb xa0
 (first|(have hcall:=rgcd_can Hn.out Hm.out (by omega) (by omega);refine cM hcall ?_;clear hcall)|refine cM (rgcd_can Hn.out Hm.out (by omega) (by omega)) ?_)
 rintro e w2 ⟨v2,rfl,hg,hb⟩;obtain⟨g_a,g_n,g_c,rfl⟩:=hg.is.lit;have Hn:=lH (iK Hn.out (kC hb));have Hm:=lH (iK Hm.out (kC hb));have Xa0:=lH (xP hb Xa0.out);have HB:=lH (bC HB.out hb);have Hg:=lH hg;clear hb hg;obtain⟨ca00,ca01,ca02,fa00,fa01,fa02⟩:=Xa0.out.c3;have la0:=Xa0.out.lt
 go_wp2_with fail
 clear ca00 ca01 ca02 fa00 fa01 fa02 la0
 (first|(have hcall:=rdivmod_pos (gcd_pos Hd.out) Hn.out Hg.out.is (by omega) (by omega);refine cM hcall ?_;clear hcall)|refine cM (rdivmod_pos (gcd_pos Hd.out) Hn.out Hg.out.is (by omega) (by omega)) ?_)
 rintro e w3 ⟨t3,rfl,⟨v3,u3,rfl,hqa,hra⟩,hb⟩;obtain⟨qa_a,qa_n,qa_c,rfl⟩:=hqa.is.lit;obtain⟨ra_a,ra_n,ra_c,rfl⟩:=hra.is.lit;have Hm:=lH (iK Hm.out (kC hb));have Hg:=lH (Can.keep Hg.out (kC hb));have Xa0:=lH (xP hb Xa0.out);have HB:=lH (bC HB.out hb);have Hqa:=lH hqa;have Hra:=lH hra;clear hb hqa hra;have hp0:decide (0<qa_n)=false:=Hqa.out.posF (by rw[Hz.out,Nat.zero_div]);obtain⟨ca00,ca01,ca02,fa00,fa01,fa02⟩:=Xa0.out.c3;have la0:=Xa0.out.lt
 go_wp2_with fail
 clear ca00 ca01 ca02 fa00 fa01 fa02 la0
 (first|(have hcall:=rdivmod_u1 (gcd_pos Hd.out) (den_zero Hz.out Hd.out) Hm.out Hg.out.is (by omega) (by omega);refine cM hcall ?_;clear hcall)|refine cM (rdivmod_u1 (gcd_pos Hd.out) (den_zero Hz.out Hd.out) Hm.out Hg.out.is (by omega) (by omega)) ?_)
 rintro e w4 ⟨t4,rfl,⟨qb_b,qb_o,qb_c,u4,rfl,hqb,hcell⟩,hb⟩;have Hm:=lH (iK Hm.out (kC hb));have Hqa:=lH (Can.keep Hqa.out (kC hb));have Xa0:=lH (xP hb Xa0.out);have HB:=lH (bC HB.out hb);have Hqb:=lH hqb;clear hb hqb;obtain⟨ca00,ca01,ca02,fa00,fa01,fa02⟩:=Xa0.out.c3;have la0:=Xa0.out.lt;go_wp2;clear ca00 ca01 ca02 fa00 fa01 fa02 la0;obtain⟨W5,hW⟩:∃W5,W5=(World.setCell (World.setCell (World.setCell w4 ⟨w.heap.size,0,none⟩ (.bool false)) ⟨w.heap.size,1,none⟩ (.slice qa_a qa_n qa_c)) ⟨w.heap.size,2,none⟩ (.slice none 0 0)):=⟨_,rfl⟩;rw[←hW];obtain⟨xa0,hk,hf,hbb,hz⟩:=stored3s hW Xa0.out (by first|exact nB_ _|exact nS_ _ _ _) (by first|exact nB_ _|exact nS_ _ _ _) (by first|exact nB_ _|exact nS_ _ _ _);have Hm:=lH (iK Hm.out hk);have Hqa:=lH (Can.keep Hqa.out hk);have Xa0:=lH xa0;have HB:=lH (hbb _ HB.out Ga0.out);clear hW hk hf hbb xa0;clear hz;exact ret_rat1 rfl rfl rfl Xa0.out (rquot_zero (neg:=false) Hz.out Hd.out Hqa.out Hm.out) HB.out
theorem r3quot_1f {n d L M:Nat}{s t:Value}{w:World}(hz:0<n)(he:(d/Nat.gcd n d==1)=true)(hn:Is n L w s)(hm:Is d M w t)(hd:0<d)(hL:L≤1000000000)(hM:M≤1000000000):
  Calls Tryz.prog 143 #[.bool false,s,t] w (Ret w (CR (mkRat (iv false n) d) (max L M))):=by
 have Hn:=lH hn;have Hm:=lH hm;have Hd:=lH hd;have Hz:=lH hz;have He:=lH he;clear hn hm hd hz he
 go_enter Tryz.func143,Tryz.ntmps143
 have HB:=lH (bR_ w.heap.size w)
 go_wp2_with fail
 obtain⟨W1,hW⟩:∃W1,W1=(World.alloc w (.cells #[.bool false,.slice none 0 0,.slice none 0 0] 56)):=⟨_,rfl⟩;rw[←hW];obtain⟨xa0,hk,hb⟩:=boxes_1 _ _ _ hW;clear hW;have Hn:=lH (iK Hn.out hk);have Hm:=lH (iK Hm.out hk);have Ga0:=lH (show w.heap.size≤w.heap.size from tL_ HB.out.size (by omega));have Xa0:=lH xa0;have HB:=lH (bC HB.out hb);clear hk hb xa0
 (first|(have hcall:=rgcd_can Hn.out Hm.out (by omega) (by omega);refine cM hcall ?_;clear hcall)|refine cM (rgcd_can Hn.out Hm.out (by omega) (by omega)) ?_)
 rintro e w2 ⟨v2,rfl,hg,hb⟩;obtain⟨g_a,g_n,g_c,rfl⟩:=hg.is.lit;have Hn:=lH (iK Hn.out (kC hb));have Hm:=lH (iK Hm.out (kC hb));have Xa0:=lH (xP hb Xa0.out);have HB:=lH (bC HB.out hb);have Hg:=lH hg;clear hb hg;obtain⟨ca00,ca01,ca02,fa00,fa01,fa02⟩:=Xa0.out.c3;have la0:=Xa0.out.lt
 go_wp2_with fail
 clear ca00 ca01 ca02 fa00 fa01 fa02 la0
 (first|(have hcall:=rdivmod_pos (gcd_pos Hd.out) Hn.out Hg.out.is (by omega) (by omega);refine cM hcall ?_;clear hcall)|refine cM (rdivmod_pos (gcd_pos Hd.out) Hn.out Hg.out.is (by omega) (by omega)) ?_)
 rintro e w3 ⟨t3,rfl,⟨v3,u3,rfl,hqa,hra⟩,hb⟩;obtain⟨qa_a,qa_n,qa_c,rfl⟩:=hqa.is.lit;obtain⟨ra_a,ra_n,ra_c,rfl⟩:=hra.is.lit;have Hm:=lH (iK Hm.out (kC hb));have Hg:=lH (Can.keep Hg.out (kC hb));have Xa0:=lH (xP hb Xa0.out);have HB:=lH (bC HB.out hb);have Hqa:=lH hqa;have Hra:=lH hra;clear hb hqa hra;have hp0:decide (0<qa_n)=true:=Hqa.out.pos (num_pos Hz.out);obtain⟨ca00,ca01,ca02,fa00,fa01,fa02⟩:=Xa0.out.c3;have la0:=Xa0.out.lt
 go_wp2_with fail
 clear ca00 ca01 ca02 fa00 fa01 fa02 la0
 (first|(have hcall:=rdivmod_u1 (gcd_pos Hd.out) He.out Hm.out Hg.out.is (by omega) (by omega);refine cM hcall ?_;clear hcall)|refine cM (rdivmod_u1 (gcd_pos Hd.out) He.out Hm.out Hg.out.is (by omega) (by omega)) ?_)
 rintro e w4 ⟨t4,rfl,⟨qb_b,qb_o,qb_c,u4,rfl,hqb,hcell⟩,hb⟩;have Hm:=lH (iK Hm.out (kC hb));have Hqa:=lH (Can.keep Hqa.out (kC hb));have Xa0:=lH (xP hb Xa0.out);have HB:=lH (bC HB.out hb);have Hqb:=lH hqb;clear hb hqb;obtain⟨ca00,ca01,ca02,fa00,fa01,fa02⟩:=Xa0.out.c3;have la0:=Xa0.out.lt;go_wp2;clear ca00 ca01 ca02 fa00 fa01 fa02 la0;obtain⟨W5,hW⟩:∃W5,W5=(World.setCell (World.setCell (World.setCell w4 ⟨w.heap.size,0,none⟩ (.bool false)) ⟨w.heap.size,1,none⟩ (.slice qa_a qa_n qa_c)) ⟨w.heap.size,2,none⟩ (.slice none 0 0)):=⟨_,rfl⟩;rw[←hW];obtain⟨xa0,hk,hf,hbb,hz⟩:=stored3s hW Xa0.out (by first|exact nB_ _|exact nS_ _ _ _) (by first|exact nB_ _|exact nS_ _ _ _) (by first|exact nB_ _|exact nS_ _ _ _);have Hm:=lH (iK Hm.out hk);have Hqa:=lH (Can.keep Hqa.out hk);have Xa0:=lH xa0;have HB:=lH (hbb _ HB.out Ga0.out);clear hW hk hf hbb xa0;clear hz;exact ret_rat1 rfl rfl rfl Xa0.out (quot_three Hz.out Hd.out He.out Hqa.out Hm.out) HB.out
theorem r3quot_2f {n d L M:Nat}{s t:Value}{w:World}(hz:0<n)(he:(d/Nat.gcd n d==1)=false)(hl:((sz (d/Nat.gcd n d):Nat):Int)≠1)(hn:Is n L w s)(hm:Is d M w t)(hd:0<d)(hL:L≤1000000000)(hM:M≤1000000000):
  Calls Tryz.prog 143 #[.bool false,s,t] w (Ret w (CR (mkRat (iv false n) d) (max L M))):=by
 have Hn:=lH hn;have Hm:=lH hm;have Hd:=lH hd;have Hz:=lH hz;have He:=lH he;have Hl:=lH hl;clear hn hm hd hz he hl
 go_enter Tryz.func143,Tryz.ntmps143
 have HB:=lH (bR_ w.heap.size w)
 go_wp2_with fail
 obtain⟨W1,hW⟩:∃W1,W1=(World.alloc w (.cells #[.bool false,.slice none 0 0,.slice none 0 0] 56)):=⟨_,rfl⟩;rw[←hW];obtain⟨xa0,hk,hb⟩:=boxes_1 _ _ _ hW;clear hW;have Hn:=lH (iK Hn.out hk);have Hm:=lH (iK Hm.out hk);have Ga0:=lH (show w.heap.size≤w.heap.size from tL_ HB.out.size (by omega));have Xa0:=lH xa0;have HB:=lH (bC HB.out hb);clear hk hb xa0
 (first|(have hcall:=rgcd_can Hn.out Hm.out (by omega) (by omega);refine cM hcall ?_;clear hcall)|refine cM (rgcd_can Hn.out Hm.out (by omega) (by omega)) ?_)
 rintro e w2 ⟨v2,rfl,hg,hb⟩;obtain⟨g_a,g_n,g_c,rfl⟩:=hg.is.lit;have Hn:=lH (iK Hn.out (kC hb));have Hm:=lH (iK Hm.out (kC hb));have Xa0:=lH (xP hb Xa0.out);have HB:=lH (bC HB.out hb);have Hg:=lH hg;clear hb hg;obtain⟨ca00,ca01,ca02,fa00,fa01,fa02⟩:=Xa0.out.c3;have la0:=Xa0.out.lt
 go_wp2_with fail
 clear ca00 ca01 ca02 fa00 fa01 fa02 la0
 (first|(have hcall:=rdivmod_pos (gcd_pos Hd.out) Hn.out Hg.out.is (by omega) (by omega);refine cM hcall ?_;clear hcall)|refine cM (rdivmod_pos (gcd_pos Hd.out) Hn.out Hg.out.is (by omega) (by omega)) ?_)
 rintro e w3 ⟨t3,rfl,⟨v3,u3,rfl,hqa,hra⟩,hb⟩;obtain⟨qa_a,qa_n,qa_c,rfl⟩:=hqa.is.lit;obtain⟨ra_a,ra_n,ra_c,rfl⟩:=hra.is.lit;have Hm:=lH (iK Hm.out (kC hb));have Hg:=lH (Can.keep Hg.out (kC hb));have Xa0:=lH (xP hb Xa0.out);have HB:=lH (bC HB.out hb);have Hqa:=lH hqa;have Hra:=lH hra;clear hb hqa hra;have hp0:decide (0<qa_n)=true:=Hqa.out.pos (num_pos Hz.out);obtain⟨ca00,ca01,ca02,fa00,fa01,fa02⟩:=Xa0.out.c3;have la0:=Xa0.out.lt
 go_wp2_with fail
 clear ca00 ca01 ca02 fa00 fa01 fa02 la0
 (first|(have hcall:=rdivmod_un (gcd_pos Hd.out) Hl.out Hm.out Hg.out.is (by omega) (by omega);refine cM hcall ?_;clear hcall)|refine cM (rdivmod_un (gcd_pos Hd.out) Hl.out Hm.out Hg.out.is (by omega) (by omega)) ?_)
 rintro e w4 ⟨t4,rfl,⟨qb_a,qb_n,qb_c,u4,rfl,hqb,hlen⟩,hb⟩;have Hqa:=lH (Can.keep Hqa.out (kC hb));have Xa0:=lH (xP hb Xa0.out);have HB:=lH (bC HB.out hb);have Hqb:=lH hqb;clear hb hqb;obtain⟨ca00,ca01,ca02,fa00,fa01,fa02⟩:=Xa0.out.c3;have la0:=Xa0.out.lt;go_wp2;clear ca00 ca01 ca02 fa00 fa01 fa02 la0;obtain⟨W5,hW⟩:∃W5,W5=(World.setCell (World.setCell (World.setCell w4 ⟨w.heap.size,0,none⟩ (.bool false)) ⟨w.heap.size,1,none⟩ (.slice qa_a qa_n qa_c)) ⟨w.heap.size,2,none⟩ (.slice qb_a qb_n qb_c)):=⟨_,rfl⟩;rw[←hW];obtain⟨xa0,hk,hf,hbb,hz⟩:=stored3s hW Xa0.out (by first|exact nB_ _|exact nS_ _ _ _) (by first|exact nB_ _|exact nS_ _ _ _) (by first|exact nB_ _|exact nS_ _ _ _);have Hqa:=lH (Can.keep Hqa.out hk);have Hqb:=lH (Can.keep Hqb.out hk);have Xa0:=lH xa0;have HB:=lH (hbb _ HB.out Ga0.out);clear hW hk hf hbb xa0;clear hz;exact ret_rat1 rfl rfl rfl Xa0.out (quot_four Hz.out Hd.out He.out Hqa.out Hqb.out) HB.out
theorem r3quot_3f {n d L M:Nat}{s t:Value}{w:World}(hz:0<n)(he:(d/Nat.gcd n d==1)=false)(hl:((sz (d/Nat.gcd n d):Nat):Int)=1)(hn:Is n L w s)(hm:Is d M w t)(hd:0<d)(hL:L≤1000000000)(hM:M≤1000000000):
  Calls Tryz.prog 143 #[.bool false,s,t] w (Ret w (CR (mkRat (iv false n) d) (max L M))):=by
 have Hn:=lH hn;have Hm:=lH hm;have Hd:=lH hd;have Hz:=lH hz;have He:=lH he;have Hl:=lH hl;clear hn hm hd hz he hl
 go_enter Tryz.func143,Tryz.ntmps143
 have HB:=lH (bR_ w.heap.size w)
 go_wp2_with fail
 obtain⟨W1,hW⟩:∃W1,W1=(World.alloc w (.cells #[.bool false,.slice none 0 0,.slice none 0 0] 56)):=⟨_,rfl⟩;rw[←hW];obtain⟨xa0,hk,hb⟩:=boxes_1 _ _ _ hW;clear hW;have Hn:=lH (iK Hn.out hk);have Hm:=lH (iK Hm.out hk);have Ga0:=lH (show w.heap.size≤w.heap.size from tL_ HB.out.size (by omega));have Xa0:=lH xa0;have HB:=lH (bC HB.out hb);clear hk hb xa0
 (first|(have hcall:=rgcd_can Hn.out Hm.out (by omega) (by omega);refine cM hcall ?_;clear hcall)|refine cM (rgcd_can Hn.out Hm.out (by omega) (by omega)) ?_)
 rintro e w2 ⟨v2,rfl,hg,hb⟩;obtain⟨g_a,g_n,g_c,rfl⟩:=hg.is.lit;have Hn:=lH (iK Hn.out (kC hb));have Hm:=lH (iK Hm.out (kC hb));have Xa0:=lH (xP hb Xa0.out);have HB:=lH (bC HB.out hb);have Hg:=lH hg;clear hb hg;obtain⟨ca00,ca01,ca02,fa00,fa01,fa02⟩:=Xa0.out.c3;have la0:=Xa0.out.lt
 go_wp2_with fail
 clear ca00 ca01 ca02 fa00 fa01 fa02 la0
 (first|(have hcall:=rdivmod_pos (gcd_pos Hd.out) Hn.out Hg.out.is (by omega) (by omega);refine cM hcall ?_;clear hcall)|refine cM (rdivmod_pos (gcd_pos Hd.out) Hn.out Hg.out.is (by omega) (by omega)) ?_)
 rintro e w3 ⟨t3,rfl,⟨v3,u3,rfl,hqa,hra⟩,hb⟩;obtain⟨qa_a,qa_n,qa_c,rfl⟩:=hqa.is.lit;obtain⟨ra_a,ra_n,ra_c,rfl⟩:=hra.is.lit;have Hm:=lH (iK Hm.out (kC hb));have Hg:=lH (Can.keep Hg.out (kC hb));have Xa0:=lH (xP hb Xa0.out);have HB:=lH (bC HB.out hb);have Hqa:=lH hqa;have Hra:=lH hra;clear hb hqa hra;have hp0:decide (0<qa_n)=true:=Hqa.out.pos (num_pos Hz.out);obtain⟨ca00,ca01,ca02,fa00,fa01,fa02⟩:=Xa0.out.c3;have la0:=Xa0.out.lt
 go_wp2_with fail
 clear ca00 ca01 ca02 fa00 fa01 fa02 la0
 (first|(have hcall:=rdivmod_uk (gcd_pos Hd.out) He.out Hl.out Hm.out Hg.out.is (by omega) (by omega);refine cM hcall ?_;clear hcall)|refine cM (rdivmod_uk (gcd_pos Hd.out) He.out Hl.out Hm.out Hg.out.is (by omega) (by omega)) ?_)
 rintro e w4 ⟨t4,rfl,⟨qb_b,qb_o,qb_c,u4,qb_k,rfl,hqb,hcell,hk1⟩,hb⟩;have Hqa:=lH (Can.keep Hqa.out (kC hb));have Xa0:=lH (xP hb Xa0.out);have HB:=lH (bC HB.out hb);have Hqb:=lH hqb;clear hb hqb;obtain⟨ca00,ca01,ca02,fa00,fa01,fa02⟩:=Xa0.out.c3;have la0:=Xa0.out.lt;go_wp2;clear ca00 ca01 ca02 fa00 fa01 fa02 la0;obtain⟨W5,hW⟩:∃W5,W5=(World.setCell (World.setCell (World.setCell w4 ⟨w.heap.size,0,none⟩ (.bool false)) ⟨w.heap.size,1,none⟩ (.slice qa_a qa_n qa_c)) ⟨w.heap.size,2,none⟩ (.slice (some ⟨qb_b,qb_o,none⟩) 1 qb_c)):=⟨_,rfl⟩;rw[←hW];obtain⟨xa0,hk,hf,hbb,hz⟩:=stored3s hW Xa0.out (by first|exact nB_ _|exact nS_ _ _ _) (by first|exact nB_ _|exact nS_ _ _ _) (by first|exact nB_ _|exact nS_ _ _ _);have Hqa:=lH (Can.keep Hqa.out hk);have Hqb:=lH (Can.keep Hqb.out hk);have Xa0:=lH xa0;have HB:=lH (hbb _ HB.out Ga0.out);clear hW hk hf hbb xa0;clear hz;exact ret_rat1 rfl rfl rfl Xa0.out (quot_four Hz.out Hd.out He.out Hqa.out Hqb.out) HB.out
theorem r3quot_is {neg:Bool}{n d L M:Nat}{s t:Value}{w:World}(hd:0<d)(hn:Is n L w s)(hm:Is d M w t)(hL:L≤1000000000)(hM:M≤1000000000):
  Calls Tryz.prog 143 #[.bool neg,s,t] w (Ret w (CR (mkRat (iv neg n) d) (max L M))):=by
 rcases eP_ n with h0|h0
 ·cases neg
  ·exact r3quot_0f h0 hn hm hd hL hM
  ·exact r3quot_0t h0 hn hm hd hL hM
 ·cases h1:d/Nat.gcd n d==1
  ·by_cases h2:((sz (d/Nat.gcd n d):Nat):Int)=1
   ·cases neg
    ·exact r3quot_3f h0 h1 h2 hn hm hd hL hM
    ·exact r3quot_3t h0 h1 h2 hn hm hd hL hM
   ·cases neg
    ·exact r3quot_2f h0 h1 h2 hn hm hd hL hM
    ·exact r3quot_2t h0 h1 h2 hn hm hd hL hM
  ·cases neg
   ·exact r3quot_1f h0 h1 hn hm hd hL hM
   ·exact r3quot_1t h0 h1 hn hm hd hL hM
theorem CR.of_int {z:Int}{L:Nat}{w:World}{b:Bool}{s:Value}(h:CL z L w (.agg #[.bool b,s])):CR (z:Rat) (max L 1) w (.agg #[.bool b,s,.slice none 0 0]):=by
 obtain⟨⟨s',he,h2⟩,h3⟩:=h;injection he with he;injection he with he;injection he with e1 he;injection he with e2 _;injection e1 with e1;subst e1 e2;refine⟨⟨s,.slice none 0 0,?_,h2,?_⟩,tL_ h3 (Nat.le_max_left _ _),tL_ (sz_le (by decide):sz 1≤1) (Nat.le_max_right _ _)⟩
 ·congr 4
  rw[Bool.eq_iff_iff];simp only[decide_eq_true_eq];exact Rat.intCast_neg_iff.symm
 ·show Sl w _ (limbs 0);rw[limbs_zero];exact Sl.nil w
theorem zcanon_p {L:Nat}{ba:Bool}{na da:Nat}{sa ta:Value}{w:World}(hna:Is na L w sa)(hda:Is da L w ta)(hL:L≤100000000):
  Calls Tryz.prog 217 #[.agg #[.bool ba,sa,ta]] w (Ret w (CR (rv ba na da) (max L 1))):=by
 have Hna:=lH hna;have Hda:=lH hda;clear hna hda
 go_enter Tryz.func217,Tryz.ntmps217
 have HB:=lH (bR_ w.heap.size w)
 go_wp2_with fail
 obtain⟨W1,hW⟩:∃W1,W1=(World.alloc (World.alloc w (.cells #[.bool ba,sa,ta] 56)) (.cells #[.bool false,.slice none 0 0,.slice none 0 0] 56)):=⟨_,rfl⟩;rw[←hW];obtain⟨xa0,xb0,hk,hb⟩:=boxes_2 _ _ _ _ _ hW;clear hW;have Hna:=lH (iK Hna.out hk);have Hda:=lH (iK Hda.out hk);have Ga0:=lH (show w.heap.size≤w.heap.size from tL_ HB.out.size (by omega));have Gb0:=lH (show w.heap.size≤w.heap.size+1 from tL_ HB.out.size (by omega));have Xa0:=lH xa0;have Xb0:=lH xb0;have HB:=lH (bC HB.out hb);clear hk hb xa0 xb0;have Hna:=lH (iK Hna.out (Keep.drew W1));have Hda:=lH (iK Hda.out (Keep.drew W1));have Xa0:=lH (Box.drew Xa0.out);have Xb0:=lH (Box.drew Xb0.out);have HB:=lH (Below.drew HB.out);refine wp_region_float [w.heap.size+1] [] (by kernel_rfl) (by kernel_rfl) 11 (by kernel_rfl) Flok.nil ?_;intro ok;have Hok:=lH ok;clear ok;have HG:=lH (bR_ (W1.drew).heap.size (W1.drew));refine good_pureX 0 (some 3) (Go.Op.fieldAddr 56 (Go.Operand.tmp 1) 0) (none) (.pointer (some ⟨w.heap.size,0,none⟩)) (by kernel_rfl) (by kernel_rfl) (by kernel_rfl) (fun _ _ _ h=>h) (fun w' hw'=> ?_) ?_
 ·first|(go_simp;done)|(go_simp;simp_all;done)|(go_simp;rfl)
 simp only[Act.put,sI,sZ,sS];refine good_pureX 1 (some 4) (Go.Op.load 4 (Go.Operand.tmp 3)) (none) (.bool ba) (by kernel_rfl) (by kernel_rfl) (by kernel_rfl) (fun _ _ _ h=>h) (fun w' hw'=> ?_) ?_
 ·obtain⟨ca00,ca01,ca02,fa00,fa01,fa02⟩:=(Box.se hw' Xa0.out (notin1 (by omega))).c3
  first|(go_simp;done)|(go_simp;simp_all;done)|(go_simp;rfl)
 simp only[Act.put,sI,sZ,sS];refine good_pureX 2 (some 5) (Go.Op.fieldAddr 56 (Go.Operand.tmp 1) 1) (none) (.pointer (some ⟨w.heap.size,1,none⟩)) (by kernel_rfl) (by kernel_rfl) (by kernel_rfl) (fun _ _ _ h=>h) (fun w' hw'=> ?_) ?_
 ·first|(go_simp;done)|(go_simp;simp_all;done)|(go_simp;rfl)
 simp only[Act.put,sI,sZ,sS];refine good_pureX 3 (some 6) (Go.Op.load 54 (Go.Operand.tmp 5)) (none) (sa) (by kernel_rfl) (by kernel_rfl) (by kernel_rfl) (fun _ _ _ h=>h) (fun w' hw'=> ?_) ?_
 ·obtain⟨ca00,ca01,ca02,fa00,fa01,fa02⟩:=(Box.se hw' Xa0.out (notin1 (by omega))).c3
  first|(go_simp;done)|(go_simp;simp_all;done)|(go_simp;rfl)
 simp only[Act.put,sI,sZ,sS];refine good_pureX 4 (some 7) (Go.Op.fieldAddr 56 (Go.Operand.tmp 1) 2) (none) (.pointer (some ⟨w.heap.size,2,none⟩)) (by kernel_rfl) (by kernel_rfl) (by kernel_rfl) (fun _ _ _ h=>h) (fun w' hw'=> ?_) ?_
 ·first|(go_simp;done)|(go_simp;simp_all;done)|(go_simp;rfl)
 simp only[Act.put,sI,sZ,sS];refine good_pureX 5 (some 8) (Go.Op.load 54 (Go.Operand.tmp 7)) (none) (ta) (by kernel_rfl) (by kernel_rfl) (by kernel_rfl) (fun _ _ _ h=>h) (fun w' hw'=> ?_) ?_
 ·obtain⟨ca00,ca01,ca02,fa00,fa01,fa02⟩:=(Box.se hw' Xa0.out (notin1 (by omega))).c3
  first|(go_simp;done)|(go_simp;simp_all;done)|(go_simp;rfl)
 simp only[Act.put,sI,sZ,sS];refine good_callX 6 141 (some 9) #[Go.Operand.tmp 8] #[54] (none) #[ta] (by kernel_rfl) Hok.out (by kernel_rfl) (by kernel_rfl) (by kernel_rfl) (by kernel_rfl) rfl rfl rfl (by kernel_rfl) (fun w2 hb=> ?_);have HG:=lH (bC HG.out hb);clear hb
 (first|(have hcall:=r3one_is (iK Hda.out (kC HG.out));refine cM hcall ?_;clear hcall)|refine cM (r3one_is (iK Hda.out (kC HG.out))) ?_)
 rintro e w3 ⟨v3,rfl,hu,hb⟩;obtain⟨u_a,u_n,u_c,rfl⟩:=hu.lit;refine⟨_,rfl,?_,hb⟩;have HG:=lH (bC HG.out hb);have Hu:=lH hu;clear hb hu;simp only[Act.put,sI,sZ,sS];refine good_callX 7 143 (some 10) #[Go.Operand.tmp 4,Go.Operand.tmp 6,Go.Operand.tmp 9] #[4,54,54] (none) #[.bool ba,sa,.slice u_a u_n u_c] (by kernel_rfl) Hok.out (by kernel_rfl) (by kernel_rfl) (by kernel_rfl) (by kernel_rfl) rfl rfl rfl (by kernel_rfl) (fun w4 hb=> ?_);have Hu:=lH (iK Hu.out (kC hb));have HG:=lH (bC HG.out hb);clear hb;refine cM (r3quot_is (neg:=ba) (un_pos _) (iK Hna.out (kC HG.out)) Hu.out (by omega) (by omega)) ?_;rintro e w5 ⟨v5,rfl,hz,hb⟩;obtain⟨z_b,z_a,z_n,z_c,z_d,z_m,z_e,rfl⟩:=hz.litb;refine⟨_,rfl,?_,hb⟩;have HG:=lH (bC HG.out hb);have Hz:=lH hz;clear hb hz;simp only[Act.put,sI,sZ,sS];refine good_end0 1 (by kernel_rfl) (fun _ w6 hb=> ?_);have Hz:=lH (CR.keep Hz.out (kC hb));have HG:=lH (bC HG.out hb);clear hb;have Xa0:=lH (xP HG.out Xa0.out);have Xb0:=lH (xP HG.out Xb0.out);have HB:=lH (bC HB.out HG.out);have HS:=lH (SE.of (E:=[w.heap.size+1]) HG.out);refine held_oneX 8 (Go.Op.store 56 (Go.Operand.tmp 2) (Go.Operand.tmp 10)) (none) (World.setCell (World.setCell (World.setCell w6 ⟨w.heap.size+1,0,none⟩ (.bool z_b)) ⟨w.heap.size+1,1,none⟩ (.slice z_a z_n z_c)) ⟨w.heap.size+1,2,none⟩ (.slice z_d z_m z_e)) (by kernel_rfl) (by kernel_rfl) (by kernel_rfl) (by kernel_rfl) ?_ (HS.out.store3 in1) ?_
 ·obtain⟨cb00,cb01,cb02,fb00,fb01,fb02⟩:=Xb0.out.c3
  first|(go_simp;done)|(go_simp;simp_all;done)|(go_simp;rfl)
 obtain⟨W7,hW⟩:∃W7,W7=(World.setCell (World.setCell (World.setCell w6 ⟨w.heap.size+1,0,none⟩ (.bool z_b)) ⟨w.heap.size+1,1,none⟩ (.slice z_a z_n z_c)) ⟨w.heap.size+1,2,none⟩ (.slice z_d z_m z_e)):=⟨_,rfl⟩;rw[←hW];obtain⟨xb0,hk,hf,hbb,hz⟩:=stored3s hW Xb0.out (by first|exact nB_ _|exact nS_ _ _ _) (by first|exact nB_ _|exact nS_ _ _ _) (by first|exact nB_ _|exact nS_ _ _ _);have Hz:=lH (CR.keep Hz.out hk);have Xa0:=lH (hf _ _ _ Xa0.out (by omega));have Xb0:=lH xb0;have HB:=lH (hbb _ HB.out Gb0.out);have HS:=lH (show SE (W1.drew) [w.heap.size+1] W7 from by rw[hW];exact HS.out.store3 in1);clear hW hk hf hbb xb0;clear hz;refine wpAnyH_done (by kernel_rfl) ?_ _;clear HG HS Hok;obtain⟨ca00,ca01,ca02,fa00,fa01,fa02⟩:=Xa0.out.c3;have la0:=Xa0.out.lt;obtain⟨cb00,cb01,cb02,fb00,fb01,fb02⟩:=Xb0.out.c3;have lb0:=Xb0.out.lt;go_wp2;clear ca00 ca01 ca02 fa00 fa01 fa02 la0 cb00 cb01 cb02 fb00 fb01 fb02 lb0;exact ret_rat1 rfl rfl rfl Xb0.out (CR.mono Hz.out (by omega)) HB.out
theorem zcanon_ar {q:Rat}{L:Nat}{v:Value}{w:World}(h:AR q L w v)(hL:L≤100000000):Calls Tryz.prog 217 #[v] w (Ret w (CR q (max L 1))):=by
 obtain⟨b,s,t,n,d,rfl,h1,h2,rfl⟩:=h;exact zcanon_p h1 h2 hL
theorem zof {x:Int}{w:World}(h1: -9223372036854775808≤x)(h2:x<9223372036854775808):
  Calls Tryz.prog 19 #[.int .i64 x] w (Ret w (CR (x:Rat) 2)):=by
 go_enter Tryz.func19,Tryz.ntmps19
 have HB:=lH (bR_ w.heap.size w)
 go_wp2_with fail
 obtain⟨W1,hW⟩:∃W1,W1=(World.alloc w (.cells #[.bool false,.slice none 0 0,.slice none 0 0] 56)):=⟨_,rfl⟩;rw[←hW];obtain⟨xa0,hk,hb⟩:=boxes_1 _ _ _ hW;clear hW;have Ga0:=lH (show w.heap.size≤w.heap.size from tL_ HB.out.size (by omega));have Xa0:=lH xa0;have HB:=lH (bC HB.out hb);clear hk hb xa0;refine cM (riof_any h1 h2) ?_;rintro e w2 ⟨v2,rfl,ho,hb⟩;obtain⟨o_b,o_a,o_n,o_c,rfl⟩:=ho.litb;have Xa0:=lH (xP hb Xa0.out);have HB:=lH (bC HB.out hb);have Ho:=lH ho;clear hb ho;obtain⟨ca00,ca01,ca02,fa00,fa01,fa02⟩:=Xa0.out.c3;have la0:=Xa0.out.lt;go_wp2;clear ca00 ca01 ca02 fa00 fa01 fa02 la0;obtain⟨W3,hW⟩:∃W3,W3=(World.setCell (World.setCell (World.setCell w2 ⟨w.heap.size,0,none⟩ (.bool o_b)) ⟨w.heap.size,1,none⟩ (.slice o_a o_n o_c)) ⟨w.heap.size,2,none⟩ (.slice none 0 0)):=⟨_,rfl⟩;rw[←hW];obtain⟨xa0,hk,hf,hbb,hz⟩:=stored3s hW Xa0.out (by first|exact nB_ _|exact nS_ _ _ _) (by first|exact nB_ _|exact nS_ _ _ _) (by first|exact nB_ _|exact nS_ _ _ _);have Ho:=lH (CL.keep Ho.out hk);have Xa0:=lH xa0;have HB:=lH (hbb _ HB.out Ga0.out);clear hW hk hf hbb xa0;have hz3:=hz;clear hz;obtain⟨W4,hW⟩:∃W4,W4=(World.alloc W3 (.cells #[.bool o_b,.slice o_a o_n o_c] 96)):=⟨_,rfl⟩;rw[←hW];obtain⟨xb0,hk,hb⟩:=boxes_1 _ _ _ hW;clear hW;rw[hz3]at xb0;have Ho:=lH (CL.keep Ho.out hk);have Na0b0:=lH (show w.heap.size≠w2.heap.size from Nat.ne_of_lt (Nat.lt_of_lt_of_le Xa0.out.lt (by omega)));have Gb0:=lH (show w.heap.size≤w2.heap.size from tL_ HB.out.size (by omega));clear hz3;have Xa0:=lH (xP hb Xa0.out);have Xb0:=lH xb0;have HB:=lH (bC HB.out hb);clear hk hb xb0;exact ret_rat1 rfl rfl rfl Xa0.out (CR.mono (CR.of_int Ho.out) (by omega)) HB.out
theorem zmk_1 {L M:Nat}{ba:Bool}{na:Nat}{sa:Value}{bb:Bool}{nb:Nat}{sb:Value}{w:World}(k:Int)(hk:(iv bb nb).sign=k)(hk0:(k==0)=false)(hp:0<nb)(hna:Is na L w sa)(hnb:Is nb M w sb)(hL:L≤100000000)(hM:M≤100000000):
  Calls Tryz.prog 149 #[.agg #[.bool ba,sa],.agg #[.bool bb,sb]] w (Ret w (CRE ((iv ba na:Int)/(iv bb nb:Int)) (max L M) 0)):=by
 have Hna:=lH hna;have Hnb:=lH hnb;have Hk:=lH hk;have Hk0:=lH hk0;have Hp:=lH hp;clear hna hnb hk hk0 hp
 go_enter Tryz.func149,Tryz.ntmps149
 have HB:=lH (bR_ w.heap.size w)
 go_wp2_with fail
 obtain⟨W1,hW⟩:∃W1,W1=(World.alloc (World.alloc (World.alloc w (.cells #[.bool ba,sa] 96)) (.cells #[.bool bb,sb] 96)) (.cells #[.bool false,.slice none 0 0,.slice none 0 0] 56)):=⟨_,rfl⟩;rw[←hW];obtain⟨xa0,xb0,xc0,hk,hb⟩:=boxes_3 _ _ _ _ _ _ _ hW;clear hW;have Hna:=lH (iK Hna.out hk);have Hnb:=lH (iK Hnb.out hk);have Ga0:=lH (show w.heap.size≤w.heap.size from tL_ HB.out.size (by omega));have Gb0:=lH (show w.heap.size≤w.heap.size+1 from tL_ HB.out.size (by omega));have Gc0:=lH (show w.heap.size≤w.heap.size+1+1 from tL_ HB.out.size (by omega));have Xa0:=lH xa0;have Xb0:=lH xb0;have Xc0:=lH xc0;have HB:=lH (bC HB.out hb);clear hk hb xa0 xb0 xc0
 (first|(have hcall:=risign_ai k (AI.mk (n:=bb) Hnb.out) Hk.out;refine cM hcall ?_;clear hcall)|refine cM (risign_ai k (AI.mk (n:=bb) Hnb.out) Hk.out) ?_)
 rintro e w2 ⟨v2,rfl,rfl,hb⟩;have Hna:=lH (iK Hna.out (kC hb));have Hnb:=lH (iK Hnb.out (kC hb));have Xa0:=lH (xP hb Xa0.out);have Xb0:=lH (xP hb Xb0.out);have Xc0:=lH (xP hb Xc0.out);have HB:=lH (bC HB.out hb);clear hb;have hk0:(k==0)=false:=Hk0.out;obtain⟨ca00,ca01,fa00,fa01⟩:=Xa0.out.c2;have la0:=Xa0.out.lt;obtain⟨cb00,cb01,fb00,fb01⟩:=Xb0.out.c2;have lb0:=Xb0.out.lt;obtain⟨cc00,cc01,cc02,fc00,fc01,fc02⟩:=Xc0.out.c3;have lc0:=Xc0.out.lt
 go_wp2_with fail
 clear ca00 ca01 fa00 fa01 la0 cb00 cb01 fb00 fb01 lb0 cc00 cc01 cc02 fc00 fc01 fc02 lc0
 (first|(have hcall:=r3quot_is (neg:=(!ba==bb)) (Hp.out) Hna.out Hnb.out (by omega) (by omega);refine cM hcall ?_;clear hcall)|refine cM (r3quot_is (neg:=(!ba==bb)) (Hp.out) Hna.out Hnb.out (by omega) (by omega)) ?_)
 rintro e w3 ⟨v3,rfl,hz,hb⟩;obtain⟨z_b,z_a,z_n,z_c,z_d,z_m,z_e,rfl⟩:=hz.litb;have Xa0:=lH (xP hb Xa0.out);have Xb0:=lH (xP hb Xb0.out);have Xc0:=lH (xP hb Xc0.out);have HB:=lH (bC HB.out hb);have Hz:=lH hz;clear hb hz;obtain⟨ca00,ca01,fa00,fa01⟩:=Xa0.out.c2;have la0:=Xa0.out.lt;obtain⟨cb00,cb01,fb00,fb01⟩:=Xb0.out.c2;have lb0:=Xb0.out.lt;obtain⟨cc00,cc01,cc02,fc00,fc01,fc02⟩:=Xc0.out.c3;have lc0:=Xc0.out.lt;go_wp2;clear ca00 ca01 fa00 fa01 la0 cb00 cb01 fb00 fb01 lb0 cc00 cc01 cc02 fc00 fc01 fc02 lc0;obtain⟨W4,hW⟩:∃W4,W4=(World.setCell (World.setCell (World.setCell w3 ⟨w.heap.size+1+1,0,none⟩ (.bool z_b)) ⟨w.heap.size+1+1,1,none⟩ (.slice z_a z_n z_c)) ⟨w.heap.size+1+1,2,none⟩ (.slice z_d z_m z_e)):=⟨_,rfl⟩;rw[←hW];obtain⟨xc0,hk,hf,hbb,hz⟩:=stored3s hW Xc0.out (by first|exact nB_ _|exact nS_ _ _ _) (by first|exact nB_ _|exact nS_ _ _ _) (by first|exact nB_ _|exact nS_ _ _ _);have Hz:=lH (CR.keep Hz.out hk);have Xa0:=lH (hf _ _ _ Xa0.out (by omega));have Xb0:=lH (hf _ _ _ Xb0.out (by omega));have Xc0:=lH xc0;have HB:=lH (hbb _ HB.out Gc0.out);clear hW hk hf hbb xc0;clear hz;exact ret_re rfl rfl rfl rfl Xc0.out ⟨_,rfl,CR.cast (div_sign _ _ _ _ Hp.out) Hz.out⟩ HB.out
theorem zmk_ai {y z:Int}{L M:Nat}{u v:Value}{w:World}(hz:z≠0)(h:AI y L w u)(h':AI z M w v)(hL:L≤100000000)(hM:M≤100000000):
  Calls Tryz.prog 149 #[u,v] w (Ret w (CRE ((y:Rat)/(z:Rat)) (max L M) 0)):=by
 obtain⟨ba,sa,na,rfl,h1,rfl⟩:=h;obtain⟨bb,sb,nb,rfl,h2,rfl⟩:=h';have hp:0<nb:=by
  rcases eP_ nb with rfl|h0
  ·exact absurd (by cases bb<;>rfl) hz
  ·exact h0
 exact zmk_1 _ rfl (by simpa [Int.sign_eq_zero_iff_zero]using hz) hp h1 h2 hL hM
theorem zfrac_1 {x y:Int}{w:World}(h1: -9223372036854775808≤x)(h2:x<9223372036854775808)(h3: -9223372036854775808≤y)(h4:y<9223372036854775808)(hz:y≠0):
  Calls Tryz.prog 95 #[.int .i64 x,.int .i64 y] w (Ret w (CRE ((x:Rat)/(y:Rat)) 2 0)):=by
 have Hz:=lH hz;clear hz
 go_enter Tryz.func95,Tryz.ntmps95
 have HB:=lH (bR_ w.heap.size w)
 go_wp2_with fail
 obtain⟨W1,hW⟩:∃W1,W1=(World.alloc w (.cells #[.bool false,.slice none 0 0,.slice none 0 0] 56)):=⟨_,rfl⟩;rw[←hW];obtain⟨xa0,hk,hb⟩:=boxes_1 _ _ _ hW;clear hW;have Ga0:=lH (show w.heap.size≤w.heap.size from tL_ HB.out.size (by omega));have Xa0:=lH xa0;have HB:=lH (bC HB.out hb);clear hk hb xa0;refine cM (riof_any h1 h2) ?_;rintro e w2 ⟨v2,rfl,ho,hb⟩;obtain⟨o_b,o_a,o_n,o_c,rfl⟩:=ho.litb;have Xa0:=lH (xP hb Xa0.out);have HB:=lH (bC HB.out hb);have Ho:=lH ho;clear hb ho;obtain⟨ca00,ca01,ca02,fa00,fa01,fa02⟩:=Xa0.out.c3;have la0:=Xa0.out.lt
 go_wp2_with fail
 clear ca00 ca01 ca02 fa00 fa01 fa02 la0;refine cM (riof_any h3 h4) ?_;rintro e w3 ⟨v3,rfl,hp,hb⟩;obtain⟨p_b,p_a,p_n,p_c,rfl⟩:=hp.litb;have Ho:=lH (CL.keep Ho.out (kC hb));have Xa0:=lH (xP hb Xa0.out);have HB:=lH (bC HB.out hb);have Hp:=lH hp;clear hb hp;obtain⟨ca00,ca01,ca02,fa00,fa01,fa02⟩:=Xa0.out.c3;have la0:=Xa0.out.lt
 go_wp2_with fail
 clear ca00 ca01 ca02 fa00 fa01 fa02 la0
 (first|(have hcall:=zmk_ai Hz.out Ho.out.ai Hp.out.ai (by decide) (by decide);refine cM hcall ?_;clear hcall)|refine cM (zmk_ai Hz.out Ho.out.ai Hp.out.ai (by decide) (by decide)) ?_)
 rintro e w4 ⟨t4,rfl,⟨v4,rfl,hz⟩,hb⟩;obtain⟨z_b,z_a,z_n,z_c,z_d,z_m,z_e,rfl⟩:=hz.litb;have Xa0:=lH (xP hb Xa0.out);have HB:=lH (bC HB.out hb);have Hz:=lH hz;clear hb hz;obtain⟨ca00,ca01,ca02,fa00,fa01,fa02⟩:=Xa0.out.c3;have la0:=Xa0.out.lt;go_wp2;clear ca00 ca01 ca02 fa00 fa01 fa02 la0;obtain⟨W5,hW⟩:∃W5,W5=(World.setCell (World.setCell (World.setCell w4 ⟨w.heap.size,0,none⟩ (.bool z_b)) ⟨w.heap.size,1,none⟩ (.slice z_a z_n z_c)) ⟨w.heap.size,2,none⟩ (.slice z_d z_m z_e)):=⟨_,rfl⟩;rw[←hW];obtain⟨xa0,hk,hf,hbb,hz⟩:=stored3s hW Xa0.out (by first|exact nB_ _|exact nS_ _ _ _) (by first|exact nB_ _|exact nS_ _ _ _) (by first|exact nB_ _|exact nS_ _ _ _);have Hz:=lH (CR.keep Hz.out hk);have Xa0:=lH xa0;have HB:=lH (hbb _ HB.out Ga0.out);clear hW hk hf hbb xa0;clear hz;exact ret_re rfl rfl rfl rfl Xa0.out ⟨_,rfl,Hz.out⟩ HB.out
theorem add_int (t:Rat)(f:Int):(t+(f:Rat)).num=t.num+f*t.den∧(t+(f:Rat)).den=t.den:=by
 have hc:(t.num+f*t.den).natAbs.Coprime t.den:=by
  have h1:t.num.gcd (t.den:Int)=1:=t.reduced;have h2:(t.num+f*t.den).gcd (t.den:Int)=1:=by rw[Int.gcd_add_mul_right_left];exact h1
  exact h2
 have h:t+(f:Rat)=⟨t.num+f*t.den,t.den,t.den_nz,hc⟩:=by
  rw[Rat.mk_eq_mkRat];have h1:(f:Rat)=mkRat f 1:=by rw[mkRat_one]
  rw[h1];conv=>lhs;rw[←Rat.mkRat_self t]
  rw[Rat.mkRat_add_mkRat _ _ t.den_nz (by decide)];simp
 rw[h];exact⟨rfl,rfl⟩
theorem num_pos' {t:Rat}(h:0<t):0<t.num:=by
 rw[Rat.lt_iff]at h;simpa using h
theorem one_div_parts {t:Rat}(h:0<t):(1/t).num=t.den∧(1/t).den=t.num.natAbs∧0<1/t:=by
 have hp:=num_pos' h;have e:1/t=t⁻¹:=by rw[Rat.div_def,Rat.one_mul]
 rw[e];refine⟨by rw[Rat.num_inv,Int.sign_eq_one_of_pos hp];omega,by rw[Rat.den_inv,if_neg (by omega)],Rat.inv_pos.2 h⟩
structure Down (lo hi:Rat):Prop where
 f0:0≤lo.floor
 a:0<hi-(lo.floor:Rat)
 b:0<lo-(lo.floor:Rat)
 le:lo-(lo.floor:Rat)≤hi-(lo.floor:Rat)
 a1:(hi-(lo.floor:Rat)).num<hi.den
 b1:(lo-(lo.floor:Rat)).num<lo.den
 ad:(hi-(lo.floor:Rat)).den=hi.den
 bd:(lo-(lo.floor:Rat)).den=lo.den
theorem back {y:Rat}(f:Int)(h:0<y):((f:Rat)+1/y).den=y.num.natAbs∧((f:Rat)+1/y).num=y.den+f*y.num:=by
 have h1:=one_div_parts h;have h2:=add_int (1/y) f;have hp:=num_pos' h;rw[Rat.add_comm,h2.1,h2.2,h1.1,h1.2.1];exact⟨rfl,by rw[show((y.num.natAbs:Nat):Int)=y.num by omega]⟩
open Go.ChangeShapes Go.WideShapes
theorem row_of_read {H:Type}{enc:TypeId×Value→H}{w:World}{base:Nat}{held:Bool}{fuel:Nat}{c:Value}{y:DataW H×List MemPlace}
  (h:DataW.trod enc Tryz.prog w base (fun _=>true) held fuel 54 [c]=some y):∃a n k,c= .slice a n k∧Row w (.slice a n k) n:=by
 rcases open_ints Tryz.underlying54 Tryz.underlying188 (by kernel_rfl) h with⟨hcs,_⟩|⟨x,l,c',zs,hcs,_,hl,hm,hz,_,hcell,hwz⟩
 ·injection hcs with h1 _;subst h1;exact⟨_,_,_,rfl,fun hn=>is_of_row hn (Or.inl ⟨rfl,rfl,rfl,rfl⟩)⟩
 ·injection hcs with h1 _;subst h1;exact⟨_,_,_,rfl,fun hn=>is_of_row hn (Or.inr ⟨x,rfl,hl,hm,by simpa using hz,hcell,hwz⟩)⟩
theorem wf_i64 {n:Int}(h:(Lit.int .i64 n).wf=true): -9223372036854775808≤n∧n<9223372036854775808:=by
 simp[Lit.wf,IntKind.min,IntKind.max,IntKind.signed,IntKind.bits]at h;omega
theorem val_inj:∀{xs ys:List Nat},lims xs→lims ys→xs.length=ys.length→val xs=val ys→xs=ys:=by
 intro xs
 induction xs with
 |nil=>intro ys _ _ h _;cases ys with|nil=>rfl|cons y ys=>simp at h
 |cons x xs ih=>
  intro ys h1 h2 hl hv
  cases ys with
  |nil=>simp at hl
  |cons y ys=>
   have a:=h1 x List.mem_cons_self;have b:=h2 y List.mem_cons_self;simp only[val]at hv;have e:x=y:=by omega
   subst e;rw[ih (fun z hz=>h1 z (List.mem_cons_of_mem _ hz)) (fun z hz=>h2 z (List.mem_cons_of_mem _ hz)) (by simpa using hl) (by omega)]
def vB (b:Bool)(xs ys:List Nat)(q:Rat):Bool:=b==decide (q<0)&&same xs (limbs q.num.natAbs)&&same ys (limbs (dn q))
theorem same_parts {xs:List Nat}{n:Nat}(h:lims xs):same xs (limbs n)=((xs.length==(limbs n).length)&&(cmpN (val xs) n==0)):=by
 unfold same
 by_cases e:xs=limbs n
 ·rw[decide_eq_true e,e,val_limbs,cmpN_eq rfl];simp
 ·rw[decide_eq_false e]
  symm
  rw[Bool.and_eq_false_iff]
  by_cases hl:xs.length=(limbs n).length
  ·right
   rw[beq_eq_false_iff_ne];intro hc;have hv:val xs=n:=by
    unfold cmpN at hc
    by_cases h1:val xs<n
    ·rw[if_pos h1]at hc;cases hc
    ·rw[if_neg h1]at hc
     by_cases h2:val xs=n
     ·exact h2
     ·rw[if_neg h2]at hc;cases hc
   exact e (val_inj h (lims_limbs n) hl (by rw[val_limbs];exact hv))
  ·left;simpa using hl
theorem vB_nil {b:Bool}{xs:List Nat}(h:lims xs):vB b xs [] (rv b (val xs) 0)=(canon xs&&(!b||decide (0<xs.length))):=by
 have e:rv b (val xs) 0=((iv b (val xs):Int):Rat):=by unfold rv;rw[show un 0=1 from rfl,mkRat_one]
 have e1:((iv b (val xs):Int):Rat).num.natAbs=val xs:=by rw[Rat.num_intCast,iv_abs]
 have e2:dn ((iv b (val xs):Int):Rat)=0:=by unfold dn;rw[Rat.den_intCast];rfl
 have e3:(((iv b (val xs):Int):Rat)<0)↔iv b (val xs)<0:=by rw[Rat.lt_iff];simp
 unfold vB;rw[e,e1,e2,limbs_zero]
 by_cases hc:canon xs=true
 ·have hl:limbs (val xs)=xs:=limbs_val h (by
   unfold canon at hc;simp only[Bool.or_eq_true,beq_iff_eq,bne_iff_ne]at hc;rcases hc with h1|h1
   ·left;exact List.length_eq_zero_iff.1 h1
   ·right;exact h1)
  rw[hl,hc,show same xs xs=true by simp[same],show same ([]:List Nat) []=true by simp[same]]
  cases b
  ·have:¬iv false (val xs)<0:=by simp[iv]
   rw[decide_eq_false (mt e3.1 this)];simp
  ·by_cases h0:0<xs.length
   ·have hv:0<val xs:=by
     rcases eP_ (val xs)with h1|h1
     ·rw[h1,limbs_zero]at hl;rw[←hl]at h0;simp at h0
     ·exact h1
    rw[decide_eq_true (e3.2 ((iv_neg_iff hv).2 rfl)),decide_eq_true h0];rfl
   ·have hx:xs=[]:=List.length_eq_zero_iff.1 (by omega);subst hx;have:¬iv true (val [])<0:=by simp[iv,val]
    rw[decide_eq_false (mt e3.1 this)];simp
 ·have hn:same xs (limbs (val xs))=false:=by
   unfold same;rw[decide_eq_false];intro h1;rw[h1,canon_limbs]at hc;exact hc rfl
  rw[hn,Bool.eq_false_iff.2 hc];simp
theorem vB_can (q:Rat):vB (decide (q<0)) (limbs q.num.natAbs) (limbs (dn q)) q=true:=by simp[vB,same]
theorem Sl.lenE {w:World}{a:Option Addr}{n c:Nat}{xs:List Nat}(h:Sl w (.slice a n c) xs):n=xs.length:=by
 obtain⟨ad,m,cap,he,hl,_⟩:=h;injection he with _ e _;rw[e];exact hl.symm
theorem same_b {v v':Value}{xs ys:List Nat}{w:World}(B:Bool)(hB:same xs ys=B)(h:Sl w v xs)(h':Sl w v' ys):Calls Tryz.prog 76 #[v,v'] w (Ret w (Val (.bool B))):=by rw[←hB];exact same_any _ _ _ _ _ h h'
theorem cmp_slc {xs:List Nat}{b L:Nat}{u v:Value}{w:World}(k:Int)(hk:cmpN (val xs) b=k)(h:Sl w u xs)(h':Can b L w v):Calls Tryz.prog 165 #[u,v] w (Ret w (Val (.int .i64 k))):=
 cmp_is k ⟨xs,h,rfl,lR_ _⟩ h'.is hk
theorem eqI {a b c:Nat}{B:Bool}(e:b=c)(h:(a==c)=B):((a:Int)==(b:Int))=B:=by
 subst e;rw[←h,Bool.eq_iff_iff];simp;omega
theorem zs_1 {ba:Bool}{sa ta:Value}{xa ya:List Nat}{bb:Bool}{sb tb:Value}{xb yb:List Nat}{w:World}(he:(ba==bb)=false)(hna:Sl w sa xa)(hda:Sl w ta ya)(hnb:Sl w sb xb)(hdb:Sl w tb yb):
  Calls Tryz.prog 39 #[.agg #[.bool ba,sa,ta],.agg #[.bool bb,sb,tb]] w (Ret w (Val (.bool false))):=by
 have Hna:=lH hna;have Hda:=lH hda;have Hnb:=lH hnb;have Hdb:=lH hdb;clear hna hda hnb hdb
 go_enter Tryz.func39,Tryz.ntmps39
 have HB:=lH (bR_ w.heap.size w);go_wp2;obtain⟨W1,hW⟩:∃W1,W1=(World.alloc (World.alloc w (.cells #[.bool ba,sa,ta] 56)) (.cells #[.bool bb,sb,tb] 56)):=⟨_,rfl⟩;rw[←hW];obtain⟨xa0,xb0,hk,hb⟩:=boxes_2 _ _ _ _ _ hW;clear hW;have Ga0:=lH (show w.heap.size≤w.heap.size from tL_ HB.out.size (by omega));have Gb0:=lH (show w.heap.size≤w.heap.size+1 from tL_ HB.out.size (by omega));have Xa0:=lH xa0;have Xb0:=lH xb0;have HB:=lH (bC HB.out hb);clear hk hb xa0 xb0
 go_ret
 exact⟨_,rfl,rfl,HB.out⟩
theorem zs_2 {ba:Bool}{sa ta:Value}{xa ya:List Nat}{bb:Bool}{sb tb:Value}{xb yb:List Nat}{w:World}(he:(ba==bb)=true)(h1:same xa xb=false)(hna:Sl w sa xa)(hda:Sl w ta ya)(hnb:Sl w sb xb)(hdb:Sl w tb yb):
  Calls Tryz.prog 39 #[.agg #[.bool ba,sa,ta],.agg #[.bool bb,sb,tb]] w (Ret w (Val (.bool false))):=by
 have Hna:=lH hna;have Hda:=lH hda;have Hnb:=lH hnb;have Hdb:=lH hdb;have H1:=lH h1;clear hna hda hnb hdb h1
 go_enter Tryz.func39,Tryz.ntmps39
 have HB:=lH (bR_ w.heap.size w)
 go_wp2_with fail
 obtain⟨W1,hW⟩:∃W1,W1=(World.alloc (World.alloc w (.cells #[.bool ba,sa,ta] 56)) (.cells #[.bool bb,sb,tb] 56)):=⟨_,rfl⟩;rw[←hW];obtain⟨xa0,xb0,hk,hb⟩:=boxes_2 _ _ _ _ _ hW;clear hW;have Hna:=lH (Sl.keep Hna.out hk);have Hnb:=lH (Sl.keep Hnb.out hk);have Ga0:=lH (show w.heap.size≤w.heap.size from tL_ HB.out.size (by omega));have Gb0:=lH (show w.heap.size≤w.heap.size+1 from tL_ HB.out.size (by omega));have Xa0:=lH xa0;have Xb0:=lH xb0;have HB:=lH (bC HB.out hb);clear hk hb xa0 xb0
 (first|(have hcall:=same_b false H1.out Hna.out Hnb.out;refine cM hcall ?_;clear hcall)|refine cM (same_b false H1.out Hna.out Hnb.out) ?_)
 rintro e w2 ⟨v2,rfl,rfl,hb⟩;have Xa0:=lH (xP hb Xa0.out);have Xb0:=lH (xP hb Xb0.out);have HB:=lH (bC HB.out hb);clear hb;obtain⟨ca00,ca01,ca02,fa00,fa01,fa02⟩:=Xa0.out.c3;have la0:=Xa0.out.lt;obtain⟨cb00,cb01,cb02,fb00,fb01,fb02⟩:=Xb0.out.c3;have lb0:=Xb0.out.lt;go_wp2;clear ca00 ca01 ca02 fa00 fa01 fa02 la0 cb00 cb01 cb02 fb00 fb01 fb02 lb0
 go_ret
 exact⟨_,rfl,rfl,HB.out⟩
theorem zs_3 {ba:Bool}{sa ta:Value}{xa ya:List Nat}{bb:Bool}{sb tb:Value}{xb yb:List Nat}{w:World}{B:Bool}(he:(ba==bb)=true)(h1:same xa xb=true)(h2:same ya yb=B)(hna:Sl w sa xa)(hda:Sl w ta ya)(hnb:Sl w sb xb)(hdb:Sl w tb yb):
  Calls Tryz.prog 39 #[.agg #[.bool ba,sa,ta],.agg #[.bool bb,sb,tb]] w (Ret w (Val (.bool B))):=by
 have Hna:=lH hna;have Hda:=lH hda;have Hnb:=lH hnb;have Hdb:=lH hdb;have H1:=lH h1;have H2:=lH h2;clear hna hda hnb hdb h1 h2
 go_enter Tryz.func39,Tryz.ntmps39
 have HB:=lH (bR_ w.heap.size w)
 go_wp2_with fail
 obtain⟨W1,hW⟩:∃W1,W1=(World.alloc (World.alloc w (.cells #[.bool ba,sa,ta] 56)) (.cells #[.bool bb,sb,tb] 56)):=⟨_,rfl⟩;rw[←hW];obtain⟨xa0,xb0,hk,hb⟩:=boxes_2 _ _ _ _ _ hW;clear hW;have Hna:=lH (Sl.keep Hna.out hk);have Hda:=lH (Sl.keep Hda.out hk);have Hnb:=lH (Sl.keep Hnb.out hk);have Hdb:=lH (Sl.keep Hdb.out hk);have Ga0:=lH (show w.heap.size≤w.heap.size from tL_ HB.out.size (by omega));have Gb0:=lH (show w.heap.size≤w.heap.size+1 from tL_ HB.out.size (by omega));have Xa0:=lH xa0;have Xb0:=lH xb0;have HB:=lH (bC HB.out hb);clear hk hb xa0 xb0
 (first|(have hcall:=same_b true H1.out Hna.out Hnb.out;refine cM hcall ?_;clear hcall)|refine cM (same_b true H1.out Hna.out Hnb.out) ?_)
 rintro e w2 ⟨v2,rfl,rfl,hb⟩;have Hda:=lH (Sl.keep Hda.out (kC hb));have Hdb:=lH (Sl.keep Hdb.out (kC hb));have Xa0:=lH (xP hb Xa0.out);have Xb0:=lH (xP hb Xb0.out);have HB:=lH (bC HB.out hb);clear hb;obtain⟨ca00,ca01,ca02,fa00,fa01,fa02⟩:=Xa0.out.c3;have la0:=Xa0.out.lt;obtain⟨cb00,cb01,cb02,fb00,fb01,fb02⟩:=Xb0.out.c3;have lb0:=Xb0.out.lt
 go_wp2_with fail
 clear ca00 ca01 ca02 fa00 fa01 fa02 la0 cb00 cb01 cb02 fb00 fb01 fb02 lb0
 (first|(have hcall:=same_b B H2.out Hda.out Hdb.out;refine cM hcall ?_;clear hcall)|refine cM (same_b B H2.out Hda.out Hdb.out) ?_)
 rintro e w3 ⟨v3,rfl,⟨⟩,hb⟩;have Xa0:=lH (xP hb Xa0.out);have Xb0:=lH (xP hb Xb0.out);have HB:=lH (bC HB.out hb);clear hb;obtain⟨ca00,ca01,ca02,fa00,fa01,fa02⟩:=Xa0.out.c3;have la0:=Xa0.out.lt;obtain⟨cb00,cb01,cb02,fb00,fb01,fb02⟩:=Xb0.out.c3;have lb0:=Xb0.out.lt;go_wp2;clear ca00 ca01 ca02 fa00 fa01 fa02 la0 cb00 cb01 cb02 fb00 fb01 fb02 lb0
 go_ret
 exact⟨_,rfl,rfl,HB.out⟩
theorem zsame_v {B:Bool}{b:Bool}{s t v:Value}{xs ys:List Nat}{q:Rat}{L:Nat}{w:World}(hB:vB b xs ys q=B)(h:Sl w s xs)(h':Sl w t ys)(hc:CR q L w v):
  Calls Tryz.prog 39 #[.agg #[.bool b,s,t],v] w (Ret w (Val (.bool B))):=by
 obtain⟨c,a1,n1,c1,a2,n2,c2,rfl⟩:=hc.litb;have k1:=hc.numC.1;have k2:=hc.denC.1;have k0:=hc.negC;subst hB;unfold vB;rw[←k0]
 cases e1:(b==c)
 ·exact zs_1 e1 h h' k1 k2
 ·cases e2:same xs (limbs q.num.natAbs)
  ·exact zs_2 e1 e2 h h' k1 k2
  ·exact zs_3 e1 e2 rfl h h' k1 k2
theorem zvalid_p {L:Nat}{q:Rat}{xs ys:List Nat}{ba:Bool}{sa ta:Option Addr}{na ca ma ea:Nat}{w:World}{B:Bool}(hB0:vB ba xs ys q=B)(hxa:Sl w (.slice sa na ca) xs)(hya:Sl w (.slice ta ma ea) ys)(ha:AR q L w (.agg #[.bool ba,.slice sa na ca,.slice ta ma ea]))(hL:L≤100000000):
  Calls Tryz.prog 194 #[.agg #[.bool ba,.slice sa na ca,.slice ta ma ea]] w (Ret w (Val (.bool B))):=by
 have Ha:=lH ha;have Hxa:=lH hxa;have Hya:=lH hya;have HB0:=lH hB0;clear ha hxa hya hB0
 go_enter Tryz.func194,Tryz.ntmps194
 have HB:=lH (bR_ w.heap.size w)
 go_wp2_with fail
 obtain⟨W1,hW⟩:∃W1,W1=(World.alloc w (.cells #[.bool ba,.slice sa na ca,.slice ta ma ea] 56)):=⟨_,rfl⟩;rw[←hW];obtain⟨xa0,hk,hb⟩:=boxes_1 _ _ _ hW;clear hW;have Ha:=lH (AR.keep Ha.out hk);have Hxa:=lH (Sl.keep Hxa.out hk);have Hya:=lH (Sl.keep Hya.out hk);have Ga0:=lH (show w.heap.size≤w.heap.size from tL_ HB.out.size (by omega));have Xa0:=lH xa0;have HB:=lH (bC HB.out hb);clear hk hb xa0;have Ha:=lH (AR.keep Ha.out (Keep.drew W1));have Hxa:=lH (Sl.keep Hxa.out (Keep.drew W1));have Hya:=lH (Sl.keep Hya.out (Keep.drew W1));have Xa0:=lH (Box.drew Xa0.out);have HB:=lH (Below.drew HB.out);refine wp_region_float [] [] (by kernel_rfl) (by kernel_rfl) 7 (by kernel_rfl) Flok.nil ?_;intro ok;have Hok:=lH ok;clear ok;have HG:=lH (bR_ (W1.drew).heap.size (W1.drew));refine good_pureX 0 (some 3) (Go.Op.load 56 (Go.Operand.tmp 1)) (none) (.agg #[.bool ba,.slice sa na ca,.slice ta ma ea]) (by kernel_rfl) (by kernel_rfl) (by kernel_rfl) (fun _ _ _ h=>h) (fun w' hw'=> ?_) ?_
 ·obtain⟨ca00,ca01,ca02,fa00,fa01,fa02⟩:=(Box.se hw' Xa0.out notin0).c3
  first|(go_simp;done)|(go_simp;simp_all;done)|(go_simp;rfl)
 simp only[Act.put,sI,sZ,sS];refine good_pureX 1 (some 4) (Go.Op.load 56 (Go.Operand.tmp 1)) (none) (.agg #[.bool ba,.slice sa na ca,.slice ta ma ea]) (by kernel_rfl) (by kernel_rfl) (by kernel_rfl) (fun _ _ _ h=>h) (fun w' hw'=> ?_) ?_
 ·obtain⟨ca00,ca01,ca02,fa00,fa01,fa02⟩:=(Box.se hw' Xa0.out notin0).c3
  first|(go_simp;done)|(go_simp;simp_all;done)|(go_simp;rfl)
 simp only[Act.put,sI,sZ,sS];refine good_callX 2 217 (some 5) #[Go.Operand.tmp 4] #[56] (none) #[.agg #[.bool ba,.slice sa na ca,.slice ta ma ea]] (by kernel_rfl) Hok.out (by kernel_rfl) (by kernel_rfl) (by kernel_rfl) (by kernel_rfl) rfl rfl rfl (by kernel_rfl) (fun w2 hb=> ?_);have HG:=lH (bC HG.out hb);clear hb
 (first|(have hcall:=zcanon_ar (AR.keep Ha.out (kC HG.out)) (by omega);refine cM hcall ?_;clear hcall)|refine cM (zcanon_ar (AR.keep Ha.out (kC HG.out)) (by omega)) ?_)
 rintro e w3 ⟨v3,rfl,hc,hb⟩;obtain⟨c_b,c_a,c_n,c_c,c_d,c_m,c_e,rfl⟩:=hc.litb;refine⟨_,rfl,?_,hb⟩;have HG:=lH (bC HG.out hb);have Hc:=lH hc;clear hb hc;simp only[Act.put,sI,sZ,sS];refine good_callX 3 39 (some 6) #[Go.Operand.tmp 3,Go.Operand.tmp 5] #[56,56] (none) #[.agg #[.bool ba,.slice sa na ca,.slice ta ma ea],.agg #[.bool c_b,.slice c_a c_n c_c,.slice c_d c_m c_e]] (by kernel_rfl) Hok.out (by kernel_rfl) (by kernel_rfl) (by kernel_rfl) (by kernel_rfl) rfl rfl rfl (by kernel_rfl) (fun w4 hb=> ?_);have Hc:=lH (CR.keep Hc.out (kC hb));have HG:=lH (bC HG.out hb);clear hb
 (first|(have hcall:=zsame_v HB0.out (Sl.keep Hxa.out (kC HG.out)) (Sl.keep Hya.out (kC HG.out)) Hc.out;refine cM hcall ?_;clear hcall)|refine cM (zsame_v HB0.out (Sl.keep Hxa.out (kC HG.out)) (Sl.keep Hya.out (kC HG.out)) Hc.out) ?_)
 rintro e w5 ⟨v5,rfl,⟨⟩,hb⟩;refine⟨_,rfl,?_,hb⟩;have HG:=lH (bC HG.out hb);clear hb;simp only[Act.put,sI,sZ,sS];refine good_pureX 4 (some 2) (Go.Op.assign (Go.Operand.tmp 6)) (none) (.bool B) (by kernel_rfl) (by kernel_rfl) (by kernel_rfl) (fun _ _ _ h=>h) (fun w' hw'=> ?_) ?_
 ·first|(go_simp;done)|(go_simp;simp_all;done)|(go_simp;rfl)
 simp only[Act.put,sI,sZ,sS];refine good_end0 0 (by kernel_rfl) (fun _ w6 hb=> ?_);have HG:=lH (bC HG.out hb);clear hb;have Xa0:=lH (xP HG.out Xa0.out);have HB:=lH (bC HB.out HG.out);have HS:=lH (SE.of (E:=[]) HG.out);refine wpAnyH_done (by kernel_rfl) ?_ _;clear HG HS Hok;obtain⟨ca00,ca01,ca02,fa00,fa01,fa02⟩:=Xa0.out.c3;have la0:=Xa0.out.lt;go_wp2;clear ca00 ca01 ca02 fa00 fa01 fa02 la0
 go_ret
 exact⟨_,rfl,rfl,HB.out⟩
theorem rv_a1 {xs:List Nat}{ba:Bool}{sa ta:Option Addr}{na ca ma ea:Nat}{w:World}(hv:canon xs=false)(hd0:((ma:Int)==0)=true)(hxa:Sl w (.slice sa na ca) xs):
  Calls Tryz.prog 111 #[.agg #[.bool ba,.slice sa na ca,.slice ta ma ea]] w (Ret w (Val (.bool false))):=by
 have Hxa:=lH hxa;have Hv:=lH hv;clear hxa hv
 go_enter Tryz.func111,Tryz.ntmps111
 have HB:=lH (bR_ w.heap.size w)
 go_wp2_with fail
 obtain⟨W1,hW⟩:∃W1,W1=(World.alloc w (.cells #[.bool ba,.slice sa na ca,.slice ta ma ea] 56)):=⟨_,rfl⟩;rw[←hW];obtain⟨xa0,hk,hb⟩:=boxes_1 _ _ _ hW;clear hW;have Hxa:=lH (Sl.keep Hxa.out hk);have Ga0:=lH (show w.heap.size≤w.heap.size from tL_ HB.out.size (by omega));have Xa0:=lH xa0;have HB:=lH (bC HB.out hb);clear hk hb xa0
 (first|(have hcall:=valid_sl Hv.out Hxa.out;refine cM hcall ?_;clear hcall)|refine cM (valid_sl Hv.out Hxa.out) ?_)
 rintro e w2 ⟨v2,rfl,rfl,hb⟩;have Xa0:=lH (xP hb Xa0.out);have HB:=lH (bC HB.out hb);clear hb;obtain⟨ca00,ca01,ca02,fa00,fa01,fa02⟩:=Xa0.out.c3;have la0:=Xa0.out.lt;go_wp2;clear ca00 ca01 ca02 fa00 fa01 fa02 la0
 go_ret
 exact⟨_,rfl,rfl,HB.out⟩
theorem rv_a2 {xs:List Nat}{sa ta:Option Addr}{na ca ma ea:Nat}{w:World}(hv:canon xs=true)(hd0:((ma:Int)==0)=true)(hxa:Sl w (.slice sa na ca) xs):
  Calls Tryz.prog 111 #[.agg #[.bool false,.slice sa na ca,.slice ta ma ea]] w (Ret w (Val (.bool true))):=by
 have Hxa:=lH hxa;have Hv:=lH hv;clear hxa hv
 go_enter Tryz.func111,Tryz.ntmps111
 have HB:=lH (bR_ w.heap.size w)
 go_wp2_with fail
 obtain⟨W1,hW⟩:∃W1,W1=(World.alloc w (.cells #[.bool false,.slice sa na ca,.slice ta ma ea] 56)):=⟨_,rfl⟩;rw[←hW];obtain⟨xa0,hk,hb⟩:=boxes_1 _ _ _ hW;clear hW;have Hxa:=lH (Sl.keep Hxa.out hk);have Ga0:=lH (show w.heap.size≤w.heap.size from tL_ HB.out.size (by omega));have Xa0:=lH xa0;have HB:=lH (bC HB.out hb);clear hk hb xa0
 (first|(have hcall:=valid_sl Hv.out Hxa.out;refine cM hcall ?_;clear hcall)|refine cM (valid_sl Hv.out Hxa.out) ?_)
 rintro e w2 ⟨v2,rfl,rfl,hb⟩;have Xa0:=lH (xP hb Xa0.out);have HB:=lH (bC HB.out hb);clear hb;obtain⟨ca00,ca01,ca02,fa00,fa01,fa02⟩:=Xa0.out.c3;have la0:=Xa0.out.lt;go_wp2;clear ca00 ca01 ca02 fa00 fa01 fa02 la0
 go_ret
 exact⟨_,rfl,rfl,HB.out⟩
theorem rv_a3t {xs:List Nat}{sa ta:Option Addr}{na ca ma ea:Nat}{w:World}(hv:canon xs=true)(hd2:decide (0<na)=true)(hd0:((ma:Int)==0)=true)(hxa:Sl w (.slice sa na ca) xs):
  Calls Tryz.prog 111 #[.agg #[.bool true,.slice sa na ca,.slice ta ma ea]] w (Ret w (Val (.bool true))):=by
 have Hxa:=lH hxa;have Hv:=lH hv;clear hxa hv
 go_enter Tryz.func111,Tryz.ntmps111
 have HB:=lH (bR_ w.heap.size w)
 go_wp2_with fail
 obtain⟨W1,hW⟩:∃W1,W1=(World.alloc w (.cells #[.bool true,.slice sa na ca,.slice ta ma ea] 56)):=⟨_,rfl⟩;rw[←hW];obtain⟨xa0,hk,hb⟩:=boxes_1 _ _ _ hW;clear hW;have Hxa:=lH (Sl.keep Hxa.out hk);have Ga0:=lH (show w.heap.size≤w.heap.size from tL_ HB.out.size (by omega));have Xa0:=lH xa0;have HB:=lH (bC HB.out hb);clear hk hb xa0
 (first|(have hcall:=valid_sl Hv.out Hxa.out;refine cM hcall ?_;clear hcall)|refine cM (valid_sl Hv.out Hxa.out) ?_)
 rintro e w2 ⟨v2,rfl,rfl,hb⟩;have Xa0:=lH (xP hb Xa0.out);have HB:=lH (bC HB.out hb);clear hb;obtain⟨ca00,ca01,ca02,fa00,fa01,fa02⟩:=Xa0.out.c3;have la0:=Xa0.out.lt;go_wp2;clear ca00 ca01 ca02 fa00 fa01 fa02 la0
 go_ret
 exact⟨_,rfl,rfl,HB.out⟩
theorem rv_a3f {xs:List Nat}{sa ta:Option Addr}{na ca ma ea:Nat}{w:World}(hv:canon xs=true)(hd2:decide (0<na)=false)(hd0:((ma:Int)==0)=true)(hxa:Sl w (.slice sa na ca) xs):
  Calls Tryz.prog 111 #[.agg #[.bool true,.slice sa na ca,.slice ta ma ea]] w (Ret w (Val (.bool false))):=by
 have Hxa:=lH hxa;have Hv:=lH hv;clear hxa hv
 go_enter Tryz.func111,Tryz.ntmps111
 have HB:=lH (bR_ w.heap.size w)
 go_wp2_with fail
 obtain⟨W1,hW⟩:∃W1,W1=(World.alloc w (.cells #[.bool true,.slice sa na ca,.slice ta ma ea] 56)):=⟨_,rfl⟩;rw[←hW];obtain⟨xa0,hk,hb⟩:=boxes_1 _ _ _ hW;clear hW;have Hxa:=lH (Sl.keep Hxa.out hk);have Ga0:=lH (show w.heap.size≤w.heap.size from tL_ HB.out.size (by omega));have Xa0:=lH xa0;have HB:=lH (bC HB.out hb);clear hk hb xa0
 (first|(have hcall:=valid_sl Hv.out Hxa.out;refine cM hcall ?_;clear hcall)|refine cM (valid_sl Hv.out Hxa.out) ?_)
 rintro e w2 ⟨v2,rfl,rfl,hb⟩;have Xa0:=lH (xP hb Xa0.out);have HB:=lH (bC HB.out hb);clear hb;obtain⟨ca00,ca01,ca02,fa00,fa01,fa02⟩:=Xa0.out.c3;have la0:=Xa0.out.lt;go_wp2;clear ca00 ca01 ca02 fa00 fa01 fa02 la0
 go_ret
 exact⟨_,rfl,rfl,HB.out⟩
theorem rv_b0 {L:Nat}{q:Rat}{xs ys:List Nat}{ba:Bool}{sa ta:Option Addr}{na ca ma ea:Nat}{w:World}(he1:(ba==decide (q<0))=false)(hd0:((ma:Int)==0)=false)(hxa:Sl w (.slice sa na ca) xs)(hya:Sl w (.slice ta ma ea) ys)(ha:AR q L w (.agg #[.bool ba,.slice sa na ca,.slice ta ma ea]))(hL:L≤100000000):
  Calls Tryz.prog 111 #[.agg #[.bool ba,.slice sa na ca,.slice ta ma ea]] w (Ret w (Val (.bool false))):=by
 have Ha:=lH ha;have Hxa:=lH hxa;have Hya:=lH hya;have He1:=lH he1;clear ha hxa hya he1
 go_enter Tryz.func111,Tryz.ntmps111
 have HB:=lH (bR_ w.heap.size w)
 go_wp2_with fail
 obtain⟨W1,hW⟩:∃W1,W1=(World.alloc w (.cells #[.bool ba,.slice sa na ca,.slice ta ma ea] 56)):=⟨_,rfl⟩;rw[←hW];obtain⟨xa0,hk,hb⟩:=boxes_1 _ _ _ hW;clear hW;have Ha:=lH (AR.keep Ha.out hk);have Ga0:=lH (show w.heap.size≤w.heap.size from tL_ HB.out.size (by omega));have Xa0:=lH xa0;have HB:=lH (bC HB.out hb);clear hk hb xa0
 (first|(have hcall:=canon_ar Ha.out (by omega);refine cM hcall ?_;clear hcall)|refine cM (canon_ar Ha.out (by omega)) ?_)
 rintro e w2 ⟨v2,rfl,hc,hb⟩;obtain⟨c_b,c_a,c_n,c_c,c_d,c_m,c_e,rfl⟩:=hc.litb;have Xa0:=lH (xP hb Xa0.out);have HB:=lH (bC HB.out hb);have Hc:=lH hc;clear hb hc;have d1:(ba==c_b)=false:=by rw[Hc.out.negC];exact He1.out
 obtain⟨ca00,ca01,ca02,fa00,fa01,fa02⟩:=Xa0.out.c3;have la0:=Xa0.out.lt;go_wp2;clear ca00 ca01 ca02 fa00 fa01 fa02 la0;obtain⟨W3,hW⟩:∃W3,W3=(World.alloc w2 (.cells #[.bool c_b,.slice c_a c_n c_c,.slice c_d c_m c_e] 56)):=⟨_,rfl⟩;rw[←hW];obtain⟨xb0,hk,hb⟩:=boxes_1 _ _ _ hW;clear hW;have Na0b0:=lH (show w.heap.size≠w2.heap.size from Nat.ne_of_lt (Nat.lt_of_lt_of_le Xa0.out.lt (by omega)));have Gb0:=lH (show w.heap.size≤w2.heap.size from tL_ HB.out.size (by omega));have Xa0:=lH (xP hb Xa0.out);have Xb0:=lH xb0;have HB:=lH (bC HB.out hb);clear hk hb xb0
 go_ret
 exact⟨_,rfl,rfl,HB.out⟩
theorem rv_b1 {L:Nat}{q:Rat}{xs ys:List Nat}{ba:Bool}{sa ta:Option Addr}{na ca ma ea:Nat}{w:World}(he1:(ba==decide (q<0))=true)(he2:(na==(limbs q.num.natAbs).length)=false)(hd0:((ma:Int)==0)=false)(hxa:Sl w (.slice sa na ca) xs)(hya:Sl w (.slice ta ma ea) ys)(ha:AR q L w (.agg #[.bool ba,.slice sa na ca,.slice ta ma ea]))(hL:L≤100000000):
  Calls Tryz.prog 111 #[.agg #[.bool ba,.slice sa na ca,.slice ta ma ea]] w (Ret w (Val (.bool false))):=by
 have Ha:=lH ha;have Hxa:=lH hxa;have Hya:=lH hya;have He1:=lH he1;have He2:=lH he2;clear ha hxa hya he1 he2
 go_enter Tryz.func111,Tryz.ntmps111
 have HB:=lH (bR_ w.heap.size w)
 go_wp2_with fail
 obtain⟨W1,hW⟩:∃W1,W1=(World.alloc w (.cells #[.bool ba,.slice sa na ca,.slice ta ma ea] 56)):=⟨_,rfl⟩;rw[←hW];obtain⟨xa0,hk,hb⟩:=boxes_1 _ _ _ hW;clear hW;have Ha:=lH (AR.keep Ha.out hk);have Ga0:=lH (show w.heap.size≤w.heap.size from tL_ HB.out.size (by omega));have Xa0:=lH xa0;have HB:=lH (bC HB.out hb);clear hk hb xa0
 (first|(have hcall:=canon_ar Ha.out (by omega);refine cM hcall ?_;clear hcall)|refine cM (canon_ar Ha.out (by omega)) ?_)
 rintro e w2 ⟨v2,rfl,hc,hb⟩;obtain⟨c_b,c_a,c_n,c_c,c_d,c_m,c_e,rfl⟩:=hc.litb;have Xa0:=lH (xP hb Xa0.out);have HB:=lH (bC HB.out hb);have Hc:=lH hc;clear hb hc;have d1:(ba==c_b)=true:=by rw[Hc.out.negC];exact He1.out
 have d2:((na:Int)==(c_n:Int))=false:=eqI Hc.out.numC.1.lenE He2.out;obtain⟨ca00,ca01,ca02,fa00,fa01,fa02⟩:=Xa0.out.c3;have la0:=Xa0.out.lt;go_wp2;clear ca00 ca01 ca02 fa00 fa01 fa02 la0;obtain⟨W3,hW⟩:∃W3,W3=(World.alloc w2 (.cells #[.bool c_b,.slice c_a c_n c_c,.slice c_d c_m c_e] 56)):=⟨_,rfl⟩;rw[←hW];obtain⟨xb0,hk,hb⟩:=boxes_1 _ _ _ hW;clear hW;have Na0b0:=lH (show w.heap.size≠w2.heap.size from Nat.ne_of_lt (Nat.lt_of_lt_of_le Xa0.out.lt (by omega)));have Gb0:=lH (show w.heap.size≤w2.heap.size from tL_ HB.out.size (by omega));have Xa0:=lH (xP hb Xa0.out);have Xb0:=lH xb0;have HB:=lH (bC HB.out hb);clear hk hb xb0
 go_ret
 exact⟨_,rfl,rfl,HB.out⟩
theorem rv_b2 {L:Nat}{q:Rat}{xs ys:List Nat}{ba:Bool}{sa ta:Option Addr}{na ca ma ea:Nat}{w:World}(he1:(ba==decide (q<0))=true)(he2:(na==(limbs q.num.natAbs).length)=true)(he3:(ma==(limbs (dn q)).length)=false)(hd0:((ma:Int)==0)=false)(hxa:Sl w (.slice sa na ca) xs)(hya:Sl w (.slice ta ma ea) ys)(ha:AR q L w (.agg #[.bool ba,.slice sa na ca,.slice ta ma ea]))(hL:L≤100000000):
  Calls Tryz.prog 111 #[.agg #[.bool ba,.slice sa na ca,.slice ta ma ea]] w (Ret w (Val (.bool false))):=by
 have Ha:=lH ha;have Hxa:=lH hxa;have Hya:=lH hya;have He1:=lH he1;have He2:=lH he2;have He3:=lH he3;clear ha hxa hya he1 he2 he3
 go_enter Tryz.func111,Tryz.ntmps111
 have HB:=lH (bR_ w.heap.size w)
 go_wp2_with fail
 obtain⟨W1,hW⟩:∃W1,W1=(World.alloc w (.cells #[.bool ba,.slice sa na ca,.slice ta ma ea] 56)):=⟨_,rfl⟩;rw[←hW];obtain⟨xa0,hk,hb⟩:=boxes_1 _ _ _ hW;clear hW;have Ha:=lH (AR.keep Ha.out hk);have Ga0:=lH (show w.heap.size≤w.heap.size from tL_ HB.out.size (by omega));have Xa0:=lH xa0;have HB:=lH (bC HB.out hb);clear hk hb xa0
 (first|(have hcall:=canon_ar Ha.out (by omega);refine cM hcall ?_;clear hcall)|refine cM (canon_ar Ha.out (by omega)) ?_)
 rintro e w2 ⟨v2,rfl,hc,hb⟩;obtain⟨c_b,c_a,c_n,c_c,c_d,c_m,c_e,rfl⟩:=hc.litb;have Xa0:=lH (xP hb Xa0.out);have HB:=lH (bC HB.out hb);have Hc:=lH hc;clear hb hc;have d1:(ba==c_b)=true:=by rw[Hc.out.negC];exact He1.out
 have d2:((na:Int)==(c_n:Int))=true:=eqI Hc.out.numC.1.lenE He2.out;have d3:((ma:Int)==(c_m:Int))=false:=eqI Hc.out.denC.1.lenE He3.out;obtain⟨ca00,ca01,ca02,fa00,fa01,fa02⟩:=Xa0.out.c3;have la0:=Xa0.out.lt;go_wp2;clear ca00 ca01 ca02 fa00 fa01 fa02 la0;obtain⟨W3,hW⟩:∃W3,W3=(World.alloc w2 (.cells #[.bool c_b,.slice c_a c_n c_c,.slice c_d c_m c_e] 56)):=⟨_,rfl⟩;rw[←hW];obtain⟨xb0,hk,hb⟩:=boxes_1 _ _ _ hW;clear hW;have Na0b0:=lH (show w.heap.size≠w2.heap.size from Nat.ne_of_lt (Nat.lt_of_lt_of_le Xa0.out.lt (by omega)));have Gb0:=lH (show w.heap.size≤w2.heap.size from tL_ HB.out.size (by omega));have Xa0:=lH (xP hb Xa0.out);have Xb0:=lH xb0;have HB:=lH (bC HB.out hb);clear hk hb xb0
 go_ret
 exact⟨_,rfl,rfl,HB.out⟩
theorem rv_b3 {L:Nat}{q:Rat}{xs ys:List Nat}{ba:Bool}{sa ta:Option Addr}{na ca ma ea:Nat}{w:World}(he1:(ba==decide (q<0))=true)(he2:(na==(limbs q.num.natAbs).length)=true)(he3:(ma==(limbs (dn q)).length)=true)(k:Int)(hk:cmpN (val xs) q.num.natAbs=k)(hk0:(k==0)=false)(hd0:((ma:Int)==0)=false)(hxa:Sl w (.slice sa na ca) xs)(hya:Sl w (.slice ta ma ea) ys)(ha:AR q L w (.agg #[.bool ba,.slice sa na ca,.slice ta ma ea]))(hL:L≤100000000):
  Calls Tryz.prog 111 #[.agg #[.bool ba,.slice sa na ca,.slice ta ma ea]] w (Ret w (Val (.bool false))):=by
 have Ha:=lH ha;have Hxa:=lH hxa;have Hya:=lH hya;have He1:=lH he1;have He2:=lH he2;have He3:=lH he3;have Hk:=lH hk;clear ha hxa hya he1 he2 he3 hk
 go_enter Tryz.func111,Tryz.ntmps111
 have HB:=lH (bR_ w.heap.size w)
 go_wp2_with fail
 obtain⟨W1,hW⟩:∃W1,W1=(World.alloc w (.cells #[.bool ba,.slice sa na ca,.slice ta ma ea] 56)):=⟨_,rfl⟩;rw[←hW];obtain⟨xa0,hk,hb⟩:=boxes_1 _ _ _ hW;clear hW;have Ha:=lH (AR.keep Ha.out hk);have Hxa:=lH (Sl.keep Hxa.out hk);have Ga0:=lH (show w.heap.size≤w.heap.size from tL_ HB.out.size (by omega));have Xa0:=lH xa0;have HB:=lH (bC HB.out hb);clear hk hb xa0
 (first|(have hcall:=canon_ar Ha.out (by omega);refine cM hcall ?_;clear hcall)|refine cM (canon_ar Ha.out (by omega)) ?_)
 rintro e w2 ⟨v2,rfl,hc,hb⟩;obtain⟨c_b,c_a,c_n,c_c,c_d,c_m,c_e,rfl⟩:=hc.litb;have Hxa:=lH (Sl.keep Hxa.out (kC hb));have Xa0:=lH (xP hb Xa0.out);have HB:=lH (bC HB.out hb);have Hc:=lH hc;clear hb hc;have d1:(ba==c_b)=true:=by rw[Hc.out.negC];exact He1.out
 have d2:((na:Int)==(c_n:Int))=true:=eqI Hc.out.numC.1.lenE He2.out;have d3:((ma:Int)==(c_m:Int))=true:=eqI Hc.out.denC.1.lenE He3.out;obtain⟨ca00,ca01,ca02,fa00,fa01,fa02⟩:=Xa0.out.c3;have la0:=Xa0.out.lt
 go_wp2_with fail
 clear ca00 ca01 ca02 fa00 fa01 fa02 la0;obtain⟨W3,hW⟩:∃W3,W3=(World.alloc w2 (.cells #[.bool c_b,.slice c_a c_n c_c,.slice c_d c_m c_e] 56)):=⟨_,rfl⟩;rw[←hW];obtain⟨xb0,hk,hb⟩:=boxes_1 _ _ _ hW;clear hW;have Hxa:=lH (Sl.keep Hxa.out hk);have Hc:=lH (CR.keep Hc.out hk);have Na0b0:=lH (show w.heap.size≠w2.heap.size from Nat.ne_of_lt (Nat.lt_of_lt_of_le Xa0.out.lt (by omega)));have Gb0:=lH (show w.heap.size≤w2.heap.size from tL_ HB.out.size (by omega));have Xa0:=lH (xP hb Xa0.out);have Xb0:=lH xb0;have HB:=lH (bC HB.out hb);clear hk hb xb0
 (first|(have hcall:=cmp_slc k Hk.out Hxa.out Hc.out.numC;refine cM hcall ?_;clear hcall)|refine cM (cmp_slc k Hk.out Hxa.out Hc.out.numC) ?_)
 rintro e w4 ⟨v4,rfl,⟨⟩,hb⟩;have Xa0:=lH (xP hb Xa0.out);have Xb0:=lH (xP hb Xb0.out);have HB:=lH (bC HB.out hb);clear hb;obtain⟨ca00,ca01,ca02,fa00,fa01,fa02⟩:=Xa0.out.c3;have la0:=Xa0.out.lt;obtain⟨cb00,cb01,cb02,fb00,fb01,fb02⟩:=Xb0.out.c3;have lb0:=Xb0.out.lt;go_wp2;clear ca00 ca01 ca02 fa00 fa01 fa02 la0 cb00 cb01 cb02 fb00 fb01 fb02 lb0
 go_ret
 exact⟨_,rfl,rfl,HB.out⟩
theorem rv_b4 {L:Nat}{q:Rat}{xs ys:List Nat}{ba:Bool}{sa ta:Option Addr}{na ca ma ea:Nat}{w:World}(he1:(ba==decide (q<0))=true)(he2:(na==(limbs q.num.natAbs).length)=true)(he3:(ma==(limbs (dn q)).length)=true)(hk:cmpN (val xs) q.num.natAbs=0)(m:Int)(hm:cmpN (val ys) (dn q)=m)(hm0:(m==0)=false)(hd0:((ma:Int)==0)=false)(hxa:Sl w (.slice sa na ca) xs)(hya:Sl w (.slice ta ma ea) ys)(ha:AR q L w (.agg #[.bool ba,.slice sa na ca,.slice ta ma ea]))(hL:L≤100000000):
  Calls Tryz.prog 111 #[.agg #[.bool ba,.slice sa na ca,.slice ta ma ea]] w (Ret w (Val (.bool false))):=by
 have Ha:=lH ha;have Hxa:=lH hxa;have Hya:=lH hya;have He1:=lH he1;have He2:=lH he2;have He3:=lH he3;have Hk:=lH hk;have Hm:=lH hm;clear ha hxa hya he1 he2 he3 hk hm
 go_enter Tryz.func111,Tryz.ntmps111
 have HB:=lH (bR_ w.heap.size w)
 go_wp2_with fail
 obtain⟨W1,hW⟩:∃W1,W1=(World.alloc w (.cells #[.bool ba,.slice sa na ca,.slice ta ma ea] 56)):=⟨_,rfl⟩;rw[←hW];obtain⟨xa0,hk,hb⟩:=boxes_1 _ _ _ hW;clear hW;have Ha:=lH (AR.keep Ha.out hk);have Hxa:=lH (Sl.keep Hxa.out hk);have Hya:=lH (Sl.keep Hya.out hk);have Ga0:=lH (show w.heap.size≤w.heap.size from tL_ HB.out.size (by omega));have Xa0:=lH xa0;have HB:=lH (bC HB.out hb);clear hk hb xa0
 (first|(have hcall:=canon_ar Ha.out (by omega);refine cM hcall ?_;clear hcall)|refine cM (canon_ar Ha.out (by omega)) ?_)
 rintro e w2 ⟨v2,rfl,hc,hb⟩;obtain⟨c_b,c_a,c_n,c_c,c_d,c_m,c_e,rfl⟩:=hc.litb;have Hxa:=lH (Sl.keep Hxa.out (kC hb));have Hya:=lH (Sl.keep Hya.out (kC hb));have Xa0:=lH (xP hb Xa0.out);have HB:=lH (bC HB.out hb);have Hc:=lH hc;clear hb hc;have d1:(ba==c_b)=true:=by rw[Hc.out.negC];exact He1.out
 have d2:((na:Int)==(c_n:Int))=true:=eqI Hc.out.numC.1.lenE He2.out;have d3:((ma:Int)==(c_m:Int))=true:=eqI Hc.out.denC.1.lenE He3.out;obtain⟨ca00,ca01,ca02,fa00,fa01,fa02⟩:=Xa0.out.c3;have la0:=Xa0.out.lt
 go_wp2_with fail
 clear ca00 ca01 ca02 fa00 fa01 fa02 la0;obtain⟨W3,hW⟩:∃W3,W3=(World.alloc w2 (.cells #[.bool c_b,.slice c_a c_n c_c,.slice c_d c_m c_e] 56)):=⟨_,rfl⟩;rw[←hW];obtain⟨xb0,hk,hb⟩:=boxes_1 _ _ _ hW;clear hW;have Hxa:=lH (Sl.keep Hxa.out hk);have Hya:=lH (Sl.keep Hya.out hk);have Hc:=lH (CR.keep Hc.out hk);have Na0b0:=lH (show w.heap.size≠w2.heap.size from Nat.ne_of_lt (Nat.lt_of_lt_of_le Xa0.out.lt (by omega)));have Gb0:=lH (show w.heap.size≤w2.heap.size from tL_ HB.out.size (by omega));have Xa0:=lH (xP hb Xa0.out);have Xb0:=lH xb0;have HB:=lH (bC HB.out hb);clear hk hb xb0
 (first|(have hcall:=cmp_slc 0 Hk.out Hxa.out Hc.out.numC;refine cM hcall ?_;clear hcall)|refine cM (cmp_slc 0 Hk.out Hxa.out Hc.out.numC) ?_)
 rintro e w4 ⟨v4,rfl,rfl,hb⟩;have Hya:=lH (Sl.keep Hya.out (kC hb));have Hc:=lH (CR.keep Hc.out (kC hb));have Xa0:=lH (xP hb Xa0.out);have Xb0:=lH (xP hb Xb0.out);have HB:=lH (bC HB.out hb);clear hb;obtain⟨ca00,ca01,ca02,fa00,fa01,fa02⟩:=Xa0.out.c3;have la0:=Xa0.out.lt;obtain⟨cb00,cb01,cb02,fb00,fb01,fb02⟩:=Xb0.out.c3;have lb0:=Xb0.out.lt
 go_wp2_with fail
 clear ca00 ca01 ca02 fa00 fa01 fa02 la0 cb00 cb01 cb02 fb00 fb01 fb02 lb0
 (first|(have hcall:=cmp_slc m Hm.out Hya.out Hc.out.denC;refine cM hcall ?_;clear hcall)|refine cM (cmp_slc m Hm.out Hya.out Hc.out.denC) ?_)
 rintro e w5 ⟨v5,rfl,⟨⟩,hb⟩;have Xa0:=lH (xP hb Xa0.out);have Xb0:=lH (xP hb Xb0.out);have HB:=lH (bC HB.out hb);clear hb;obtain⟨ca00,ca01,ca02,fa00,fa01,fa02⟩:=Xa0.out.c3;have la0:=Xa0.out.lt;obtain⟨cb00,cb01,cb02,fb00,fb01,fb02⟩:=Xb0.out.c3;have lb0:=Xb0.out.lt;go_wp2;clear ca00 ca01 ca02 fa00 fa01 fa02 la0 cb00 cb01 cb02 fb00 fb01 fb02 lb0
 go_ret
 exact⟨_,rfl,rfl,HB.out⟩
theorem rv_b5 {L:Nat}{q:Rat}{xs ys:List Nat}{ba:Bool}{sa ta:Option Addr}{na ca ma ea:Nat}{w:World}(he1:(ba==decide (q<0))=true)(he2:(na==(limbs q.num.natAbs).length)=true)(he3:(ma==(limbs (dn q)).length)=true)(hk:cmpN (val xs) q.num.natAbs=0)(hm:cmpN (val ys) (dn q)=0)(hd0:((ma:Int)==0)=false)(hxa:Sl w (.slice sa na ca) xs)(hya:Sl w (.slice ta ma ea) ys)(ha:AR q L w (.agg #[.bool ba,.slice sa na ca,.slice ta ma ea]))(hL:L≤100000000):
  Calls Tryz.prog 111 #[.agg #[.bool ba,.slice sa na ca,.slice ta ma ea]] w (Ret w (Val (.bool true))):=by
 have Ha:=lH ha;have Hxa:=lH hxa;have Hya:=lH hya;have He1:=lH he1;have He2:=lH he2;have He3:=lH he3;have Hk:=lH hk;have Hm:=lH hm;clear ha hxa hya he1 he2 he3 hk hm
 go_enter Tryz.func111,Tryz.ntmps111
 have HB:=lH (bR_ w.heap.size w)
 go_wp2_with fail
 obtain⟨W1,hW⟩:∃W1,W1=(World.alloc w (.cells #[.bool ba,.slice sa na ca,.slice ta ma ea] 56)):=⟨_,rfl⟩;rw[←hW];obtain⟨xa0,hk,hb⟩:=boxes_1 _ _ _ hW;clear hW;have Ha:=lH (AR.keep Ha.out hk);have Hxa:=lH (Sl.keep Hxa.out hk);have Hya:=lH (Sl.keep Hya.out hk);have Ga0:=lH (show w.heap.size≤w.heap.size from tL_ HB.out.size (by omega));have Xa0:=lH xa0;have HB:=lH (bC HB.out hb);clear hk hb xa0
 (first|(have hcall:=canon_ar Ha.out (by omega);refine cM hcall ?_;clear hcall)|refine cM (canon_ar Ha.out (by omega)) ?_)
 rintro e w2 ⟨v2,rfl,hc,hb⟩;obtain⟨c_b,c_a,c_n,c_c,c_d,c_m,c_e,rfl⟩:=hc.litb;have Hxa:=lH (Sl.keep Hxa.out (kC hb));have Hya:=lH (Sl.keep Hya.out (kC hb));have Xa0:=lH (xP hb Xa0.out);have HB:=lH (bC HB.out hb);have Hc:=lH hc;clear hb hc;have d1:(ba==c_b)=true:=by rw[Hc.out.negC];exact He1.out
 have d2:((na:Int)==(c_n:Int))=true:=eqI Hc.out.numC.1.lenE He2.out;have d3:((ma:Int)==(c_m:Int))=true:=eqI Hc.out.denC.1.lenE He3.out;obtain⟨ca00,ca01,ca02,fa00,fa01,fa02⟩:=Xa0.out.c3;have la0:=Xa0.out.lt
 go_wp2_with fail
 clear ca00 ca01 ca02 fa00 fa01 fa02 la0;obtain⟨W3,hW⟩:∃W3,W3=(World.alloc w2 (.cells #[.bool c_b,.slice c_a c_n c_c,.slice c_d c_m c_e] 56)):=⟨_,rfl⟩;rw[←hW];obtain⟨xb0,hk,hb⟩:=boxes_1 _ _ _ hW;clear hW;have Hxa:=lH (Sl.keep Hxa.out hk);have Hya:=lH (Sl.keep Hya.out hk);have Hc:=lH (CR.keep Hc.out hk);have Na0b0:=lH (show w.heap.size≠w2.heap.size from Nat.ne_of_lt (Nat.lt_of_lt_of_le Xa0.out.lt (by omega)));have Gb0:=lH (show w.heap.size≤w2.heap.size from tL_ HB.out.size (by omega));have Xa0:=lH (xP hb Xa0.out);have Xb0:=lH xb0;have HB:=lH (bC HB.out hb);clear hk hb xb0
 (first|(have hcall:=cmp_slc 0 Hk.out Hxa.out Hc.out.numC;refine cM hcall ?_;clear hcall)|refine cM (cmp_slc 0 Hk.out Hxa.out Hc.out.numC) ?_)
 rintro e w4 ⟨v4,rfl,rfl,hb⟩;have Hya:=lH (Sl.keep Hya.out (kC hb));have Hc:=lH (CR.keep Hc.out (kC hb));have Xa0:=lH (xP hb Xa0.out);have Xb0:=lH (xP hb Xb0.out);have HB:=lH (bC HB.out hb);clear hb;obtain⟨ca00,ca01,ca02,fa00,fa01,fa02⟩:=Xa0.out.c3;have la0:=Xa0.out.lt;obtain⟨cb00,cb01,cb02,fb00,fb01,fb02⟩:=Xb0.out.c3;have lb0:=Xb0.out.lt
 go_wp2_with fail
 clear ca00 ca01 ca02 fa00 fa01 fa02 la0 cb00 cb01 cb02 fb00 fb01 fb02 lb0
 (first|(have hcall:=cmp_slc 0 Hm.out Hya.out Hc.out.denC;refine cM hcall ?_;clear hcall)|refine cM (cmp_slc 0 Hm.out Hya.out Hc.out.denC) ?_)
 rintro e w5 ⟨v5,rfl,rfl,hb⟩;have Xa0:=lH (xP hb Xa0.out);have Xb0:=lH (xP hb Xb0.out);have HB:=lH (bC HB.out hb);clear hb;obtain⟨ca00,ca01,ca02,fa00,fa01,fa02⟩:=Xa0.out.c3;have la0:=Xa0.out.lt;obtain⟨cb00,cb01,cb02,fb00,fb01,fb02⟩:=Xb0.out.c3;have lb0:=Xb0.out.lt;go_wp2;clear ca00 ca01 ca02 fa00 fa01 fa02 la0 cb00 cb01 cb02 fb00 fb01 fb02 lb0
 go_ret
 exact⟨_,rfl,rfl,HB.out⟩
theorem rvalid_v {B ba:Bool}{sa ta:Option Addr}{na ca ma ea:Nat}{xs ys:List Nat}{L:Nat}{w:World}(hB:vB ba xs ys (rv ba (val xs) (val ys))=B)(h:Sl w (.slice sa na ca) xs)(h':Sl w (.slice ta ma ea) ys)(hl:xs.length≤L)(hl':ys.length≤L)(hL:L≤100000000):
  Calls Tryz.prog 111 #[.agg #[.bool ba,.slice sa na ca,.slice ta ma ea]] w (Ret w (Val (.bool B))):=by
 have n1:=h.lenE;have n2:=h'.lenE;have ha:AR (rv ba (val xs) (val ys)) L w (.agg #[.bool ba,.slice sa na ca,.slice ta ma ea]):=AR.mk ⟨xs,h,rfl,hl⟩ ⟨ys,h',rfl,hl'⟩;subst hB;rcases eP_ ma with hm|hm
 ·have hy:ys=[]:=List.length_eq_zero_iff.1 (by omega);subst hy;have hd:((ma:Int)==0)=true:=by simp[hm]
  rw[show val []=0 from rfl,vB_nil h.lims,←n1]
  cases hc:canon xs
  ·exact rv_a1 hc hd h
  ·cases ba
   ·exact rv_a2 hc hd h
   ·cases hn:decide (0<na)
    ·exact rv_a3f hc hn hd h
    ·exact rv_a3t hc hn hd h
 ·have hd:((ma:Int)==0)=false:=by rw[beq_eq_false_iff_ne];omega
  generalize rv ba (val xs) (val ys)=q at *
  unfold vB;rw[same_parts h.lims,same_parts h'.lims,←n1,←n2]
  cases e1:(ba==decide (q<0))
  ·exact rv_b0 e1 hd h h' ha hL
  cases e2:(na==(limbs q.num.natAbs).length)
  ·exact rv_b1 e1 e2 hd h h' ha hL
  cases e3:(ma==(limbs (dn q)).length)
  ·have:∀x,(true&&(true&&x)&&(false&&(cmpN (val ys) (dn q)==0)))=false:=by intro x;cases x<;>rfl
   rw[this];exact rv_b2 e1 e2 e3 hd h h' ha hL
  by_cases k:cmpN (val xs) q.num.natAbs=0
  ·by_cases m:cmpN (val ys) (dn q)=0
   ·rw[k,m];exact rv_b5 e1 e2 e3 k m hd h h' ha hL
   ·rw[k,show(cmpN (val ys) (dn q)==0)=false from beq_eq_false_iff_ne.2 m];exact rv_b4 e1 e2 e3 k _ rfl (beq_eq_false_iff_ne.2 m) hd h h' ha hL
  ·rw[show(cmpN (val xs) q.num.natAbs==0)=false from beq_eq_false_iff_ne.2 k];exact rv_b3 e1 e2 e3 _ rfl (beq_eq_false_iff_ne.2 k) hd h h' ha hL
end Go.Proofs.YtbegidaaiajffaaGreatDoor
namespace Go.Proofs.YtbegidaaiajffaaGreatDoor.Lf
open Go.RowKit Nt
abbrev rawV (b:Bool)(xs ys:List Nat):V:= .agg [.d (.lit (.bool b)),.d (.lm xs),.d (.lm ys)]
abbrev ratV (q:Rat):V:=rawV (decide (q<0)) (limbs q.num.natAbs) (limbs (dn q))
def RQ (x:V)(q:Rat):Prop:=∃b xs ys,WkV x (rawV b xs ys)∧rv b (val xs) (val ys)=q∧xs.length≤100000000∧ys.length≤100000000
def Bt (k:Nat)(q:Rat):Prop:=q.num.natAbs≤2^k∧q.den≤2^k
theorem sz_pow2 {n k:Nat}(h:n≤2^k):sz n≤k/32+1:=by
 refine sz_le (Nat.lt_of_le_of_lt h ?_);rw[show 4294967296=2^32 from rfl,←Nat.pow_mul];exact Nat.pow_lt_pow_right (by decide) (by omega)
theorem Bt.sm {k:Nat}{q:Rat}(h:Bt k q)(hk:k≤3000000000):Sm 100000000 q:=⟨tL_ (sz_pow2 h.1) (by omega),tL_ (sz_pow2 h.2) (by omega)⟩
theorem RQ.can {k:Nat}{q:Rat}(h:Bt k q)(hk:k≤3000000000):RQ (ratV q) q:=by
 refine⟨_,_,_,vR_ _,?_,(h.sm hk).1,(h.sm hk).dn⟩;rw[val_limbs,val_limbs];exact rv_self q
theorem RQ.raw {b:Bool}{xs ys:List Nat}{q:Rat}(h:rv b (val xs) (val ys)=q)(h1:xs.length≤100000000)(h2:ys.length≤100000000):RQ (rawV b xs ys) q:=⟨_,_,_,vR_ _,h,h1,h2⟩
theorem RQ.wk {x y:V}{q:Rat}(h:RQ y q)(hw:WkV x y):RQ x q:=let ⟨b,xs,ys,h1,h2,h3,h4⟩:=h;⟨b,xs,ys,fun γ h' M w r k=>h1 γ h' M w r (hw γ h' M w r k),h2,h3,h4⟩
section
variable {γ:Gh} {h:Hp} {M:MS} {w:World} {x y z:V} {a b:Rat} {u v r:Value}
theorem rdV_raw {b:Bool}{xs ys:List Nat}(k:RdV γ h M w (rawV b xs ys) r):∃s t,r= .agg #[.bool b,s,t]∧Sl w s xs∧Sl w t ys:=by
 obtain⟨vs,rfl,h1⟩:=k
 match vs,h1 with
 |[p,s,t],h1=>exact⟨s,t,by rw[show p= .bool b from lit_inv h1.1],rd_sl h1.2.1,rd_sl h1.2.2.1⟩
 |[],h1=>exact h1.elim
 |[_],h1=>exact h1.2.elim
 |[_,_],h1=>exact h1.2.2.elim
 |_::_::_::_::_,h1=>exact h1.2.2.2.elim
theorem RQ.ar (hx:RQ x a)(k:RdV γ h M w x r):AR a 100000000 w r:=by
 obtain⟨b,xs,ys,h1,h2,h3,h4⟩:=hx;obtain⟨s,t,rfl,k1,k2⟩:=rdV_raw (h1 _ _ _ _ _ k);exact⟨b,s,t,_,_,rfl,⟨xs,k1,rfl,h3⟩,⟨ys,k2,rfl,h4⟩,h2⟩
theorem CR.ov {L:Nat}(k:CR a L w r):OV w (ratV a) r:=by
 obtain⟨⟨s,t,rfl,h1,h2⟩,_⟩:=k;exact⟨[_,s,t],rfl,rfl,h1,h2,trivial⟩
theorem Val.ov {u:Value}(k:Val u w r):OV w (vl u) r:=k
theorem CRE.ov {L:Nat}{e:Int}(k:CRE a L e w r):OV w (.tup [.g [.d (.lit (.bool (decide (a<0)))),.d (.lm (limbs a.num.natAbs)),.d (.lm (limbs (dn a)))],.s (.d (.lit (.int .i64 e)))]) r:=by
 obtain⟨v,rfl,k⟩:=k;exact⟨[v,_],rfl,CR.ov k,rfl,trivial⟩
theorem all2_1 {R:V→Value→Prop}{rs:List Value}(k:All2 R [x] rs):∃r,rs=[r]∧R x r:=by
 match rs,k with
 |[r],k=>exact⟨r,rfl,k.1⟩
 |[],k=>exact k.elim
 |_::_::_,k=>exact k.2.elim
theorem all2_2 {R:V→Value→Prop}{rs:List Value}(k:All2 R [x,y] rs):∃r s,rs=[r,s]∧R x r∧R y s:=by
 match rs,k with
 |[r,s],k=>exact⟨r,s,rfl,k.1,k.2.1⟩
 |[],k=>exact k.elim
 |[_],k=>exact k.2.elim
 |_::_::_::_,k=>exact k.2.2.elim
end
theorem mix:Tryz.prog.follows .mixedOrders=true:=by rfl
theorem Calls.ret {P:Program}{f:FuncId}{args:Array Value}{w:World}{R R':World→Value→Prop}(h:Calls P f args w (Ret w R))(k:∀w' v,R w' v→R' w' v):Calls P f args w (Ret w R'):=
 cM h fun e w' ⟨v,h1,h2,h3⟩=>⟨v,h1,k _ _ h2,h3⟩
section
variable {x y:V} {a b:Rat}
theorem lx_rcanon (hx:RQ x a):LV Tryz.prog 73 [x] (ratV a):=lv_of fun γ M w rs ha=>by
 obtain⟨r,rfl,k⟩:=all2_1 ha;exact Calls.ret (canon_ar (hx.ar k) (lR_ _)) fun _ _=>CR.ov
theorem lx_rsign (hx:RQ x a):LV Tryz.prog 42 [x] (vl (.int .i64 a.num.sign)):=lv_of fun γ M w rs ha=>by
 obtain⟨r,rfl,k⟩:=all2_1 ha;exact Calls.ret (rsign_ar _ (hx.ar k) rfl (lR_ _)) fun _ _=>Val.ov
theorem lx_radd (hx:RQ x a)(hy:RQ y b):LV Tryz.prog 74 [x,y] (ratV (a+b)):=lv_of fun γ M w rs ha=>by
 obtain⟨r,s,rfl,k,k2⟩:=all2_2 ha;exact Calls.ret (radd_ar (hx.ar k) (hy.ar k2) (lR_ _) (lR_ _)) fun _ _=>CR.ov
theorem lx_rmul (hx:RQ x a)(hy:RQ y b):LV Tryz.prog 75 [x,y] (ratV (a*b)):=lv_of fun γ M w rs ha=>by
 obtain⟨r,s,rfl,k,k2⟩:=all2_2 ha;exact Calls.ret (rmul_ar (hx.ar k) (hy.ar k2) (lR_ _) (lR_ _)) fun _ _=>CR.ov
theorem lx_rmax (hx:RQ x a)(hy:RQ y b):LV Tryz.prog 68 [x,y] (ratV (if b≤a then a else b)):=lv_of fun γ M w rs ha=>by
 obtain⟨r,s,rfl,k,k2⟩:=all2_2 ha;exact Calls.ret (rmax_ar (hx.ar k) (hy.ar k2) (lR_ _) (lR_ _)) fun _ _=>CR.ov
theorem lx_rof {z:Int}(h1: -9223372036854775808≤z)(h2:z<9223372036854775808):LV Tryz.prog 47 [vl (.int .i64 z)] (ratV (z:Rat)):=lv_of fun γ M w rs ha=>by
 obtain⟨r,rfl,k⟩:=all2_1 ha;rw[show r= .int .i64 z from lit_inv k];exact Calls.ret (of_rat h1 h2) fun _ _=>CR.ov
theorem lx_zof {z:Int}(h1: -9223372036854775808≤z)(h2:z<9223372036854775808):LV Tryz.prog 19 [vl (.int .i64 z)] (ratV (z:Rat)):=lv_of fun γ M w rs ha=>by
 obtain⟨r,rfl,k⟩:=all2_1 ha;rw[show r= .int .i64 z from lit_inv k];exact Calls.ret (zof h1 h2) fun _ _=>CR.ov
theorem lx_zfrac {y z:Int}(h1: -9223372036854775808≤y)(h2:y<9223372036854775808)(h3: -9223372036854775808≤z)(h4:z<9223372036854775808)(hz:z≠0):
  LV Tryz.prog 95 [vl (.int .i64 y),vl (.int .i64 z)] (.tup [.g [.d (.lit (.bool (decide ((y:Rat)/z<0)))),.d (.lm (limbs ((y:Rat)/z).num.natAbs)),.d (.lm (limbs (dn ((y:Rat)/z))))],.s (.d (.lit (.int .i64 0)))]):=lv_of fun γ M w rs ha=>by
 obtain⟨r,s,rfl,k,k'⟩:=all2_2 ha;rw[show r= .int .i64 y from lit_inv k,show s= .int .i64 z from lit_inv k'];exact Calls.ret (zfrac_1 h1 h2 h3 h4 hz) fun _ _=>CRE.ov
theorem lx_rdiv (h0:b≠0)(hx:RQ x a)(hy:RQ y b):LV Tryz.prog 153 [x,y] (.tup [.g [.d (.lit (.bool (decide (a/b<0)))),.d (.lm (limbs (a/b).num.natAbs)),.d (.lm (limbs (dn (a/b))))],.s (.d (.lit (.int .i64 0)))]):=lv_of fun γ M w rs ha=>by
 obtain⟨r,s,rfl,k,k'⟩:=all2_2 ha;exact Calls.ret (rdiv_ar h0 (hx.ar k) (hy.ar k') (lR_ _) (lR_ _)) fun _ _=>CRE.ov
theorem lx_rvalid {c:Bool}{xs ys:List Nat}(h1:xs.length≤100000000)(h2:ys.length≤100000000):LV Tryz.prog 111 [rawV c xs ys] (vl (.bool (vB c xs ys (rv c (val xs) (val ys))))):=lv_of fun γ M w rs ha=>by
 obtain⟨r,rfl,k⟩:=all2_1 ha;obtain⟨s,t,rfl,k1,k2⟩:=rdV_raw k;obtain⟨s1,s2,s3,rfl⟩:=k1.lit;obtain⟨t1,t2,t3,rfl⟩:=k2.lit;exact Calls.ret (rvalid_v rfl k1 k2 h1 h2 (lR_ _)) fun _ _=>Val.ov
theorem lx_zvalid {c:Bool}{xs ys:List Nat}(h1:xs.length≤100000000)(h2:ys.length≤100000000):LV Tryz.prog 194 [rawV c xs ys] (vl (.bool (vB c xs ys (rv c (val xs) (val ys))))):=lv_of fun γ M w rs ha=>by
 obtain⟨r,rfl,k⟩:=all2_1 ha;obtain⟨s,t,rfl,k1,k2⟩:=rdV_raw k;have k3:=(RQ.raw (b:=c) rfl h1 h2).ar k;obtain⟨s1,s2,s3,rfl⟩:=k1.lit;obtain⟨t1,t2,t3,rfl⟩:=k2.lit;exact Calls.ret (zvalid_p rfl k1 k2 k3 (lR_ _)) fun _ _=>Val.ov
theorem lx_zsame {c:Bool}{xs ys:List Nat}{k:Nat}(hb:Bt k b)(hk:k≤3000000000):LV Tryz.prog 39 [rawV c xs ys,ratV b] (vl (.bool (vB c xs ys b))):=lv_of fun γ M w rs ha=>by
 obtain⟨r,s,rfl,k1,k2⟩:=all2_2 ha;obtain⟨s,t,rfl,k3,k4⟩:=rdV_raw k1;obtain⟨s',t',rfl,k5,k6⟩:=rdV_raw k2;exact Calls.ret (zsame_v (L:=100000000) rfl k3 k4 ⟨⟨_,_,rfl,k5,k6⟩,hb.sm hk⟩) fun _ _=>Val.ov
end
theorem Wk.go {m:Nat}{s s':St}(h1:subT s.T s'.H s'.T:=by(repeat' first|exact trivial|exact vR_ _|exact WkV.int (wr64 (by omega) (by omega))|exact WkV.int (by simp)|refine⟨⟨_,rfl,?_,rfl⟩,?_⟩))
  (h2:subH s.H s'.H s'.H:=by(repeat' first|exact trivial|exact wke_refl _|refine⟨⟨_,rfl,?_,rfl⟩,?_⟩)) (h3:subM m s.H s'.H=true:=by rfl):Wk m s s':=Wk.of h1 h2 h3
def okF (ks:List Nat)(n:Nat)(gs:List V)(H H1:List (Nat×Ent)):Bool:=
 decide ks.Nodup&&ks.all (fun k=>Nat.blt k n)&&(gs.flatMap keysV).all (fun k=>ks.contains k)&&H1.all (fun p=>noKeys p.2&&(Nat.blt p.1 ks.length||(look H (back ks n p.1)).isNone))
section
variable {P:Program} {F:FuncId} {vs gs:List V} {H:List (Nat×Ent)} {n:Nat} {K:V→List (Nat×Ent)→List Nat→Nat→Prop} {v:V} {R:V→Prop}
theorem Cn.c (hc:LV P F (vs.map stripV) v)(hk:fX v fun v=>K v [] [] n)(he:entT P F=true:=by rfl)(hg:((vs.map stripV).flatMap keysV).isEmpty=true:=by rfl)(hv:(keysV v).isEmpty=true:=by rfl):Cn P F vs H n K:= .val hc he hg hv hk
theorem Cn.l {Hs H1:List (Nat×Ent)}(ks:List Nat)(hc:LX P F ((vs.map stripV).map (renV fun k=>ks.idxOf k)) Hs fun v' H'=>v'=v∧H'=H1)
  (hk:fX (renV (back ks n) v) fun v=>fHs (H1.map fun p=>(back ks n p.1,p.2)) fun sets=>K v sets (ks++H1.map fun p=>back ks n p.1) (n+H1.length)) (he:entT P F=true:=by rfl)
  (hl:lendFrom (look H) 0 ks=some Hs:=by rfl) (hok:okF ks n (vs.map stripV) H H1=true:=by rfl):Cn P F vs H n K:=by
 unfold okF at hok;simp only[Bool.and_eq_true,Bool.or_eq_true,decide_eq_true_eq,List.all_eq_true,Nat.blt_eq,List.contains_eq_mem]at hok;obtain⟨⟨⟨o1,o2⟩,o3⟩,o4⟩:=hok;refine .lend ks _ Hs _ he hc (strips_ok vs) o1 o2 hl o3 fun v' H1' hR=> ?_;obtain⟨rfl,rfl⟩:=hR;exact⟨List.all_eq_true.2 fun p hp=>(o4 p hp).1,fun p hp hle=>(o4 p hp).2.elim (fun h=>absurd h (by omega)) fun h=>by simpa using h,hk⟩
theorem Rt.q {m:Nat}{R:V→List (Nat×Ent)→Prop}(hR:R v [])(hi:(keysV v).isEmpty=true:=by rfl)(hm:m=0:=by rfl):Rt m H v R:=by
 subst hm;exact⟨v,[],hR,vR_ v,by simp[inH,List.isEmpty_iff.1 hi],trivial,rfl⟩
theorem Rt.s {m:Nat}{R:V→List (Nat×Ent)→Prop}(hR:R (stripV v) [])(hi:(keysV (stripV v)).isEmpty=true:=by rfl)(hm:m=0:=by rfl):Rt m H v R:=by
 subst hm;exact⟨_,[],hR,stripV_ok v,by simp[inH,List.isEmpty_iff.1 hi],trivial,rfl⟩
end
structure Rw where
 b:Bool
 n:List Nat
 d:List Nat
def Rw.q (x:Rw):Rat:=rv x.b (val x.n) (val x.d)
abbrev Rw.D (x:Rw):List D:=[.lit (.bool x.b),.lm x.n,.lm x.d]
abbrev Rw.A (x:Rw):List A:=[.d (.lit (.bool x.b)),.d (.lm x.n),.d (.lm x.d)]
abbrev can (q:Rat):Rw:=⟨decide (q<0),limbs q.num.natAbs,limbs (dn q)⟩
abbrev Rw.sm (x:Rw):Prop:=x.n.length≤100000000∧x.d.length≤100000000
def Sz (q:Rat):Prop:=Bt 3000000000 q
theorem RQ.c {q:Rat}(h:Sz q):RQ (ratV q) q:=RQ.can h (lR_ _)
theorem can_q (q:Rat):(can q).q=q:=by unfold Rw.q;rw[val_limbs,val_limbs];exact rv_self q
theorem Sz.sm {q:Rat}(h:Sz q):(can q).sm:=⟨(Bt.sm h (lR_ _)).1,(Bt.sm h (lR_ _)).dn⟩
theorem Bt.mono {k l:Nat}{q:Rat}(h:Bt k q)(hl:k≤l):Bt l q:=⟨tL_ h.1 (Nat.pow_le_pow_right (by decide) hl),tL_ h.2 (Nat.pow_le_pow_right (by decide) hl)⟩
theorem Bt.sz {k:Nat}{q:Rat}(h:Bt k q)(hk:k≤3000000000):Sz q:=h.mono hk
theorem bt0 (k:Nat):Bt k 0:=⟨zL_ _,Nat.one_le_two_pow⟩
theorem sz0:Sz 0:=bt0 _
def Rw.ok (x:Rw):Bool:=vB x.b x.n x.d x.q
theorem can_ok (q:Rat):(can q).ok=true:=by unfold Rw.ok;rw[can_q];exact vB_can q
theorem ok_can {x:Rw}(h:x.ok=true):x=can x.q:=by
 unfold Rw.ok vB same at h;rw[Bool.and_eq_true,Bool.and_eq_true,beq_iff_eq,decide_eq_true_eq,decide_eq_true_eq]at h;obtain⟨⟨h1,h2⟩,h3⟩:=h;show x=⟨_,_,_⟩;rw[←h1,←h2,←h3]
theorem lx_ok {x:Rw}(h:x.sm):LV Tryz.prog 111 [.agg x.A] (vl (.bool x.ok)):=lx_rvalid h.1 h.2
theorem lx_zok {x:Rw}(h:x.sm):LV Tryz.prog 194 [.agg x.A] (vl (.bool x.ok)):=lx_zvalid h.1 h.2
theorem lx_okc {q:Rat}(h:Sz q):LV Tryz.prog 111 [ratV q] (vl (.bool true)):=by
 have:=lx_ok h.sm;rwa [can_ok]at this
structure Tm where
 v:Int
 q:Rat
structure Af where
 ts:List Tm
 c:Rat
structure Gr where
 n:Nat
 us:List Af
 os:List Af
structure Rg where
 lo:List Rat
 hi:List Rat
 rs:List Af
structure Qu where
 g:Gr
 r:Rg
 goal:Af
structure Dc where
 k:Int
 i:Int
 at_:Rw
structure Lm where
 u:Int
 up:Bool
 v:Rw
 pf:List (List D)
structure Sp where
 q:Qu
 path:List Dc
 ls:List Lm
abbrev Tm.D (t:Tm):List D:= .lit (.int .i64 t.v)::(can t.q).D
abbrev Af.D (f:Af):List D:= .sl 4 (f.ts.map Tm.D)::(can f.c).D
abbrev Af.A (f:Af):List A:= .d (.sl 4 (f.ts.map Tm.D))::(can f.c).A
abbrev afsD (l:List Af):D:= .sl 4 (l.map Af.D)
abbrev rqsD (l:List Rat):D:= .sl 3 (l.map fun q=>(can q).D)
abbrev Gr.A (g:Gr):List A:=[.d (.lit (.int .i64 g.n)),.d (afsD g.us),.d (afsD g.os)]
structure AfOk (f:Af)(n:Int):Prop where
 lo:∀(i:Nat) (t:Tm),f.ts[i]? =some t→0≤t.v∧t.v<n∧t.q≠0∧Sz t.q
 up:∀(i:Nat) (t u:Tm),f.ts[i]? =some t→f.ts[i+1]? =some u→t.v<u.v
 c:Sz f.c
 len:f.ts.length≤1000000
structure GrOk (g:Gr):Prop where
 n1:1≤g.n
 n2:g.n≤256
 u1:g.us.length≤1024
 o1:1≤g.os.length
 o2:g.os.length≤256
 us:∀(j:Nat) (f:Af),g.us[j]? =some f→AfOk f (g.n+j:Nat)
 os:∀f∈g.os,AfOk f (g.n+g.us.length:Nat)
structure RgOk (r:Rg)(n:Nat):Prop where
 n1:1≤n
 n2:n≤256
 lo:r.lo.length=n
 hi:r.hi.length=n
 rl:r.rs.length≤256
 le:∀(i:Nat) (a b:Rat),r.lo[i]? =some a→r.hi[i]? =some b→a≤b
 sl:∀q∈r.lo,Sz q
 sh:∀q∈r.hi,Sz q
 rs:∀f∈r.rs,AfOk f n
structure QuOk (q:Qu):Prop where
 g:GrOk q.g
 r:RgOk q.r q.g.n
 goal:AfOk q.goal (q.g.n+q.g.us.length:Nat)
theorem at_some {α:Type}{l:List α}{i:Nat}(h:i<l.length):∃x,l[i]? =some x:=⟨_,List.getElem?_eq_getElem h⟩
theorem at_lt {α:Type}{l:List α}{i:Nat}{x:α}(h:l[i]? =some x):i<l.length:=(List.getElem?_eq_some_iff.1 h).1
theorem at_map {α β:Type}{l:List α}{f:α→β}{i:Nat}{x:α}(h:l[i]? =some x):(l.map f)[i]? =some (f x):=by rw[List.getElem?_map,h];rfl
theorem sgn_ne {q:Rat}(h:q≠0):(q.num.sign==0)=false:=by simpa [Int.sign_eq_zero_iff_zero]using h
theorem take_snoc {α:Type}{l:List α}{i:Nat}{x:α}(h:l[i]? =some x):l.take (i+1)=l.take i++[x]:=by
 obtain⟨h1,h2⟩:=List.getElem?_eq_some_iff.1 h;rw[List.take_succ_eq_append_getElem h1,h2]
theorem lx_lvalid {f:Af}{n:Int}(hf:AfOk f n):LV Tryz.prog 77 [.agg f.A,vl (.int .i64 n)] (vl (.bool true)):=by
 refine LX_run (m:=0) (n0:=0) mix Tryz.func77 rfl rfl rfl rfl ?_;conv=>whnf
 have hl:=hf.len;refine .mk Nat (fun i=>⟨[(10,vl (.int .i64 i)),(9,vl (.int .i64 (f.ts.map Tm.D).length)),(8,.a (.d (.sl 4 (f.ts.map Tm.D)))),(2,.a (.ptr 0 0)),(1,vl (.int .i64 n))],[(0,.box 79 f.A)],1⟩) (fun i=>i≤f.ts.length) (fun i=>f.ts.length-i) 0 Wk.go (zL_ _) fun i hi=> ?_;conv=>whnf
 refine bs (fun h1=> ?_) (fun h1=> ?_)
 ·conv=>whnf
  have h1':i<f.ts.length:=by simpa using h1
  obtain⟨t,ht⟩:=at_some h1';obtain⟨a1,a2,a3,a4⟩:=hf.lo i t ht;refine .mk (i) (t.D) (rfl) (at_map ht) ?_;conv=>whnf
  conv=>whnf
  refine bF (decide_eq_false (by omega)) ?_;conv=>whnf
  refine bF (decide_eq_false (by omega)) ?_;conv=>whnf
  refine bs (fun h2=> ?_) (fun h2=> ?_)
  ·conv=>whnf
   have h2':0<i:=by simpa using h2
   obtain⟨u,hu⟩:=at_some (l:=f.ts) (i:=i-1) (by omega);have a5:=hf.up (i-1) u t hu (by rw[show i-1+1=i by omega];exact ht);refine .mk (i-1) (u.D) (by rw[wr64 (by omega) (by omega)];omega) (at_map hu) ?_;conv=>whnf
   conv=>whnf
   refine bF (decide_eq_false (by omega)) ?_;conv=>whnf
   refine .c (lx_rsign (.c a4)) ?_;conv=>whnf
   refine bF (sgn_ne a3) ?_;conv=>whnf
   refine .c (lx_okc a4) ?_;conv=>whnf
   refine .mk (by kernel_rfl) ?_;conv=>whnf
   exact⟨i+1,Wk.go,h1',by omega⟩
  ·conv=>whnf
   refine .c (lx_rsign (.c a4)) ?_;conv=>whnf
   refine bF (sgn_ne a3) ?_;conv=>whnf
   refine .c (lx_okc a4) ?_;conv=>whnf
   refine .mk (by kernel_rfl) ?_;conv=>whnf
   exact⟨i+1,Wk.go,h1',by omega⟩
 ·conv=>whnf
  refine .c (lx_okc hf.c) ?_;conv=>whnf
  exact .q ⟨rfl,rfl⟩
theorem AfOk.w {f:Af}{n m:Int}(h:AfOk f n)(e:m=n):AfOk f m:=e▸h
theorem lx_lvalidG {f:Af}{n:Int}(hf:AfOk f n):
  LX Tryz.prog 134 [.agg f.A,.a (.ptr 0 0)] [(0,.box 3 [.d (.lit (.int .i64 n))])] fun v H=>v=vl (.bool false)∧H=[(0,.box 3 [.d (.lit (.int .i64 n))])]:=by
 refine LX_run (m:=1) (n0:=1) mix Tryz.func134 rfl rfl rfl rfl ?_;conv=>whnf
 refine .c (lx_lvalid hf) ?_;conv=>whnf
 exact⟨_,_,⟨rfl,rfl⟩,vR_ _,rfl,⟨⟨_,rfl,wke_refl _,rfl⟩,trivial⟩,rfl⟩
theorem lx_cfA {F:FuncId}{fs:List Af}{n:Int}(hl:fs.length≤1000000)(he:entT Tryz.prog F=true)(hF:∀f∈fs,LX Tryz.prog F [.agg f.A,.a (.ptr 0 0)] [(0,.box 3 [.d (.lit (.int .i64 n))])] fun v H=>v=vl (.bool false)∧H=[(0,.box 3 [.d (.lit (.int .i64 n))])]):
  LX Tryz.prog 133 [.a (.d (afsD fs)),.a (.fn (.func F) [] [.ptr 0 0])] [(0,.box 3 [.d (.lit (.int .i64 n))])] fun v H=>v=vl (.bool false)∧H=[(0,.box 3 [.d (.lit (.int .i64 n))])]:=by
 have ix:LX Tryz.prog 187 [.a (.d (afsD fs)),.a (.fn (.func F) [] [.ptr 0 0])] [(0,.box 3 [.d (.lit (.int .i64 n))])] fun v H=>v=vl (.int .i64 (-1))∧H=[(0,.box 3 [.d (.lit (.int .i64 n))])]:=by
  refine LX_run (m:=1) (n0:=1) mix Tryz.func187 rfl rfl rfl rfl ?_;conv=>whnf
  refine .mk Nat (fun i=>⟨[(8,vl (.int .i64 i)),(7,vl (.int .i64 (fs.map Af.D).length)),(1,.a (.fn (.func F) [] [.ptr 0 0])),(0,.a (.d (afsD fs)))],[(0,.box 3 [.d (.lit (.int .i64 n))])],1⟩) (fun i=>i≤fs.length) (fun i=>fs.length-i) 0 Wk.go (zL_ _) fun i hi=> ?_;conv=>whnf
  refine bs (fun h1=> ?_) (fun h1=> ?_)
  ·conv=>whnf
   have h1':i<fs.length:=by simpa using h1
   obtain⟨f,hf⟩:=at_some h1';refine .mk (i) (f.D) (rfl) (at_map hf) ?_;conv=>whnf
   refine Cn.l [0] (hF f (mG_ hf)) ?_ he;conv=>whnf
   exact⟨i+1,Wk.go,h1',by omega⟩
  ·conv=>whnf
   exact⟨_,_,⟨rfl,rfl⟩,vR_ _,rfl,⟨⟨_,rfl,wke_refl _,rfl⟩,trivial⟩,rfl⟩
 refine LX_run (m:=1) (n0:=1) mix Tryz.func133 rfl rfl rfl rfl ?_;conv=>whnf
 refine .l [0] (ix) ?_;conv=>whnf
 exact⟨_,_,⟨rfl,rfl⟩,vR_ _,rfl,⟨⟨_,rfl,wke_refl _,rfl⟩,trivial⟩,rfl⟩
theorem lx_gvalid0 {fs:List Af}{n:Int}(hl:fs.length≤1000000)(hf:∀f∈fs,AfOk f n):LV Tryz.prog 78 [.a (.d (afsD fs)),vl (.int .i64 n)] (vl (.bool true)):=by
 refine LX_run (m:=0) (n0:=0) mix Tryz.func78 rfl rfl rfl rfl ?_;conv=>whnf
 refine .l [0] (lx_cfA hl rfl fun f hm=>lx_lvalidG (hf f hm)) ?_;conv=>whnf
 exact .q ⟨rfl,rfl⟩
theorem lx_gvalid {g:Gr}(hg:GrOk g):LV Tryz.prog 40 [.agg g.A] (vl (.bool true)):=by
 obtain⟨n1,n2,u1,o1,o2,hus,hos⟩:=hg;refine LX_run (m:=0) (n0:=0) mix Tryz.func40 rfl rfl rfl rfl ?_;conv=>whnf
 refine bF (decide_eq_false (by omega)) ?_;conv=>whnf
 refine bF (decide_eq_false (by omega)) ?_;conv=>whnf
 refine bF (decide_eq_false (by simp;omega)) ?_;conv=>whnf
 refine bF (decide_eq_false (by simp;omega)) ?_;conv=>whnf
 refine bF (decide_eq_false (by simp;omega)) ?_;conv=>whnf
 refine .mk Nat (fun i=>⟨[(34,vl (.int .i64 i)),(33,vl (.int .i64 (g.us.map Af.D).length)),(32,.a (.d (afsD g.us))),(1,.a (.ptr 0 0))],[(0,.box 36 g.A)],1⟩) (fun i=>i≤g.us.length) (fun i=>g.us.length-i) 0 Wk.go (zL_ _) fun i hi=> ?_;conv=>whnf
 refine bs (fun h1=> ?_) (fun h1=> ?_)
 ·conv=>whnf
  have h1':i<g.us.length:=by simpa using h1
  obtain⟨f,hf⟩:=at_some h1';refine .mk (i) (f.D) (rfl) (at_map hf) ?_;conv=>whnf
  conv=>whnf
  refine .c (lx_lvalid ((hus i f hf).w (by rw[wr64 (by omega) (by omega)];omega))) ?_;conv=>whnf
  exact⟨i+1,Wk.go,h1',by omega⟩
 ·conv=>whnf
  refine .c (lx_gvalid0 (by omega) fun f hf=>(hos f hf).w (by rw[wr64 (by simp;omega) (by simp;omega)];simp)) ?_;conv=>whnf
  exact .q ⟨rfl,rfl⟩
def Rw.z0 (x:Rw):Bool:= !x.b&&((x.n.length:Int)==0)&&((x.d.length:Int)==0)
def fitB (q:Qu)(d:Dc):Bool:=
 if d.k=1∨d.k=2 then decide (d.i≥0)&&decide (d.i<(q.g.us.length:Int))&&d.at_.z0
 else if d.k=3∨d.k=4 then decide (d.i≥0)&&decide (d.i<(q.g.n:Int))&&d.at_.ok else false
structure SpOk (s:Sp):Prop where
 q:QuOk s.q
 pl:s.path.length≤1000000
 pn:∀d∈s.path,d.at_.sm
 ll:s.ls.length≤1000000
 ln:∀m∈s.ls,m.v.sm
 rlo:∀q∈s.q.r.lo,Bt 300000000 q
 rhi:∀q∈s.q.r.hi,Bt 300000000 q
 pb:∀d∈s.path,Bt 300000000 d.at_.q
 lb:∀m∈s.ls,Bt 300000000 m.v.q
def atL (ls:List Lm)(z:Int):Lm:=(ls[(z-1).toNat]?).getD ⟨0,false,⟨false,[],[]⟩,[]⟩
abbrev vAt (ls:List Lm)(z:Int):Rat:=(atL ls z).v.q
open Go.Maps
theorem clone_nil {P:Program}{F:FuncId}{k:Nat}{e:TypeId}(h1:∀cap,LX P F [vl (.slice none 0 cap)] [] fun v H=>v=vl (.slice none 0 0)∧H=[])(h2:∀a cap,LX P F [vl (.slice (some a) 0 cap)] [] fun v H=>v= .a (.own 0 k [])∧H=[(0,.arr e k 0)]):
  LX P F [.a (.d (.sl k []))] [] fun v H=>v= .a (.own 0 k [])∧H=[(0,.arr e k 0)]:=by
 refine⟨_,_,⟨rfl,rfl⟩,fun γ M w rs hr ha=> ?_⟩;obtain⟨v,rfl,hv⟩:=all2_1 ha;have:∃ad cap,v= .slice ad 0 cap:=by
  generalize hx:(V.a (A.d (D.sl k [])))=x at hv;have hv':RdD M w (.sl k []) v:=by subst hx;exact hv
  cases hv';exact⟨_,_,rfl⟩
 obtain⟨ad,cap,rfl⟩:=this
 cases ad with
 |none=>
  obtain⟨v',H',⟨rfl,rfl⟩,hc⟩:=h1 cap;refine cM (hc γ M w _ hr ⟨.lit _,trivial⟩) ?_;rintro e1 w' ⟨r,γ',M',rfl,k1,k2,k3⟩;obtain⟨q1,q2⟩:=new_nil k1 (key:=0) rfl e k;have e2:look [(0,Ent.arr e k 0)]=over [(0,.arr e k 0)] (look []):=look_app [(0,Ent.arr e k 0)] [];have e3:=lit_inv k2;subst e3;refine⟨_,_,M',rfl,by rw[e2];exact q1,⟨nil_ok k,rfl,fun e' k' n he=> ?_⟩,by rw[e2];exact k3.trans q2 hr.dom⟩;simp only[look,if_true]at he;injection he with he;injection he with _ _ he;subst he;exact⟨lR_ _,fun _=>by rw[upd_same]⟩
 |some a=>
  obtain⟨v',H',⟨rfl,rfl⟩,hc⟩:=h2 a cap;exact hc γ M w _ hr ⟨.lit _,trivial⟩
def isU (d:Dc):Bool:=decide (d.k=1∨d.k=2)
def seenB (l:List Dc)(x:Int):Bool:=l.any fun d=>isU d&&d.i==x
def twTo (l:List Dc):Nat→Bool
 |0=>false
 |i+1=>twTo l i||(match l[i]? with
  |some d=>isU d&&seenB (l.take i) d.i
  |none=>false)
def twB (l:List Dc):Bool:=twTo l l.length
theorem can0:can 0=⟨false,limbs 0,limbs 0⟩:=by
 have h1:decide ((0:Rat)<0)=false:=by decide
 show Rw.mk _ _ _=_;rw[h1];rfl
structure Iv where
 lo:Rat
 hi:Rat
theorem bt_mk {k:Nat}{z:Int}{d:Nat}(hd:0<d)(h1:z.natAbs≤2^k)(h2:d≤2^k):Bt k (mkRat z d):=by
 refine⟨?_,?_⟩
 ·rw[Rat.num_mkRat];split
  ·simp
  ·refine tL_ ?_ h1;rw[Int.natAbs_ediv_of_dvd (Int.ofNat_dvd_left.2 (by first|exact Nat.gcd_dvd_left _ _|exact Nat.gcd_dvd_right _ _))];exact Nat.div_le_self _ _
 ·rw[Rat.den_mkRat];split
  ·exact Nat.one_le_two_pow
  ·exact tL_ (Nat.div_le_self _ _) h2
theorem Bt.mul {k l:Nat}{a b:Rat}(h:Bt k a)(h':Bt l b):Bt (k+l) (a*b):=by
 rw[←Rat.mkRat_self a,←Rat.mkRat_self b,Rat.mkRat_mul_mkRat];refine bt_mk (Nat.mul_pos a.den_pos b.den_pos) ?_ ?_
 ·rw[Int.natAbs_mul,Nat.pow_add];exact Nat.mul_le_mul h.1 h'.1
 ·rw[Nat.pow_add];exact Nat.mul_le_mul h.2 h'.2
theorem Bt.add {k l:Nat}{a b:Rat}(h:Bt k a)(h':Bt l b):Bt (k+l+1) (a+b):=by
 rw[←Rat.mkRat_self a,←Rat.mkRat_self b,Rat.mkRat_add_mkRat _ _ a.den_nz b.den_nz];have h1:=Nat.mul_le_mul h.1 h'.2;have h2:=Nat.mul_le_mul h'.1 h.2;have h3:=Nat.mul_le_mul h.2 h'.2;rw[←Nat.pow_add]at h1 h2 h3;rw[Nat.add_comm l k]at h2;have e:2^(k+l+1)=2^(k+l)+2^(k+l):=by rw[Nat.pow_succ];omega
 refine bt_mk (Nat.mul_pos a.den_pos b.den_pos) ?_ (by omega);refine tL_ (Int.natAbs_add_le _ _) ?_;rw[Int.natAbs_mul,Int.natAbs_mul,Int.natAbs_natCast,Int.natAbs_natCast];omega
theorem Bt.inv {k:Nat}{a:Rat}(h:Bt k a)(h0:a≠0):Bt k a⁻¹:=by
 have hn:a.num≠0:=by simpa using h0
 refine⟨?_,?_⟩
 ·rw[Rat.num_inv,Int.natAbs_mul,Int.natAbs_sign_of_ne_zero hn,Nat.one_mul,Int.natAbs_natCast];exact h.2
 ·rw[Rat.den_inv,if_neg (by simpa using h0)];exact h.1
theorem Bt.div {k l:Nat}{a b:Rat}(h:Bt k a)(h':Bt l b)(h0:b≠0):Bt (k+l) (a/b):=by
 rw[Rat.div_def];exact h.mul (h'.inv h0)
theorem rat0V:V.agg [A.d (.lit (.bool false)),.d (.lm (limbs 0)),.d (.lm (limbs 0))]=ratV 0:=by
 have h:=can0;injection h with h1 h2 h3;show _=V.agg [_,_,_];rw[h1,h2,h3]
def unB (l u:Rat):Bool:=decide (l<0)&&decide (0<u)
theorem un_ne {l u:Rat}(h:unB l u=true):u-l≠0:=by
 simp[unB]at h;grind
theorem Bt.int {z:Int}{k:Nat}(h:z.natAbs≤2^k):Bt k (z:Rat):=⟨by rw[Rat.num_intCast];exact h,by rw[Rat.den_intCast];exact Nat.one_le_two_pow⟩
def isIn (d:Dc):Bool:=(d.k==3)||(d.k==4)
def cntI (l:List Dc):Nat:=(l.filter isIn).length
def cof:List Tm→Int→Rat
 |[],_=>0
 |t::ts,w=>(if t.v=w then t.q else 0)+cof ts w
theorem cof_app (a b:List Tm)(w:Int):cof (a++b) w=cof a w+cof b w:=by
 induction a with
 |nil=>simp[cof,Rat.zero_add]
 |cons t a ih=>simp only[List.cons_append,cof,ih,Rat.add_assoc]
def nz1 (t:Tm):List Tm:=if t.q=0 then []else [t]
theorem cof_nz1 (t:Tm)(w:Int):cof (nz1 t) w=if t.v=w then t.q else 0:=by
 unfold nz1;split
 ·rename_i h;simp[cof,h]
 ·simp[cof,Rat.add_zero]
def ins (v:Int)(c:Rat):List Tm→List Tm
 |[]=>nz1 ⟨v,c⟩
 |t::ts=>if t.v=v then nz1 ⟨v,t.q+c⟩++ts else if v<t.v then nz1 ⟨v,c⟩++t::ts else t::ins v c ts
theorem cof_ins (v:Int)(c:Rat)(ts:List Tm)(w:Int):cof (ins v c ts) w=cof ts w+if v=w then c else 0:=by
 induction ts with
 |nil=>simp[ins,cof_nz1,cof,Rat.zero_add]
 |cons t ts ih=>
  simp only[ins];split
  ·rename_i h;rw[cof_app,cof_nz1,cof,h];split<;>grind
  ·split
   ·rw[cof_app,cof_nz1];grind
   ·simp only[cof,ih,Rat.add_assoc]
def TsOk (n:Int):Int→List Tm→Prop
 |_,[]=>True
 |lo,t::ts=>lo≤t.v∧t.v<n∧t.q≠0∧TsOk n (t.v+1) ts
theorem TsOk.lo {n lo lo':Int}{ts:List Tm}(h:TsOk n lo ts)(hl:lo'≤lo):TsOk n lo' ts:=by
 cases ts with
 |nil=>trivial
 |cons t ts=>exact⟨by have:=h.1;omega,h.2⟩
theorem TsOk.up {n n':Int}{ts:List Tm}(hn:n≤n'):∀{lo:Int},TsOk n lo ts→TsOk n' lo ts:=by
 induction ts with
 |nil=>intros;trivial
 |cons t ts ih=>exact fun h=>⟨h.1,by have:=h.2.1;omega,h.2.2.1,ih h.2.2.2⟩
theorem TsOk.nz {n lo v:Int}{q:Rat}{ts:List Tm}(h:TsOk n (v+1) ts)(h1:lo≤v)(h2:v<n):TsOk n lo (nz1 ⟨v,q⟩++ts):=by
 unfold nz1;split
 ·exact h.lo (by omega)
 ·exact⟨h1,h2,by assumption,h⟩
theorem TsOk.ins {n v:Int}{c:Rat}(h2:v<n){ts:List Tm}:∀{lo:Int},TsOk n lo ts→lo≤v→TsOk n lo (Lf.ins v c ts):=by
 induction ts with
 |nil=>
  intro lo h h1;have:=TsOk.nz (q:=c) (lo:=lo) (show TsOk n (v+1) []from trivial) h1 h2
  rwa [List.append_nil]at this
 |cons t ts ih=>
  intro lo h h1;simp only[Lf.ins];split
  ·rename_i e;exact TsOk.nz (e▸h.2.2.2) h1 h2
  ·split
   ·exact TsOk.nz ⟨by omega,h.2⟩ h1 h2
   ·exact⟨h.1,h.2.1,h.2.2.1,ih h.2.2.2 (by omega)⟩
theorem TsOk.cof_lt {n:Int}{ts:List Tm}:∀{lo w:Int},TsOk n lo ts→w<lo→cof ts w=0:=by
 induction ts with
 |nil=>intros;rfl
 |cons t ts ih=>
  intro lo w h hw;have:=h.1;rw[cof,if_neg (by omega),ih h.2.2.2 (by omega),Rat.add_zero]
theorem TsOk.cof_mem {n:Int}{ts:List Tm}:∀{lo:Int},TsOk n lo ts→∀t∈ts,cof ts t.v=t.q∧lo≤t.v∧t.v<n∧t.q≠0:=by
 induction ts with
 |nil=>intro lo h t ht;cases ht
 |cons s ts ih=>
  intro lo h t ht;have h1:=h.1;rcases List.mem_cons.1 ht with rfl|ht
  ·exact⟨by rw[cof,if_pos rfl,h.2.2.2.cof_lt (by omega),Rat.add_zero],h.1,h.2.1,h.2.2.1⟩
  ·obtain⟨k1,k2,k3,k4⟩:=ih h.2.2.2 t ht;exact⟨by rw[cof,if_neg (by omega),k1,Rat.zero_add],by omega,k3,k4⟩
theorem TsOk.len {n:Int}{ts:List Tm}:∀{lo:Int},TsOk n lo ts→lo≤n→(ts.length:Int)≤n-lo:=by
 induction ts with
 |nil=>intro lo h hn;simp;omega
 |cons t ts ih=>
  intro lo h hn;have:=ih h.2.2.2 (by have:=h.2.1;omega);have:=h.1;have:=h.2.1;simp only[List.length_cons];omega
theorem TsOk.next {n:Int}{ts:List Tm}:∀{lo:Int},TsOk n lo ts→∀(i:Nat) (t u:Tm),ts[i]? =some t→ts[i+1]? =some u→t.v<u.v:=by
 induction ts with
 |nil=>intro lo h i t u h1;simp at h1
 |cons s ts ih=>
  intro lo h i t u h1 h2
  cases i with
  |zero=>
   simp at h1 h2;subst h1
   cases ts with
   |nil=>simp at h2
   |cons r ts=>simp at h2;subst h2;have:=h.2.2.2.1;omega
  |succ i=>exact ih h.2.2.2 i t u (by simpa using h1) (by simpa using h2)
structure FB (k:Nat)(n:Int)(f:Af):Prop where
 ts:TsOk n 0 f.ts
 co:∀w,Bt k (cof f.ts w)
 c:Bt k f.c
theorem FB.ok {k:Nat}{n:Int}{f:Af}(h:FB k n f)(hk:k≤3000000000)(h0:0≤n)(hn:n≤1000000):AfOk f n:=by
 refine⟨fun i t ht=> ?_,h.ts.next,h.c.mono hk,?_⟩
 ·obtain⟨k1,k2,k3,k4⟩:=h.ts.cof_mem t (mG_ ht);exact⟨k2,k3,k4,k1▸(h.co t.v).mono hk⟩
 ·have:=h.ts.len h0;omega
theorem FB.tm {k:Nat}{n:Int}{f:Af}(h:FB k n f):∀t∈f.ts,0≤t.v∧t.v<n∧t.q≠0∧Bt k t.q:=fun t ht=>
 let ⟨k1,k2,k3,k4⟩:=h.ts.cof_mem t ht;⟨k2,k3,k4,k1▸h.co t.v⟩
def addS (f g:Af):Af:=⟨g.ts.foldl (fun a t=>ins t.v t.q a) f.ts,f.c+g.c⟩
def scaleS (f:Af)(c:Rat):Af:=⟨f.ts.flatMap fun t=>nz1 ⟨t.v,t.q*c⟩,f.c*c⟩
def subS (f g:Af):Af:=addS f (scaleS g ((-1:Int):Rat))
def varS (v:Int):Af:=⟨[⟨v,((1:Int):Rat)⟩],0⟩
def numS (c:Rat):Af:=⟨[],c⟩
theorem cof_fold (b:List Tm)(w:Int):∀a:List Tm,cof (b.foldl (fun a t=>ins t.v t.q a) a) w=cof a w+cof b w:=by
 induction b with
 |nil=>intro a;simp[cof,Rat.add_zero]
 |cons t b ih=>intro a;rw[List.foldl_cons,ih,cof_ins,cof,Rat.add_assoc]
theorem ok_fold {n:Int}{b:List Tm}(hb:∀t∈b,0≤t.v∧t.v<n):∀{a:List Tm},TsOk n 0 a→TsOk n 0 (b.foldl (fun a t=>ins t.v t.q a) a):=by
 induction b with
 |nil=>intro a h;exact h
 |cons t b ih=>intro a h;exact ih (fun t ht=>hb t (by simp[ht])) (h.ins (hb t (by simp)).2 (hb t (by simp)).1)
theorem cof_scale (c:Rat)(w:Int):∀ts:List Tm,cof (ts.flatMap fun t=>nz1 ⟨t.v,t.q*c⟩) w=cof ts w*c
 |[]=>by simp[cof]
 |t::ts=>by
  rw[List.flatMap_cons,cof_app,cof_nz1,cof_scale c w ts,cof,Rat.add_mul]
  congr 1
  split<;>simp
theorem ok_scale {n:Int}(c:Rat):∀{ts:List Tm} {lo:Int},TsOk n lo ts→TsOk n lo (ts.flatMap fun t=>nz1 ⟨t.v,t.q*c⟩)
 |[],_,_=>trivial
 |t::ts,lo,h=>by
  rw[List.flatMap_cons];exact TsOk.nz (ok_scale c h.2.2.2) h.1 h.2.1
theorem FB.scale {k l:Nat}{n:Int}{f:Af}{c:Rat}(h:FB k n f)(hc:Bt l c):FB (k+l) n (scaleS f c):=
 ⟨ok_scale c h.ts,fun w=>by rw[scaleS,cof_scale];exact(h.co w).mul hc,h.c.mul hc⟩
theorem FB.num {k:Nat}{n:Int}{c:Rat}(h:Bt k c):FB k n (numS c):=⟨trivial,fun w=>bt0 _,h⟩
theorem Cn.o {P:Program}{F:FuncId}{vs:List V}{H:List (Nat×Ent)}{n:Nat}{K:V→List (Nat×Ent)→List Nat→Nat→Prop}{v:V}{Hs H1:List (Nat×Ent)}(ks:List Nat)(hc:LX P F (vs.map (renV fun k=>ks.idxOf k)) Hs fun v' H'=>v'=v∧H'=H1)
  (hk:fX (renV (back ks n) v) fun v=>fHs (H1.map fun p=>(back ks n p.1,p.2)) fun sets=>K v sets (ks++H1.map fun p=>back ks n p.1) (n+H1.length)) (he:entT P F=true:=by rfl)
  (hl:lendFrom (look H) 0 ks=some Hs:=by rfl) (hok:okF ks n vs H H1=true:=by rfl):Cn P F vs H n K:=by
 unfold okF at hok;simp only[Bool.and_eq_true,Bool.or_eq_true,decide_eq_true_eq,List.all_eq_true,Nat.blt_eq,List.contains_eq_mem]at hok;obtain⟨⟨⟨o1,o2⟩,o3⟩,o4⟩:=hok;refine .lend ks _ Hs _ he hc (wks_refl vs) o1 o2 hl o3 fun v' H1' hR=> ?_;obtain⟨rfl,rfl⟩:=hR;exact⟨List.all_eq_true.2 fun p hp=>(o4 p hp).1,fun p hp hle=>(o4 p hp).2.elim (fun h=>absurd h (by omega)) fun h=>by simpa using h,hk⟩
theorem All2.set {α β:Type}{R:α→β→Prop}:∀{xs:List α} {ys:List β} {j:Nat} {x y:α},All2 R xs ys→xs[j]? =some x→(∀v,R x v→R y v)→All2 R (xs.set j y) ys
 |[],[],_,_,_,_,h,_=>by simp at h
 |a::xs,b::ys,0,x,y,k,h,f=>by simp at h;subst h;exact⟨f b k.1,k.2⟩
 |a::xs,b::ys,j+1,x,y,k,h,f=>⟨k.1,All2.set k.2 (by simpa using h) f⟩
 |[],_::_,_,_,_,k,_,_=>k.elim
 |_::_,[],_,_,_,k,_,_=>k.elim
theorem relabel {γ:Gh}{h:Hp}{M:MS}{w:World}{b key j k:Nat}{t e:TypeId}{cs:List A}(r:Rel γ h M w)(hb:h b=some (.box t cs))(hj:cs[j]? =some (.d (.lit (.slice none 0 0))))(hk:h key=some (.arr e k 0))(hg:γ key= .slice none 0 0):
  Rel γ (over [(b,.box t (cs.set j (.own key k [])))] h) M w∧Stp γ h M w γ (over [(b,.box t (cs.set j (.own key k [])))] h) M w:=by
 have hne:key≠b:=by intro e1;subst e1;rw[hb]at hk;cases hk
 have ho:∀key' b' i,Owns γ (over [(b,.box t (cs.set j (.own key k [])))] h) key' b' i↔Owns γ h key' b' i:=fun key' b' i=>by
  by_cases e1:key'=b
  ·subst e1;simp only[Owns,over_same,hb]
  ·exact owns_congr rfl (over_other e1)
 have hl:∀key',live (over [(b,.box t (cs.set j (.own key k [])))] h key')=live (h key'):=fun key'=>by
  by_cases e1:key'=b
  ·subst e1;rw[over_same,hb];rfl
  ·rw[over_other e1]
 have s:Stp γ h M w γ (over [(b,.box t (cs.set j (.own key k [])))] h) M w:=by
  refine⟨rfl,rfl,rfl,lR_ _,fun _ _ _ k=>k,fun _ _ _=>rfl,fun _ _ k _=>k,fun key' b' i h1 _=>⟨key',(ho _ _ _).1 h1⟩,fun key' e' he=> ?_⟩
  by_cases e1:key'=b
  ·subst e1;rw[hb]at he;injection he with he;subst he;exact⟨_,over_same,trivial,.inl rfl⟩
  ·exact⟨e',by rw[over_other e1];exact he,Goes.refl _,.inl rfl⟩
 refine⟨⟨fun key' e' he=> ?_,fun key' b' i h1=>r.own key' b' i ((ho _ _ _).1 h1),fun k1 k2 b' l1 l2 b1 b2=>r.inj k1 k2 b' (by rw[←hl];exact l1) (by rw[←hl];exact l2) b1 b2,r.u32,r.dom,r.glb⟩,s⟩
 by_cases e1:key'=b
 ·subst e1;rw[over_same]at he;injection he with he;subst he;obtain⟨g,vs,k1,k2,k3⟩:=r.ent _ _ hb;refine⟨g,vs,k1,k2,All2.set (All2.imp (fun x v k=>RdA.stp s k) k3) hj fun v hv=> ?_⟩;rw[show v= .slice none 0 0 from lit_inv hv];refine⟨nil_ok k,by rw[over_other hne,hk];rfl,fun e' k' n he=> ?_⟩;rw[over_other hne,hk]at he;injection he with he;injection he with _ _ he;subst he;exact⟨lR_ _,fun _=>hg.symm⟩
 ·rw[over_other e1]at he;exact EntR.stp s (r.ent key' e' he) rfl fun _ _ _=>rfl
theorem Wk.ownB {m:Nat}{s:St}(b key j:Nat)(e:TypeId)(k:Nat){t:TypeId}{cs:List A}(hb:look s.H b=some (.box t cs))(hj:cs[j]? =some (.d (.lit (.slice none 0 0))))(hk:look s.H key=none):
  Wk m s ⟨s.T,(b,.box t (cs.set j (.own key k [])))::(key,.arr e k 0)::s.H,s.n⟩:=by
 intro N γ0 h0 M0 w0 a w hm hd hS;obtain⟨γ,M,k1,k2,k3,k4,k5⟩:=hS;have hne:b≠key:=by intro e1;subst e1;rw[hb]at hk;cases hk
 obtain⟨q1,q2⟩:=new_nil k1 hk e k;obtain⟨q3,q4⟩:=relabel (b:=b) (j:=j) (k:=k) (cs:=cs) q1 (by rw[over_other hne];exact hb) hj over_same upd_same;have q5:=Stp.trans q2 q4 k1.dom;have e1:look ((b,Ent.box t (cs.set j (.own key k [])))::(key,Ent.arr e k 0)::s.H)=over [(b,.box t (cs.set j (.own key k [])))] (over [(key,.arr e k 0)] (look s.H)):=by
  rw[←look_app [(key,Ent.arr e k 0)] s.H];exact look_app [(b,_)] ((key,Ent.arr e k 0)::s.H)
 refine⟨_,M,by rw[e1];exact q3,⟨k2.1,fun d' v' hv'=> ?_⟩,k3,k4,by rw[e1];exact k5.trans q5 hd⟩;obtain⟨x,y1,y2⟩:=k2.2 d' v' hv';exact⟨x,y1,by rw[e1];exact RdV.stp q5 y2⟩
theorem TsOk.take {n:Int}:∀{ts:List Tm} {lo:Int} (i:Nat),TsOk n lo ts→TsOk n lo (ts.take i)
 |[],_,i,_=>by simp[TsOk]
 |t::ts,_,0,_=>trivial
 |t::ts,lo,i+1,h=>⟨h.1,h.2.1,h.2.2.1,TsOk.take i h.2.2.2⟩
end Go.Proofs.YtbegidaaiajffaaGreatDoor.Lf
